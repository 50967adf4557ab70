/- slices.Sorted(maps.Keys(m)) at maps whose keys are texts: the keys, rising. Condition: the map is one, its keys are within the reach. -/
import Derived.Test.YtalnndenncnbdaaGreatKeysLib
import Derived.Test.YtalnndenncnbdaaGreatMapV
namespace Go.Proofs.YtalnndenncnbdaaGreat
set_option maxRecDepth 100000
open Go Go.Shelf Go.Sort Go.RowKit Go.Maps Go.WideElems Go.MapKept Go.ChangeMaps

/-- an element that is not looked at -/
def anyR : Value → Option (DataW Unit × List MemPlace) := fun _ => some (.nil, [])
/-- a text as the library spells it -/
theorem enc_str (l : List UInt8) : encStr l = Value.string ⟨l.toArray⟩ := rfl
theorem mapV_own {w : World} {b : Nat} {m : List (Value × Value)} (h : MapV (fun v => ∃ s, v = .string s) w b m) (hm : m.length ≤ maxLen) (hk : ∀ s, atV m (.string s) ≠ none → s.size ≤ maxLen) :
    ∃ D0 : DataW Unit, w.ownsMap Tryz.prog 9 anyR b m.length D0 ∧ (strKeys D0).Nodup ∧ (∀ x, x ∈ strKeys D0 ↔ atV m (.string ⟨x.toArray⟩) ≠ none) ∧ Maps.size D0 ≤ m.length := by
  obtain ⟨⟨es, clock, hb, hs, rfl⟩, hS⟩ := h
  have hn : ∀ e ∈ es.toList, ∃ s : ByteArray, e.key = .string s ∧ s.size ≤ maxLen := fun e he => by
    obtain ⟨s, hs'⟩ := hS (e.key, e.val) (List.mem_map.2 ⟨e, he, rfl⟩)
    simp only at hs'
    refine ⟨s, hs', hk s fun h0 => ?_⟩
    exact (atV_none _ _).1 h0 (e.key, e.val) (List.mem_map.2 ⟨e, he, rfl⟩) hs'
  have hrd : ∀ e ∈ es.toList, ∃ s : ByteArray, e.key = .string s ∧ rd Tryz.prog 9 anyR e = some (.string s.data.toList, .nil) := fun e he => by
    obtain ⟨s, h1, h2⟩ := hn e he
    refine ⟨s, h1, ?_⟩
    cases e
    simp only at h1
    subst h1
    exact rd_mk (R := anyR) (yv := (.nil, [])) (Go.WideMaps.keyOf_string_mk Tryz.underlying9 h2) rfl
  have F : Fit Tryz.prog 9 anyR es clock := ⟨by simpa using hm, hs, fun e he => by obtain ⟨s, _, h2⟩ := hrd e he; exact ⟨_, h2⟩⟩
  have hown : w.ownsMap Tryz.prog 9 anyR b (es.toList.map fun e => (e.key, e.val)).length (.map ((es.toList.map (rg Tryz.prog 9 anyR)).foldr DataW.insert [])) :=
    ⟨es, clock, hb, F, by simp, rfl⟩
  refine ⟨_, hown, ?_, fun x => ?_, ?_⟩
  · obtain ⟨es', e1, hpw, _⟩ := hown.entries (string_keyed Tryz.underlying9)
    obtain ⟨es2, e2, hko⟩ := hown.keysOf
    rw [e1] at e2
    cases e2
    rw [e1]
    show (es'.map fun p => strOf p.1).Nodup
    refine List.pairwise_map.2 (hpw.imp_of_mem fun {p q} hp hq hne e => hne ?_)
    obtain ⟨v, hv⟩ := hko p hp
    obtain ⟨a, _, ha, _⟩ := Maps.keyOf_str Tryz.underlying9 hv
    obtain ⟨u, hu⟩ := hko q hq
    obtain ⟨c, _, hc, _⟩ := Maps.keyOf_str Tryz.underlying9 hu
    rw [ha, hc] at e ⊢
    exact congrArg _ e
  · show x ∈ ((es.toList.map (rg Tryz.prog 9 anyR)).foldr DataW.insert []).map (fun p => strOf p.1) ↔ _
    rw [List.mem_map]
    constructor
    · rintro ⟨p, hp, rfl⟩ h0
      obtain ⟨e, he, rfl⟩ := List.mem_map.1 (mem_sorted.1 hp)
      obtain ⟨s, h1, h2⟩ := hrd e he
      rw [rg_of h2] at h0
      refine (atV_none _ _).1 h0 (e.key, e.val) (List.mem_map.2 ⟨e, he, rfl⟩) ?_
      rw [h1]
      simp [strOf]
    · intro h0
      obtain ⟨v, hv⟩ := Option.ne_none_iff_exists'.1 h0
      obtain ⟨e, he, hev⟩ := List.mem_map.1 (atV_mem _ _ _ hv)
      obtain ⟨s, h1, h2⟩ := hrd e he
      refine ⟨rg Tryz.prog 9 anyR e, mem_sorted.2 (List.mem_map.2 ⟨e, he, rfl⟩), ?_⟩
      rw [rg_of h2]
      have : e.key = .string ⟨x.toArray⟩ := congrArg Prod.fst hev
      rw [h1] at this
      injection this with this
      rw [this]
      simp [strOf]
  · show ((es.toList.map (rg Tryz.prog 9 anyR)).foldr DataW.insert []).length ≤ _
    rw [length_sorted]
    simp
/-- what is sorted, with nothing twice, rises -/
theorem sort_rise {ss : List (List UInt8)} (h : ss.Nodup) : riseB ((ss.mergeSort fun x y => decide (x ≤ y)).map fun l => ⟨l.toArray⟩) := by
  have tr : ∀ a b c : List UInt8, leB a b = true → leB b c = true → leB a c = true := fun a b c h1 h2 => by simp only [leB, decide_eq_true_eq] at *; exact List.le_trans h1 h2
  have htot : ∀ a b : List UInt8, (leB a b || leB b a) = true := fun a b => by simp only [leB, Bool.or_eq_true, decide_eq_true_eq]; exact List.le_total a b
  have h1 := List.pairwise_mergeSort tr htot ss
  have h2 : (ss.mergeSort leB).Nodup := (List.mergeSort_perm ss leB).nodup_iff.2 h
  refine List.pairwise_map.2 ((h1.and h2).imp fun {a b} hab => ?_)
  obtain ⟨h3, h4⟩ := hab
  simp only [leB, decide_eq_true_eq] at h3
  show a < b
  rcases List.le_iff_lt_or_eq.1 h3 with h5 | h5
  · exact h5
  · exact absurd h5 h4
/-- the keys of a map, rising, in new memory -/
def KeysAns (w : World) (K : ByteArray → Prop) (e : Ending) (w' : World) : Prop := ∃ v S, e = .returned v ∧ w'.ownsRow w.heap.size 9 1 v S.length (S.map Value.string) ∧ riseB S ∧ (∀ x, x ∈ S ↔ K x) ∧ Below w.heap.size w w'
theorem sortsIn (m : Nat) : AnyZ.SortsIn Tryz.prog sortedRen Fence.wide m :=
  ⟨fun blk off cap ss W hH hblk hsz => callsIn_wide.2 (slices_Sort_string blk off cap ss W hH hblk hsz),
   fun p cap W => callsIn_wide.2 (slices_Sort_string_none p cap W)⟩
theorem keysA_any (mb : Option Nat) (w : World) : Calls Tryz.prog 41 #[.map mb] w fun e w' => e = .returned (.func (.func 80) #[] #[.pointer (some ⟨w.heap.size, 0, none⟩)]) ∧ w' = w.alloc (.cells #[.map mb] 82) :=
  callsIn_wide.1 (AnyZ.keys_in keysALays Fence.wide 5 trivial rfl mb w)
set_option maxHeartbeats 1000000 in
theorem keysA_sorted (b : Nat) (m : List (Value × Value)) (w : World) (h : MapV (fun v => ∃ s, v = .string s) w b m) (hm : m.length * 16 ≤ 140737488355328) (hk : ∀ s, atV m (.string s) ≠ none → s.size ≤ maxLen) :
    Calls Tryz.prog 40 #[.func (.func 80) #[] #[.pointer (some ⟨w.heap.size, 0, none⟩)]] (w.alloc (.cells #[.map (some b)] 82)) (KeysAns w fun x => atV m (.string x) ≠ none) := by
  obtain ⟨D0, hown, hnd, hmem, hsz⟩ := mapV_own h (by unfold maxLen; omega) hk
  have hbl := hown.lt
  have hseq : SeqGives Fence.wide 2 Tryz.prog 80 #[.pointer (some ⟨w.heap.size, 0, none⟩)] encStr (fun ss => ss.Perm (strKeys D0)) (Maps.size D0) (w.alloc (.cells #[.map (some b)] 82)) :=
    AnyZ.keys_gives (ρ := keysARen) { keysALays with } Fence.wide _ trivial rfl (by omega) w.heap.size b m.length D0 _ (by simp) (by simp) (by
      obtain ⟨es, clock, hb, Ft, hs, hD⟩ := hown
      exact ⟨es, clock, (Below.heap_alloc _ _ b hbl).trans hb, Ft, hs, hD⟩)
  have hS := AnyZ.sorted_in sortedLays Fence.wide 5 trivial trivial trivial trivial rfl (by omega) (sortsIn _) (enters_of Tryz.func79 (by kernel_rfl) rfl) 80 #[.pointer (some ⟨w.heap.size, 0, none⟩)] trivial (enters_of Tryz.func80 (by kernel_rfl) rfl) _ (Maps.size D0) (by unfold maxLen; omega) (by omega) _ hseq
  refine (callsIn_wide.1 hS).mono ?_
  rintro e w' ⟨v, ss, rfl, hp, hrow, _, hb⟩
  have hb0 : Below w.heap.size w (w.alloc (.cells #[.map (some b)] 82)) := (Below.refl _ _).alloc (Nat.le_refl _) _
  refine ⟨v, _, rfl, ?_, sort_rise (hp.nodup_iff.2 hnd), fun x => ?_, hb0.trans (hb.mono (by simp))⟩
  · have := own_more (base' := w.heap.size) hrow (by simp)
    rw [List.length_map, (List.mergeSort_perm ss _).length_eq, List.map_map]
    exact this
  · rw [List.mem_map]
    constructor
    · rintro ⟨l, hl, rfl⟩
      exact (hmem l).1 (hp.mem_iff.1 ((List.mergeSort_perm ss _).mem_iff.1 hl))
    · intro hx
      refine ⟨x.data.toList, (List.mergeSort_perm ss _).mem_iff.2 (hp.mem_iff.2 ((hmem _).2 (by simpa using hx))), by simp⟩
theorem keysB_any (mb : Option Nat) (w : World) : Calls Tryz.prog 47 #[.map mb] w fun e w' => e = .returned (.func (.func 86) #[] #[.pointer (some ⟨w.heap.size, 0, none⟩)]) ∧ w' = w.alloc (.cells #[.map mb] 92) :=
  callsIn_wide.1 (AnyZ.keys_in keysBLays Fence.wide 5 trivial rfl mb w)
set_option maxHeartbeats 1000000 in
theorem keysB_sorted (b : Nat) (m : List (Value × Value)) (w : World) (h : MapV (fun v => ∃ s, v = .string s) w b m) (hm : m.length * 16 ≤ 140737488355328) (hk : ∀ s, atV m (.string s) ≠ none → s.size ≤ maxLen) :
    Calls Tryz.prog 40 #[.func (.func 86) #[] #[.pointer (some ⟨w.heap.size, 0, none⟩)]] (w.alloc (.cells #[.map (some b)] 92)) (KeysAns w fun x => atV m (.string x) ≠ none) := by
  obtain ⟨D0, hown, hnd, hmem, hsz⟩ := mapV_own h (by unfold maxLen; omega) hk
  have hbl := hown.lt
  have hseq : SeqGives Fence.wide 2 Tryz.prog 86 #[.pointer (some ⟨w.heap.size, 0, none⟩)] encStr (fun ss => ss.Perm (strKeys D0)) (Maps.size D0) (w.alloc (.cells #[.map (some b)] 92)) :=
    AnyZ.keys_gives (ρ := keysBRen) { keysBLays with } Fence.wide _ trivial rfl (by omega) w.heap.size b m.length D0 _ (by simp) (by simp) (by
      obtain ⟨es, clock, hb, Ft, hs, hD⟩ := hown
      exact ⟨es, clock, (Below.heap_alloc _ _ b hbl).trans hb, Ft, hs, hD⟩)
  have hS := AnyZ.sorted_in sortedLays Fence.wide 5 trivial trivial trivial trivial rfl (by omega) (sortsIn _) (enters_of Tryz.func79 (by kernel_rfl) rfl) 86 #[.pointer (some ⟨w.heap.size, 0, none⟩)] trivial (enters_of Tryz.func86 (by kernel_rfl) rfl) _ (Maps.size D0) (by unfold maxLen; omega) (by omega) _ hseq
  refine (callsIn_wide.1 hS).mono ?_
  rintro e w' ⟨v, ss, rfl, hp, hrow, _, hb⟩
  have hb0 : Below w.heap.size w (w.alloc (.cells #[.map (some b)] 92)) := (Below.refl _ _).alloc (Nat.le_refl _) _
  refine ⟨v, _, rfl, ?_, sort_rise (hp.nodup_iff.2 hnd), fun x => ?_, hb0.trans (hb.mono (by simp))⟩
  · have := own_more (base' := w.heap.size) hrow (by simp)
    rw [List.length_map, (List.mergeSort_perm ss _).length_eq, List.map_map]
    exact this
  · rw [List.mem_map]
    constructor
    · rintro ⟨l, hl, rfl⟩
      exact (hmem l).1 (hp.mem_iff.1 ((List.mergeSort_perm ss _).mem_iff.1 hl))
    · intro hx
      refine ⟨x.data.toList, (List.mergeSort_perm ss _).mem_iff.2 (hp.mem_iff.2 ((hmem _).2 (by simpa using hx))), by simp⟩
set_option maxHeartbeats 1000000 in
theorem keysB_nil (w : World) :
    Calls Tryz.prog 40 #[.func (.func 86) #[] #[.pointer (some ⟨w.heap.size, 0, none⟩)]] (w.alloc (.cells #[.map none] 92)) (KeysAns w fun _ => False) := by
  have hseq : SeqGives Fence.wide 2 Tryz.prog 86 #[.pointer (some ⟨w.heap.size, 0, none⟩)] encStr (fun ss : List (List UInt8) => ss = []) 0 (w.alloc (.cells #[.map none] 92)) :=
    AnyZ.keys_gives_nil (ρ := keysBRen) { keysBLays with } Fence.wide _ trivial rfl w.heap.size _ (by simp) (by simp)
  have hS := AnyZ.sorted_in sortedLays Fence.wide 5 trivial trivial trivial trivial rfl (by omega) (sortsIn _) (enters_of Tryz.func79 (by kernel_rfl) rfl) 86 #[.pointer (some ⟨w.heap.size, 0, none⟩)] trivial (enters_of Tryz.func86 (by kernel_rfl) rfl) _ 0 (Nat.zero_le _) (by omega) _ hseq
  refine (callsIn_wide.1 hS).mono ?_
  rintro e w' ⟨v, ss, rfl, rfl, hrow, _, hb⟩
  have hb0 : Below w.heap.size w (w.alloc (.cells #[.map none] 92)) := (Below.refl _ _).alloc (Nat.le_refl _) _
  have hr := own_more (base' := w.heap.size) hrow (by simp)
  rw [List.mergeSort_nil] at hr
  exact ⟨v, [], rfl, hr, List.Pairwise.nil, fun x => by simp, hb0.trans (hb.mono (by simp))⟩
end Go.Proofs.YtalnndenncnbdaaGreat
