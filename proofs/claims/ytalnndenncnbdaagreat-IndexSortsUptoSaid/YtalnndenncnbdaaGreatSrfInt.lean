/- slices.SortFunc at ints, whatever order: what it leaves. Condition: the order has a contract, the row is within the reach. -/
import Derived.Test.YtalnndenncnbdaaGreatBase
import Derived.Sort.OwnSortedInts
import Derived.Shelf.SlSortCmp.Whole1
namespace Go.Proofs.YtalnndenncnbdaaGreat.SrfInt
set_option maxRecDepth 100000
open Go.Shelf Go.RowKit Go.Lib Go.Sort

def ren : Ren := { f := fun n => if n = 6 then 45 else if n = 14 then 84 else if n = 15 then 85 else if n = 20 then 129 else if n = 21 then 130 else if n = 22 then 131 else if n = 23 then 132 else if n = 24 then 133 else if n = 25 then 134 else if n = 26 then 135 else if n = 27 then 136 else if n = 28 then 137 else if n = 29 then 138 else if n = 46 then 168 else if n = 47 then 169 else if n = 48 then 170 else if n = 49 then 171 else if n = 50 then 172 else if n = 57 then 203 else 0, t := fun n => if n = 0 then 0 else if n = 3 then 3 else if n = 4 then 4 else if n = 5 then 5 else if n = 9 then 9 else if n = 22 then 49 else if n = 24 then 3 else if n = 25 then 97 else if n = 39 then 150 else if n = 45 then 196 else if n = 46 then 197 else if n = 50 then 35 else if n = 53 then 203 else if n = 55 then 143 else if n = 66 then 243 else if n = 70 then 247 else if n = 76 then 279 else if n = 77 then 122 else 0, g := fun _ => 0 }
theorem lays : SlLaysF.n6 Tryz.prog ren where
  mixed := by kernel_rfl
  f6 := ⟨_, by kernel_rfl, Tryz.func45⟩
  f14 := ⟨_, by kernel_rfl, Tryz.func84⟩
  f15 := Tryz.func85
  f20 := ⟨_, by kernel_rfl, Tryz.func129⟩
  f21 := ⟨_, by kernel_rfl, Tryz.func130⟩
  f22 := ⟨_, by kernel_rfl, Tryz.func131⟩
  f23 := ⟨_, by kernel_rfl, Tryz.func132⟩
  f24 := ⟨_, by kernel_rfl, Tryz.func133⟩
  f25 := ⟨_, by kernel_rfl, Tryz.func134⟩
  f26 := ⟨_, by kernel_rfl, Tryz.func135⟩
  f27 := ⟨_, by kernel_rfl, Tryz.func136⟩
  f28 := Tryz.func137
  f29 := Tryz.func138
  f46 := ⟨_, by kernel_rfl, Tryz.func168⟩
  f47 := Tryz.func169
  f48 := Tryz.func170
  f49 := ⟨_, by kernel_rfl, Tryz.func171⟩
  f50 := ⟨_, by kernel_rfl, Tryz.func172⟩
  f57 := ⟨_, by kernel_rfl, Tryz.func203⟩
  t0 := by kernel_rfl
  a0 := fun w => by kernel_rfl
  z0 := fun w => by kernel_rfl
  v0 := fun w => by kernel_rfl
  t3 := by kernel_rfl
  a3 := fun w => by kernel_rfl
  z3 := fun w => by kernel_rfl
  v3 := fun w => by kernel_rfl
  t4 := by kernel_rfl
  a4 := fun w => by kernel_rfl
  z4 := fun w => by kernel_rfl
  v4 := fun w => by kernel_rfl
  t5 := by kernel_rfl
  a5 := fun w => by kernel_rfl
  z5 := fun w => by kernel_rfl
  v5 := fun w => by kernel_rfl
  t9 := by kernel_rfl
  a9 := fun w => by kernel_rfl
  z9 := fun w => by kernel_rfl
  v9 := fun w => by kernel_rfl
  t22 := by kernel_rfl
  a22 := fun w => by kernel_rfl
  z22 := fun w => by kernel_rfl
  v22 := fun w => by kernel_rfl
  a24 := fun w => by kernel_rfl
  z24 := fun w => by kernel_rfl
  t25 := by kernel_rfl
  a25 := fun w => by kernel_rfl
  z25 := fun w => by kernel_rfl
  v25 := fun w => by kernel_rfl
  t39 := by kernel_rfl
  a39 := fun w => by kernel_rfl
  z39 := fun w => by kernel_rfl
  v39 := fun w => by kernel_rfl
  t45 := by kernel_rfl
  a45 := fun w => by kernel_rfl
  z45 := fun w => by kernel_rfl
  v45 := fun w => by kernel_rfl
  t46 := by kernel_rfl
  a46 := fun w => by kernel_rfl
  z46 := fun w => by kernel_rfl
  v46 := fun w => by kernel_rfl
  t50 := by kernel_rfl
  a50 := fun w => by kernel_rfl
  z50 := fun w => by kernel_rfl
  v50 := fun w => by kernel_rfl
  t53 := by kernel_rfl
  a53 := fun w => by kernel_rfl
  z53 := fun w => by kernel_rfl
  v53 := fun w => by kernel_rfl
  t55 := by kernel_rfl
  a55 := fun w => by kernel_rfl
  z55 := fun w => by kernel_rfl
  v55 := fun w => by kernel_rfl
  t66 := by kernel_rfl
  a66 := fun w => by kernel_rfl
  z66 := fun w => by kernel_rfl
  v66 := fun w => by kernel_rfl
  t70 := by kernel_rfl
  a70 := fun w => by kernel_rfl
  z70 := fun w => by kernel_rfl
  v70 := fun w => by kernel_rfl
  t76 := by kernel_rfl
  a76 := fun w => by kernel_rfl
  z76 := fun w => by kernel_rfl
  v76 := fun w => by kernel_rfl
  t77 := by kernel_rfl
  a77 := fun w => by kernel_rfl
  z77 := fun w => by kernel_rfl
  v77 := fun w => by kernel_rfl

/-- what is asked of an order -/
def CmpOk (f : FuncId) (cb : Array Value) (cf : Int → Int → Int) (l : List Int) (ok : World → Prop) : Prop :=
  ∀ x ∈ l, ∀ y ∈ l, ∀ W, ok W → Calls Tryz.prog f (#[.int .i64 x, .int .i64 y] ++ cb) W fun e w2 => e = .returned (.int .i64 (cf x y)) ∧ ∃ q os', w2 = grow (W.drewN q) os'
/-- elements of the list -/
abbrev El (l : List Int) := {x : Int // x ∈ l}
def eenc (l : List Int) (u : El l) : Value := .int .i64 u.1
def ecf (l : List Int) (cf : Int → Int → Int) (u v : El l) : Int := cf u.1 v.1
/-- a sort of l -/
def SrtRes (lt : Int → Int → Bool) (l S : List Int) : Prop := S.Perm l ∧ (S.Pairwise fun x y => lt y x = false)
theorem swo_el {l : List Int} {cf : Int → Int → Int} (h : SWO fun x y => decide (cf x y < 0)) : SWO (ltOf (ecf l cf)) where
  irrefl x := h.irrefl x.1
  trans x y z := h.trans x.1 y.1 z.1
  ntrans x y z := h.ntrans x.1 y.1 z.1
theorem put_el {l : List Int} [Inhabited (El l)] (w : World) (g off : Nat) (d : Array (El l)) : putRow (eenc l) w g off d = putRow (Value.int .i64) w g off (d.toList.map Subtype.val).toArray := by
  unfold putRow
  congr 1
  funext c
  unfold putCells
  congr 1
  funext k x
  simp only [List.size_toArray, List.length_map, Array.length_toList]
  split
  · rename_i h
    rw [getElem!_pos _ (k - off) (by omega), getElem!_pos _ (k - off) (by simp; omega)]
    simp [eenc]
  · rfl
theorem sort_any (v : Value) (n base : Nat) (l : List Int) (f : FuncId) (cb : Array Value) (cf : Int → Int → Int) (w : World) (eg : ∀ args w, (callFunc f args).run Tryz.prog w = .ok (.enter f args) w) (hlt : SWO fun x y => decide (cf x y < 0)) (hC : CmpOk f cb cf l (fun W => w.grownBy W v.ownBlock))
    (hown : w.ownsRow base 3 1 v n (l.map (Value.int .i64))) (hl : l.length = n) (hn : n < 1152921504606846976) (h0 : 0 < n) :
    Calls Tryz.prog 45 #[v, .func (.func f) #[] cb] w
      fun e w' => e = .returned (.tuple #[]) ∧ ∃ S, SrtRes (fun x y => decide (cf x y < 0)) l S ∧ w'.ownsRow base 3 1 v n (S.map (Value.int .i64)) ∧ w.grownBy w' v.ownBlock := by
  subst hl
  have hne : l ≠ [] := by intro h; rw [h] at h0; simp at h0
  haveI : Inhabited (El l) := ⟨⟨l.head hne, List.head_mem hne⟩⟩
  obtain ⟨d0, hd0⟩ : ∃ d0 : Array (El l), d0 = l.attach.toArray := ⟨_, rfl⟩
  have hsz : d0.size = l.length := by rw [hd0]; simp
  have hval : d0.toList.map Subtype.val = l := by rw [hd0, List.toList_toArray, List.attach_map_subtype_val]
  rcases hown.2 with ⟨_, h⟩ | ⟨g, cap, cur, rfl, hbase, hbk, hn1, hcm, hcs, htk⟩
  · omega
  · have hH : Holds (eenc l) w g 0 d0 := by
      have hw : Whole1 w g 3 cur := hbk
      intro j hj
      refine ⟨?_, hw.free _⟩
      have h1 := hown.cellAt j (by omega)
      rw [Nat.zero_add, getElem!_pos _ j hj]
      rw [h1]
      have h2 : (d0.toList.map Subtype.val)[j]? = l[j]? := by rw [hval]
      rw [List.getElem?_map] at h2 ⊢
      simp only [Array.getElem?_toList, Array.getElem?_eq_getElem hj, Option.map_some] at h2
      rw [← h2]
      rfl
    have hL : CmpLays1 Tryz.prog f cb (eenc l) (ecf l cf) g 0 d0.size w := by
      intro mm os dk hdk x y
      refine hC x.1 x.2 y.1 y.2 _ ?_
      unfold sortWorld
      rw [put_el]
      exact grownBy_sortedI _
    have hcon := Any.slices_SortFunc lays (eenc l) (fun _ => rfl) (ecf l cf) (swo_el hlt) f cb g 0 cap d0 w eg hL hH (hown.lt g rfl).2 (by omega)
    rw [hsz] at hcon
    refine hcon.mono ?_
    rintro e w' ⟨rfl, d', nq, os, hp, hs, hw'⟩
    have hsz' : d'.size = l.length := by rw [hp.1, hsz]
    have full : ∀ d : Array (El l), d.size = l.length → d.extract 0 l.length = d := fun d hd => by rw [← hd]; simp
    have hperm := hp.2.2
    rw [full _ hsz', full _ hsz] at hperm
    have hpv : (d'.toList.map Subtype.val).Perm l := by
      have := (hperm.map Subtype.val)
      rwa [hval] at this
    unfold sortWorld at hw'
    rw [put_el] at hw'
    refine ⟨rfl, d'.toList.map Subtype.val, ⟨hpv, ?_⟩, ?_, ?_⟩
    · rw [List.pairwise_map, List.pairwise_iff_getElem]
      intro i j hi hj hij
      rw [Array.length_toList, hsz'] at hi hj
      have := hs i j (Nat.zero_le _) hij hj
      rw [getElem!_pos _ i (by rw [hsz']; exact hi), getElem!_pos _ j (by rw [hsz']; exact hj)] at this
      exact this
    · rw [hw']
      exact ownsRow_sortedI hpv.length_eq hbase hbk hn1 hcm hcs
    · rw [hw']
      exact grownBy_sortedI _
/-- the sort, at none -/
theorem ins0_any (A : Option Addr) (c : Nat) (fv : Value) (w : World) : Calls Tryz.prog 129 #[.slice A 0 c, .int .i64 0, .int .i64 0, fv] w fun e w' => e = .returned (.tuple #[]) ∧ w = w' := by
  go_enter Tryz.func129, Tryz.ntmps129
  go_wp2
  refine wp_loop_rounds 1 ?_
  rw [rounds_succ]
  go_wp2
  go_end0
  exact ⟨rfl, rfl⟩
theorem pdq0_any (A : Option Addr) (c : Nat) (lim : Int) (fv : Value) (w : World) : Calls Tryz.prog 84 #[.slice A 0 c, .int .i64 0, .int .i64 0, .int .i64 lim, fv] w fun e w' => e = .returned (.tuple #[]) ∧ w = w' := by
  go_enter Tryz.func84, Tryz.ntmps84
  go_wp2_with fail
  refine wp_loop_rounds 1 ?_
  rw [rounds_succ]
  go_wp2_with fail
  refine (ins0_any A c fv _).mono ?_
  rintro e w' ⟨rfl, rfl⟩
  go_wp2_with fail
  exact bodyPost_ret (v := .tuple #[]) (by simp [results, Tryz.results84, go_sem]) rfl ⟨rfl, rfl⟩
theorem sort0_any (A : Option Addr) (c : Nat) (fv : Value) (w : World) : Calls Tryz.prog 45 #[.slice A 0 c, fv] w fun e w' => e = .returned (.tuple #[]) ∧ w = w' := by
  have hl : Calls Tryz.prog 85 #[.int .u64 0] w fun e w' => e = .returned (.int .i64 (Lib.bitLen 0 : Nat)) ∧ w' = w :=
    Any.bits_Len (SlLaysF0.n15.bits (P := Tryz.prog) (ρ := ren) { lays with }) 0 w (by omega) (by omega)
  have HL := hidden hl
  clear hl
  go_enter Tryz.func45, Tryz.ntmps45
  go_wp2_with fail
  refine HL.out.mono ?_
  rintro e w' ⟨rfl, rfl⟩
  go_wp2_with fail
  refine (pdq0_any A c _ fv _).mono ?_
  rintro e w' ⟨rfl, rfl⟩
  go_wp2_with fail
  go_end0
  exact ⟨rfl, rfl⟩
theorem sortAll_any (v : Value) (n base : Nat) (l : List Int) (f : FuncId) (cb : Array Value) (cf : Int → Int → Int) (w : World) (eg : ∀ args w, (callFunc f args).run Tryz.prog w = .ok (.enter f args) w) (hlt : SWO fun x y => decide (cf x y < 0)) (hC : CmpOk f cb cf l (fun W => w.grownBy W v.ownBlock))
    (hown : w.ownsRow base 3 1 v n (l.map (Value.int .i64))) (hl : l.length = n) (hn : n < 1152921504606846976) :
    Calls Tryz.prog 45 #[v, .func (.func f) #[] cb] w
      fun e w' => e = .returned (.tuple #[]) ∧ ∃ S, SrtRes (fun x y => decide (cf x y < 0)) l S ∧ w'.ownsRow base 3 1 v n (S.map (Value.int .i64)) ∧ w.grownBy w' v.ownBlock := by
  rcases Nat.eq_zero_or_pos n with h0 | h0
  · subst h0
    obtain rfl : l = [] := List.eq_nil_of_length_eq_zero hl
    obtain ⟨A, c, rfl, _, _⟩ := own_shape hown
    refine (sort0_any A c _ w).mono ?_
    rintro e w' ⟨rfl, rfl⟩
    exact ⟨rfl, [], ⟨List.Perm.refl _, List.Pairwise.nil⟩, hown, gb_refl _ _⟩
  · exact sort_any v n base l f cb cf w eg hlt hC hown hl hn h0
end Go.Proofs.YtalnndenncnbdaaGreat.SrfInt
