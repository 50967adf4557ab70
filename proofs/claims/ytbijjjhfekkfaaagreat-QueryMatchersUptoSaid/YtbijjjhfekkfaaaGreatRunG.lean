/- query.Run, whatever is asked of whatever sources. Condition: the sources are within the reach. -/
import Derived.Test.YtbijjjhfekkfaaaGreatPkf1d7150c
import Derived.Test.YtbijjjhfekkfaaaGreatPkc02694b5
import Derived.Test.YtbijjjhfekkfaaaGreatPk67c722b2
namespace Go.Proofs.YtbijjjhfekkfaaaGreat
set_option maxRecDepth 100000
open Go.RowKit Go.Shelf

/-- what is kept, with whose it is -/
def KResM (w : World) (K : List SK) (m : Nat) (e : Ending) (w' : World) : Prop :=
  ∃ (A : Option Addr) (c : Nat) (L : List Ser), e = .returned (.slice A L.length c) ∧ MOut w' w.heap.size (.slice A L.length c) L ∧ SL w' A L.length L ∧ L.map Ser.sk = K ∧ Below w.heap.size w w' ∧ L.length ≤ c ∧ L.length ≤ m
theorem clipM_law (A : Option Addr) (n c : Nat) (ss : List Ser) (a b : Int) (w : World) (h : SL w A n ss) : Calls Tryz.prog 132 #[.slice A n c, .int .i64 a, .int .i64 b] w (KResM w (clipAll a b ss) n) := by
  refine (clip_any A n c ss a b w h.row h.len h.at_ h.fit (by have := h.few; omega)).mono ?_
  rintro e w' ⟨v, L, rfl, hM, hk, hb, hsm⟩
  have hl := kept_count hk
  obtain ⟨A', c', rfl, hcap, hsl⟩ := sf_of_mout hM hsm (by have := h.few; have := h.len; omega)
  exact ⟨A', c', L, rfl, hM, ⟨hsl.row, hsl.len, hsl.at_, kept_small hk hsl.at_ h.at_ h.small, by have := h.few; have := h.len; omega⟩, hk, hb, hcap, by rw [← h.len]; exact hl⟩
theorem strip_small {res : Int} {gones : List Gon} {L ss : List Ser} {w w' : World} {B B' : Nat} (h : L.map Ser.sk = stripAll res gones ss) (ha : ∀ x ∈ L, x.At w B) (hs : ∀ x ∈ ss, x.At w' B') (hz : ∀ x ∈ ss, x.lab.n ≤ 1048576 ∧ x.smp.n + x.win.n ≤ 1099511627776) : ∀ x ∈ L, x.lab.n ≤ 1048576 ∧ x.smp.n + x.win.n ≤ 1099511627776 := by
  unfold stripAll at h
  split at h
  · obtain rfl : L = [] := List.map_eq_nil_iff.1 h
    simp
  · exact kept_small h ha hs hz
theorem stripM_law (res : Int) (A : Option Addr) (n c : Nat) (ss : List Ser) (G : Option Addr) (gn gc : Nat) (gones : List Gon) (w : World) (h : SL w A n ss) (hG : GonsAt w G gn gones) : Calls Tryz.prog 133 #[.int .i64 res, .slice A n c, .slice G gn gc] w (KResM w (stripAll res gones ss) n) := by
  refine (strip_any res A n c ss G gn gc gones w h.row h.len h.at_ h.fit (by have := h.few; omega) hG).mono ?_
  rintro e w' ⟨v, L, rfl, hM, hk, hb, hsm⟩
  have hl := strip_count hk
  obtain ⟨A', c', rfl, hcap, hsl⟩ := sf_of_mout hM hsm (by have := h.few; have := h.len; omega)
  exact ⟨A', c', L, rfl, hM, ⟨hsl.row, hsl.len, hsl.at_, strip_small hk hsl.at_ h.at_ h.small, by have := h.few; have := h.len; omega⟩, hk, hb, hcap, by rw [← h.len]; exact hl⟩
/-- the closure that Run hands to DeleteFunc -/
theorem run1m_any (A B C Bm : Option Addr) (n c m d k e0 mm dm : Nat) (g : Nat) (l : List Lbl) (ms : List Mt) (w : World) (hq : w.cell? ⟨g, 3, none⟩ = some (.slice Bm mm dm)) (hg : g < w.heap.size) (hl : LbF w A n l) (hm : MtRow w Bm mm ms) (hmf : mm ≤ 1048576) :
    Calls Tryz.prog 134 #[.agg #[.slice A n c, .slice B m d, .slice C k e0], .pointer (some ⟨g, 0, none⟩)] w fun e w' => e = .returned (.bool (!allM l ms)) ∧ Below w.heap.size w w' := by
  have hb : Below w.heap.size w (w.alloc (.cells #[.slice A n c, .slice B m d, .slice C k e0] 57)) := (Below.refl _ _).alloc (Nat.le_refl _) _
  have c3 := (hb.cell (p := ⟨g, 3, none⟩) hg).trans hq
  have S1 := hidden (mall_any A Bm n c mm dm l ms _ (hl.on hb) (hm.on hb) (by omega))
  have HB := hidden hb
  obtain ⟨R, hR⟩ : ∃ R, allM l ms = R := ⟨_, rfl⟩
  rw [hR] at S1 ⊢
  clear hb hl hm hR
  go_enter Tryz.func134, Tryz.ntmps134
  go_wp2_with fail
  refine S1.out.mono ?_
  rintro e w2 ⟨rfl, b2⟩
  have HB2 := hidden (HB.out.trans (b2.mono HB.out.size))
  clear b2
  go_wp2_with fail
  go_ret
  exact ⟨rfl, HB2.out⟩
/-- a list of the call's own stands when an older block turns -/
theorem MOut.away {w w' : World} {base g : Nat} {v : Value} {L : List Ser} (h : MOut w base v L) (hg : w.grownBy w' (some g)) (hlt : g < base) : MOut w' base v L := by
  have hv : ∀ {T : TypeId} {sz n : Nat} {u : Value} {xs : List Value}, w.ownsRow base T sz u n xs → u.ownBlock = none ∨ u.ownBlock ≠ some g := fun {T sz n u xs} ho => by
    cases hu : u.ownBlock with
    | none => exact .inl rfl
    | some q => exact .inr fun e => by cases e; have := (ho.lt _ hu).1; omega
  refine ⟨h.row.kept hg (hv h.row), fun y hy => (h.own y hy).grown hg fun q hq => ?_, h.out, h.sep⟩
  cases hq
  refine ⟨fun hb => by have := ((h.own y hy).lt hb).1; omega, fun hn a ha e => ?_⟩
  have := (((h.own y hy).labown hn).lt a.block (by show (Value.slice y.lab.A y.lab.n y.lab.c).ownBlock = _; rw [ha]; rfl)).1
  cases e
  omega
/-- what is asked for, from the one list -/
def runK (res from_ tt low ready : Int) (gones : List Gon) (ms : List Mt) (M : List SK) : List SK :=
  filtK ms (clipSK (max from_ low) (if res = 0 then tt else min tt (ready - 1)) (stripSK res gones M))
/-- the error -/
def runE (res from_ tt : Int) : Int := if res < 0 ∨ 3 ≤ res then 260 else if tt < from_ then 274 else 0
/-- DeleteFunc on a list of the call's own -/
theorem delM_any (A : Option Addr) (c : Nat) (L : List Ser) (base : Nat) (f : FuncId) (cb : Array Value) (p : Ser → Bool) (w : World) (eg : ∀ args w, (callFunc f args).run Tryz.prog w = .ok (.enter f args) w) (hM : MOut w base (.slice A L.length c) L) (hs : SL w A L.length L)
    (hp : ∀ g, A = some ⟨g, 0, none⟩ → base ≤ g → DelSer.PredOk f cb p L (fun W => w.grownBy W (some g))) :
    Calls Tryz.prog 74 #[.slice A L.length c, .func (.func f) #[] cb] w fun e w' =>
      ∃ (A' : Option Addr) (c' : Nat), e = .returned (.slice A' (L.filter fun x => !p x).length c') ∧ SL w' A' (L.filter fun x => !p x).length (L.filter fun x => !p x) ∧ Below base w w' ∧ (L.filter fun x => !p x).length ≤ c' ∧ MOut w' base (.slice A' (L.filter fun x => !p x).length c') (L.filter fun x => !p x) := by
  rcases Nat.eq_zero_or_pos L.length with h0 | h0
  · obtain rfl : L = [] := List.eq_nil_of_length_eq_zero h0
    refine (DelSer.delete0_any A c _ w).mono ?_
    rintro e w9 ⟨rfl, rfl⟩
    exact ⟨A, c, rfl, hs, Below.refl _ _, Nat.zero_le _, hM⟩
  · obtain ⟨go_, cap, rest, hv, hgb, hW, hncap, hcap, hm1, hm2⟩ := own_whole_g SrtSer.hk hM.row h0
    simp only [Value.slice.injEq, true_and] at hv
    obtain ⟨rfl, rfl⟩ := hv
    refine (DelSer.delete_any go_ L.length c L rest _ f cb p w eg (hp go_ rfl hgb) hW rfl hm2 hncap (by have := hs.few; omega)).mono ?_
    rintro e w9 ⟨v9, rfl, rest9, rfl, hc9, hW9, hm9, hg9⟩
    have hlf : DelSer.left p L = L.filter fun x => !p x := rfl
    rw [hlf] at hc9 hW9 hm9 ⊢
    have HFL := hM.filter (fun x => !p x) hgb hW9 hc9 hcap hm9 hg9
    have hbE9 : Below base w w9 := (Below.refl base w).grown hg9 (by have := (hM.row.lt go_ rfl).1; have := hW.lt; omega) (fun q hq => by injection hq with hq; omega)
    obtain ⟨A', c', e', hcap', hsl⟩ := sf_of_mout HFL (fun y hy => hs.fit y (List.mem_filter.1 hy).1) (by have := hs.few; have := List.length_filter_le (fun x => !p x) L; omega)
    exact ⟨A', c', by rw [← e'], ⟨hsl.row, hsl.len, hsl.at_, fun y hy => hs.small y (List.mem_filter.1 hy).1, by have := hs.few; have := List.length_filter_le (fun x => !p x) L; omega⟩, hbE9, hcap', e' ▸ HFL⟩
/-- whose labels they are -/
theorem key_of {M all : List SK} (hC : Canon M) (hE : Eqv M all) {e : SK} (he : e ∈ M) : ∃ x ∈ all, x.1 = e.1 := by
  obtain ⟨t, ht⟩ := hC.tells he
  rw [(hE e.1 t).1, (hE e.1 t).2] at ht
  exact sem_some ⟨t, ht⟩
theorem key_clip {a b : Int} {l : List SK} {s : SK} (h : s ∈ clipSK a b l) : ∃ x ∈ l, x.1 = s.1 := by
  obtain ⟨x, hx, rfl⟩ := List.mem_map.1 (List.mem_filter.1 h).1
  exact ⟨x, hx, rfl⟩
theorem key_strip {res : Int} {gones : List Gon} {l : List SK} {s : SK} (h : s ∈ stripSK res gones l) : ∃ x ∈ l, x.1 = s.1 := by
  unfold stripSK at h
  split at h
  · simp at h
  · obtain ⟨x, hx, rfl⟩ := List.mem_map.1 (List.mem_filter.1 h).1
    exact ⟨x, hx, rfl⟩
theorem canon_strip (res : Int) (gones : List Gon) {l : List SK} (h : Canon l) : Canon (stripSK res gones l) := by
  unfold stripSK
  split
  · exact ⟨List.Pairwise.nil, by simp, by simp, by simp⟩
  · have hmem : ∀ e ∈ fulls (l.map fun s : SK => ((s.1, s.2.1.filter (fun y => decide (res = 0) && !tk gones res s.1 y.t), s.2.2.filter (fun y => decide (res ≠ 0) && !tk gones res s.1 y.start)) : SK)), ∃ s ∈ l, e = (s.1, s.2.1.filter (fun y => decide (res = 0) && !tk gones res s.1 y.t), s.2.2.filter (fun y => decide (res ≠ 0) && !tk gones res s.1 y.start)) := fun e he => by
      obtain ⟨s, hs, rfl⟩ := List.mem_map.1 (List.mem_filter.1 he).1
      exact ⟨s, hs, rfl⟩
    refine ⟨?_, fun e he => ?_, fun e he => ?_, fun e he => fulls_full _ e he⟩
    · have : (l.map fun s : SK => ((s.1, s.2.1.filter (fun y => decide (res = 0) && !tk gones res s.1 y.t), s.2.2.filter (fun y => decide (res ≠ 0) && !tk gones res s.1 y.start)) : SK)).Pairwise fun x y => cmpLs x.1 y.1 < 0 := List.pairwise_map.2 h.order
      exact this.sublist List.filter_sublist
    · obtain ⟨s, hs, rfl⟩ := hmem e he
      exact (h.smps s hs).sublist List.filter_sublist
    · obtain ⟨s, hs, rfl⟩ := hmem e he
      exact (h.wins s hs).sublist List.filter_sublist
theorem strip_len (res : Int) (gones : List Gon) (l : List SK) : (stripSK res gones l).length ≤ l.length ∧ MR.ssum (stripSK res gones l) ≤ MR.ssum l := by
  unfold stripSK
  split
  · exact ⟨Nat.zero_le _, Nat.zero_le _⟩
  constructor
  · refine Nat.le_trans (List.length_filter_le _ _) ?_
    rw [List.length_map]; exact Nat.le_refl _
  · refine Nat.le_trans (show MR.ssum (fulls _) ≤ MR.ssum _ from ssum_sub List.filter_sublist) ?_
    induction l with
    | nil => exact Nat.le_refl _
    | cons x l ih =>
      have e : ∀ (x : SK) (l : List SK), MR.ssum (x :: l) = x.2.1.length + x.2.2.length + MR.ssum l := fun x l => by simp [MR.ssum]
      rw [List.map_cons, e, e]
      have h1 := List.length_filter_le (fun y : Smp => decide (res = 0) && !tk gones res x.1 y.t) x.2.1
      have h2 := List.length_filter_le (fun y : Win => decide (res ≠ 0) && !tk gones res x.1 y.start) x.2.2
      have := ih
      simp only at *
      omega
def pick3 (r : Nat) (a b c : Int) : Int := if r = 0 then a else if r = 1 then b else c
/-- what is answered, as it is told -/
def RunOk (res fr tt lo rd : Int) (gones : List Gon) (ms : List Mt) (all K : List SK) : Prop :=
  (runE res fr tt ≠ 0 → K = []) ∧ (runE res fr tt = 0 → (res ≠ 0 ∧ rd ≤ max fr lo → K = []) ∧ (∀ M, Canon M → Eqv M all → K = runK res fr tt lo rd gones ms M) ∧ (¬ (res ≠ 0 ∧ rd ≤ max fr lo) → ∃ M, Canon M ∧ Eqv M all))
def RunRes (w : World) (res fr tt lo rd : Int) (gones : List Gon) (ms : List Mt) (all : List SK) (e : Ending) (w' : World) : Prop :=
  ∃ (B : Option Addr) (c' : Nat) (L : List Ser), e = .returned (.tuple #[.slice B L.length c', .int .i64 (runE res fr tt)]) ∧ SL w' B L.length L ∧ Below w.heap.size w w' ∧ RunOk res fr tt lo rd gones ms all (L.map Ser.sk) ∧ L.length ≤ c' ∧ L.length ≤ all.length ∧ MR.ssum (L.map Ser.sk) ≤ MR.ssum all ∧ ∃ b, w.heap.size ≤ b ∧ MOut w' b (.slice B L.length c') L
theorem runRes_bad {w w' : World} {res fr tt lo rd : Int} {gones : List Gon} {ms : List Mt} {all : List SK} {c : Int} (he : runE res fr tt = c) (hc : c ≠ 0) (hb : Below w.heap.size w w') : RunRes w res fr tt lo rd gones ms all (.returned (.tuple #[.slice none 0 0, .int .i64 c])) w' :=
  ⟨none, 0, [], by rw [he]; rfl, SL.nil w', hb, ⟨fun _ => rfl, fun h => absurd (he.symm.trans h) hc⟩, Nat.le_refl _, Nat.zero_le _, Nat.zero_le _, w.heap.size, Nat.le_refl _, MOut.nil _ _⟩
theorem runRes_none {w w' : World} {res fr tt lo rd : Int} {gones : List Gon} {ms : List Mt} {all : List SK} (he : runE res fr tt = 0) (hr : res ≠ 0) (hx : rd ≤ max fr lo) (hb : Below w.heap.size w w') : RunRes w res fr tt lo rd gones ms all (.returned (.tuple #[.slice none 0 0, .int .i64 0])) w' := by
  refine ⟨none, 0, [], by rw [he]; rfl, SL.nil w', hb, ⟨fun h => absurd he h, fun _ => ⟨fun _ => rfl, fun M _ _ => ?_, fun h => absurd ⟨hr, hx⟩ h⟩⟩, Nat.le_refl _, Nat.zero_le _, Nat.zero_le _, w.heap.size, Nat.le_refl _, MOut.nil _ _⟩
  unfold runK
  rw [if_neg hr, clip_empty (by omega)]
  rfl
set_option maxHeartbeats 6400000 in
theorem run_gen (r fr tt lo0 lo1 lo2 rd0 rd1 rd2 : Int) (Bm : Option Addr) (mm dm : Nat) (ms : List Mt) (G : Option Addr) (gn gc : Nat) (gones : List Gon) (A : Option Addr) (n c : Nat) (LL : List (Sl Ser)) (w : World)
    (hrd : ∀ x ∈ [rd0, rd1, rd2], -9223372036854775808 ≤ x ∧ x < 9223372036854775808) (hfr : -9223372036854775808 ≤ fr ∧ fr < 9223372036854775808) (h : SLL w A n LL) (hz : ∀ s ∈ LL, ∀ x ∈ s.l, ∀ y ∈ x.lab.l, y.name.size ≤ 140737488355328 ∧ y.value.size ≤ 140737488355328) (hG : GonsAt w G gn gones) (hm : MtRow w Bm mm ms) (hmf : mm ≤ 1048576) :
    Calls Tryz.prog 61 #[.agg #[.int .i64 r, .int .i64 fr, .int .i64 tt, .slice Bm mm dm], .agg #[.int .i64 lo0, .int .i64 lo1, .int .i64 lo2, .int .i64 rd0, .int .i64 rd1, .int .i64 rd2], .slice G gn gc, .slice A n c] w
      (RunRes w r fr tt (pick3 r.toNat lo0 lo1 lo2) (pick3 r.toNat rd0 rd1 rd2) gones ms (MR.allOf LL)) := by
  have hQ0 := (Whole1.new w 153 #[.int .i64 r, .int .i64 fr, .int .i64 tt, .slice Bm mm dm]).alloc (.cells #[.int .i64 lo0, .int .i64 lo1, .int .i64 lo2, .int .i64 rd0, .int .i64 rd1, .int .i64 rd2] 38)
  have hH0 := Whole1.new (w.alloc (.cells #[.int .i64 r, .int .i64 fr, .int .i64 tt, .slice Bm mm dm] 153)) 38 #[.int .i64 lo0, .int .i64 lo1, .int .i64 lo2, .int .i64 rd0, .int .i64 rd1, .int .i64 rd2]
  have hB0 : Below w.heap.size w ((w.alloc (.cells #[.int .i64 r, .int .i64 fr, .int .i64 tt, .slice Bm mm dm] 153)).alloc (.cells #[.int .i64 lo0, .int .i64 lo1, .int .i64 lo2, .int .i64 rd0, .int .i64 rd1, .int .i64 rd2] 38)) := ((Below.refl _ _).alloc (Nat.le_refl _) _).alloc (by simp) _
  rw [show (w.alloc (.cells #[.int .i64 r, .int .i64 fr, .int .i64 tt, .slice Bm mm dm] 153)).heap.size = w.heap.size + 1 by simp] at hH0
  have H := hidden h
  have HGo := hidden hG
  have HMt := hidden hm
  have HZ := hidden hz
  clear h hG hm hz
  by_cases hbad : r < 0 ∨ 3 ≤ r
  · have hE : Hid (runE r fr tt = 260) := by rw [Hid, runE, if_pos hbad]
    have q0 := hQ0.cell 0
    have HB := hidden hB0
    have hc : r < 0 ∨ (¬ r < 0 ∧ 3 ≤ r) := by omega
    clear hQ0 hH0 hB0 hbad
    rcases hc with h1 | ⟨h1, h2⟩
    all_goals
      go_enter Tryz.func61, Tryz.ntmps61
      go_wp2_with fail
      go_ret2
      exact runRes_bad hE.out (by decide) HB.out
  · by_cases hrg : tt < fr
    · have hE : Hid (runE r fr tt = 274) := by rw [Hid, runE, if_neg hbad, if_pos hrg]
      have q0 := hQ0.cell 0
      have q1 := hQ0.cell 1
      have q2 := hQ0.cell 2
      have HB := hidden hB0
      have h1 : ¬ r < 0 := by omega
      have h2 : decide (3 ≤ r) = false := by simp; omega
      clear hQ0 hH0 hB0 hbad
      go_enter Tryz.func61, Tryz.ntmps61
      go_wp2_with fail
      go_ret2
      exact runRes_bad hE.out (by decide) HB.out
    · have HE : Hid (runE r fr tt = 0) := by rw [Hid, runE, if_neg hbad, if_neg hrg]
      obtain ⟨rn, rfl⟩ : ∃ rn : Nat, r = rn := ⟨r.toNat, by omega⟩
      have hr3 : rn < 3 := by omega
      rw [Int.toNat_natCast]
      have hlr : ∃ lo, lo = pick3 rn lo0 lo1 lo2 := ⟨_, rfl⟩
      obtain ⟨lo, hlo⟩ := hlr
      obtain ⟨rd, hrdd⟩ : ∃ rd, rd = pick3 rn rd0 rd1 rd2 := ⟨_, rfl⟩
      rw [← hlo, ← hrdd]
      have hl0 : ∀ W, Whole1 W (w.heap.size + 1) 38 #[.int .i64 lo0, .int .i64 lo1, .int .i64 lo2, .int .i64 rd0, .int .i64 rd1, .int .i64 rd2] → W.cell? ⟨w.heap.size + 1, rn, none⟩ = some (.int .i64 lo) ∧ W.cell? ⟨w.heap.size + 1, 3 + rn, none⟩ = some (.int .i64 rd) := fun W hW => by
        rw [hlo, hrdd]
        obtain rfl | rfl | rfl : rn = 0 ∨ rn = 1 ∨ rn = 2 := by omega
        · exact ⟨hW.cell 0, hW.cell 3⟩
        · exact ⟨hW.cell 1, hW.cell 4⟩
        · exact ⟨hW.cell 2, hW.cell 5⟩
      have hrdr : -9223372036854775808 ≤ rd ∧ rd < 9223372036854775808 := by
        rw [hrdd]
        refine hrd _ ?_
        unfold pick3
        split
        · simp
        · split <;> simp
      have HL := hidden hl0
      clear hl0 hrd hlo hrdd
      have g1 : ¬ (rn : Int) < 0 := by omega
      have g2 : decide (3 ≤ (rn : Int)) = false := by simp; omega
      have g3 : (0 : Int) ≤ (rn : Int) := by omega
      have g4 : (rn : Int) < 3 := by omega
      clear hbad
      go_enter Tryz.func61, Tryz.ntmps61
      go_upto_region 1 with (fail)
      generalize (w.alloc (.cells #[.int .i64 (rn : Int), .int .i64 fr, .int .i64 tt, .slice Bm mm dm] 153)).alloc (.cells #[.int .i64 lo0, .int .i64 lo1, .int .i64 lo2, .int .i64 rd0, .int .i64 rd1, .int .i64 rd2] 38) = w1 at hQ0 hH0 hB0 ⊢
      obtain ⟨g, hg⟩ : ∃ g, w.heap.size = g := ⟨_, rfl⟩
      have HB1 := hidden hB0
      rw [hg] at hQ0 hH0 HL ⊢
      have HQ1 := hidden hQ0
      have HH1 := hidden hH0
      have q0 := hQ0.cell 0
      have q1 := hQ0.cell 1
      have q2 := hQ0.cell 2
      have h0 := (HL.out _ hH0).1
      clear hQ0 hH0 hB0
      go_wp2_with fail
      go_quiet (fail)
      have HB2 := hidden (below_drewN HB1.out nq)
      have HQ2 := hidden (HQ1.out.drewN nq)
      have HH2 := hidden (HH1.out.drewN nq)
      have hbz := HB1.out.size
      clear q0 q1 q2 h0 HQ1 HH1 HB1
      generalize w1.drewN nq = w2 at HB2 HQ2 HH2 ⊢
      have q0 := HQ2.out.cell 0
      obtain ⟨mx, hmx⟩ : ∃ mx, max fr lo = mx := ⟨_, rfl⟩
      rw [hmx]
      have HMX := hidden hmx
      clear hmx
      by_cases hr0 : rn = 0
      · have g5 : ((rn : Int) != 0) = false := by simp [hr0]
        have HNX : Hid (¬ ((rn : Int) ≠ 0 ∧ rd ≤ max fr lo)) := fun h => h.1 (by omega)
        have HTT : Hid (∀ M, runK (rn : Int) fr tt lo rd gones ms M = filtK ms (clipSK mx tt (stripSK (rn : Int) gones M))) := fun M => by unfold runK; rw [if_pos (show (rn : Int) = 0 by omega), HMX.out]
        clear hr0
        have hS := hidden (H.out.on HB2.out)
        have HG2 := hidden (HGo.out.on HB2.out)
        have hs2 := HB2.out.size
        have HS := hidden (fun W (hW : Below w2.heap.size w2 W) => (HQ2.out.below hW HQ2.out.lt).cell 0)
        go_wp2_with fail
        go_region_held3 (fun W => W.cell? ⟨g, 0, none⟩ = some (.int .i64 (rn : Int)))
          (first | exact HS.out _ (Below.refl _ _) | exact HS.out _ (Below.refl _ _).drew | exact HS.out _ (by assumption))
          (first
            | (go_at_call 20; refine (merge_law _ _ _ _ _ (hS.out.on (Below.refl _ _).drew)).mono ?_; rintro e w3 ⟨A3, c3, L3, rfl, _, p1, p2, p3, b3, n3, s3, p4⟩; have k3 : Below w2.heap.size w2 w3 := (Below.refl _ _).drew.trans b3; have HL3 := hidden p1; have HC3 := hidden (And.intro p2 (And.intro p3 (And.intro n3 s3))); clear p1 p2 p3 n3 s3)
            | (go_at_call 133; refine (stripM_law (rn : Int) _ _ _ _ G gn gc gones _ HL3.out (HG2.out.on k3)).mono ?_; rintro e w4 ⟨A4, c4, L4, rfl, _, p1, p2, b4, p5, n4⟩; have k4 : Below w2.heap.size w2 w4 := k3.trans (b4.mono k3.size); have HL4 := hidden p1; have HC4 := hidden (And.intro p2 n4); clear p1 p2 n4)
            | (go_at_call 132; refine (clipM_law _ _ _ _ mx tt _ HL4.out).mono ?_; rintro e w5 ⟨A5, c5, L5, rfl, hM5, p1, p2, b5, p6, n5⟩; have k5 : Below w2.heap.size w2 w5 := k4.trans (b5.mono k4.size); have HL5 := hidden p1; have HM5 := hidden hM5; have HC5 := hidden (And.intro p2 n5); clear p1 p2 n5 hM5))
        have HF := hidden (show L5.map Ser.sk = clipSK mx tt (stripSK (rn : Int) gones (L3.map Ser.sk)) by rw [HC5.out.1, clipAll_sk, HC4.out.1, stripAll_sk])
        have hzz : ∀ x ∈ L5, ∀ y ∈ x.lab.l, y.name.size ≤ 140737488355328 ∧ y.value.size ≤ 140737488355328 := fun x hx y hy => by
          have m5 : x.sk ∈ clipSK mx tt (stripSK (rn : Int) gones (L3.map Ser.sk)) := by rw [← HF.out]; exact List.mem_map_of_mem hx
          obtain ⟨a, ha, ea⟩ := key_clip m5
          obtain ⟨b, hb, eb⟩ := key_strip ha
          obtain ⟨c, hc, ec⟩ := key_of HC3.out.1 HC3.out.2.1 hb
          obtain ⟨z, hz, rfl⟩ := List.mem_map.1 hc
          obtain ⟨s, hs, hz⟩ := List.mem_flatMap.1 hz
          have e1 : z.lab.l = x.lab.l := (show z.lab.l = b.1 from ec).trans (eb.trans ea)
          exact HZ.out s hs z hz y (by rw [e1]; exact hy)
        have hgl : g < w4.heap.size := by have := HQ2.out.lt; have := k4.size; omega
        have q3 := (HQ2.out.below k5 HQ2.out.lt).cell 3
        have M4 := HMt.out.on (HB2.out.trans (k4.mono hs2))
        have S6 := hidden (delM_any A5 c5 L5 w4.heap.size 134 #[.pointer (some ⟨g, 0, none⟩)] (fun x => !allM x.lab.l ms) w5 run1_eg HM5.out HL5.out (fun g5 hA hge x hx W hW => by
          have hbW : Below w4.heap.size w4 W := b5.grown hW b5.size (fun q hq => by cases hq; exact hge)
          have ho : SerOwn W w4.heap.size x := (HM5.out.own x hx).grown hW (fun q hq => HM5.out.out x hx q (by rw [hA]; exact hq))
          have hfx := HL5.out.fit x hx
          exact run1m_any _ _ _ Bm _ _ _ _ _ _ mm dm g x.lab.l ms W ((World.cell?_of_block (hW.block g (by have := b5.size; omega) (by simp; omega))).trans q3) (by have := hbW.size; omega) ⟨ho.lab.2.2, ho.lab.2.1, hfx.1, hzz x hx⟩ (M4.on hbW) hmf))
        have HK := hidden (And.intro k5 (And.intro k4.size b5))
        clear k3 k4 k5 b3 b4 b5 q0 M4 hzz q3
        go_wp2_with fail
        refine S6.out.mono ?_
        rintro e w6 ⟨A6, c6, rfl, hL6, b6, hc6, hM6⟩
        simp only [Bool.not_not] at hL6 hc6 hM6
        have HB6 := hidden ((HB2.out.trans (HK.out.1.mono hs2)).trans (b6.mono (by have := HK.out.2.1; omega)))
        have HL6 := hidden (And.intro hL6 (And.intro hc6 hM6))
        clear b6 hL6 hc6 hM6
        go_wp2_with fail
        go_ret2
        have hfk : (L5.filter fun x => allM x.lab.l ms).map Ser.sk = filtK ms (L5.map Ser.sk) := by
          unfold filtK
          rw [List.filter_map]
          rfl
        refine ⟨A6, c6, L5.filter fun x => allM x.lab.l ms, by rw [HE.out]; rfl, HL6.out.1, HB6.out, ⟨fun h => absurd HE.out h, fun _ => ⟨fun h => absurd h HNX.out, fun M hM hEM => ?_, fun _ => ⟨_, HC3.out.1, HC3.out.2.1⟩⟩⟩, HL6.out.2.1, ?_, ?_, w4.heap.size, by have h1 := HK.out.2.1; have h2 := hs2; omega, HL6.out.2.2⟩
        · rw [hfk, HF.out, HTT.out, canon_unique HC3.out.1 hM (HC3.out.2.1.trans hEM.symm)]
        · have h1 := List.length_filter_le (fun x : Ser => allM x.lab.l ms) L5
          have h2 := HC5.out.2
          have h3 := HC4.out.2
          have h4 := HC3.out.2.2.1
          omega
        · rw [hfk, HF.out]
          exact Nat.le_trans (filt_len _ _).2 (Nat.le_trans (clip_len _ _ _).2 (Nat.le_trans (strip_len _ _ _).2 HC3.out.2.2.2))
      · have g5 : ((rn : Int) != 0) = true := by simp; omega
        have rdc := (HL.out _ HH2.out).2
        by_cases hx : rd ≤ mx
        · have hx2 : decide (rd ≤ mx) = true := by simp; omega
          have HX := hidden hx
          clear hx
          go_wp2_with fail
          go_ret2
          exact runRes_none HE.out (by omega) (by rw [HMX.out]; exact HX.out) HB2.out
        · have hx2 : decide (rd ≤ mx) = false := by simp; omega
          have HNX : Hid (¬ ((rn : Int) ≠ 0 ∧ rd ≤ max fr lo)) := fun h => hx (by rw [← HMX.out]; exact h.2)
          have rw1 : wrap64 (rd - 1) = rd - 1 := by
            have : mx ≥ fr := by rw [← HMX.out]; omega
            exact Go.IntWalk.wrap64_in (rd - 1) (by omega)
          obtain ⟨T, hT⟩ : ∃ T, min tt (rd - 1) = T := ⟨_, rfl⟩
          have HTT : Hid (∀ M, runK (rn : Int) fr tt lo rd gones ms M = filtK ms (clipSK mx T (stripSK (rn : Int) gones M))) := fun M => by unfold runK; rw [if_neg (show ¬ (rn : Int) = 0 by omega), HMX.out, hT]
          have hT2 : min tt (wrap64 (rd - 1)) = T := by rw [rw1, hT]
          clear hx hT rw1
          have hS := hidden (H.out.on HB2.out)
          have HG2 := hidden (HGo.out.on HB2.out)
          have hs2 := HB2.out.size
          have HS := hidden (fun W (hW : Below w2.heap.size w2 W) => (HQ2.out.below hW HQ2.out.lt).cell 0)
          go_wp2_with fail
          go_region_held3 (fun W => W.cell? ⟨g, 0, none⟩ = some (.int .i64 (rn : Int)))
            (first | exact HS.out _ (Below.refl _ _) | exact HS.out _ (Below.refl _ _).drew | exact HS.out _ (by assumption))
            (first
              | (go_at_call 20; refine (merge_law _ _ _ _ _ (hS.out.on (Below.refl _ _).drew)).mono ?_; rintro e w3 ⟨A3, c3, L3, rfl, _, p1, p2, p3, b3, n3, s3, p4⟩; have k3 : Below w2.heap.size w2 w3 := (Below.refl _ _).drew.trans b3; have HL3 := hidden p1; have HC3 := hidden (And.intro p2 (And.intro p3 (And.intro n3 s3))); clear p1 p2 p3 n3 s3)
              | (go_at_call 133; refine (stripM_law (rn : Int) _ _ _ _ G gn gc gones _ HL3.out (HG2.out.on k3)).mono ?_; rintro e w4 ⟨A4, c4, L4, rfl, _, p1, p2, b4, p5, n4⟩; have k4 : Below w2.heap.size w2 w4 := k3.trans (b4.mono k3.size); have HL4 := hidden p1; have HC4 := hidden (And.intro p2 n4); clear p1 p2 n4)
              | (go_at_call 132; refine (clipM_law _ _ _ _ mx T _ HL4.out).mono ?_; rintro e w5 ⟨A5, c5, L5, rfl, hM5, p1, p2, b5, p6, n5⟩; have k5 : Below w2.heap.size w2 w5 := k4.trans (b5.mono k4.size); have HL5 := hidden p1; have HM5 := hidden hM5; have HC5 := hidden (And.intro p2 n5); clear p1 p2 n5 hM5))
          have HF := hidden (show L5.map Ser.sk = clipSK mx T (stripSK (rn : Int) gones (L3.map Ser.sk)) by rw [HC5.out.1, clipAll_sk, HC4.out.1, stripAll_sk])
          have hzz : ∀ x ∈ L5, ∀ y ∈ x.lab.l, y.name.size ≤ 140737488355328 ∧ y.value.size ≤ 140737488355328 := fun x hx y hy => by
            have m5 : x.sk ∈ clipSK mx T (stripSK (rn : Int) gones (L3.map Ser.sk)) := by rw [← HF.out]; exact List.mem_map_of_mem hx
            obtain ⟨a, ha, ea⟩ := key_clip m5
            obtain ⟨b, hb, eb⟩ := key_strip ha
            obtain ⟨c, hc, ec⟩ := key_of HC3.out.1 HC3.out.2.1 hb
            obtain ⟨z, hz, rfl⟩ := List.mem_map.1 hc
            obtain ⟨s, hs, hz⟩ := List.mem_flatMap.1 hz
            have e1 : z.lab.l = x.lab.l := (show z.lab.l = b.1 from ec).trans (eb.trans ea)
            exact HZ.out s hs z hz y (by rw [e1]; exact hy)
          have hgl : g < w4.heap.size := by have := HQ2.out.lt; have := k4.size; omega
          have q3 := (HQ2.out.below k5 HQ2.out.lt).cell 3
          have M4 := HMt.out.on (HB2.out.trans (k4.mono hs2))
          have S6 := hidden (delM_any A5 c5 L5 w4.heap.size 134 #[.pointer (some ⟨g, 0, none⟩)] (fun x => !allM x.lab.l ms) w5 run1_eg HM5.out HL5.out (fun g5 hA hge x hx W hW => by
            have hbW : Below w4.heap.size w4 W := b5.grown hW b5.size (fun q hq => by cases hq; exact hge)
            have ho : SerOwn W w4.heap.size x := (HM5.out.own x hx).grown hW (fun q hq => HM5.out.out x hx q (by rw [hA]; exact hq))
            have hfx := HL5.out.fit x hx
            exact run1m_any _ _ _ Bm _ _ _ _ _ _ mm dm g x.lab.l ms W ((World.cell?_of_block (hW.block g (by have := b5.size; omega) (by simp; omega))).trans q3) (by have := hbW.size; omega) ⟨ho.lab.2.2, ho.lab.2.1, hfx.1, hzz x hx⟩ (M4.on hbW) hmf))
          have HK := hidden (And.intro k5 (And.intro k4.size b5))
          clear k3 k4 k5 b3 b4 b5 q0 M4 hzz q3
          go_wp2_with fail
          refine S6.out.mono ?_
          rintro e w6 ⟨A6, c6, rfl, hL6, b6, hc6, hM6⟩
          simp only [Bool.not_not] at hL6 hc6 hM6
          have HB6 := hidden ((HB2.out.trans (HK.out.1.mono hs2)).trans (b6.mono (by have := HK.out.2.1; omega)))
          have HL6 := hidden (And.intro hL6 (And.intro hc6 hM6))
          clear b6 hL6 hc6 hM6
          go_wp2_with fail
          go_ret2
          have hfk : (L5.filter fun x => allM x.lab.l ms).map Ser.sk = filtK ms (L5.map Ser.sk) := by
            unfold filtK
            rw [List.filter_map]
            rfl
          refine ⟨A6, c6, L5.filter fun x => allM x.lab.l ms, by rw [HE.out]; rfl, HL6.out.1, HB6.out, ⟨fun h => absurd HE.out h, fun _ => ⟨fun h => absurd h HNX.out, fun M hM hEM => ?_, fun _ => ⟨_, HC3.out.1, HC3.out.2.1⟩⟩⟩, HL6.out.2.1, ?_, ?_, w4.heap.size, by have h1 := HK.out.2.1; have h2 := hs2; omega, HL6.out.2.2⟩
          · rw [hfk, HF.out, HTT.out, canon_unique HC3.out.1 hM (HC3.out.2.1.trans hEM.symm)]
          · have h1 := List.length_filter_le (fun x : Ser => allM x.lab.l ms) L5
            have h2 := HC5.out.2
            have h3 := HC4.out.2
            have h4 := HC3.out.2.2.1
            omega
          · rw [hfk, HF.out]
            exact Nat.le_trans (filt_len _ _).2 (Nat.le_trans (clip_len _ _ _).2 (Nat.le_trans (strip_len _ _ _).2 HC3.out.2.2.2))
end Go.Proofs.YtbijjjhfekkfaaaGreat
