/- A record read from bytes, plainly. No condition. record.take, walked. Condition: the reader lies as it says. record.reader.number, walked. Condition: the reader lies as it says. -/
import Derived.Test.YtdggnnjjiolldaaGreatPkfe4e104b
import Derived.Test.YtdggnnjjiolldaaGreatPk55098a59
import Derived.Test.YtdggnnjjiolldaaGreatPk17367d35
import Derived.Test.YtdggnnjjiolldaaGreatPkfa4ebbd5
import Derived.Deep.RegionHeld3
namespace Go.Proofs.YtdggnnjjiolldaaGreat
set_option maxRecDepth 100000
open Go.RowKit Go.Shelf

theorem decL_next {s : List UInt8} {a b : Int} {L : List Lbl} (h : decL s a = (L, b, 0)) : 0 ≤ a ∧ a < b ∧ b ≤ s.length ∧ validP L := by
  obtain ⟨n, m, e, h1⟩ : ∃ n b e, readU s a = (n, b, e) := ⟨_, _, _, rfl⟩
  by_cases he : e = 0
  · subst he
    obtain ⟨p1, p2, p3, p4, p5⟩ := readU_ok h1
    have hp := uintL_pos n
    by_cases h0 : n = 0
    · subst h0; rw [decL_zero h1] at h; simp at h
    · by_cases h8 : 8 < n
      · rw [decL_many h1 h8] at h; simp at h
      · rw [decL_go h1 h0 h8] at h
        obtain ⟨g1, g2, g3, g4, mid, g5, g6, g7⟩ := decT_form s n m [] L b h (fun x hx => by cases hx) List.Pairwise.nil (by omega) p3
        rw [List.nil_append] at g5
        subst g5
        have hl := congrArg List.length g7
        rw [List.length_append, List.length_drop, List.length_drop] at hl
        exact ⟨p1, by omega, g4, valid_of (by omega) (by omega) g1 g2⟩
  · rw [decL_e h1 he] at h
    simp only [Prod.mk.injEq] at h
    exact absurd h.2.2 he
theorem decR_next {s : List UInt8} {a b : Int} {L : List Spn} (h : decR s a = (L, b, 0)) : 0 ≤ a ∧ a + L.length < b ∧ b ≤ s.length ∧ OneS L ∧ ∀ x ∈ L, x.ok := by
  obtain ⟨n, m, e, h1⟩ : ∃ n b e, readU s a = (n, b, e) := ⟨_, _, _, rfl⟩
  by_cases he : e = 0
  · subst he
    obtain ⟨p1, p2, p3, p4, p5⟩ := readU_ok h1
    have hp := uintL_pos n
    rw [decR_go h1] at h
    obtain ⟨ys, r1, r2, r3, r4, r5, r6, r7⟩ := decS_form s n [] m L b (by omega) p3 OneS.nil (fun x hx => by cases hx) h
    rw [List.nil_append] at r1
    subst r1
    have hlen : ∀ l : List Spn, l.length ≤ (encS l).length := by
      intro l
      induction l with
      | nil => simp
      | cons x l ih =>
        rw [encS_cons]
        have := uintL_pos (zz x.frm)
        simp only [List.length_cons, List.length_append, intL] at *
        omega
    have := hlen L
    exact ⟨p1, by omega, r6, r3, r4⟩
  · rw [decR_e h1 he] at h
    simp only [Prod.mk.injEq] at h
    exact absurd h.2.2 he

/-- what has been read -/
structure PS where
  a : Int
  news : List (Int × List Lbl)
  pts : List PntR
  last : PntR
  gones : List (Int × Int × List Spn)
def numP (s : List UInt8) (a : Int) : Option (Nat × Int) := if (readU s a).2.2 = 0 then some (min (readU s a).1 4611686018427387904, (readU s a).2.1) else none
def stepN (s : List UInt8) (σ : PS) : Option PS :=
  (numP s σ.a).bind fun x => if (decL s x.2).2.2 = 0 then some { σ with a := (decL s x.2).2.1, news := σ.news ++ [((x.1 : Int), (decL s x.2).1)] } else none
def intP (s : List UInt8) (a : Int) : Option (Int × Int) := if (readI s a).2.2 = 0 then some ((readI s a).1, (readI s a).2.1) else none
def u64P (s : List UInt8) (a : Int) : Option (Nat × Int) := if (readU s a).2.2 = 0 then some ((readU s a).1, (readU s a).2.1) else none
def stepP (s : List UInt8) (σ : PS) : Option PS :=
  (intP s σ.a).bind fun x => (intP s x.2).bind fun y => (u64P s y.2).bind fun z =>
    some { σ with a := z.2, last := ⟨wrap64 (σ.last.ref + x.1), wrap64 (σ.last.t + y.1), σ.last.v ^^^ z.1⟩, pts := σ.pts ++ [⟨wrap64 (σ.last.ref + x.1), wrap64 (σ.last.t + y.1), σ.last.v ^^^ z.1⟩] }
def stepG (s : List UInt8) (σ : PS) : Option PS :=
  (numP s σ.a).bind fun x => (numP s x.2).bind fun y => if (decR s y.2).2.2 = 0 then some { σ with a := (decR s y.2).2.1, gones := σ.gones ++ [((x.1 : Int), (y.1 : Int), (decR s y.2).1)] } else none
def iter (f : PS → Option PS) : Nat → PS → Option PS
  | 0, σ => some σ
  | k + 1, σ => (f σ).bind (iter f k)
def timesP (s : List UInt8) (f : PS → Option PS) (σ : PS) : Option PS := (numP s σ.a).bind fun x => iter f (min x.1 (s.length + 1)) { σ with a := x.2 }
def ps0 : PS := ⟨0, [], [], pnt0, []⟩
def decP (s : List UInt8) : Option PS := ((timesP s (stepN s) ps0).bind (timesP s (stepP s))).bind (timesP s (stepG s))

/-- what holds of whatever has been read -/
structure PS.Ok (s : List UInt8) (σ : PS) : Prop where
  lo : 0 ≤ σ.a
  hi : σ.a ≤ s.length
  nn : (σ.news.length : Int) ≤ σ.a
  pn : (σ.pts.length : Int) ≤ σ.a
  gn : (σ.gones.length : Int) ≤ σ.a
  sn : ((σ.gones.map fun x => x.2.2.length).sum : Int) ≤ σ.a
  news : ∀ x ∈ σ.news, 0 ≤ x.1 ∧ x.1 ≤ 4611686018427387904 ∧ validP x.2
  pts : ∀ x ∈ σ.pts, (-9223372036854775808 ≤ x.ref ∧ x.ref < 9223372036854775808) ∧ (-9223372036854775808 ≤ x.t ∧ x.t < 9223372036854775808) ∧ x.v < 18446744073709551616
  lastv : σ.last.v < 18446744073709551616
  gones : ∀ x ∈ σ.gones, (0 ≤ x.1 ∧ x.1 ≤ 4611686018427387904) ∧ (0 ≤ x.2.1 ∧ x.2.1 ≤ 4611686018427387904) ∧ OneS x.2.2 ∧ ∀ y ∈ x.2.2, y.ok
theorem wrap64_in (x : Int) : -9223372036854775808 ≤ wrap64 x ∧ wrap64 x < 9223372036854775808 := by
  unfold wrap64; omega
theorem numP_ok {s : List UInt8} {a : Int} {x : Nat × Int} (h : numP s a = some x) : x.1 ≤ 4611686018427387904 ∧ 0 ≤ a ∧ a < x.2 ∧ x.2 ≤ s.length := by
  unfold numP at h
  split at h
  · rename_i he
    obtain ⟨n, m, e, h1⟩ : ∃ n b e, readU s a = (n, b, e) := ⟨_, _, _, rfl⟩
    rw [h1] at h he
    simp only at he
    subst he
    obtain ⟨p1, p2, p3, p4, p5⟩ := readU_ok h1
    have hp := uintL_pos n
    simp only [Option.some.injEq] at h
    subst h
    exact ⟨Nat.min_le_right _ _, p1, by simp only; omega, p3⟩
  · cases h
theorem u64P_ok {s : List UInt8} {a : Int} {x : Nat × Int} (h : u64P s a = some x) : x.1 < 18446744073709551616 ∧ 0 ≤ a ∧ a < x.2 ∧ x.2 ≤ s.length := by
  unfold u64P at h
  split at h
  · rename_i he
    obtain ⟨n, m, e, h1⟩ : ∃ n b e, readU s a = (n, b, e) := ⟨_, _, _, rfl⟩
    rw [h1] at h he
    simp only at he
    subst he
    obtain ⟨p1, p2, p3, p4, p5⟩ := readU_ok h1
    have hp := uintL_pos n
    simp only [Option.some.injEq] at h
    subst h
    exact ⟨p4, p1, by simp only; omega, p3⟩
  · cases h
theorem intP_ok {s : List UInt8} {a : Int} {x : Int × Int} (h : intP s a = some x) : 0 ≤ a ∧ a < x.2 ∧ x.2 ≤ s.length := by
  unfold intP at h
  split at h
  · rename_i he
    obtain ⟨n, m, e, h1⟩ : ∃ n b e, readI s a = (n, b, e) := ⟨_, _, _, rfl⟩
    rw [h1] at h he
    simp only at he
    subst he
    obtain ⟨p1, p2, p3, p4, p5, _⟩ := readI_ok h1
    simp only [Option.some.injEq] at h
    subst h
    exact ⟨p1, p2, p3⟩
  · cases h
theorem stepN_ok {s : List UInt8} {σ τ : PS} (h : σ.Ok s) (k : stepN s σ = some τ) : τ.Ok s := by
  unfold stepN at k
  obtain ⟨x, hx, k⟩ := Option.bind_eq_some_iff.1 k
  obtain ⟨x1, x2, x3, x4⟩ := numP_ok hx
  split at k
  · rename_i he
    obtain ⟨L, b, e, h1⟩ : ∃ n b e, decL s x.2 = (n, b, e) := ⟨_, _, _, rfl⟩
    rw [h1] at k he
    simp only at he
    subst he
    obtain ⟨p1, p2, p3, p4⟩ := decL_next h1
    simp only [Option.some.injEq] at k
    subst k
    have := h.pn; have := h.gn; have := h.sn; have := h.nn
    refine ⟨by simp only; omega, p3, by simp; omega, by simp only; omega, by simp only; omega, by simp only; omega, fun y hy => ?_, h.pts, h.lastv, h.gones⟩
    rcases List.mem_append.1 hy with hy | hy
    · exact h.news y hy
    · rw [List.mem_singleton.1 hy]; exact ⟨by simp only; omega, by simp only; omega, p4⟩
  · cases k
theorem stepP_ok {s : List UInt8} {σ τ : PS} (h : σ.Ok s) (k : stepP s σ = some τ) : τ.Ok s := by
  unfold stepP at k
  obtain ⟨x, hx, k⟩ := Option.bind_eq_some_iff.1 k
  obtain ⟨y, hy, k⟩ := Option.bind_eq_some_iff.1 k
  obtain ⟨z, hz, k⟩ := Option.bind_eq_some_iff.1 k
  obtain ⟨x1, x2, x3⟩ := intP_ok hx
  obtain ⟨y1, y2, y3⟩ := intP_ok hy
  obtain ⟨z1, z2, z3, z4⟩ := u64P_ok hz
  simp only [Option.some.injEq] at k
  subst k
  have hv := xor_lt64 h.lastv z1
  have := h.pn; have := h.gn; have := h.sn; have := h.nn
  refine ⟨by simp only; omega, z4, by simp only; omega, by simp; omega, by simp only; omega, by simp only; omega, h.news, fun y hy => ?_, hv, h.gones⟩
  rcases List.mem_append.1 hy with hy | hy
  · exact h.pts y hy
  · rw [List.mem_singleton.1 hy]; exact ⟨wrap64_in _, wrap64_in _, hv⟩
theorem stepG_ok {s : List UInt8} {σ τ : PS} (h : σ.Ok s) (k : stepG s σ = some τ) : τ.Ok s := by
  unfold stepG at k
  obtain ⟨x, hx, k⟩ := Option.bind_eq_some_iff.1 k
  obtain ⟨y, hy, k⟩ := Option.bind_eq_some_iff.1 k
  obtain ⟨x1, x2, x3, x4⟩ := numP_ok hx
  obtain ⟨y1, y2, y3, y4⟩ := numP_ok hy
  split at k
  · rename_i he
    obtain ⟨L, b, e, h1⟩ : ∃ n b e, decR s y.2 = (n, b, e) := ⟨_, _, _, rfl⟩
    rw [h1] at k he
    simp only at he
    subst he
    obtain ⟨p1, p2, p3, p4, p5⟩ := decR_next h1
    simp only [Option.some.injEq] at k
    subst k
    have := h.pn; have := h.gn; have := h.sn; have := h.nn
    refine ⟨by simp only; omega, p3, by simp only; omega, by simp only; omega, by simp; omega, by simp only [List.map_append, List.sum_append, List.map_cons, List.map_nil, List.sum_cons, List.sum_nil]; omega, h.news, h.pts, h.lastv, fun u hu => ?_⟩
    rcases List.mem_append.1 hu with hu | hu
    · exact h.gones u hu
    · rw [List.mem_singleton.1 hu]; exact ⟨⟨by simp only; omega, by simp only; omega⟩, ⟨by simp only; omega, by simp only; omega⟩, by simpa only [h1] using p4, by simpa only [h1] using p5⟩
  · cases k
theorem iter_ok {s : List UInt8} {f : PS → Option PS} (hf : ∀ σ τ, σ.Ok s → f σ = some τ → τ.Ok s) : ∀ (k : Nat) (σ τ : PS), σ.Ok s → iter f k σ = some τ → τ.Ok s := by
  intro k
  induction k with
  | zero => intro σ τ h k; simp only [iter, Option.some.injEq] at k; exact k ▸ h
  | succ n ih =>
    intro σ τ h k
    obtain ⟨ρ, h1, h2⟩ := Option.bind_eq_some_iff.1 k
    exact ih ρ τ (hf σ ρ h h1) h2
theorem PS.Ok.seek {s : List UInt8} {σ : PS} {b : Int} (h : σ.Ok s) (h1 : σ.a ≤ b) (h2 : b ≤ s.length) : ({ σ with a := b } : PS).Ok s :=
  ⟨Int.le_trans h.lo h1, h2, Int.le_trans h.nn h1, Int.le_trans h.pn h1, Int.le_trans h.gn h1, Int.le_trans h.sn h1, h.news, h.pts, h.lastv, h.gones⟩
theorem timesP_ok {s : List UInt8} {f : PS → Option PS} (hf : ∀ σ τ, σ.Ok s → f σ = some τ → τ.Ok s) {σ τ : PS} (h : σ.Ok s) (k : timesP s f σ = some τ) : τ.Ok s := by
  obtain ⟨x, hx, k⟩ := Option.bind_eq_some_iff.1 k
  obtain ⟨x1, x2, x3, x4⟩ := numP_ok hx
  exact iter_ok hf _ _ _ (h.seek (by omega) x4) k
theorem ps0_ok (s : List UInt8) : ps0.Ok s := ⟨Int.le_refl _, by simp [ps0], by simp [ps0], by simp [ps0], by simp [ps0], by simp [ps0], fun x hx => (List.not_mem_nil hx).elim, fun x hx => (List.not_mem_nil hx).elim, by decide, fun x hx => (List.not_mem_nil hx).elim⟩
theorem decP_ok {s : List UInt8} {σ : PS} (h : decP s = some σ) : σ.Ok s := by
  obtain ⟨τ, h1, h3⟩ := Option.bind_eq_some_iff.1 h
  obtain ⟨ρ, h1, h2⟩ := Option.bind_eq_some_iff.1 h1
  exact timesP_ok (fun _ _ => stepG_ok) (timesP_ok (fun _ _ => stepP_ok) (timesP_ok (fun _ _ => stepN_ok) (ps0_ok s) h1) h2) h3
end Go.Proofs.YtdggnnjjiolldaaGreat

namespace Go.Proofs.YtdggnnjjiolldaaGreat
set_option maxRecDepth 100000
open Go.RowKit Go.Shelf

/-- it left by a panic that may be recovered -/
def PanB (B : World → Prop) (e : Ending) (w : World) : Prop := ∃ t v, e = .panicked [{ v := .iface t v, recovered := false }] ∧ B w

set_option maxHeartbeats 1600000 in
theorem take_u (Rd : Nat) (s : ByteArray) (a n er : Int) (K : Value → World → Prop) (w : World) (hR : Whole1 w Rd 84 #[.string s, .int .i64 a])
    (hread : ∀ W, Below w.heap.size w W → Calls Tryz.prog 36 #[.string s, .int .i64 a] W fun e w' => ∃ v, e = .returned (.tuple #[v, .int .i64 n, .int .i64 er]) ∧ K v w' ∧ Below W.heap.size W w') :
    Calls Tryz.prog 35 #[.pointer (some ⟨Rd, 0, none⟩), .func (.func 36) #[] #[]] w fun e w' =>
      (er = 0 ∧ ∃ v w1, e = .returned v ∧ K v w1 ∧ Below w.heap.size w w1 ∧ w' = w1.setCell ⟨Rd, 1, none⟩ (.int .i64 n)) ∨ (er ≠ 0 ∧ PanB (Below w.heap.size w) e w') := by
  have HR := hidden (fun W (hW : Below w.heap.size w W) => hR.below hW hR.lt)
  have HS := hidden (fun W (hW : Below w.heap.size w W) => (⟨(HR.out W hW).cell 0, (HR.out W hW).cell 1⟩ : W.cell? ⟨Rd, 0, none⟩ = some (.string s) ∧ W.cell? ⟨Rd, 1, none⟩ = some (.int .i64 a)))
  have HD := hidden hread
  clear hread hR
  go_enter Tryz.func35, Tryz.ntmps35
  go_wp2_with fail
  go_region_held3 (fun W => W.cell? ⟨Rd, 0, none⟩ = some (.string s) ∧ W.cell? ⟨Rd, 1, none⟩ = some (.int .i64 a))
    (first | exact HS.out _ (Below.refl _ _) | exact HS.out _ (Below.refl _ _).drew | exact HS.out _ (by assumption))
    (first
      | (go_at_call 36; refine (HD.out _ (Below.refl _ _).drew).mono ?_; rintro e w1 ⟨v, rfl, hk, b1⟩; have B1 : Below w.heap.size w w1 := (Below.refl _ _).drew.trans b1; have HK := hidden hk; clear hk b1))
  have f1 := (HR.out _ B1).free 1
  have c1 := (HS.out _ B1).2
  by_cases he : er = 0
  · subst he
    go_wp2_with fail
    go_ret
    exact ⟨_, rfl, _, HK.out, B1, rfl⟩
  · have he' : (er != 0) = true := by simpa using he
    go_wp2_with fail
    exact ⟨rfl, .inr ⟨he, _, _, rfl, B1⟩⟩

set_option maxHeartbeats 1600000 in
theorem take_i (Rd : Nat) (s : ByteArray) (a n er : Int) (K : Value → World → Prop) (w : World) (hR : Whole1 w Rd 84 #[.string s, .int .i64 a])
    (hread : ∀ W, Below w.heap.size w W → Calls Tryz.prog 34 #[.string s, .int .i64 a] W fun e w' => ∃ v, e = .returned (.tuple #[v, .int .i64 n, .int .i64 er]) ∧ K v w' ∧ Below W.heap.size W w') :
    Calls Tryz.prog 33 #[.pointer (some ⟨Rd, 0, none⟩), .func (.func 34) #[] #[]] w fun e w' =>
      (er = 0 ∧ ∃ v w1, e = .returned v ∧ K v w1 ∧ Below w.heap.size w w1 ∧ w' = w1.setCell ⟨Rd, 1, none⟩ (.int .i64 n)) ∨ (er ≠ 0 ∧ PanB (Below w.heap.size w) e w') := by
  have HR := hidden (fun W (hW : Below w.heap.size w W) => hR.below hW hR.lt)
  have HS := hidden (fun W (hW : Below w.heap.size w W) => (⟨(HR.out W hW).cell 0, (HR.out W hW).cell 1⟩ : W.cell? ⟨Rd, 0, none⟩ = some (.string s) ∧ W.cell? ⟨Rd, 1, none⟩ = some (.int .i64 a)))
  have HD := hidden hread
  clear hread hR
  go_enter Tryz.func33, Tryz.ntmps33
  go_wp2_with fail
  go_region_held3 (fun W => W.cell? ⟨Rd, 0, none⟩ = some (.string s) ∧ W.cell? ⟨Rd, 1, none⟩ = some (.int .i64 a))
    (first | exact HS.out _ (Below.refl _ _) | exact HS.out _ (Below.refl _ _).drew | exact HS.out _ (by assumption))
    (first
      | (go_at_call 34; refine (HD.out _ (Below.refl _ _).drew).mono ?_; rintro e w1 ⟨v, rfl, hk, b1⟩; have B1 : Below w.heap.size w w1 := (Below.refl _ _).drew.trans b1; have HK := hidden hk; clear hk b1))
  have f1 := (HR.out _ B1).free 1
  have c1 := (HS.out _ B1).2
  by_cases he : er = 0
  · subst he
    go_wp2_with fail
    go_ret
    exact ⟨_, rfl, _, HK.out, B1, rfl⟩
  · have he' : (er != 0) = true := by simpa using he
    go_wp2_with fail
    exact ⟨rfl, .inr ⟨he, _, _, rfl, B1⟩⟩

set_option maxHeartbeats 1600000 in
theorem take_l (Rd : Nat) (s : ByteArray) (a n er : Int) (K : Value → World → Prop) (w : World) (hR : Whole1 w Rd 84 #[.string s, .int .i64 a])
    (hread : ∀ W, Below w.heap.size w W → Calls Tryz.prog 31 #[.string s, .int .i64 a] W fun e w' => ∃ v, e = .returned (.tuple #[v, .int .i64 n, .int .i64 er]) ∧ K v w' ∧ Below W.heap.size W w') :
    Calls Tryz.prog 30 #[.pointer (some ⟨Rd, 0, none⟩), .func (.func 31) #[] #[]] w fun e w' =>
      (er = 0 ∧ ∃ v w1, e = .returned v ∧ K v w1 ∧ Below w.heap.size w w1 ∧ w' = w1.setCell ⟨Rd, 1, none⟩ (.int .i64 n)) ∨ (er ≠ 0 ∧ PanB (Below w.heap.size w) e w') := by
  have HR := hidden (fun W (hW : Below w.heap.size w W) => hR.below hW hR.lt)
  have HS := hidden (fun W (hW : Below w.heap.size w W) => (⟨(HR.out W hW).cell 0, (HR.out W hW).cell 1⟩ : W.cell? ⟨Rd, 0, none⟩ = some (.string s) ∧ W.cell? ⟨Rd, 1, none⟩ = some (.int .i64 a)))
  have HD := hidden hread
  clear hread hR
  go_enter Tryz.func30, Tryz.ntmps30
  go_wp2_with fail
  go_region_held3 (fun W => W.cell? ⟨Rd, 0, none⟩ = some (.string s) ∧ W.cell? ⟨Rd, 1, none⟩ = some (.int .i64 a))
    (first | exact HS.out _ (Below.refl _ _) | exact HS.out _ (Below.refl _ _).drew | exact HS.out _ (by assumption))
    (first
      | (go_at_call 31; refine (HD.out _ (Below.refl _ _).drew).mono ?_; rintro e w1 ⟨v, rfl, hk, b1⟩; have B1 : Below w.heap.size w w1 := (Below.refl _ _).drew.trans b1; have HK := hidden hk; clear hk b1))
  have f1 := (HR.out _ B1).free 1
  have c1 := (HS.out _ B1).2
  by_cases he : er = 0
  · subst he
    go_wp2_with fail
    go_ret
    exact ⟨_, rfl, _, HK.out, B1, rfl⟩
  · have he' : (er != 0) = true := by simpa using he
    go_wp2_with fail
    exact ⟨rfl, .inr ⟨he, _, _, rfl, B1⟩⟩

set_option maxHeartbeats 1600000 in
theorem take_s (Rd : Nat) (s : ByteArray) (a n er : Int) (K : Value → World → Prop) (w : World) (hR : Whole1 w Rd 84 #[.string s, .int .i64 a])
    (hread : ∀ W, Below w.heap.size w W → Calls Tryz.prog 39 #[.string s, .int .i64 a] W fun e w' => ∃ v, e = .returned (.tuple #[v, .int .i64 n, .int .i64 er]) ∧ K v w' ∧ Below W.heap.size W w') :
    Calls Tryz.prog 38 #[.pointer (some ⟨Rd, 0, none⟩), .func (.func 39) #[] #[]] w fun e w' =>
      (er = 0 ∧ ∃ v w1, e = .returned v ∧ K v w1 ∧ Below w.heap.size w w1 ∧ w' = w1.setCell ⟨Rd, 1, none⟩ (.int .i64 n)) ∨ (er ≠ 0 ∧ PanB (Below w.heap.size w) e w') := by
  have HR := hidden (fun W (hW : Below w.heap.size w W) => hR.below hW hR.lt)
  have HS := hidden (fun W (hW : Below w.heap.size w W) => (⟨(HR.out W hW).cell 0, (HR.out W hW).cell 1⟩ : W.cell? ⟨Rd, 0, none⟩ = some (.string s) ∧ W.cell? ⟨Rd, 1, none⟩ = some (.int .i64 a)))
  have HD := hidden hread
  clear hread hR
  go_enter Tryz.func38, Tryz.ntmps38
  go_wp2_with fail
  go_region_held3 (fun W => W.cell? ⟨Rd, 0, none⟩ = some (.string s) ∧ W.cell? ⟨Rd, 1, none⟩ = some (.int .i64 a))
    (first | exact HS.out _ (Below.refl _ _) | exact HS.out _ (Below.refl _ _).drew | exact HS.out _ (by assumption))
    (first
      | (go_at_call 39; refine (HD.out _ (Below.refl _ _).drew).mono ?_; rintro e w1 ⟨v, rfl, hk, b1⟩; have B1 : Below w.heap.size w w1 := (Below.refl _ _).drew.trans b1; have HK := hidden hk; clear hk b1))
  have f1 := (HR.out _ B1).free 1
  have c1 := (HS.out _ B1).2
  by_cases he : er = 0
  · subst he
    go_wp2_with fail
    go_ret
    exact ⟨_, rfl, _, HK.out, B1, rfl⟩
  · have he' : (er != 0) = true := by simpa using he
    go_wp2_with fail
    exact ⟨rfl, .inr ⟨he, _, _, rfl, B1⟩⟩
end Go.Proofs.YtdggnnjjiolldaaGreat

namespace Go.Proofs.YtdggnnjjiolldaaGreat
set_option maxRecDepth 100000
open Go.RowKit Go.Shelf

set_option maxHeartbeats 1600000 in
theorem number_any (Rd : Nat) (s : List UInt8) (a : Int) (w : World) (hR : Whole1 w Rd 84 #[.string ⟨s.toArray⟩, .int .i64 a]) (hs : s.length < 9223372036854775000) (ha : -9223372036854775808 ≤ a) (ha2 : a < 9223372036854775808) :
    Calls Tryz.prog 29 #[.pointer (some ⟨Rd, 0, none⟩)] w fun e w' =>
      ((readU s a).2.2 = 0 ∧ ∃ w1, e = .returned (.int .i64 (min (readU s a).1 4611686018427387904 : Nat)) ∧ Below w.heap.size w w1 ∧ w' = w1.setCell ⟨Rd, 1, none⟩ (.int .i64 (readU s a).2.1)) ∨ ((readU s a).2.2 ≠ 0 ∧ PanB (Below w.heap.size w) e w') := by
  have HT := hidden (take_u Rd ⟨s.toArray⟩ a (readU s a).2.1 (readU s a).2.2 (fun v _ => v = .int .u64 (readU s a).1) w hR fun W _ => (readUint_any s a W hs ha ha2).mono fun e w' ⟨h1, h2⟩ => ⟨_, h1, rfl, h2⟩)
  have hlt := readU_lt s a
  obtain ⟨v, n, er, hr⟩ : ∃ v n e, readU s a = (v, n, e) := ⟨_, _, _, rfl⟩
  rw [hr] at HT hlt ⊢
  simp only at HT hlt ⊢
  clear hr hR
  go_enter Tryz.func29, Tryz.ntmps29
  go_wp2_with fail
  refine HT.out.mono ?_
  rintro e w' (⟨rfl, v', w1, rfl, rfl, b1, rfl⟩ | ⟨he, t, x, rfl, b1⟩)
  · have HB := hidden b1
    clear HT b1
    go_wp2_with fail
    go_ret
    refine ⟨?_, _, HB.out, rfl⟩
    have e1 : ((min v 4611686018427387904 : Nat) : Int) = min (v : Int) 4611686018427387904 := by omega
    rw [e1]
    rfl
  · go_wp2_with fail
    exact ⟨rfl, .inr ⟨he, _, _, rfl, b1⟩⟩
end Go.Proofs.YtdggnnjjiolldaaGreat
