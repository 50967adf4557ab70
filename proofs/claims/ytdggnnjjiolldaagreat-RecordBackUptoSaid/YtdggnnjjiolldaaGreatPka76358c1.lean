/- record.reader.times, walked with each of record.Decode's closures. Condition: the record that is being read lies as it says. -/
import Derived.Test.YtdggnnjjiolldaaGreatPkd7e977c4
import Derived.Test.YtdggnnjjiolldaaGreatPk1f7ea8f7
namespace Go.Proofs.YtdggnnjjiolldaaGreat
set_option maxRecDepth 100000
open Go.RowKit Go.Shelf

theorem iter_snoc (f : PS → Option PS) : ∀ (k : Nat) (σ : PS), iter f (k + 1) σ = (iter f k σ).bind f := by
  intro k
  induction k with
  | zero => intro σ; cases h : f σ <;> simp [iter, h]
  | succ k ih =>
    intro σ
    rw [iter]
    cases h : f σ with
    | none => simp [iter, h]
    | some ρ => rw [Option.bind_some, ih ρ]; simp [iter, h]
theorem iter_none {f : PS → Option PS} {k n : Nat} {σ : PS} (h : iter f k σ = none) (hkn : k ≤ n) : iter f n σ = none := by
  induction n with
  | zero => obtain rfl : k = 0 := by omega
            exact h
  | succ n ih =>
    by_cases e : k = n + 1
    · exact e ▸ h
    · rw [iter_snoc, ih (by omega)]; rfl

/-- what a reading of so many things needs of its invariant -/
structure TimJ (w0 : World) (g O E Rd : Nat) (s : List UInt8) (J : PS → World → Prop) : Prop where
  rd : ∀ σ w, J σ w → Whole1 w Rd 84 #[.string ⟨s.toArray⟩, .int .i64 σ.a]
  seek : ∀ σ w w1 b, J σ w → Below w.heap.size w w1 → J { σ with a := b } (w1.setCell ⟨Rd, 1, none⟩ (.int .i64 b))
  on : ∀ σ w w1, J σ w → Below w.heap.size w w1 → J σ w1
  bad : ∀ σ w, J σ w → DBad w0 g O E w
def JN (w0 : World) (g O E V Rd bP : Nat) (s : List UInt8) (G : List GonR) (vP vG : Value) (σ : PS) (w : World) : Prop := ∃ N vN, DAt w0 g O E V Rd bP s σ N G vN vP vG w
def JP (w0 : World) (g O E V Rd bP L : Nat) (s : List UInt8) (N : List NewR) (G : List GonR) (vN vG : Value) (σ : PS) (w : World) : Prop := ∃ vP, DAt w0 g O E V Rd bP s σ N G vN vP vG w ∧ LastAt w L σ.last.ref σ.last.t σ.last.v
def JG (w0 : World) (g O E V Rd bP : Nat) (s : List UInt8) (N : List NewR) (vN vP : Value) (σ : PS) (w : World) : Prop := ∃ G vG, DAt w0 g O E V Rd bP s σ N G vN vP vG w
section
variable {w0 : World} {g O E V Rd bP L : Nat} {s : List UInt8} {N : List NewR} {G : List GonR} {vN vP vG : Value}
theorem timN : TimJ w0 g O E Rd s (JN w0 g O E V Rd bP s G vP vG) :=
  ⟨fun _ _ ⟨_, _, h⟩ => h.rd, fun _ _ _ b ⟨_, _, h⟩ hb => ⟨_, _, (h.on hb).seek b⟩, fun _ _ _ ⟨_, _, h⟩ hb => ⟨_, _, h.on hb⟩, fun _ _ ⟨_, _, h⟩ => h.bad⟩
theorem timG : TimJ w0 g O E Rd s (JG w0 g O E V Rd bP s N vN vP) :=
  ⟨fun _ _ ⟨_, _, h⟩ => h.rd, fun _ _ _ b ⟨_, _, h⟩ hb => ⟨_, _, (h.on hb).seek b⟩, fun _ _ _ ⟨_, _, h⟩ hb => ⟨_, _, h.on hb⟩, fun _ _ ⟨_, _, h⟩ => h.bad⟩
theorem timP : TimJ w0 g O E Rd s (JP w0 g O E V Rd bP L s N G vN vG) :=
  ⟨fun _ _ ⟨_, h, _⟩ => h.rd, fun _ _ _ b ⟨_, h, k⟩ hb => ⟨_, (h.on hb).seek b, (k.below hb k.lt).off (p := ⟨Rd, 1, none⟩) ((k.below hb k.lt).apart (h.on hb).rd (by decide)) _⟩, fun _ _ _ ⟨_, h, k⟩ hb => ⟨_, h.on hb, k.below hb k.lt⟩, fun _ _ ⟨_, h, _⟩ => h.bad⟩
end

set_option maxHeartbeats 3200000 in
theorem timesN_any (w0 : World) (g O E Rd V : Nat) (s : List UInt8) (J : PS → World → Prop) (TJ : TimJ w0 g O E Rd s J) (hs : s.length ≤ 4294967296)
    (hstep : ∀ σ w, σ.Ok s → J σ w → Calls Tryz.prog 28 #[.pointer (some ⟨V, 0, none⟩), .pointer (some ⟨O, 0, none⟩)] w fun e w' =>
      match stepN s σ with
      | some τ => e = .returned (.tuple #[]) ∧ J τ w'
      | none => PanB (DBad w0 g O E) e w')
    (σ : PS) (w : World) (ho : σ.Ok s) (h : J σ w) :
    Calls Tryz.prog 27 #[.pointer (some ⟨Rd, 0, none⟩), .func (.func 28) #[] #[.pointer (some ⟨V, 0, none⟩), .pointer (some ⟨O, 0, none⟩)]] w fun e w' =>
      match timesP s (stepN s) σ with
      | some τ => e = .returned (.tuple #[]) ∧ J τ w'
      | none => PanB (DBad w0 g O E) e w' := by
  have lo := ho.lo
  have hi2 := ho.hi
  have H0 := hidden (TJ.on _ _ _ h (Below.refl _ _).drew)
  have r0 := (TJ.rd _ _ H0.out).cell 0
  have HTJ := hidden TJ
  have HSZ := hidden (show (⟨s.toArray⟩ : ByteArray).size = s.length by simp [ByteArray.size])
  have S0 := hidden (number_any Rd s σ.a w.drew (TJ.rd _ _ H0.out) (by omega) (by omega) (by omega))
  have HST := hidden hstep
  obtain ⟨T, hT⟩ : ∃ T, timesP s (stepN s) σ = T := ⟨_, rfl⟩
  have HT := hidden hT
  rw [hT]
  clear hT h hstep TJ
  by_cases he : (readU s σ.a).2.2 = 0
  · obtain ⟨r, hr⟩ : ∃ r, min (readU s σ.a).1 4611686018427387904 = r := ⟨_, rfl⟩
    obtain ⟨b, hb⟩ : ∃ b, (readU s σ.a).2.1 = b := ⟨_, rfl⟩
    have hx := numP_of he hr hb
    obtain ⟨p1, p2, p3, p4⟩ := numP_ok hx
    simp only at p1 p3 p4
    have S1 := hidden (S0.out.mono fun _ _ h => h.elim (fun k => k.2) fun k => absurd he k.1)
    rw [hr, hb] at S1
    have HI := hidden (show iter (stepN s) (min r (s.length + 1)) { σ with a := b } = T by rw [← HT.out, timesP, hx, Option.bind_some])
    have HOK := hidden (ho.seek (b := b) (by omega) p4)
    clear hr hb he S0 hx HT ho
    obtain ⟨S, hS⟩ : ∃ S, (⟨s.toArray⟩ : ByteArray) = S := ⟨_, rfl⟩
    have hsz := HSZ.out
    rw [hS] at r0 hsz
    have HS := hidden hS
    clear hS
    obtain ⟨n, hn⟩ : ∃ n, min r (s.length + 1) = n := ⟨_, rfl⟩
    have HN2 := hidden (show min (r : Int) (IntKind.i64.wrap ((s.length : Int) + 1)) = (n : Int) by rw [Go.IntWalk.i64_in _ (by omega)]; omega)
    have hnb : n ≤ 4294967297 := by omega
    rw [hn] at HI
    clear hn
    go_enter Tryz.func27, Tryz.ntmps27
    go_upto_region 0 with (fail)
    go_cut [12, 13] (fun u v wx => u = .int .i64 (n : Int) ∧ v = .int .i64 0 ∧ Hid (J { σ with a := b } wx))
    case first =>
      go_region_law (first
        | (go_simp; go_at_call 29; refine S1.out.mono ?_; rintro e w' ⟨w1, rfl, b1, rfl⟩; have D2 := hidden (HTJ.out.seek _ _ _ b H0.out b1); generalize w1.setCell ⟨Rd, 1, none⟩ (.int .i64 b) = w2 at D2 ⊢; have r2 := (HTJ.out.rd _ _ D2.out).cell 0; rw [HS.out] at r2; clear b1))
      all_goals
        go_wp2_with fail
        go_meet
        exact ⟨congrArg (Value.int .i64) HN2.out, rfl, D2⟩
    case rest =>
      obtain ⟨rfl, rfl, hJ⟩ := hcut
      clear S1 H0 r0 HN2 HS
      go_wp2_with fail
      go_loopw [13] (fun vi wr => ∃ (k : Nat) (τ : PS), k ≤ n ∧ vi = .int .i64 k ∧ Hid (iter (stepN s) k { σ with a := b } = some τ) ∧ Hid (τ.Ok s) ∧ Hid (J τ wr)) (fun vi _ => n - (intOf vi).toNat)
      case atStart => exact ⟨0, _, Nat.zero_le _, rfl, hidden rfl, HOK, hJ⟩
      case round =>
        obtain ⟨k, τ, hk, rfl, HK, HOt, HJ⟩ := hrel
        have k0 : (0 : Int) ≤ (k : Int) := by omega
        by_cases hlt : k < n
        · have k1 : (k : Int) < (n : Int) := by omega
          have S2 := hidden (HST.out _ _ HOt.out HJ.out)
          obtain ⟨U, hU⟩ : ∃ U, stepN s τ = U := ⟨_, rfl⟩
          rw [hU] at S2
          cases U with
          | some ρ =>
            have HU := hidden (show iter (stepN s) (k + 1) { σ with a := b } = some ρ by rw [iter_snoc, HK.out, Option.bind_some, hU])
            have HR := hidden (stepN_ok HOt.out hU)
            clear hU
            simp only at S2
            go_wp2_with fail
            refine S2.out.mono ?_
            rintro e w' ⟨rfl, hJ2⟩
            have HJ2 := hidden hJ2
            clear hJ2 S2
            go_wp2_with fail
            exact ⟨⟨k + 1, ρ, by omega, rfl, HU, HR, HJ2⟩, by simp only [intOf]; omega⟩
          | none =>
            obtain rfl : none = T := by rw [← HI.out]; exact (iter_none (by rw [iter_snoc, HK.out, Option.bind_some, hU]) (show k + 1 ≤ n by omega)).symm
            clear hU
            simp only at S2
            go_wp2_with fail
            refine S2.out.mono ?_
            rintro e w' ⟨t, x, rfl, hbad⟩
            go_wp2_with fail
            exact ⟨rfl, _, _, rfl, hbad⟩
        · obtain rfl : k = n := by omega
          obtain rfl : some τ = T := by rw [← HI.out, HK.out]
          go_wp2_with fail
          go_end0
          exact ⟨rfl, HJ.out⟩
  · obtain rfl : none = T := by rw [← HT.out, timesP, numP_no he]; rfl
    have S1 := hidden (S0.out.mono fun _ _ h => h.elim (fun k => absurd k.1 he) fun k => k.2)
    go_enter Tryz.func27, Tryz.ntmps27
    go_wp2_with fail
    go_region_dies
    all_goals
      refine S1.out.mono ?_
      rintro e w' ⟨t, x, rfl, b1⟩
      exact ⟨rfl, _, _, rfl, HTJ.out.bad _ _ (HTJ.out.on _ _ _ H0.out b1)⟩

set_option maxHeartbeats 3200000 in
theorem timesP_any (w0 : World) (g O E Rd V L : Nat) (s : List UInt8) (J : PS → World → Prop) (TJ : TimJ w0 g O E Rd s J) (hs : s.length ≤ 4294967296)
    (hstep : ∀ σ w, σ.Ok s → J σ w → Calls Tryz.prog 32 #[.pointer (some ⟨L, 0, none⟩), .pointer (some ⟨V, 0, none⟩), .pointer (some ⟨O, 0, none⟩)] w fun e w' =>
      match stepP s σ with
      | some τ => e = .returned (.tuple #[]) ∧ J τ w'
      | none => PanB (DBad w0 g O E) e w')
    (σ : PS) (w : World) (ho : σ.Ok s) (h : J σ w) :
    Calls Tryz.prog 27 #[.pointer (some ⟨Rd, 0, none⟩), .func (.func 32) #[] #[.pointer (some ⟨L, 0, none⟩), .pointer (some ⟨V, 0, none⟩), .pointer (some ⟨O, 0, none⟩)]] w fun e w' =>
      match timesP s (stepP s) σ with
      | some τ => e = .returned (.tuple #[]) ∧ J τ w'
      | none => PanB (DBad w0 g O E) e w' := by
  have lo := ho.lo
  have hi2 := ho.hi
  have H0 := hidden (TJ.on _ _ _ h (Below.refl _ _).drew)
  have r0 := (TJ.rd _ _ H0.out).cell 0
  have HTJ := hidden TJ
  have HSZ := hidden (show (⟨s.toArray⟩ : ByteArray).size = s.length by simp [ByteArray.size])
  have S0 := hidden (number_any Rd s σ.a w.drew (TJ.rd _ _ H0.out) (by omega) (by omega) (by omega))
  have HST := hidden hstep
  obtain ⟨T, hT⟩ : ∃ T, timesP s (stepP s) σ = T := ⟨_, rfl⟩
  have HT := hidden hT
  rw [hT]
  clear hT h hstep TJ
  by_cases he : (readU s σ.a).2.2 = 0
  · obtain ⟨r, hr⟩ : ∃ r, min (readU s σ.a).1 4611686018427387904 = r := ⟨_, rfl⟩
    obtain ⟨b, hb⟩ : ∃ b, (readU s σ.a).2.1 = b := ⟨_, rfl⟩
    have hx := numP_of he hr hb
    obtain ⟨p1, p2, p3, p4⟩ := numP_ok hx
    simp only at p1 p3 p4
    have S1 := hidden (S0.out.mono fun _ _ h => h.elim (fun k => k.2) fun k => absurd he k.1)
    rw [hr, hb] at S1
    have HI := hidden (show iter (stepP s) (min r (s.length + 1)) { σ with a := b } = T by rw [← HT.out, timesP, hx, Option.bind_some])
    have HOK := hidden (ho.seek (b := b) (by omega) p4)
    clear hr hb he S0 hx HT ho
    obtain ⟨S, hS⟩ : ∃ S, (⟨s.toArray⟩ : ByteArray) = S := ⟨_, rfl⟩
    have hsz := HSZ.out
    rw [hS] at r0 hsz
    have HS := hidden hS
    clear hS
    obtain ⟨n, hn⟩ : ∃ n, min r (s.length + 1) = n := ⟨_, rfl⟩
    have HN2 := hidden (show min (r : Int) (IntKind.i64.wrap ((s.length : Int) + 1)) = (n : Int) by rw [Go.IntWalk.i64_in _ (by omega)]; omega)
    have hnb : n ≤ 4294967297 := by omega
    rw [hn] at HI
    clear hn
    go_enter Tryz.func27, Tryz.ntmps27
    go_upto_region 0 with (fail)
    go_cut [12, 13] (fun u v wx => u = .int .i64 (n : Int) ∧ v = .int .i64 0 ∧ Hid (J { σ with a := b } wx))
    case first =>
      go_region_law (first
        | (go_simp; go_at_call 29; refine S1.out.mono ?_; rintro e w' ⟨w1, rfl, b1, rfl⟩; have D2 := hidden (HTJ.out.seek _ _ _ b H0.out b1); generalize w1.setCell ⟨Rd, 1, none⟩ (.int .i64 b) = w2 at D2 ⊢; have r2 := (HTJ.out.rd _ _ D2.out).cell 0; rw [HS.out] at r2; clear b1))
      all_goals
        go_wp2_with fail
        go_meet
        exact ⟨congrArg (Value.int .i64) HN2.out, rfl, D2⟩
    case rest =>
      obtain ⟨rfl, rfl, hJ⟩ := hcut
      clear S1 H0 r0 HN2 HS
      go_wp2_with fail
      go_loopw [13] (fun vi wr => ∃ (k : Nat) (τ : PS), k ≤ n ∧ vi = .int .i64 k ∧ Hid (iter (stepP s) k { σ with a := b } = some τ) ∧ Hid (τ.Ok s) ∧ Hid (J τ wr)) (fun vi _ => n - (intOf vi).toNat)
      case atStart => exact ⟨0, _, Nat.zero_le _, rfl, hidden rfl, HOK, hJ⟩
      case round =>
        obtain ⟨k, τ, hk, rfl, HK, HOt, HJ⟩ := hrel
        have k0 : (0 : Int) ≤ (k : Int) := by omega
        by_cases hlt : k < n
        · have k1 : (k : Int) < (n : Int) := by omega
          have S2 := hidden (HST.out _ _ HOt.out HJ.out)
          obtain ⟨U, hU⟩ : ∃ U, stepP s τ = U := ⟨_, rfl⟩
          rw [hU] at S2
          cases U with
          | some ρ =>
            have HU := hidden (show iter (stepP s) (k + 1) { σ with a := b } = some ρ by rw [iter_snoc, HK.out, Option.bind_some, hU])
            have HR := hidden (stepP_ok HOt.out hU)
            clear hU
            simp only at S2
            go_wp2_with fail
            refine S2.out.mono ?_
            rintro e w' ⟨rfl, hJ2⟩
            have HJ2 := hidden hJ2
            clear hJ2 S2
            go_wp2_with fail
            exact ⟨⟨k + 1, ρ, by omega, rfl, HU, HR, HJ2⟩, by simp only [intOf]; omega⟩
          | none =>
            obtain rfl : none = T := by rw [← HI.out]; exact (iter_none (by rw [iter_snoc, HK.out, Option.bind_some, hU]) (show k + 1 ≤ n by omega)).symm
            clear hU
            simp only at S2
            go_wp2_with fail
            refine S2.out.mono ?_
            rintro e w' ⟨t, x, rfl, hbad⟩
            go_wp2_with fail
            exact ⟨rfl, _, _, rfl, hbad⟩
        · obtain rfl : k = n := by omega
          obtain rfl : some τ = T := by rw [← HI.out, HK.out]
          go_wp2_with fail
          go_end0
          exact ⟨rfl, HJ.out⟩
  · obtain rfl : none = T := by rw [← HT.out, timesP, numP_no he]; rfl
    have S1 := hidden (S0.out.mono fun _ _ h => h.elim (fun k => absurd k.1 he) fun k => k.2)
    go_enter Tryz.func27, Tryz.ntmps27
    go_wp2_with fail
    go_region_dies
    all_goals
      refine S1.out.mono ?_
      rintro e w' ⟨t, x, rfl, b1⟩
      exact ⟨rfl, _, _, rfl, HTJ.out.bad _ _ (HTJ.out.on _ _ _ H0.out b1)⟩

set_option maxHeartbeats 3200000 in
theorem timesG_any (w0 : World) (g O E Rd V : Nat) (s : List UInt8) (J : PS → World → Prop) (TJ : TimJ w0 g O E Rd s J) (hs : s.length ≤ 4294967296)
    (hstep : ∀ σ w, σ.Ok s → J σ w → Calls Tryz.prog 37 #[.pointer (some ⟨V, 0, none⟩), .pointer (some ⟨O, 0, none⟩)] w fun e w' =>
      match stepG s σ with
      | some τ => e = .returned (.tuple #[]) ∧ J τ w'
      | none => PanB (DBad w0 g O E) e w')
    (σ : PS) (w : World) (ho : σ.Ok s) (h : J σ w) :
    Calls Tryz.prog 27 #[.pointer (some ⟨Rd, 0, none⟩), .func (.func 37) #[] #[.pointer (some ⟨V, 0, none⟩), .pointer (some ⟨O, 0, none⟩)]] w fun e w' =>
      match timesP s (stepG s) σ with
      | some τ => e = .returned (.tuple #[]) ∧ J τ w'
      | none => PanB (DBad w0 g O E) e w' := by
  have lo := ho.lo
  have hi2 := ho.hi
  have H0 := hidden (TJ.on _ _ _ h (Below.refl _ _).drew)
  have r0 := (TJ.rd _ _ H0.out).cell 0
  have HTJ := hidden TJ
  have HSZ := hidden (show (⟨s.toArray⟩ : ByteArray).size = s.length by simp [ByteArray.size])
  have S0 := hidden (number_any Rd s σ.a w.drew (TJ.rd _ _ H0.out) (by omega) (by omega) (by omega))
  have HST := hidden hstep
  obtain ⟨T, hT⟩ : ∃ T, timesP s (stepG s) σ = T := ⟨_, rfl⟩
  have HT := hidden hT
  rw [hT]
  clear hT h hstep TJ
  by_cases he : (readU s σ.a).2.2 = 0
  · obtain ⟨r, hr⟩ : ∃ r, min (readU s σ.a).1 4611686018427387904 = r := ⟨_, rfl⟩
    obtain ⟨b, hb⟩ : ∃ b, (readU s σ.a).2.1 = b := ⟨_, rfl⟩
    have hx := numP_of he hr hb
    obtain ⟨p1, p2, p3, p4⟩ := numP_ok hx
    simp only at p1 p3 p4
    have S1 := hidden (S0.out.mono fun _ _ h => h.elim (fun k => k.2) fun k => absurd he k.1)
    rw [hr, hb] at S1
    have HI := hidden (show iter (stepG s) (min r (s.length + 1)) { σ with a := b } = T by rw [← HT.out, timesP, hx, Option.bind_some])
    have HOK := hidden (ho.seek (b := b) (by omega) p4)
    clear hr hb he S0 hx HT ho
    obtain ⟨S, hS⟩ : ∃ S, (⟨s.toArray⟩ : ByteArray) = S := ⟨_, rfl⟩
    have hsz := HSZ.out
    rw [hS] at r0 hsz
    have HS := hidden hS
    clear hS
    obtain ⟨n, hn⟩ : ∃ n, min r (s.length + 1) = n := ⟨_, rfl⟩
    have HN2 := hidden (show min (r : Int) (IntKind.i64.wrap ((s.length : Int) + 1)) = (n : Int) by rw [Go.IntWalk.i64_in _ (by omega)]; omega)
    have hnb : n ≤ 4294967297 := by omega
    rw [hn] at HI
    clear hn
    go_enter Tryz.func27, Tryz.ntmps27
    go_upto_region 0 with (fail)
    go_cut [12, 13] (fun u v wx => u = .int .i64 (n : Int) ∧ v = .int .i64 0 ∧ Hid (J { σ with a := b } wx))
    case first =>
      go_region_law (first
        | (go_simp; go_at_call 29; refine S1.out.mono ?_; rintro e w' ⟨w1, rfl, b1, rfl⟩; have D2 := hidden (HTJ.out.seek _ _ _ b H0.out b1); generalize w1.setCell ⟨Rd, 1, none⟩ (.int .i64 b) = w2 at D2 ⊢; have r2 := (HTJ.out.rd _ _ D2.out).cell 0; rw [HS.out] at r2; clear b1))
      all_goals
        go_wp2_with fail
        go_meet
        exact ⟨congrArg (Value.int .i64) HN2.out, rfl, D2⟩
    case rest =>
      obtain ⟨rfl, rfl, hJ⟩ := hcut
      clear S1 H0 r0 HN2 HS
      go_wp2_with fail
      go_loopw [13] (fun vi wr => ∃ (k : Nat) (τ : PS), k ≤ n ∧ vi = .int .i64 k ∧ Hid (iter (stepG s) k { σ with a := b } = some τ) ∧ Hid (τ.Ok s) ∧ Hid (J τ wr)) (fun vi _ => n - (intOf vi).toNat)
      case atStart => exact ⟨0, _, Nat.zero_le _, rfl, hidden rfl, HOK, hJ⟩
      case round =>
        obtain ⟨k, τ, hk, rfl, HK, HOt, HJ⟩ := hrel
        have k0 : (0 : Int) ≤ (k : Int) := by omega
        by_cases hlt : k < n
        · have k1 : (k : Int) < (n : Int) := by omega
          have S2 := hidden (HST.out _ _ HOt.out HJ.out)
          obtain ⟨U, hU⟩ : ∃ U, stepG s τ = U := ⟨_, rfl⟩
          rw [hU] at S2
          cases U with
          | some ρ =>
            have HU := hidden (show iter (stepG s) (k + 1) { σ with a := b } = some ρ by rw [iter_snoc, HK.out, Option.bind_some, hU])
            have HR := hidden (stepG_ok HOt.out hU)
            clear hU
            simp only at S2
            go_wp2_with fail
            refine S2.out.mono ?_
            rintro e w' ⟨rfl, hJ2⟩
            have HJ2 := hidden hJ2
            clear hJ2 S2
            go_wp2_with fail
            exact ⟨⟨k + 1, ρ, by omega, rfl, HU, HR, HJ2⟩, by simp only [intOf]; omega⟩
          | none =>
            obtain rfl : none = T := by rw [← HI.out]; exact (iter_none (by rw [iter_snoc, HK.out, Option.bind_some, hU]) (show k + 1 ≤ n by omega)).symm
            clear hU
            simp only at S2
            go_wp2_with fail
            refine S2.out.mono ?_
            rintro e w' ⟨t, x, rfl, hbad⟩
            go_wp2_with fail
            exact ⟨rfl, _, _, rfl, hbad⟩
        · obtain rfl : k = n := by omega
          obtain rfl : some τ = T := by rw [← HI.out, HK.out]
          go_wp2_with fail
          go_end0
          exact ⟨rfl, HJ.out⟩
  · obtain rfl : none = T := by rw [← HT.out, timesP, numP_no he]; rfl
    have S1 := hidden (S0.out.mono fun _ _ h => h.elim (fun k => absurd k.1 he) fun k => k.2)
    go_enter Tryz.func27, Tryz.ntmps27
    go_wp2_with fail
    go_region_dies
    all_goals
      refine S1.out.mono ?_
      rintro e w' ⟨t, x, rfl, b1⟩
      exact ⟨rfl, _, _, rfl, HTJ.out.bad _ _ (HTJ.out.on _ _ _ H0.out b1)⟩
end Go.Proofs.YtdggnnjjiolldaaGreat
