/- The library's stable sort at blocks' infos: stableCmpFunc, over any program that bears its bodies. -/
import Derived.Test.YtohocdbneopooaaStabInfo
namespace Go.Proofs.Ytohocdbneopooaa.StabInfo
set_option maxRecDepth 100000
open Go.Shelf Go.RowKit Go.Lib Go.Sort

section
variable {P : Program} {α : Type} [Inhabited α] (k : Nat) (L : Bears P k) (enc : α → List Value)
include L
section
variable (cf : α → α → Int) (g : Nat) (cb : Array Value) (blk off cap : Nat) (d0 : Array α) (w0 : World)

omit L in
/-- what is asked of the insertion sort -/
def InsOk : Prop := ∀ (a b : Nat) (d : Array α) (w : World), a ≤ b → b ≤ d0.size → d.size = d0.size → SWK enc k w0 blk off d w →
  Calls P 142 #[.slice (some ⟨blk, off, none⟩) d0.size cap, .int .i64 a, .int .i64 b, .func (.func g) #[] cb] w fun e w' => e = .returned (.tuple #[]) ∧ SWK enc k w0 blk off (insertionSort (ltOf cf) d a b) w'

omit L in
theorem ins_i (HI : InsOk (P := P) k enc cf g cb blk off cap d0 w0) (a b : Nat) (ai bi : Int) (d : Array α) (w : World) (ea : ai = a) (eb : bi = b) (hab : a ≤ b) (hb : b ≤ d0.size) (hs : d.size = d0.size) (S : SWK enc k w0 blk off d w) :
    Calls P 142 #[.slice (some ⟨blk, off, none⟩) d0.size cap, .int .i64 ai, .int .i64 bi, .func (.func g) #[] cb] w fun e w' => e = .returned (.tuple #[]) ∧ SWK enc k w0 blk off (insertionSort (ltOf cf) d a b) w' := by
  subst ea eb
  exact HI a b d w hab hb hs S

set_option maxHeartbeats 12800000 in
theorem stable_any (eg : ∀ args w, (callFunc g args).run P w = .ok (.enter g args) w) (hC : CmpLays P g cb enc k cf blk off d0.size w0) (R : RowK enc k w0 blk off d0) (HI : InsOk (P := P) k enc cf g cb blk off cap d0 w0) (hsz : d0.size < 1152921504606846976) (w : World) (S : SWK enc k w0 blk off d0 w) :
    Calls P 124 #[.slice (some ⟨blk, off, none⟩) d0.size cap, .int .i64 (d0.size : Nat), .func (.func g) #[] cb] w fun e w' => e = .returned (.tuple #[]) ∧ SWK enc k w0 blk off (stable (ltOf cf) d0.size d0) w' := by
  have mixed := L.mixed; have t0 := L.t0; have a0 := L.a0; have z0 := L.z0; have v0 := L.v0; have t3 := L.t3; have a3 := L.a3; have z3 := L.z3; have v3 := L.v3; have t4 := L.t4; have a4 := L.a4; have z4 := L.z4; have v4 := L.v4; have ts := L.ts; have as_ := L.as_; have zs := L.zs; have vs := L.vs; have tf := L.tf; have af := L.af; have zf := L.zf; have vf := L.vf; have aE := L.aE; have zE := L.zE
  have us := run_underlying L.ts
  have esym := L.esym
  have eins := L.eins
  have HL := hidden L
  have HS := hidden S
  have HR := hidden R
  have HC := hidden hC
  have HIN := hidden HI
  obtain ⟨n, hn⟩ : ∃ n, d0.size = n := ⟨_, rfl⟩
  have HN := hidden hn
  rw [hn] at hsz ⊢
  clear S R hC HI hn
  go_enter L.fstab, Try.ntmps124
  go_wp2_with fail
  go_loopg [7, 8] n (fun g1 va vb wr => ∃ (a : Nat) (dk : Array α), va = .int .i64 a ∧ vb = .int .i64 ((a + 20 : Nat) : Int) ∧ a ≤ n ∧ n - a ≤ g1 ∧ Hid (dk.size = d0.size) ∧ Hid (SWK enc k w0 blk off dk wr) ∧ Hid (insBlocks (ltOf cf) n a dk = insBlocks (ltOf cf) n 0 d0))
  case atStart => exact ⟨0, d0, rfl, rfl, Nat.zero_le _, Nat.le_refl _, rfl, HS.out, rfl⟩
  case round =>
    obtain ⟨a, dk, rfl, rfl, han, hg1, hsk, hS, hO⟩ := hrel
    have hO1 := hO.out
    rw [insBlocks] at hO1
    by_cases hlt : a + 20 ≤ n
    · have hltz : (a : Int) + 20 ≤ (n : Int) := by omega
      rw [if_pos hlt] at hO1
      have HO1 := hidden hO1
      clear hO1
      have hcon := ins_i (P := P) k enc cf g cb blk off cap d0 w0 HIN.out a (a + 20) a ((a : Int) + 20) dk wr rfl (by omega) (by omega) (by rw [HN.out]; exact hlt) hsk.out hS.out
      rw [HN.out] at hcon
      have HCON := hidden hcon
      clear hcon
      go_wp2_with fail
      go_at_call 142
      refine HCON.out.mono ?_
      rintro e w2 ⟨rfl, S2⟩
      have HS2 := hidden S2
      clear S2 HCON
      go_wp2_with fail
      go_roundg (n - (a + 20))
      case measure => omega
      case rel => exact ⟨a + 20, _, by go_num, by go_num, hlt, Nat.le_refl _, hidden ((insertionSort_size (ltOf cf) dk a (a + 20)).trans hsk.out), HS2, HO1⟩
    · have hltz : ¬ (a : Int) + 20 ≤ (n : Int) := by omega
      rw [if_neg hlt] at hO1
      have HO1 := hidden hO1
      clear hO1
      have hcon := ins_i (P := P) k enc cf g cb blk off cap d0 w0 HIN.out a n a n dk wr rfl rfl han (by rw [HN.out]; exact Nat.le_refl _) hsk.out hS.out
      rw [HN.out] at hcon
      have HCON := hidden hcon
      clear hcon
      go_wp2_with fail
      go_at_call 142
      refine HCON.out.mono ?_
      rintro e w2 ⟨rfl, S2⟩
      rw [HO1.out] at S2
      have HS2 := hidden S2
      have HZ := hidden ((insertionSort_size (ltOf cf) dk a n).trans hsk.out)
      rw [HO1.out] at HZ
      obtain ⟨D, hD⟩ : ∃ D, insBlocks (ltOf cf) n 0 d0 = D := ⟨_, rfl⟩
      rw [hD] at HS2 HZ
      have HD := hidden hD
      clear S2 HCON hO HO1 hS hsk hlt hltz han hg1 hD
      go_wp2_with fail
      go_loopg [6] n (fun g1 vk wr => ∃ (bk f : Nat) (dk : Array α), vk = .int .i64 bk ∧ 1 ≤ bk ∧ bk ≤ 2 * n + 40 ∧ n ≤ f + bk ∧ n - bk ≤ g1 ∧ Hid (dk.size = d0.size) ∧ Hid (SWK enc k w0 blk off dk wr) ∧ Hid (passes (ltOf cf) n f bk dk = passes (ltOf cf) n n 20 D))
      case atStart => exact ⟨20, n, D, rfl, by omega, by omega, by omega, by omega, HZ, HS2, rfl⟩
      case round =>
        obtain ⟨bk, f, dk, rfl, hbk, hbk2, hf, hg1, hsk, hS, hO⟩ := hrel
        by_cases hlt : bk < n
        · have hltz : (bk : Int) < (n : Int) := by omega
          obtain ⟨f, rfl⟩ : ∃ q, f = q + 1 := ⟨f - 1, by omega⟩
          have hO1 := hO.out
          rw [passes, if_pos hlt] at hO1
          have HO1 := hidden hO1
          obtain ⟨wo, rfl⟩ : ∃ wo : World, wo = wr := ⟨_, rfl⟩
          obtain ⟨dK, hdK⟩ : ∃ dK, dK = dk := ⟨_, rfl⟩
          subst hdK
          clear hO1 hO
          go_wp2_with fail
          go_loopg [7, 8] n (fun g2 va vb wx => ∃ (a fu : Nat) (dx : Array α), va = .int .i64 a ∧ vb = .int .i64 ((a + 2 * bk : Nat) : Int) ∧ a ≤ n ∧ n + 1 ≤ fu + a ∧ n - a ≤ g2 ∧ Hid (dx.size = d0.size) ∧ Hid (SWK enc k w0 blk off dx wx) ∧ Hid (pass (ltOf cf) bk n fu a dx = pass (ltOf cf) bk n (n + 1) 0 dK))
          case atStart => exact ⟨0, n + 1, dK, rfl, by go_num, Nat.zero_le _, Nat.le_refl _, Nat.le_refl _, hsk, hS, rfl⟩
          case round =>
            obtain ⟨a, fu, dx, rfl, rfl, han, hfu, hg2, hskx, hSx, hOx⟩ := hrel
            obtain ⟨fu, rfl⟩ : ∃ q, fu = q + 1 := ⟨fu - 1, by omega⟩
            have hO1 := hOx.out
            rw [pass] at hO1
            by_cases hl2 : a + 2 * bk ≤ n
            · have hl2z : (a : Int) + 2 * (bk : Int) ≤ (n : Int) := by omega
              rw [if_pos hl2] at hO1
              have HO2 := hidden hO1
              clear hO1
              have hcon := symMerge_i k HL.out enc cf g cb blk off cap d0 w0 eg HC.out HR.out (by rw [HN.out]; omega) (2 * bk) a (a + bk) (a + 2 * bk) a ((a : Int) + (bk : Int)) ((a : Int) + 2 * (bk : Int)) dx wr rfl (by omega) (by omega) (by omega) (by omega) (by omega) (by rw [HN.out]; exact hl2) hskx.out hSx.out
              rw [HN.out] at hcon
              have HCON := hidden hcon
              clear hcon
              go_wp2_with fail
              go_at_call 143
              refine HCON.out.mono ?_
              rintro e w3 ⟨rfl, S3⟩
              have HS3 := hidden S3
              clear S3 HCON
              go_wp2_with fail
              go_roundg (n - (a + 2 * bk))
              case measure => omega
              case rel => exact ⟨a + 2 * bk, fu, _, by go_num, by go_num, hl2, by omega, Nat.le_refl _, hidden ((symMerge_size (ltOf cf) _ _ _ _ dx).trans hskx.out), HS3, HO2⟩
            · have hl2z : ¬ (a : Int) + 2 * (bk : Int) ≤ (n : Int) := by omega
              rw [if_neg hl2] at hO1
              by_cases hl3 : a + bk < n
              · have hl3z : (a : Int) + (bk : Int) < (n : Int) := by omega
                rw [if_pos hl3] at hO1
                have HO2 := hidden hO1
                clear hO1
                have hcon := symMerge_i k HL.out enc cf g cb blk off cap d0 w0 eg HC.out HR.out (by rw [HN.out]; omega) (n - a) a (a + bk) n a ((a : Int) + (bk : Int)) n dx wr rfl (by omega) rfl (Nat.le_refl _) (by omega) hl3 (by rw [HN.out]; exact Nat.le_refl _) hskx.out hSx.out
                rw [HN.out] at hcon
                have HCON := hidden hcon
                clear hcon
                go_wp2_with fail
                go_at_call 143
                refine HCON.out.mono ?_
                rintro e w3 ⟨rfl, S3⟩
                rw [HO2.out] at S3
                have HS3 := hidden S3
                have HZ3 := hidden ((symMerge_size (ltOf cf) (n - a) a (a + bk) n dx).trans hskx.out)
                rw [HO2.out] at HZ3
                clear S3 HCON
                go_wp2_with fail
                go_roundg (n - 2 * bk)
                case measure => omega
                case rel => exact ⟨2 * bk, f, _, by go_num, by omega, by omega, by omega, Nat.le_refl _, HZ3, HS3, HO1⟩
              · have hl3z : ¬ (a : Int) + (bk : Int) < (n : Int) := by omega
                rw [if_neg hl3] at hO1
                have HO2 := hidden hO1
                have hS3 := hSx.out
                rw [HO2.out] at hS3
                have HS3 := hidden hS3
                have HZ3 := hskx.out
                rw [HO2.out] at HZ3
                have HZ4 := hidden HZ3
                clear hO1 hS3 HZ3
                go_wp2_with fail
                go_roundg (n - 2 * bk)
                case measure => omega
                case rel => exact ⟨2 * bk, f, _, by go_num, by omega, by omega, by omega, Nat.le_refl _, HZ4, HS3, HO1⟩
        · have hltz : ¬ (bk : Int) < (n : Int) := by omega
          have h1 : passes (ltOf cf) n f bk dk = dk := by
            cases f with
            | zero => rfl
            | succ q => rw [passes, if_neg hlt]
          have h2 := hO.out
          rw [h1] at h2
          have H2 := hidden (h2.trans (by rw [HN.out, stable, HD.out] : passes (ltOf cf) n n 20 D = stable (ltOf cf) d0.size d0))
          clear h1 h2 hlt
          go_wp2
          go_end0
          exact ⟨rfl, by rw [HN.out] at H2; rw [← H2.out]; exact hS.out⟩
end
end
end Go.Proofs.Ytohocdbneopooaa.StabInfo
