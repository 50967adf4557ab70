/- The library's stable sort at windows: what it leaves, over any program that bears its bodies. The library's stable sort at windows: stableCmpFunc, over any program that bears its bodies. -/
import Derived.Test.YtbijjjhfekkfaaaGreatStable
import Derived.Test.YtbijjjhfekkfaaaGreatBase
import Derived.Shelf.SlSortCmp.KitK
import Derived.Deep.LoopGhost
namespace Go.Proofs.YtbijjjhfekkfaaaGreat.StabWin
set_option maxRecDepth 100000
open Go.Shelf Go.RowKit Go.Lib Go.Sort

/-- a program that bears these bodies -/
structure Bears (P : Program) (k : Nat) : Prop where
  mixed : P.follows .mixedOrders = true
  fsw : P.funcs[314]? = some Tryz.f314
  frot : P.funcs[294]? = some Tryz.f294
  fsym : P.funcs[259]? = some Tryz.f259
  fstab : P.funcs[213]? = some Tryz.f213
  fsort : P.funcs[147]? = some Tryz.f147
  esw : ∀ args w, (callFunc 314 args).run P w = .ok (.enter 314 args) w
  erot : ∀ args w, (callFunc 294 args).run P w = .ok (.enter 294 args) w
  esym : ∀ args w, (callFunc 259 args).run P w = .ok (.enter 259 args) w
  estab : ∀ args w, (callFunc 213 args).run P w = .ok (.enter 213 args) w
  eins : ∀ args w, (callFunc 258 args).run P w = .ok (.enter 258 args) w
  t0 : P.underlying 0 = some (TypeDesc.tuple #[])
  a0 : ∀ w, (isAgg 0).run P w = .ok false w
  z0 : ∀ w, (Go.sizeOf 0).run P w = .ok 1 w
  v0 : ∀ w, (zeroValue 0).run P w = .ok (Value.tuple #[]) w
  t3 : P.underlying 3 = some (TypeDesc.int IntKind.i64)
  a3 : ∀ w, (isAgg 3).run P w = .ok false w
  z3 : ∀ w, (Go.sizeOf 3).run P w = .ok 1 w
  v3 : ∀ w, (zeroValue 3).run P w = .ok (Value.int IntKind.i64 0) w
  t4 : P.underlying 4 = some (TypeDesc.bool)
  a4 : ∀ w, (isAgg 4).run P w = .ok false w
  z4 : ∀ w, (Go.sizeOf 4).run P w = .ok 1 w
  v4 : ∀ w, (zeroValue 4).run P w = .ok (Value.bool false) w
  tu : P.underlying 256 = some (TypeDesc.int IntKind.u64)
  au : ∀ w, (isAgg 256).run P w = .ok false w
  zu : ∀ w, (Go.sizeOf 256).run P w = .ok 1 w
  vu : ∀ w, (zeroValue 256).run P w = .ok (Value.int IntKind.u64 0) w
  ts : P.underlying 55 = some (TypeDesc.slice 159)
  as_ : ∀ w, (isAgg 55).run P w = .ok false w
  zs : ∀ w, (Go.sizeOf 55).run P w = .ok 1 w
  vs : ∀ w, (zeroValue 55).run P w = .ok (Value.slice none 0 0) w
  tf : P.underlying 291 = some (TypeDesc.func #[159, 159] #[3] false)
  af : ∀ w, (isAgg 291).run P w = .ok false w
  zf : ∀ w, (Go.sizeOf 291).run P w = .ok 1 w
  vf : ∀ w, (zeroValue 291).run P w = .ok (Value.nilFunc) w
  aE : ∀ w, (isAgg 159).run P w = .ok true w
  zE : ∀ w, (Go.sizeOf 159).run P w = .ok k w

section
variable {P : Program} {α : Type} [Inhabited α] (k : Nat) (L : Bears P k) (enc : α → List Value)
include L

set_option maxHeartbeats 6400000 in
theorem swapRange_any (cf : Value) (blk off cap a b n : Nat) (d0 d : Array α) (w0 w : World) (R : RowK enc k w0 blk off d0) (hs : d0.size = d.size) (S : SWK enc k w0 blk off d w) (ha : a + n ≤ d.size) (hb : b + n ≤ d.size) (hsz : d.size < 4611686018427387904) :
    Calls P 314 #[.slice (some ⟨blk, off, none⟩) d.size cap, .int .i64 a, .int .i64 b, .int .i64 n, cf] w fun e w' => e = .returned (.tuple #[]) ∧ SWK enc k w0 blk off (swapFrom a b n 0 d) w' := by
  have mixed := L.mixed; have t0 := L.t0; have a0 := L.a0; have z0 := L.z0; have v0 := L.v0; have t3 := L.t3; have a3 := L.a3; have z3 := L.z3; have v3 := L.v3; have t4 := L.t4; have a4 := L.a4; have z4 := L.z4; have v4 := L.v4; have ts := L.ts; have as_ := L.as_; have zs := L.zs; have vs := L.vs; have tf := L.tf; have af := L.af; have zf := L.zf; have vf := L.vf; have aE := L.aE; have zE := L.zE
  have us := run_underlying L.ts
  have HS := hidden S
  have HR := hidden R
  have hsd := hidden hs
  clear S R hs
  go_enter L.fsw, Tryz.ntmps314
  go_wp2
  go_loopg [10] n (fun g1 vi wr => ∃ (i : Nat) (dk : Array α), vi = .int .i64 i ∧ i ≤ n ∧ n - i ≤ g1 ∧ dk.size = d.size ∧ Hid (SWK enc k w0 blk off dk wr) ∧ Hid (swapFrom a b n i dk = swapFrom a b n 0 d))
  case atStart => exact ⟨0, d, rfl, by omega, by omega, rfl, HS.out, rfl⟩
  case round =>
    obtain ⟨i, dk, rfl, hi, hg1, hsk, hS, hO⟩ := hrel
    by_cases hlt : i < n
    · have hltz : (i : Int) < (n : Int) := by omega
      have S1 := hS.out
      have R1 := HR.out
      have hsk0 : dk.size = d0.size := by rw [hsk, hsd.out]
      obtain ⟨xa, hxa⟩ : ∃ x, dk[a + i]! = x := ⟨_, rfl⟩
      obtain ⟨xb, hxb⟩ : ∃ x, dk[b + i]! = x := ⟨_, rfl⟩
      have la : Sem.run P (loadCellsFrom ⟨blk, off + (a + i) * k, none⟩ 0 k #[]) wr.drew = .ok (enc xa).toArray wr.drew := by rw [← hxa]; exact S1.ld1 R1 hsk0 _ (a + i) (by omega)
      have lb : Sem.run P (loadCellsFrom ⟨blk, off + (b + i) * k, none⟩ 0 k #[]) wr.drew = .ok (enc xb).toArray wr.drew := by rw [← hxb]; exact S1.ld1 R1 hsk0 _ (b + i) (by omega)
      have s1 := S1.st1 R1 hsk0 P (a + i) (by omega) xb
      have s2 := S1.st2 R1 hsk0 P (a + i) (b + i) (by omega) (by omega) xb xa
      have hs1 : (enc xa).length = k := R1.hk _
      have hs2 : (enc xb).length = k := R1.hk _
      have z1 : (a : Int) + (i : Int) < (d.size : Int) := by omega
      have z2 : (b : Int) + (i : Int) < (d.size : Int) := by omega
      have HW := hidden (S1.swapped R1 (a + i) (b + i) (by omega) (by omega))
      rw [hxa, hxb] at HW
      have hst : Hid (swapFrom a b n (i + 1) (swp dk (a + i) (b + i)) = swapFrom a b n 0 d) := by
        have := hO.out
        rw [swapFrom, if_pos hlt] at this
        exact this
      obtain ⟨cA, hcA⟩ : ∃ c, c = enc xa := ⟨_, rfl⟩
      obtain ⟨cB, hcB⟩ : ∃ c, c = enc xb := ⟨_, rfl⟩
      rw [← hcA] at la hs1 s2 HW
      rw [← hcB] at lb hs2 s1 s2 HW
      clear S1 R1 hxa hxb hcA hcB
      go_wp2_with fail
      go_big_region_o
      all_goals go_wp2
      go_roundg (n - (i + 1))
      case measure => omega
      case rel => exact ⟨i + 1, swp dk (a + i) (b + i), by go_num, by omega, Nat.le_refl _, by rw [size_swp]; exact hsk, HW, hst⟩
    · obtain rfl : n = i := by omega
      have h1 := hO.out
      rw [swapFrom, if_neg (by omega)] at h1
      have H1 := hidden h1
      clear h1
      go_wp2
      go_end0
      exact ⟨rfl, by rw [← H1.out]; exact hS.out⟩

theorem swapRange_i (cf : Value) (blk off cap a b n : Nat) (ai bi ni : Int) (d0 d : Array α) (w0 w : World) (R : RowK enc k w0 blk off d0) (hs : d0.size = d.size) (S : SWK enc k w0 blk off d w) (ea : ai = a) (eb : bi = b) (en : ni = n) (ha : a + n ≤ d.size) (hb : b + n ≤ d.size) (hsz : d.size < 4611686018427387904) :
    Calls P 314 #[.slice (some ⟨blk, off, none⟩) d.size cap, .int .i64 ai, .int .i64 bi, .int .i64 ni, cf] w fun e w' => e = .returned (.tuple #[]) ∧ SWK enc k w0 blk off (swapFrom a b n 0 d) w' := by
  subst ea eb en
  exact swapRange_any k L enc cf blk off cap a b n d0 d w0 w R hs S ha hb hsz

set_option maxHeartbeats 6400000 in
theorem rotate_any (cf : Value) (blk off cap a m b f : Nat) (d0 d : Array α) (w0 w : World) (R : RowK enc k w0 blk off d0) (hs : d0.size = d.size) (S : SWK enc k w0 blk off d w) (ham : a < m) (hmb : m < b) (hb : b ≤ d.size) (hf : b - a ≤ f + 1) (hsz : d.size < 4611686018427387904) :
    Calls P 294 #[.slice (some ⟨blk, off, none⟩) d.size cap, .int .i64 a, .int .i64 m, .int .i64 b, cf] w fun e w' => e = .returned (.tuple #[]) ∧ SWK enc k w0 blk off (rot m f (m - a) (b - m) d) w' := by
  have mixed := L.mixed; have t0 := L.t0; have a0 := L.a0; have z0 := L.z0; have v0 := L.v0; have t3 := L.t3; have a3 := L.a3; have z3 := L.z3; have v3 := L.v3; have t4 := L.t4; have a4 := L.a4; have z4 := L.z4; have v4 := L.v4; have ts := L.ts; have as_ := L.as_; have zs := L.zs; have vs := L.vs; have tf := L.tf; have af := L.af; have zf := L.zf; have vf := L.vf; have aE := L.aE; have zE := L.zE
  have us := run_underlying L.ts
  have esw := L.esw
  have HL := hidden L
  have HS := hidden S
  have HR := hidden R
  have hsd := hidden hs
  clear S R hs
  go_enter L.frot, Tryz.ntmps294
  go_wp2
  go_loopg [10, 11] (b - a) (fun g1 vi vj wr => ∃ (i j f' : Nat) (dk : Array α), vi = .int .i64 i ∧ vj = .int .i64 j ∧ 0 < i ∧ 0 < j ∧ i ≤ m ∧ m + j ≤ d.size ∧ i + j ≤ f' + 1 ∧ i + j ≤ g1 ∧ Hid (dk.size = d.size) ∧ Hid (SWK enc k w0 blk off dk wr) ∧ Hid (rot m f' i j dk = rot m f (m - a) (b - m) d))
  case atStart => exact ⟨m - a, b - m, f, d, by go_num, by go_num, by omega, by omega, by omega, by omega, by omega, by omega, rfl, HS.out, rfl⟩
  case round =>
    obtain ⟨i, j, f', dk, rfl, rfl, hi, hj, him, hmj, hf', hg1, hsk, hS, hO⟩ := hrel
    obtain ⟨f', rfl⟩ : ∃ q, f' = q + 1 := ⟨f' - 1, by omega⟩
    have hrt := hO.out
    rw [rot] at hrt
    have S1 := hS.out
    have hsk0 : Hid (d0.size = dk.size) := hidden (hsd.out.trans hsk.out.symm)
    have HSK := hidden hsk.out
    by_cases hij : i = j
    · subst hij
      rw [if_pos rfl] at hrt
      have HT := hidden hrt
      have HZ := hidden S1
      clear hrt S1
      have hne : ((i : Int) != (i : Int)) = false := by simp
      go_wp2_with fail
      have hcon := swapRange_i k HL.out enc cf blk off cap (m - i) m i ((m : Int) - (i : Int)) m i d0 dk w0 _ HR.out hsk0.out HZ.out (by omega) rfl rfl (by rw [HSK.out]; omega) (by rw [HSK.out]; exact hmj) (by rw [HSK.out]; exact hsz)
      rw [HSK.out] at hcon
      go_at_call 314
      refine hcon.mono ?_
      rintro e w2 ⟨rfl, S2⟩
      rw [HT.out] at S2
      have HS2 := hidden S2
      clear S2 hcon
      go_wp2
      go_end0
      exact ⟨rfl, HS2.out⟩
    · rw [if_neg hij] at hrt
      have hne : ((i : Int) != (j : Int)) = true := by simp; omega
      by_cases hlt : j < i
      · rw [if_pos hlt] at hrt
        have hltz : (j : Int) < (i : Int) := by omega
        have HT := hidden hrt
        have HZ := hidden S1
        clear hrt S1
        go_wp2_with fail
        have hcon := swapRange_i k HL.out enc cf blk off cap (m - i) m j ((m : Int) - (i : Int)) m j d0 dk w0 _ HR.out hsk0.out HZ.out (by omega) rfl rfl (by rw [HSK.out]; omega) (by rw [HSK.out]; exact hmj) (by rw [HSK.out]; exact hsz)
        rw [HSK.out] at hcon
        go_at_call 314
        refine hcon.mono ?_
        rintro e w2 ⟨rfl, S2⟩
        have HS2 := hidden S2
        have hz2 := hidden ((swapFrom_spec (m - i) m j (by omega) _ 0 dk rfl (by omega) (by rw [HSK.out]; exact hmj)).1.trans HSK.out)
        clear S2 hcon
        go_wp2_with fail
        go_roundg (i - j + j)
        case measure => omega
        case rel => exact ⟨i - j, j, f', _, by go_num, rfl, by omega, hj, by omega, hmj, by omega, Nat.le_refl _, hz2, HS2, HT⟩
      · rw [if_neg hlt] at hrt
        have hltz : ¬ (j : Int) < (i : Int) := by omega
        have HT := hidden hrt
        have HZ := hidden S1
        clear hrt S1
        go_wp2_with fail
        have hcon := swapRange_i k HL.out enc cf blk off cap (m - i) (m + j - i) i ((m : Int) - (i : Int)) ((m : Int) + (j : Int) - (i : Int)) i d0 dk w0 _ HR.out hsk0.out HZ.out (by omega) (by omega) rfl (by rw [HSK.out]; omega) (by rw [HSK.out]; omega) (by rw [HSK.out]; exact hsz)
        rw [HSK.out] at hcon
        go_at_call 314
        refine hcon.mono ?_
        rintro e w2 ⟨rfl, S2⟩
        have HS2 := hidden S2
        have hz2 := hidden ((swapFrom_spec (m - i) (m + j - i) i (by omega) _ 0 dk rfl (by omega) (by rw [HSK.out]; omega)).1.trans HSK.out)
        clear S2 hcon
        go_wp2_with fail
        go_roundg (i + (j - i))
        case measure => omega
        case rel => exact ⟨i, j - i, f', _, rfl, by go_num, hi, by omega, him, by omega, by omega, Nat.le_refl _, hz2, HS2, HT⟩

section
variable (cf : α → α → Int) (g : Nat) (cb : Array Value) (blk off cap : Nat) (d0 : Array α) (w0 : World)

set_option maxHeartbeats 6400000 in
theorem symA (eg : ∀ args w, (callFunc g args).run P w = .ok (.enter g args) w) (hC : CmpLays P g cb enc k cf blk off d0.size w0) (R : RowK enc k w0 blk off d0) (f a m b : Nat) (d : Array α) (w : World) (hs : d0.size = d.size) (S : SWK enc k w0 blk off d w) (hm : m - a = 1) (ham : a < m) (hmb : m < b) (hb : b ≤ d.size) (hsz : d.size < 4611686018427387904) :
    Calls P 259 #[.slice (some ⟨blk, off, none⟩) d.size cap, .int .i64 a, .int .i64 m, .int .i64 b, .func (.func g) #[] cb] w fun e w' => e = .returned (.tuple #[]) ∧ SWK enc k w0 blk off (symMerge (ltOf cf) (f + 1) a m b d) w' := by
  have mixed := L.mixed; have t0 := L.t0; have a0 := L.a0; have z0 := L.z0; have v0 := L.v0; have t3 := L.t3; have a3 := L.a3; have z3 := L.z3; have v3 := L.v3; have t4 := L.t4; have a4 := L.a4; have z4 := L.z4; have v4 := L.v4; have ts := L.ts; have as_ := L.as_; have zs := L.zs; have vs := L.vs; have tf := L.tf; have af := L.af; have zf := L.zf; have vf := L.vf; have aE := L.aE; have zE := L.zE
  have us := run_underlying L.ts
  have tu := L.tu; have au := L.au; have zu := L.zu; have vu := L.vu
  have uu := run_underlying L.tu
  have u3 := run_underlying L.t3
  have HL := hidden L
  have HS := hidden S
  have HR := hidden R
  have HC := hidden hC
  have hsd := hidden hs
  have hres : Hid (symMerge (ltOf cf) (f + 1) a m b d = moveUp (bsr (fun h => ltOf cf d[h]! d[a]!) m b - 1) a d) := by
    show _ = _
    rw [symMerge, if_pos hm]
  have e1 : ((m : Int) - (a : Int) == 1) = true := by simp; omega
  clear S R hs hC
  go_enter L.fsym, Tryz.ntmps259
  go_wp2_with fail
  go_loopg [10, 11] (b - m) (fun g1 vi vj wr => ∃ (i j : Nat), vi = .int .i64 i ∧ vj = .int .i64 j ∧ m ≤ i ∧ i ≤ j ∧ j ≤ b ∧ j - i ≤ g1 ∧ Hid (SWK enc k w0 blk off d wr) ∧ Hid (bsr (fun h => ltOf cf d[h]! d[a]!) i j = bsr (fun h => ltOf cf d[h]! d[a]!) m b))
  case atStart => exact ⟨m, b, rfl, rfl, Nat.le_refl _, by omega, Nat.le_refl _, Nat.le_refl _, HS.out, rfl⟩
  case round =>
    obtain ⟨i, j, rfl, rfl, hmi, hij, hjb, hg1, hS, hO⟩ := hrel
    by_cases hlt : i < j
    · have hltz : (i : Int) < (j : Int) := by omega
      go_upto_region 5 with (fail)
      obtain ⟨h, hh⟩ : ∃ h : Nat, ((i : Int) + (j : Int)) / 2 = (h : Int) := ⟨(i + j) / 2, by omega⟩
      rw [hh]
      have hn : (i + j) / 2 = h := by omega
      have hb1 : i ≤ h ∧ h < j := by omega
      have hO1 := hO.out
      rw [bsr, if_pos hlt, hn] at hO1
      obtain ⟨hb1, hb2⟩ := hb1
      have z1 : (h : Int) < (d.size : Int) := by omega
      have z2 : (a : Int) < (d.size : Int) := by omega
      obtain ⟨xx, hxx⟩ : ∃ x, d[h]! = x := ⟨_, rfl⟩
      obtain ⟨yy, hyy⟩ : ∃ x, d[a]! = x := ⟨_, rfl⟩
      have lx : ∀ n' os', Sem.run P (loadCellsFrom ⟨blk, off + (h) * k, none⟩ 0 k #[]) (grow (wr.drewN n') os') = .ok (enc xx).toArray (grow (wr.drewN n') os') := fun n' os' => by rw [← hxx]; exact hS.out.ld HR.out hsd.out.symm P (h) (by omega) n' os'
      have ly : ∀ n' os', Sem.run P (loadCellsFrom ⟨blk, off + (a) * k, none⟩ 0 k #[]) (grow (wr.drewN n') os') = .ok (enc yy).toArray (grow (wr.drewN n') os') := fun n' os' => by rw [← hyy]; exact hS.out.ld HR.out hsd.out.symm P (a) (by omega) n' os'
      have hcg : ∀ n' os', Calls P g (#[.agg (enc xx).toArray, .agg (enc yy).toArray] ++ cb) (grow (wr.drewN n') os') fun e w' => e = .returned (.int .i64 (cf xx yy)) ∧ ∃ q os'', w' = grow ((grow (wr.drewN n') os').drewN q) os'' := fun n' os' => hS.out.cmp HC.out hsd.out.symm xx yy n' os'
      by_cases hlv : cf xx yy < 0
      · have hp : ltOf cf d[h]! d[a]! = true := by rw [hxx, hyy]; exact decide_eq_true hlv
        rw [if_pos hp] at hO1
        have HO1 := hidden hO1
        clear hO1 hp hxx hyy hn hh
        go_quiet_grown (first | (go_at_fn g; refine Calls.grown_of (hcg _ _)))
        clear lx ly hcg
        go_wp2_with fail
        go_roundg (j - (h + 1))
        case measure => omega
        case rel => exact ⟨h + 1, j, by go_num, rfl, by omega, by omega, hjb, Nat.le_refl _, hidden (hS.out.grown _ _), HO1⟩
      · have hp : ltOf cf d[h]! d[a]! = false := by rw [hxx, hyy]; exact decide_eq_false hlv
        rw [hp, if_neg (by decide)] at hO1
        have HO1 := hidden hO1
        clear hO1 hp hxx hyy hn hh
        go_quiet_grown (first | (go_at_fn g; refine Calls.grown_of (hcg _ _)))
        clear lx ly hcg
        go_wp2_with fail
        go_roundg (h - i)
        case measure => omega
        case rel => exact ⟨i, h, rfl, rfl, by omega, by omega, by omega, Nat.le_refl _, hidden (hS.out.grown _ _), HO1⟩
    · obtain rfl : i = j := by omega
      have hO1 := hO.out
      rw [bsr, if_neg hlt] at hO1
      have HO1 := hidden hO1
      clear hO1 hlt
      obtain ⟨wr0, rfl⟩ : ∃ wr0 : World, wr0 = wr := ⟨_, rfl⟩
      have HS0 := hidden hS.out
      clear hS hO
      go_wp2_with fail
      go_loopg [13] (i - a) (fun g1 vi wr => ∃ (x : Nat) (dk : Array α), vi = .int .i64 x ∧ a ≤ x ∧ x ≤ i - 1 ∧ i - x ≤ g1 ∧ dk.size = d.size ∧ Hid (SWK enc k w0 blk off dk wr) ∧ Hid (moveUp (i - 1) x dk = moveUp (i - 1) a d))
      case atStart => exact ⟨a, d, rfl, Nat.le_refl _, by omega, Nat.le_refl _, rfl, HS0.out, rfl⟩
      case round =>
        obtain ⟨x, dk, rfl, hax, hxi, hg1, hsk, hS, hO⟩ := hrel
        by_cases hlt : x < i - 1
        · have hltz : (x : Int) < (i : Int) - 1 := by omega
          have hO1 := hO.out
          rw [moveUp, if_pos hlt] at hO1
          have HO2 := hidden hO1
          clear hO1
          have z1 : (x : Int) < (d.size : Int) := by omega
          have z2 : (x : Int) + 1 < (d.size : Int) := by omega
          have S1 := hS.out
          have R1 := HR.out
          have hsk0 : dk.size = d0.size := by rw [hsk, hsd.out]
          obtain ⟨xa, hxa⟩ : ∃ z, dk[x]! = z := ⟨_, rfl⟩
          obtain ⟨xb, hxb⟩ : ∃ z, dk[x + 1]! = z := ⟨_, rfl⟩
          have la : Sem.run P (loadCellsFrom ⟨blk, off + (x) * k, none⟩ 0 k #[]) wr.drew = .ok (enc xa).toArray wr.drew := by rw [← hxa]; exact S1.ld1 R1 hsk0 _ (x) (by omega)
          have lb : Sem.run P (loadCellsFrom ⟨blk, off + (x + 1) * k, none⟩ 0 k #[]) wr.drew = .ok (enc xb).toArray wr.drew := by rw [← hxb]; exact S1.ld1 R1 hsk0 _ (x + 1) (by omega)
          have s1 := S1.st1 R1 hsk0 P (x) (by omega) xb
          have s2 := S1.st2 R1 hsk0 P (x) (x + 1) (by omega) (by omega) xb xa
          have hs1 : (enc xa).length = k := R1.hk _
          have hs2 : (enc xb).length = k := R1.hk _
          have HW := hidden (S1.swapped R1 (x) (x + 1) (by omega) (by omega))
          rw [hxa, hxb] at HW
          obtain ⟨cA, hcA⟩ : ∃ c, c = enc xa := ⟨_, rfl⟩
          obtain ⟨cB, hcB⟩ : ∃ c, c = enc xb := ⟨_, rfl⟩
          rw [← hcA] at la hs1 s2 HW
          rw [← hcB] at lb hs2 s1 s2 HW
          clear S1 R1 hxa hxb hcA hcB
          go_wp2_with fail
          go_big_region_o
          all_goals go_wp2
          go_roundg (i - (x + 1))
          case measure => omega
          case rel => exact ⟨x + 1, swp dk x (x + 1), by go_num, by omega, by omega, Nat.le_refl _, by rw [size_swp]; exact hsk, HW, HO2⟩
        · have hltz : ¬ (x : Int) < (i : Int) - 1 := by omega
          have h1 := hO.out
          rw [moveUp, if_neg hlt] at h1
          have H1 := hidden (h1.trans (by rw [HO1.out, hres.out] : moveUp (i - 1) a d = symMerge (ltOf cf) (f + 1) a m b d))
          clear h1 hlt
          go_wp2
          exact bodyPost_ret (results_none rfl _ _ _) rfl ⟨rfl, by rw [← H1.out]; exact hS.out⟩
set_option maxHeartbeats 6400000 in
theorem symB (eg : ∀ args w, (callFunc g args).run P w = .ok (.enter g args) w) (hC : CmpLays P g cb enc k cf blk off d0.size w0) (R : RowK enc k w0 blk off d0) (f a m b : Nat) (d : Array α) (w : World) (hs : d0.size = d.size) (S : SWK enc k w0 blk off d w) (hm : m - a ≠ 1) (hm2 : b - m = 1) (ham : a < m) (hmb : m < b) (hb : b ≤ d.size) (hsz : d.size < 4611686018427387904) :
    Calls P 259 #[.slice (some ⟨blk, off, none⟩) d.size cap, .int .i64 a, .int .i64 m, .int .i64 b, .func (.func g) #[] cb] w fun e w' => e = .returned (.tuple #[]) ∧ SWK enc k w0 blk off (symMerge (ltOf cf) (f + 1) a m b d) w' := by
  have mixed := L.mixed; have t0 := L.t0; have a0 := L.a0; have z0 := L.z0; have v0 := L.v0; have t3 := L.t3; have a3 := L.a3; have z3 := L.z3; have v3 := L.v3; have t4 := L.t4; have a4 := L.a4; have z4 := L.z4; have v4 := L.v4; have ts := L.ts; have as_ := L.as_; have zs := L.zs; have vs := L.vs; have tf := L.tf; have af := L.af; have zf := L.zf; have vf := L.vf; have aE := L.aE; have zE := L.zE
  have us := run_underlying L.ts
  have tu := L.tu; have au := L.au; have zu := L.zu; have vu := L.vu
  have uu := run_underlying L.tu
  have u3 := run_underlying L.t3
  have HL := hidden L
  have HS := hidden S
  have HR := hidden R
  have HC := hidden hC
  have hsd := hidden hs
  have hres : Hid (symMerge (ltOf cf) (f + 1) a m b d = moveDown (bsr (fun h => !ltOf cf d[m]! d[h]!) a m) m d) := by
    show _ = _
    rw [symMerge, if_neg hm, if_pos hm2]
  have e1 : ((m : Int) - (a : Int) == 1) = false := by simp; omega
  have e2 : ((b : Int) - (m : Int) == 1) = true := by simp; omega
  clear S R hs hC
  go_enter L.fsym, Tryz.ntmps259
  go_wp2_with fail
  go_loopg [14, 15] (m - a) (fun g1 vi vj wr => ∃ (i j : Nat), vi = .int .i64 i ∧ vj = .int .i64 j ∧ a ≤ i ∧ i ≤ j ∧ j ≤ m ∧ j - i ≤ g1 ∧ Hid (SWK enc k w0 blk off d wr) ∧ Hid (bsr (fun h => !ltOf cf d[m]! d[h]!) i j = bsr (fun h => !ltOf cf d[m]! d[h]!) a m))
  case atStart => exact ⟨a, m, rfl, rfl, Nat.le_refl _, by omega, Nat.le_refl _, Nat.le_refl _, HS.out, rfl⟩
  case round =>
    obtain ⟨i, j, rfl, rfl, hmi, hij, hjb, hg1, hS, hO⟩ := hrel
    by_cases hlt : i < j
    · have hltz : (i : Int) < (j : Int) := by omega
      go_upto_region 17 with (fail)
      obtain ⟨h, hh⟩ : ∃ h : Nat, ((i : Int) + (j : Int)) / 2 = (h : Int) := ⟨(i + j) / 2, by omega⟩
      rw [hh]
      have hn : (i + j) / 2 = h := by omega
      have hb1 : i ≤ h ∧ h < j := by omega
      have hO1 := hO.out
      rw [bsr, if_pos hlt, hn] at hO1
      obtain ⟨hb1, hb2⟩ := hb1
      have z1 : (h : Int) < (d.size : Int) := by omega
      have z2 : (m : Int) < (d.size : Int) := by omega
      obtain ⟨xx, hxx⟩ : ∃ z, d[m]! = z := ⟨_, rfl⟩
      obtain ⟨yy, hyy⟩ : ∃ z, d[h]! = z := ⟨_, rfl⟩
      have lx : ∀ n' os', Sem.run P (loadCellsFrom ⟨blk, off + (m) * k, none⟩ 0 k #[]) (grow (wr.drewN n') os') = .ok (enc xx).toArray (grow (wr.drewN n') os') := fun n' os' => by rw [← hxx]; exact hS.out.ld HR.out hsd.out.symm P (m) (by omega) n' os'
      have ly : ∀ n' os', Sem.run P (loadCellsFrom ⟨blk, off + (h) * k, none⟩ 0 k #[]) (grow (wr.drewN n') os') = .ok (enc yy).toArray (grow (wr.drewN n') os') := fun n' os' => by rw [← hyy]; exact hS.out.ld HR.out hsd.out.symm P (h) (by omega) n' os'
      have hcg : ∀ n' os', Calls P g (#[.agg (enc xx).toArray, .agg (enc yy).toArray] ++ cb) (grow (wr.drewN n') os') fun e w' => e = .returned (.int .i64 (cf xx yy)) ∧ ∃ q os'', w' = grow ((grow (wr.drewN n') os').drewN q) os'' := fun n' os' => hS.out.cmp HC.out hsd.out.symm xx yy n' os'
      by_cases hlv : cf xx yy < 0
      · have hp : (!ltOf cf d[m]! d[h]!) = false := by rw [hxx, hyy, Bool.not_eq_false']; exact decide_eq_true hlv
        rw [hp, if_neg (by decide)] at hO1
        have HO1 := hidden hO1
        clear hO1 hp hxx hyy hn hh
        go_quiet_grown (first | (go_at_fn g; refine Calls.grown_of (hcg _ _)))
        clear lx ly hcg
        go_wp2_with fail
        go_roundg (h - i)
        case measure => omega
        case rel => exact ⟨i, h, rfl, rfl, by omega, by omega, by omega, Nat.le_refl _, hidden (hS.out.grown _ _), HO1⟩
      · have hp : (!ltOf cf d[m]! d[h]!) = true := by rw [hxx, hyy, Bool.not_eq_true']; exact decide_eq_false hlv
        rw [hp, if_pos rfl] at hO1
        have HO1 := hidden hO1
        clear hO1 hp hxx hyy hn hh
        go_quiet_grown (first | (go_at_fn g; refine Calls.grown_of (hcg _ _)))
        clear lx ly hcg
        go_wp2_with fail
        go_roundg (j - (h + 1))
        case measure => omega
        case rel => exact ⟨h + 1, j, by go_num, rfl, by omega, by omega, hjb, Nat.le_refl _, hidden (hS.out.grown _ _), HO1⟩
    · obtain rfl : i = j := by omega
      have hO1 := hO.out
      rw [bsr, if_neg hlt] at hO1
      have HO1 := hidden hO1
      clear hO1 hlt
      obtain ⟨wr0, rfl⟩ : ∃ wr0 : World, wr0 = wr := ⟨_, rfl⟩
      have HS0 := hidden hS.out
      clear hS hO
      go_wp2_with fail
      go_loopg [17] (m - i) (fun g1 vi wr => ∃ (x : Nat) (dk : Array α), vi = .int .i64 x ∧ i ≤ x ∧ x ≤ m ∧ x - i ≤ g1 ∧ dk.size = d.size ∧ Hid (SWK enc k w0 blk off dk wr) ∧ Hid (moveDown i x dk = moveDown i m d))
      case atStart => exact ⟨m, d, rfl, by omega, Nat.le_refl _, Nat.le_refl _, rfl, HS0.out, rfl⟩
      case round =>
        obtain ⟨x, dk, rfl, hax, hxi, hg1, hsk, hS, hO⟩ := hrel
        by_cases hlt : i < x
        · obtain ⟨x, rfl⟩ : ∃ q, x = q + 1 := ⟨x - 1, by omega⟩
          have hO1 := hO.out
          rw [moveDown, if_pos hlt] at hO1
          have HO2 := hidden hO1
          clear hO1
          have hltz : (i : Int) < (x : Int) + 1 := by omega
          have z1 : (x : Int) < (d.size : Int) := by omega
          have z2 : (x : Int) + 1 < (d.size : Int) := by omega
          have S1 := hS.out
          have R1 := HR.out
          have hsk0 : dk.size = d0.size := by rw [hsk, hsd.out]
          obtain ⟨xa, hxa⟩ : ∃ z, dk[x + 1]! = z := ⟨_, rfl⟩
          obtain ⟨xb, hxb⟩ : ∃ z, dk[x]! = z := ⟨_, rfl⟩
          have la : Sem.run P (loadCellsFrom ⟨blk, off + (x + 1) * k, none⟩ 0 k #[]) wr.drew = .ok (enc xa).toArray wr.drew := by rw [← hxa]; exact S1.ld1 R1 hsk0 _ (x + 1) (by omega)
          have lb : Sem.run P (loadCellsFrom ⟨blk, off + (x) * k, none⟩ 0 k #[]) wr.drew = .ok (enc xb).toArray wr.drew := by rw [← hxb]; exact S1.ld1 R1 hsk0 _ (x) (by omega)
          have s1 := S1.st1 R1 hsk0 P (x + 1) (by omega) xb
          have s2 := S1.st2 R1 hsk0 P (x + 1) (x) (by omega) (by omega) xb xa
          have hs1 : (enc xa).length = k := R1.hk _
          have hs2 : (enc xb).length = k := R1.hk _
          have HW := hidden (S1.swapped R1 (x + 1) (x) (by omega) (by omega))
          rw [hxa, hxb] at HW
          obtain ⟨cA, hcA⟩ : ∃ c, c = enc xa := ⟨_, rfl⟩
          obtain ⟨cB, hcB⟩ : ∃ c, c = enc xb := ⟨_, rfl⟩
          rw [← hcA] at la hs1 s2 HW
          rw [← hcB] at lb hs2 s1 s2 HW
          clear S1 R1 hxa hxb hcA hcB
          go_wp2_with fail
          go_big_region_o
          all_goals go_wp2
          go_roundg (x - i)
          case measure => omega
          case rel => exact ⟨x, swp dk (x + 1) x, by go_num, by omega, by omega, Nat.le_refl _, by rw [size_swp]; exact hsk, HW, HO2⟩
        · obtain rfl : i = x := by omega
          have h1 := hO.out
          have h2 : moveDown i i dk = dk := by
            cases i with
            | zero => rfl
            | succ q => rw [moveDown, if_neg (by omega)]
          rw [h2] at h1
          have H1 := hidden (h1.trans (by rw [HO1.out, hres.out] : moveDown i m d = symMerge (ltOf cf) (f + 1) a m b d))
          clear h1 h2 hlt
          go_wp2
          exact bodyPost_ret (results_none rfl _ _ _) rfl ⟨rfl, by rw [← H1.out]; exact hS.out⟩
set_option maxHeartbeats 12800000 in
theorem symC (eg : ∀ args w, (callFunc g args).run P w = .ok (.enter g args) w) (hC : CmpLays P g cb enc k cf blk off d0.size w0) (R : RowK enc k w0 blk off d0) (f a m b mid : Nat) (d : Array α) (w : World) (hs : d0.size = d.size) (S : SWK enc k w0 blk off d w) (hm : m - a ≠ 1) (hm2 : b - m ≠ 1) (ham : a < m) (hmb : m < b) (hb : b ≤ d.size) (hf : b - a ≤ f + 1) (hsz : d.size < 4611686018427387904) (hmid : (a + b) / 2 = mid) (hc : mid < m)
    (IH : ∀ (a m b : Nat) (d1 : Array α) (w : World), b - a ≤ f → a < m → m < b → b ≤ d.size → d1.size = d.size → SWK enc k w0 blk off d1 w → Calls P 259 #[.slice (some ⟨blk, off, none⟩) d.size cap, .int .i64 a, .int .i64 m, .int .i64 b, .func (.func g) #[] cb] w fun e w' => e = .returned (.tuple #[]) ∧ SWK enc k w0 blk off (symMerge (ltOf cf) f a m b d1) w') :
    Calls P 259 #[.slice (some ⟨blk, off, none⟩) d.size cap, .int .i64 a, .int .i64 m, .int .i64 b, .func (.func g) #[] cb] w fun e w' => e = .returned (.tuple #[]) ∧ SWK enc k w0 blk off (symMerge (ltOf cf) (f + 1) a m b d) w' := by
  have mixed := L.mixed; have t0 := L.t0; have a0 := L.a0; have z0 := L.z0; have v0 := L.v0; have t3 := L.t3; have a3 := L.a3; have z3 := L.z3; have v3 := L.v3; have t4 := L.t4; have a4 := L.a4; have z4 := L.z4; have v4 := L.v4; have ts := L.ts; have as_ := L.as_; have zs := L.zs; have vs := L.vs; have tf := L.tf; have af := L.af; have zf := L.zf; have vf := L.vf; have aE := L.aE; have zE := L.zE
  have us := run_underlying L.ts
  have tu := L.tu; have au := L.au; have zu := L.zu; have vu := L.vu
  have uu := run_underlying L.tu
  have u3 := run_underlying L.t3
  have esym := L.esym
  have erot := L.erot
  have HL := hidden L
  have HS := hidden S
  have HR := hidden R
  have HC := hidden hC
  have HIH := hidden IH
  have hsd := hidden hs
  have b1 : a < mid := by omega
  have b2 : mid < b := by omega
  have b3 : 2 * mid ≤ a + b := by omega
  have b4 : a + b ≤ 2 * mid + 1 := by omega
  have hmz : ((a : Int) + (b : Int)) / 2 = (mid : Int) := by omega
  have HMZ := hidden hmz
  obtain ⟨N, hN⟩ : ∃ N, mid + m = N := ⟨_, rfl⟩
  have hNz := hidden (show (mid : Int) + (m : Int) = (N : Int) by omega)
  obtain ⟨pp, hpp⟩ : ∃ pp, N = pp + 1 := ⟨N - 1, by omega⟩
  have hpz := hidden (show (N : Int) - 1 = (pp : Int) by omega)
  have e1 : ((m : Int) - (a : Int) == 1) = false := by simp; omega
  have e2 : ((b : Int) - (m : Int) == 1) = false := by simp; omega
  have hsp := bsr_spec (fun c => !ltOf cf d[mid + m - 1 - c]! d[c]!) _ (mid + m - b) mid (Nat.le_refl _) (by omega)
  obtain ⟨s, hsq⟩ : ∃ s, bsr (fun c => !ltOf cf d[mid + m - 1 - c]! d[c]!) (mid + m - b) mid = s := ⟨_, rfl⟩
  rw [hsq] at hsp
  obtain ⟨k1, k2, _, _⟩ := hsp
  obtain ⟨e, he⟩ : ∃ e, mid + m - s = e := ⟨_, rfl⟩
  have hez := hidden (show (N : Int) - (s : Int) = (e : Int) by omega)
  have hres : Hid (symMerge (ltOf cf) (f + 1) a m b d = (if mid < e ∧ e < b then symMerge (ltOf cf) f mid e b (if a < s ∧ s < mid then symMerge (ltOf cf) f a s mid (if s < m ∧ m < e then rot m (b - a) (m - s) (e - m) d else d) else (if s < m ∧ m < e then rot m (b - a) (m - s) (e - m) d else d)) else (if a < s ∧ s < mid then symMerge (ltOf cf) f a s mid (if s < m ∧ m < e then rot m (b - a) (m - s) (e - m) d else d) else (if s < m ∧ m < e then rot m (b - a) (m - s) (e - m) d else d)))) := by
    show _ = _
    rw [symMerge, if_neg hm, if_neg hm2]
    simp only
    rw [hmid, if_pos hc, hsq, he]
  have z6 : ∀ d1, (if s < m ∧ m < e then rot m (b - a) (m - s) (e - m) d else d) = d1 → d1.size = d.size := by
    intro d1 h1
    by_cases c : s < m ∧ m < e
    · rw [if_pos c] at h1
      rw [← h1]
      exact (rot_spec m (b - a) (m - s) (e - m) d (by omega) (by omega) (by omega) (by omega) (by omega)).1.1
    · rw [if_neg c] at h1
      rw [← h1]
  have Z6 := hidden z6
  have HSQ := hidden hsq
  have HE := hidden he
  have q1 : a ≤ s := by omega
  have q2 : s ≤ m := by omega
  have q3 : s ≤ mid := by omega
  have q4 : e ≤ b := by omega
  have q5 : m ≤ e := by omega
  have q6 : mid ≤ e := by omega
  have n1 : mid + m ≤ N := by omega
  have n2 : N ≤ mid + m := by omega
  have n3 : N ≤ pp + 1 := by omega
  have n4 : pp + 1 ≤ N := by omega
  have n5 : mid + m ≤ e + s := by omega
  have n6 : e + s ≤ mid + m := by omega
  clear S R hs hC IH hmz hsq z6 hN hpp he hmid
  go_enter L.fsym, Tryz.ntmps259
  go_upto_region 25 with (fail)
  rw [HMZ.out]
  go_upto_region 26 with (fail)
  rw [hNz.out]
  go_upto_region 32 with (fail)
  go_wp2_with fail
  rw [hpz.out]
  go_loopg [20, 21] (mid - (mid + m - b)) (fun g1 vi vj wr => ∃ (i j : Nat), vi = .int .i64 i ∧ vj = .int .i64 j ∧ mid + m - b ≤ i ∧ i ≤ j ∧ j ≤ mid ∧ j - i ≤ g1 ∧ Hid (SWK enc k w0 blk off d wr) ∧ Hid (bsr (fun c => !ltOf cf d[mid + m - 1 - c]! d[c]!) i j = bsr (fun c => !ltOf cf d[mid + m - 1 - c]! d[c]!) (mid + m - b) mid))
  case atStart => exact ⟨mid + m - b, mid, by go_num, rfl, Nat.le_refl _, by omega, Nat.le_refl _, Nat.le_refl _, HS.out, rfl⟩
  case round =>
    obtain ⟨i, j, rfl, rfl, hmi, hij, hjb, hg1, hS, hO⟩ := hrel
    by_cases hlt : i < j
    · have hltz : (i : Int) < (j : Int) := by omega
      go_upto_region 35 with (fail)
      obtain ⟨h, hh⟩ : ∃ h : Nat, ((i : Int) + (j : Int)) / 2 = (h : Int) := ⟨(i + j) / 2, by omega⟩
      rw [hh]
      have hn : (i + j) / 2 = h := by omega
      have hb1 : i ≤ h ∧ h < j := by omega
      have hO1 := hO.out
      rw [bsr, if_pos hlt, hn] at hO1
      obtain ⟨hb1, hb2⟩ := hb1
      obtain ⟨q, hq⟩ : ∃ q, mid + m - 1 - h = q := ⟨_, rfl⟩
      have z1 : (h : Int) < (d.size : Int) := by omega
      have z2 : (q : Int) < (d.size : Int) := by omega
      obtain ⟨xx, hxx⟩ : ∃ z, d[q]! = z := ⟨_, rfl⟩
      obtain ⟨yy, hyy⟩ : ∃ z, d[h]! = z := ⟨_, rfl⟩
      have lx : ∀ n' os', Sem.run P (loadCellsFrom ⟨blk, off + (q) * k, none⟩ 0 k #[]) (grow (wr.drewN n') os') = .ok (enc xx).toArray (grow (wr.drewN n') os') := fun n' os' => by rw [← hxx]; exact hS.out.ld HR.out hsd.out.symm P (q) (by omega) n' os'
      have ly : ∀ n' os', Sem.run P (loadCellsFrom ⟨blk, off + (h) * k, none⟩ 0 k #[]) (grow (wr.drewN n') os') = .ok (enc yy).toArray (grow (wr.drewN n') os') := fun n' os' => by rw [← hyy]; exact hS.out.ld HR.out hsd.out.symm P (h) (by omega) n' os'
      have hcg : ∀ n' os', Calls P g (#[.agg (enc xx).toArray, .agg (enc yy).toArray] ++ cb) (grow (wr.drewN n') os') fun e w' => e = .returned (.int .i64 (cf xx yy)) ∧ ∃ q os'', w' = grow ((grow (wr.drewN n') os').drewN q) os'' := fun n' os' => hS.out.cmp HC.out hsd.out.symm xx yy n' os'
      have hqz : (pp : Int) - (h : Int) = (q : Int) := by omega
      have hqw : IntKind.i64.wrap ((pp : Int) - (h : Int)) = (q : Int) := by rw [hqz, IntKind.wrap_i64]; omega
      have hqw2 : IntKind.i64.wrap (q : Int) = (q : Int) := by rw [IntKind.wrap_i64]; omega
      by_cases hlv : cf xx yy < 0
      · as_aux_lemma =>
        have hp : (!ltOf cf d[mid + m - 1 - h]! d[h]!) = false := by rw [hq, hxx, hyy, Bool.not_eq_false']; exact decide_eq_true hlv
        rw [hp, if_neg (by decide)] at hO1
        have HO1 := hidden hO1
        clear hO1 hp hxx hyy hn hh hq
        go_quiet_grown (first | (go_at_fn g; refine Calls.grown_of (hcg _ _)))
        clear lx ly hcg hqz hqw hqw2
        go_wp2_with fail
        go_roundg (h - i)
        case measure => omega
        case rel => exact ⟨i, h, rfl, rfl, by omega, by omega, by omega, Nat.le_refl _, hidden (hS.out.grown _ _), HO1⟩
      · as_aux_lemma =>
        have hp : (!ltOf cf d[mid + m - 1 - h]! d[h]!) = true := by rw [hq, hxx, hyy, Bool.not_eq_true']; exact decide_eq_false hlv
        rw [hp, if_pos rfl] at hO1
        have HO1 := hidden hO1
        clear hO1 hp hxx hyy hn hh hq
        go_quiet_grown (first | (go_at_fn g; refine Calls.grown_of (hcg _ _)))
        clear lx ly hcg hqz hqw hqw2
        go_wp2_with fail
        go_roundg (j - (h + 1))
        case measure => omega
        case rel => exact ⟨h + 1, j, by go_num, rfl, by omega, by omega, hjb, Nat.le_refl _, hidden (hS.out.grown _ _), HO1⟩
    · obtain rfl : i = j := by omega
      have hO1 := hO.out
      rw [bsr, if_neg hlt, HSQ.out] at hO1
      obtain rfl : i = s := hO1
      clear hlt
      obtain ⟨wr0, rfl⟩ : ∃ wr0 : World, wr0 = wr := ⟨_, rfl⟩
      have hScur := hidden hS.out
      clear hS hO
      go_upto_region 39 with (fail)
      rw [hez.out]
      by_cases hA : i < mid
      · by_cases hB : a < i
        · by_cases hC' : e < b
          · as_aux_lemma =>
            have c1 : i < m := by omega
            have c2 : m < e := by omega
            have c3 : a < i := by omega
            have c4 : i < mid := by omega
            have c5 : mid < e := by omega
            have c6 : e < b := by omega
            have hr := hres.out
            rw [if_pos ⟨c5, c6⟩, if_pos ⟨c3, c4⟩, if_pos ⟨c1, c2⟩] at hr
            have HRS := hidden hr
            clear hr hres
            go_wp2_with fail
            go_at_call 294
            refine (rotate_any k HL.out enc _ blk off cap i m e (b - a) d0 d w0 _ HR.out hsd.out hScur.out c1 c2 (by omega) (by omega) hsz).mono ?_
            rintro e1' w2 ⟨rfl, S2⟩
            have HSr := hidden S2
            have hzr := hidden (Z6.out _ (if_pos ⟨c1, c2⟩))
            clear S2 hScur
            go_wp2_with fail
            go_at_call 259
            refine (HIH.out a i mid (rot m (b - a) (m - i) (e - m) d) _ (by omega) c3 c4 (by omega) hzr.out HSr.out).mono ?_
            rintro e2' w3 ⟨rfl, S3⟩
            have HSl := hidden S3
            clear S3 HSr
            go_wp2_with fail
            go_at_call 259
            refine (HIH.out mid e b (symMerge (ltOf cf) f a i mid (rot m (b - a) (m - i) (e - m) d)) _ (by omega) c5 c6 (by omega) ((symMerge_size (ltOf cf) f a i mid (rot m (b - a) (m - i) (e - m) d)).trans hzr.out) HSl.out).mono ?_
            rintro e3' w4 ⟨rfl, S4⟩
            have HSq := hidden S4
            clear S4 HSl
            go_wp2
            go_end0
            exact ⟨rfl, by rw [HRS.out]; exact HSq.out⟩
          · as_aux_lemma =>
            have c1 : i < m := by omega
            have c2 : m < e := by omega
            have c3 : a < i := by omega
            have c4 : i < mid := by omega
            have n3' : ¬(mid < e ∧ e < b) := by omega
            have hr := hres.out
            rw [if_neg n3', if_pos ⟨c3, c4⟩, if_pos ⟨c1, c2⟩] at hr
            have HRS := hidden hr
            clear hr hres
            go_wp2_with fail
            go_at_call 294
            refine (rotate_any k HL.out enc _ blk off cap i m e (b - a) d0 d w0 _ HR.out hsd.out hScur.out c1 c2 (by omega) (by omega) hsz).mono ?_
            rintro e1' w2 ⟨rfl, S2⟩
            have HSr := hidden S2
            have hzr := hidden (Z6.out _ (if_pos ⟨c1, c2⟩))
            clear S2 hScur
            go_wp2_with fail
            go_at_call 259
            refine (HIH.out a i mid (rot m (b - a) (m - i) (e - m) d) _ (by omega) c3 c4 (by omega) hzr.out HSr.out).mono ?_
            rintro e2' w3 ⟨rfl, S3⟩
            have HSl := hidden S3
            clear S3 HSr
            go_wp2
            go_end0
            exact ⟨rfl, by rw [HRS.out]; exact HSl.out⟩
        · by_cases hC' : e < b
          · as_aux_lemma =>
            have c1 : i < m := by omega
            have c2 : m < e := by omega
            have n2' : ¬(a < i ∧ i < mid) := by omega
            have c5 : mid < e := by omega
            have c6 : e < b := by omega
            have hr := hres.out
            rw [if_pos ⟨c5, c6⟩, if_neg n2', if_pos ⟨c1, c2⟩] at hr
            have HRS := hidden hr
            clear hr hres
            go_wp2_with fail
            go_at_call 294
            refine (rotate_any k HL.out enc _ blk off cap i m e (b - a) d0 d w0 _ HR.out hsd.out hScur.out c1 c2 (by omega) (by omega) hsz).mono ?_
            rintro e1' w2 ⟨rfl, S2⟩
            have HSr := hidden S2
            have hzr := hidden (Z6.out _ (if_pos ⟨c1, c2⟩))
            clear S2 hScur
            go_wp2_with fail
            go_at_call 259
            refine (HIH.out mid e b (rot m (b - a) (m - i) (e - m) d) _ (by omega) c5 c6 (by omega) hzr.out HSr.out).mono ?_
            rintro e3' w4 ⟨rfl, S4⟩
            have HSq := hidden S4
            clear S4 HSr
            go_wp2
            go_end0
            exact ⟨rfl, by rw [HRS.out]; exact HSq.out⟩
          · as_aux_lemma =>
            have c1 : i < m := by omega
            have c2 : m < e := by omega
            have n2' : ¬(a < i ∧ i < mid) := by omega
            have n3' : ¬(mid < e ∧ e < b) := by omega
            have hr := hres.out
            rw [if_neg n3', if_neg n2', if_pos ⟨c1, c2⟩] at hr
            have HRS := hidden hr
            clear hr hres
            go_wp2_with fail
            go_at_call 294
            refine (rotate_any k HL.out enc _ blk off cap i m e (b - a) d0 d w0 _ HR.out hsd.out hScur.out c1 c2 (by omega) (by omega) hsz).mono ?_
            rintro e1' w2 ⟨rfl, S2⟩
            have HSr := hidden S2
            have hzr := hidden (Z6.out _ (if_pos ⟨c1, c2⟩))
            clear S2 hScur
            go_wp2
            go_end0
            exact ⟨rfl, by rw [HRS.out]; exact HSr.out⟩
      · by_cases hC' : e < b
        · as_aux_lemma =>
          have n1' : ¬(i < m ∧ m < e) := by omega
          have n2' : ¬(a < i ∧ i < mid) := by omega
          have c5 : mid < e := by omega
          have c6 : e < b := by omega
          have hr := hres.out
          rw [if_pos ⟨c5, c6⟩, if_neg n2', if_neg n1'] at hr
          have HRS := hidden hr
          clear hr hres
          go_wp2_with fail
          go_at_call 259
          refine (HIH.out mid e b d _ (by omega) c5 c6 (by omega) rfl hScur.out).mono ?_
          rintro e3' w4 ⟨rfl, S4⟩
          have HSq := hidden S4
          clear S4 hScur
          go_wp2
          go_end0
          exact ⟨rfl, by rw [HRS.out]; exact HSq.out⟩
        · exact absurd (show e < b by omega) hC'

set_option maxHeartbeats 12800000 in
theorem symD (eg : ∀ args w, (callFunc g args).run P w = .ok (.enter g args) w) (hC : CmpLays P g cb enc k cf blk off d0.size w0) (R : RowK enc k w0 blk off d0) (f a m b mid : Nat) (d : Array α) (w : World) (hs : d0.size = d.size) (S : SWK enc k w0 blk off d w) (hm : m - a ≠ 1) (hm2 : b - m ≠ 1) (ham : a < m) (hmb : m < b) (hb : b ≤ d.size) (hf : b - a ≤ f + 1) (hsz : d.size < 4611686018427387904) (hmid : (a + b) / 2 = mid) (hc : ¬ mid < m)
    (IH : ∀ (a m b : Nat) (d1 : Array α) (w : World), b - a ≤ f → a < m → m < b → b ≤ d.size → d1.size = d.size → SWK enc k w0 blk off d1 w → Calls P 259 #[.slice (some ⟨blk, off, none⟩) d.size cap, .int .i64 a, .int .i64 m, .int .i64 b, .func (.func g) #[] cb] w fun e w' => e = .returned (.tuple #[]) ∧ SWK enc k w0 blk off (symMerge (ltOf cf) f a m b d1) w') :
    Calls P 259 #[.slice (some ⟨blk, off, none⟩) d.size cap, .int .i64 a, .int .i64 m, .int .i64 b, .func (.func g) #[] cb] w fun e w' => e = .returned (.tuple #[]) ∧ SWK enc k w0 blk off (symMerge (ltOf cf) (f + 1) a m b d) w' := by
  have mixed := L.mixed; have t0 := L.t0; have a0 := L.a0; have z0 := L.z0; have v0 := L.v0; have t3 := L.t3; have a3 := L.a3; have z3 := L.z3; have v3 := L.v3; have t4 := L.t4; have a4 := L.a4; have z4 := L.z4; have v4 := L.v4; have ts := L.ts; have as_ := L.as_; have zs := L.zs; have vs := L.vs; have tf := L.tf; have af := L.af; have zf := L.zf; have vf := L.vf; have aE := L.aE; have zE := L.zE
  have us := run_underlying L.ts
  have tu := L.tu; have au := L.au; have zu := L.zu; have vu := L.vu
  have uu := run_underlying L.tu
  have u3 := run_underlying L.t3
  have esym := L.esym
  have erot := L.erot
  have HL := hidden L
  have HS := hidden S
  have HR := hidden R
  have HC := hidden hC
  have HIH := hidden IH
  have hsd := hidden hs
  have b1 : a < mid := by omega
  have b2 : mid < b := by omega
  have b3 : 2 * mid ≤ a + b := by omega
  have b4 : a + b ≤ 2 * mid + 1 := by omega
  have hmz : ((a : Int) + (b : Int)) / 2 = (mid : Int) := by omega
  have HMZ := hidden hmz
  obtain ⟨N, hN⟩ : ∃ N, mid + m = N := ⟨_, rfl⟩
  have hNz := hidden (show (mid : Int) + (m : Int) = (N : Int) by omega)
  obtain ⟨pp, hpp⟩ : ∃ pp, N = pp + 1 := ⟨N - 1, by omega⟩
  have hpz := hidden (show (N : Int) - 1 = (pp : Int) by omega)
  have e1 : ((m : Int) - (a : Int) == 1) = false := by simp; omega
  have e2 : ((b : Int) - (m : Int) == 1) = false := by simp; omega
  have hsp := bsr_spec (fun c => !ltOf cf d[mid + m - 1 - c]! d[c]!) _ (a) m (Nat.le_refl _) (by omega)
  obtain ⟨s, hsq⟩ : ∃ s, bsr (fun c => !ltOf cf d[mid + m - 1 - c]! d[c]!) (a) m = s := ⟨_, rfl⟩
  rw [hsq] at hsp
  obtain ⟨k1, k2, _, _⟩ := hsp
  obtain ⟨e, he⟩ : ∃ e, mid + m - s = e := ⟨_, rfl⟩
  have hez := hidden (show (N : Int) - (s : Int) = (e : Int) by omega)
  have hres : Hid (symMerge (ltOf cf) (f + 1) a m b d = (if mid < e ∧ e < b then symMerge (ltOf cf) f mid e b (if a < s ∧ s < mid then symMerge (ltOf cf) f a s mid (if s < m ∧ m < e then rot m (b - a) (m - s) (e - m) d else d) else (if s < m ∧ m < e then rot m (b - a) (m - s) (e - m) d else d)) else (if a < s ∧ s < mid then symMerge (ltOf cf) f a s mid (if s < m ∧ m < e then rot m (b - a) (m - s) (e - m) d else d) else (if s < m ∧ m < e then rot m (b - a) (m - s) (e - m) d else d)))) := by
    show _ = _
    rw [symMerge, if_neg hm, if_neg hm2]
    simp only
    rw [hmid, if_neg hc, hsq, he]
  have z6 : ∀ d1, (if s < m ∧ m < e then rot m (b - a) (m - s) (e - m) d else d) = d1 → d1.size = d.size := by
    intro d1 h1
    by_cases c : s < m ∧ m < e
    · rw [if_pos c] at h1
      rw [← h1]
      exact (rot_spec m (b - a) (m - s) (e - m) d (by omega) (by omega) (by omega) (by omega) (by omega)).1.1
    · rw [if_neg c] at h1
      rw [← h1]
  have Z6 := hidden z6
  have HSQ := hidden hsq
  have HE := hidden he
  have q1 : a ≤ s := by omega
  have q2 : s ≤ m := by omega
  have q3 : s ≤ mid := by omega
  have q4 : e ≤ b := by omega
  have q5 : m ≤ e := by omega
  have q6 : mid ≤ e := by omega
  have n1 : mid + m ≤ N := by omega
  have n2 : N ≤ mid + m := by omega
  have n3 : N ≤ pp + 1 := by omega
  have n4 : pp + 1 ≤ N := by omega
  have n5 : mid + m ≤ e + s := by omega
  have n6 : e + s ≤ mid + m := by omega
  clear S R hs hC IH hmz hsq z6 hN hpp he hmid
  go_enter L.fsym, Tryz.ntmps259
  go_upto_region 25 with (fail)
  rw [HMZ.out]
  go_upto_region 26 with (fail)
  rw [hNz.out]
  go_upto_region 32 with (fail)
  go_wp2_with fail
  rw [hpz.out]
  go_loopg [20, 21] (m - (a)) (fun g1 vi vj wr => ∃ (i j : Nat), vi = .int .i64 i ∧ vj = .int .i64 j ∧ a ≤ i ∧ i ≤ j ∧ j ≤ m ∧ j - i ≤ g1 ∧ Hid (SWK enc k w0 blk off d wr) ∧ Hid (bsr (fun c => !ltOf cf d[mid + m - 1 - c]! d[c]!) i j = bsr (fun c => !ltOf cf d[mid + m - 1 - c]! d[c]!) (a) m))
  case atStart => exact ⟨a, m, by go_num, rfl, Nat.le_refl _, by omega, Nat.le_refl _, Nat.le_refl _, HS.out, rfl⟩
  case round =>
    obtain ⟨i, j, rfl, rfl, hmi, hij, hjb, hg1, hS, hO⟩ := hrel
    by_cases hlt : i < j
    · have hltz : (i : Int) < (j : Int) := by omega
      go_upto_region 35 with (fail)
      obtain ⟨h, hh⟩ : ∃ h : Nat, ((i : Int) + (j : Int)) / 2 = (h : Int) := ⟨(i + j) / 2, by omega⟩
      rw [hh]
      have hn : (i + j) / 2 = h := by omega
      have hb1 : i ≤ h ∧ h < j := by omega
      have hO1 := hO.out
      rw [bsr, if_pos hlt, hn] at hO1
      obtain ⟨hb1, hb2⟩ := hb1
      obtain ⟨q, hq⟩ : ∃ q, mid + m - 1 - h = q := ⟨_, rfl⟩
      have z1 : (h : Int) < (d.size : Int) := by omega
      have z2 : (q : Int) < (d.size : Int) := by omega
      obtain ⟨xx, hxx⟩ : ∃ z, d[q]! = z := ⟨_, rfl⟩
      obtain ⟨yy, hyy⟩ : ∃ z, d[h]! = z := ⟨_, rfl⟩
      have lx : ∀ n' os', Sem.run P (loadCellsFrom ⟨blk, off + (q) * k, none⟩ 0 k #[]) (grow (wr.drewN n') os') = .ok (enc xx).toArray (grow (wr.drewN n') os') := fun n' os' => by rw [← hxx]; exact hS.out.ld HR.out hsd.out.symm P (q) (by omega) n' os'
      have ly : ∀ n' os', Sem.run P (loadCellsFrom ⟨blk, off + (h) * k, none⟩ 0 k #[]) (grow (wr.drewN n') os') = .ok (enc yy).toArray (grow (wr.drewN n') os') := fun n' os' => by rw [← hyy]; exact hS.out.ld HR.out hsd.out.symm P (h) (by omega) n' os'
      have hcg : ∀ n' os', Calls P g (#[.agg (enc xx).toArray, .agg (enc yy).toArray] ++ cb) (grow (wr.drewN n') os') fun e w' => e = .returned (.int .i64 (cf xx yy)) ∧ ∃ q os'', w' = grow ((grow (wr.drewN n') os').drewN q) os'' := fun n' os' => hS.out.cmp HC.out hsd.out.symm xx yy n' os'
      have hqz : (pp : Int) - (h : Int) = (q : Int) := by omega
      have hqw : IntKind.i64.wrap ((pp : Int) - (h : Int)) = (q : Int) := by rw [hqz, IntKind.wrap_i64]; omega
      have hqw2 : IntKind.i64.wrap (q : Int) = (q : Int) := by rw [IntKind.wrap_i64]; omega
      by_cases hlv : cf xx yy < 0
      · as_aux_lemma =>
        have hp : (!ltOf cf d[mid + m - 1 - h]! d[h]!) = false := by rw [hq, hxx, hyy, Bool.not_eq_false']; exact decide_eq_true hlv
        rw [hp, if_neg (by decide)] at hO1
        have HO1 := hidden hO1
        clear hO1 hp hxx hyy hn hh hq
        go_quiet_grown (first | (go_at_fn g; refine Calls.grown_of (hcg _ _)))
        clear lx ly hcg hqz hqw hqw2
        go_wp2_with fail
        go_roundg (h - i)
        case measure => omega
        case rel => exact ⟨i, h, rfl, rfl, by omega, by omega, by omega, Nat.le_refl _, hidden (hS.out.grown _ _), HO1⟩
      · as_aux_lemma =>
        have hp : (!ltOf cf d[mid + m - 1 - h]! d[h]!) = true := by rw [hq, hxx, hyy, Bool.not_eq_true']; exact decide_eq_false hlv
        rw [hp, if_pos rfl] at hO1
        have HO1 := hidden hO1
        clear hO1 hp hxx hyy hn hh hq
        go_quiet_grown (first | (go_at_fn g; refine Calls.grown_of (hcg _ _)))
        clear lx ly hcg hqz hqw hqw2
        go_wp2_with fail
        go_roundg (j - (h + 1))
        case measure => omega
        case rel => exact ⟨h + 1, j, by go_num, rfl, by omega, by omega, hjb, Nat.le_refl _, hidden (hS.out.grown _ _), HO1⟩
    · obtain rfl : i = j := by omega
      have hO1 := hO.out
      rw [bsr, if_neg hlt, HSQ.out] at hO1
      obtain rfl : i = s := hO1
      clear hlt
      obtain ⟨wr0, rfl⟩ : ∃ wr0 : World, wr0 = wr := ⟨_, rfl⟩
      have hScur := hidden hS.out
      clear hS hO
      go_upto_region 39 with (fail)
      rw [hez.out]
      by_cases hA : i < m
      · by_cases hB : a < i
        · by_cases hC' : e < b
          · as_aux_lemma =>
            have c1 : i < m := by omega
            have c2 : m < e := by omega
            have c3 : a < i := by omega
            have c4 : i < mid := by omega
            have c5 : mid < e := by omega
            have c6 : e < b := by omega
            have hr := hres.out
            rw [if_pos ⟨c5, c6⟩, if_pos ⟨c3, c4⟩, if_pos ⟨c1, c2⟩] at hr
            have HRS := hidden hr
            clear hr hres
            go_wp2_with fail
            go_at_call 294
            refine (rotate_any k HL.out enc _ blk off cap i m e (b - a) d0 d w0 _ HR.out hsd.out hScur.out c1 c2 (by omega) (by omega) hsz).mono ?_
            rintro e1' w2 ⟨rfl, S2⟩
            have HSr := hidden S2
            have hzr := hidden (Z6.out _ (if_pos ⟨c1, c2⟩))
            clear S2 hScur
            go_wp2_with fail
            go_at_call 259
            refine (HIH.out a i mid (rot m (b - a) (m - i) (e - m) d) _ (by omega) c3 c4 (by omega) hzr.out HSr.out).mono ?_
            rintro e2' w3 ⟨rfl, S3⟩
            have HSl := hidden S3
            clear S3 HSr
            go_wp2_with fail
            go_at_call 259
            refine (HIH.out mid e b (symMerge (ltOf cf) f a i mid (rot m (b - a) (m - i) (e - m) d)) _ (by omega) c5 c6 (by omega) ((symMerge_size (ltOf cf) f a i mid (rot m (b - a) (m - i) (e - m) d)).trans hzr.out) HSl.out).mono ?_
            rintro e3' w4 ⟨rfl, S4⟩
            have HSq := hidden S4
            clear S4 HSl
            go_wp2
            go_end0
            exact ⟨rfl, by rw [HRS.out]; exact HSq.out⟩
          · exact absurd (show e < b by omega) hC'
        · by_cases hC' : e < b
          · as_aux_lemma =>
            have c1 : i < m := by omega
            have c2 : m < e := by omega
            have n2' : ¬(a < i ∧ i < mid) := by omega
            have c5 : mid < e := by omega
            have c6 : e < b := by omega
            have hr := hres.out
            rw [if_pos ⟨c5, c6⟩, if_neg n2', if_pos ⟨c1, c2⟩] at hr
            have HRS := hidden hr
            clear hr hres
            go_wp2_with fail
            go_at_call 294
            refine (rotate_any k HL.out enc _ blk off cap i m e (b - a) d0 d w0 _ HR.out hsd.out hScur.out c1 c2 (by omega) (by omega) hsz).mono ?_
            rintro e1' w2 ⟨rfl, S2⟩
            have HSr := hidden S2
            have hzr := hidden (Z6.out _ (if_pos ⟨c1, c2⟩))
            clear S2 hScur
            go_wp2_with fail
            go_at_call 259
            refine (HIH.out mid e b (rot m (b - a) (m - i) (e - m) d) _ (by omega) c5 c6 (by omega) hzr.out HSr.out).mono ?_
            rintro e3' w4 ⟨rfl, S4⟩
            have HSq := hidden S4
            clear S4 HSr
            go_wp2
            go_end0
            exact ⟨rfl, by rw [HRS.out]; exact HSq.out⟩
          · as_aux_lemma =>
            have c1 : i < m := by omega
            have c2 : m < e := by omega
            have n2' : ¬(a < i ∧ i < mid) := by omega
            have n3' : ¬(mid < e ∧ e < b) := by omega
            have hr := hres.out
            rw [if_neg n3', if_neg n2', if_pos ⟨c1, c2⟩] at hr
            have HRS := hidden hr
            clear hr hres
            go_wp2_with fail
            go_at_call 294
            refine (rotate_any k HL.out enc _ blk off cap i m e (b - a) d0 d w0 _ HR.out hsd.out hScur.out c1 c2 (by omega) (by omega) hsz).mono ?_
            rintro e1' w2 ⟨rfl, S2⟩
            have HSr := hidden S2
            have hzr := hidden (Z6.out _ (if_pos ⟨c1, c2⟩))
            clear S2 hScur
            go_wp2
            go_end0
            exact ⟨rfl, by rw [HRS.out]; exact HSr.out⟩
      · by_cases hD : m < mid
        · as_aux_lemma =>
          have n1' : ¬(i < m ∧ m < e) := by omega
          have c3 : a < i := by omega
          have c4 : i < mid := by omega
          have n3' : ¬(mid < e ∧ e < b) := by omega
          have hr := hres.out
          rw [if_neg n3', if_pos ⟨c3, c4⟩, if_neg n1'] at hr
          have HRS := hidden hr
          clear hr hres
          go_wp2_with fail
          go_at_call 259
          refine (HIH.out a i mid d _ (by omega) c3 c4 (by omega) rfl hScur.out).mono ?_
          rintro e2' w3 ⟨rfl, S3⟩
          have HSl := hidden S3
          clear S3 hScur
          go_wp2
          go_end0
          exact ⟨rfl, by rw [HRS.out]; exact HSl.out⟩
        · as_aux_lemma =>
          have n1' : ¬(i < m ∧ m < e) := by omega
          have n2' : ¬(a < i ∧ i < mid) := by omega
          have n3' : ¬(mid < e ∧ e < b) := by omega
          have hr := hres.out
          rw [if_neg n3', if_neg n2', if_neg n1'] at hr
          have HRS := hidden hr
          clear hr hres
          go_wp2
          go_end0
          exact ⟨rfl, by rw [HRS.out]; exact hScur.out⟩

theorem symMerge_any (eg : ∀ args w, (callFunc g args).run P w = .ok (.enter g args) w) (hC : CmpLays P g cb enc k cf blk off d0.size w0) (R : RowK enc k w0 blk off d0) (hsz : d0.size < 4611686018427387904) : ∀ (f a m b : Nat) (d : Array α) (w : World), b - a ≤ f → a < m → m < b → b ≤ d0.size → d.size = d0.size → SWK enc k w0 blk off d w →
    Calls P 259 #[.slice (some ⟨blk, off, none⟩) d0.size cap, .int .i64 a, .int .i64 m, .int .i64 b, .func (.func g) #[] cb] w fun e w' => e = .returned (.tuple #[]) ∧ SWK enc k w0 blk off (symMerge (ltOf cf) f a m b d) w'
  | 0, a, m, b, d, w, hf, ham, hmb, _, _, _ => by omega
  | f + 1, a, m, b, d, w, hf, ham, hmb, hb, hs, S => by
    have IH := symMerge_any eg hC R hsz f
    rw [← hs] at hb hsz IH ⊢
    by_cases h1 : m - a = 1
    · exact symA k L enc cf g cb blk off cap d0 w0 eg hC R f a m b d w hs.symm S h1 ham hmb hb hsz
    · by_cases h2 : b - m = 1
      · exact symB k L enc cf g cb blk off cap d0 w0 eg hC R f a m b d w hs.symm S h1 h2 ham hmb hb hsz
      · by_cases h3 : (a + b) / 2 < m
        · exact symC k L enc cf g cb blk off cap d0 w0 eg hC R f a m b _ d w hs.symm S h1 h2 ham hmb hb hf hsz rfl h3 IH
        · exact symD k L enc cf g cb blk off cap d0 w0 eg hC R f a m b _ d w hs.symm S h1 h2 ham hmb hb hf hsz rfl h3 IH

theorem symMerge_i (eg : ∀ args w, (callFunc g args).run P w = .ok (.enter g args) w) (hC : CmpLays P g cb enc k cf blk off d0.size w0) (R : RowK enc k w0 blk off d0) (hsz : d0.size < 4611686018427387904) (f a m b : Nat) (ai mi bi : Int) (d : Array α) (w : World) (ea : ai = a) (em : mi = m) (eb : bi = b) (hf : b - a ≤ f) (ham : a < m) (hmb : m < b) (hb : b ≤ d0.size) (hs : d.size = d0.size) (S : SWK enc k w0 blk off d w) :
    Calls P 259 #[.slice (some ⟨blk, off, none⟩) d0.size cap, .int .i64 ai, .int .i64 mi, .int .i64 bi, .func (.func g) #[] cb] w fun e w' => e = .returned (.tuple #[]) ∧ SWK enc k w0 blk off (symMerge (ltOf cf) f a m b d) w' := by
  subst ea em eb
  exact symMerge_any k L enc cf g cb blk off cap d0 w0 eg hC R hsz f a m b d w hf ham hmb hb hs S

end
end
end Go.Proofs.YtbijjjhfekkfaaaGreat.StabWin

namespace Go.Proofs.YtbijjjhfekkfaaaGreat.StabWin
set_option maxRecDepth 100000
open Go.Shelf Go.RowKit Go.Lib Go.Sort

section
variable {P : Program} {α : Type} [Inhabited α] (k : Nat) (L : Bears P k) (enc : α → List Value)
include L
section
variable (cf : α → α → Int) (g : Nat) (cb : Array Value) (blk off cap : Nat) (d0 : Array α) (w0 : World)

omit L in
/-- what is asked of the insertion sort -/
def InsOk : Prop := ∀ (a b : Nat) (d : Array α) (w : World), a ≤ b → b ≤ d0.size → d.size = d0.size → SWK enc k w0 blk off d w →
  Calls P 258 #[.slice (some ⟨blk, off, none⟩) d0.size cap, .int .i64 a, .int .i64 b, .func (.func g) #[] cb] w fun e w' => e = .returned (.tuple #[]) ∧ SWK enc k w0 blk off (insertionSort (ltOf cf) d a b) w'

omit L in
theorem ins_i (HI : InsOk (P := P) k enc cf g cb blk off cap d0 w0) (a b : Nat) (ai bi : Int) (d : Array α) (w : World) (ea : ai = a) (eb : bi = b) (hab : a ≤ b) (hb : b ≤ d0.size) (hs : d.size = d0.size) (S : SWK enc k w0 blk off d w) :
    Calls P 258 #[.slice (some ⟨blk, off, none⟩) d0.size cap, .int .i64 ai, .int .i64 bi, .func (.func g) #[] cb] w fun e w' => e = .returned (.tuple #[]) ∧ SWK enc k w0 blk off (insertionSort (ltOf cf) d a b) w' := by
  subst ea eb
  exact HI a b d w hab hb hs S

set_option maxHeartbeats 12800000 in
theorem stable_any (eg : ∀ args w, (callFunc g args).run P w = .ok (.enter g args) w) (hC : CmpLays P g cb enc k cf blk off d0.size w0) (R : RowK enc k w0 blk off d0) (HI : InsOk (P := P) k enc cf g cb blk off cap d0 w0) (hsz : d0.size < 1152921504606846976) (w : World) (S : SWK enc k w0 blk off d0 w) :
    Calls P 213 #[.slice (some ⟨blk, off, none⟩) d0.size cap, .int .i64 (d0.size : Nat), .func (.func g) #[] cb] w fun e w' => e = .returned (.tuple #[]) ∧ SWK enc k w0 blk off (stable (ltOf cf) d0.size d0) w' := by
  have mixed := L.mixed; have t0 := L.t0; have a0 := L.a0; have z0 := L.z0; have v0 := L.v0; have t3 := L.t3; have a3 := L.a3; have z3 := L.z3; have v3 := L.v3; have t4 := L.t4; have a4 := L.a4; have z4 := L.z4; have v4 := L.v4; have ts := L.ts; have as_ := L.as_; have zs := L.zs; have vs := L.vs; have tf := L.tf; have af := L.af; have zf := L.zf; have vf := L.vf; have aE := L.aE; have zE := L.zE
  have us := run_underlying L.ts
  have esym := L.esym
  have eins := L.eins
  have HL := hidden L
  have HS := hidden S
  have HR := hidden R
  have HC := hidden hC
  have HIN := hidden HI
  obtain ⟨n, hn⟩ : ∃ n, d0.size = n := ⟨_, rfl⟩
  have HN := hidden hn
  rw [hn] at hsz ⊢
  clear S R hC HI hn
  go_enter L.fstab, Tryz.ntmps213
  go_wp2_with fail
  go_loopg [7, 8] n (fun g1 va vb wr => ∃ (a : Nat) (dk : Array α), va = .int .i64 a ∧ vb = .int .i64 ((a + 20 : Nat) : Int) ∧ a ≤ n ∧ n - a ≤ g1 ∧ Hid (dk.size = d0.size) ∧ Hid (SWK enc k w0 blk off dk wr) ∧ Hid (insBlocks (ltOf cf) n a dk = insBlocks (ltOf cf) n 0 d0))
  case atStart => exact ⟨0, d0, rfl, rfl, Nat.zero_le _, Nat.le_refl _, rfl, HS.out, rfl⟩
  case round =>
    obtain ⟨a, dk, rfl, rfl, han, hg1, hsk, hS, hO⟩ := hrel
    have hO1 := hO.out
    rw [insBlocks] at hO1
    by_cases hlt : a + 20 ≤ n
    · have hltz : (a : Int) + 20 ≤ (n : Int) := by omega
      rw [if_pos hlt] at hO1
      have HO1 := hidden hO1
      clear hO1
      have hcon := ins_i (P := P) k enc cf g cb blk off cap d0 w0 HIN.out a (a + 20) a ((a : Int) + 20) dk wr rfl (by omega) (by omega) (by rw [HN.out]; exact hlt) hsk.out hS.out
      rw [HN.out] at hcon
      have HCON := hidden hcon
      clear hcon
      go_wp2_with fail
      go_at_call 258
      refine HCON.out.mono ?_
      rintro e w2 ⟨rfl, S2⟩
      have HS2 := hidden S2
      clear S2 HCON
      go_wp2_with fail
      go_roundg (n - (a + 20))
      case measure => omega
      case rel => exact ⟨a + 20, _, by go_num, by go_num, hlt, Nat.le_refl _, hidden ((insertionSort_size (ltOf cf) dk a (a + 20)).trans hsk.out), HS2, HO1⟩
    · have hltz : ¬ (a : Int) + 20 ≤ (n : Int) := by omega
      rw [if_neg hlt] at hO1
      have HO1 := hidden hO1
      clear hO1
      have hcon := ins_i (P := P) k enc cf g cb blk off cap d0 w0 HIN.out a n a n dk wr rfl rfl han (by rw [HN.out]; exact Nat.le_refl _) hsk.out hS.out
      rw [HN.out] at hcon
      have HCON := hidden hcon
      clear hcon
      go_wp2_with fail
      go_at_call 258
      refine HCON.out.mono ?_
      rintro e w2 ⟨rfl, S2⟩
      rw [HO1.out] at S2
      have HS2 := hidden S2
      have HZ := hidden ((insertionSort_size (ltOf cf) dk a n).trans hsk.out)
      rw [HO1.out] at HZ
      obtain ⟨D, hD⟩ : ∃ D, insBlocks (ltOf cf) n 0 d0 = D := ⟨_, rfl⟩
      rw [hD] at HS2 HZ
      have HD := hidden hD
      clear S2 HCON hO HO1 hS hsk hlt hltz han hg1 hD
      go_wp2_with fail
      go_loopg [6] n (fun g1 vk wr => ∃ (bk f : Nat) (dk : Array α), vk = .int .i64 bk ∧ 1 ≤ bk ∧ bk ≤ 2 * n + 40 ∧ n ≤ f + bk ∧ n - bk ≤ g1 ∧ Hid (dk.size = d0.size) ∧ Hid (SWK enc k w0 blk off dk wr) ∧ Hid (passes (ltOf cf) n f bk dk = passes (ltOf cf) n n 20 D))
      case atStart => exact ⟨20, n, D, rfl, by omega, by omega, by omega, by omega, HZ, HS2, rfl⟩
      case round =>
        obtain ⟨bk, f, dk, rfl, hbk, hbk2, hf, hg1, hsk, hS, hO⟩ := hrel
        by_cases hlt : bk < n
        · have hltz : (bk : Int) < (n : Int) := by omega
          obtain ⟨f, rfl⟩ : ∃ q, f = q + 1 := ⟨f - 1, by omega⟩
          have hO1 := hO.out
          rw [passes, if_pos hlt] at hO1
          have HO1 := hidden hO1
          obtain ⟨wo, rfl⟩ : ∃ wo : World, wo = wr := ⟨_, rfl⟩
          obtain ⟨dK, hdK⟩ : ∃ dK, dK = dk := ⟨_, rfl⟩
          subst hdK
          clear hO1 hO
          go_wp2_with fail
          go_loopg [7, 8] n (fun g2 va vb wx => ∃ (a fu : Nat) (dx : Array α), va = .int .i64 a ∧ vb = .int .i64 ((a + 2 * bk : Nat) : Int) ∧ a ≤ n ∧ n + 1 ≤ fu + a ∧ n - a ≤ g2 ∧ Hid (dx.size = d0.size) ∧ Hid (SWK enc k w0 blk off dx wx) ∧ Hid (pass (ltOf cf) bk n fu a dx = pass (ltOf cf) bk n (n + 1) 0 dK))
          case atStart => exact ⟨0, n + 1, dK, rfl, by go_num, Nat.zero_le _, Nat.le_refl _, Nat.le_refl _, hsk, hS, rfl⟩
          case round =>
            obtain ⟨a, fu, dx, rfl, rfl, han, hfu, hg2, hskx, hSx, hOx⟩ := hrel
            obtain ⟨fu, rfl⟩ : ∃ q, fu = q + 1 := ⟨fu - 1, by omega⟩
            have hO1 := hOx.out
            rw [pass] at hO1
            by_cases hl2 : a + 2 * bk ≤ n
            · have hl2z : (a : Int) + 2 * (bk : Int) ≤ (n : Int) := by omega
              rw [if_pos hl2] at hO1
              have HO2 := hidden hO1
              clear hO1
              have hcon := symMerge_i k HL.out enc cf g cb blk off cap d0 w0 eg HC.out HR.out (by rw [HN.out]; omega) (2 * bk) a (a + bk) (a + 2 * bk) a ((a : Int) + (bk : Int)) ((a : Int) + 2 * (bk : Int)) dx wr rfl (by omega) (by omega) (by omega) (by omega) (by omega) (by rw [HN.out]; exact hl2) hskx.out hSx.out
              rw [HN.out] at hcon
              have HCON := hidden hcon
              clear hcon
              go_wp2_with fail
              go_at_call 259
              refine HCON.out.mono ?_
              rintro e w3 ⟨rfl, S3⟩
              have HS3 := hidden S3
              clear S3 HCON
              go_wp2_with fail
              go_roundg (n - (a + 2 * bk))
              case measure => omega
              case rel => exact ⟨a + 2 * bk, fu, _, by go_num, by go_num, hl2, by omega, Nat.le_refl _, hidden ((symMerge_size (ltOf cf) _ _ _ _ dx).trans hskx.out), HS3, HO2⟩
            · have hl2z : ¬ (a : Int) + 2 * (bk : Int) ≤ (n : Int) := by omega
              rw [if_neg hl2] at hO1
              by_cases hl3 : a + bk < n
              · have hl3z : (a : Int) + (bk : Int) < (n : Int) := by omega
                rw [if_pos hl3] at hO1
                have HO2 := hidden hO1
                clear hO1
                have hcon := symMerge_i k HL.out enc cf g cb blk off cap d0 w0 eg HC.out HR.out (by rw [HN.out]; omega) (n - a) a (a + bk) n a ((a : Int) + (bk : Int)) n dx wr rfl (by omega) rfl (Nat.le_refl _) (by omega) hl3 (by rw [HN.out]; exact Nat.le_refl _) hskx.out hSx.out
                rw [HN.out] at hcon
                have HCON := hidden hcon
                clear hcon
                go_wp2_with fail
                go_at_call 259
                refine HCON.out.mono ?_
                rintro e w3 ⟨rfl, S3⟩
                rw [HO2.out] at S3
                have HS3 := hidden S3
                have HZ3 := hidden ((symMerge_size (ltOf cf) (n - a) a (a + bk) n dx).trans hskx.out)
                rw [HO2.out] at HZ3
                clear S3 HCON
                go_wp2_with fail
                go_roundg (n - 2 * bk)
                case measure => omega
                case rel => exact ⟨2 * bk, f, _, by go_num, by omega, by omega, by omega, Nat.le_refl _, HZ3, HS3, HO1⟩
              · have hl3z : ¬ (a : Int) + (bk : Int) < (n : Int) := by omega
                rw [if_neg hl3] at hO1
                have HO2 := hidden hO1
                have hS3 := hSx.out
                rw [HO2.out] at hS3
                have HS3 := hidden hS3
                have HZ3 := hskx.out
                rw [HO2.out] at HZ3
                have HZ4 := hidden HZ3
                clear hO1 hS3 HZ3
                go_wp2_with fail
                go_roundg (n - 2 * bk)
                case measure => omega
                case rel => exact ⟨2 * bk, f, _, by go_num, by omega, by omega, by omega, Nat.le_refl _, HZ4, HS3, HO1⟩
        · have hltz : ¬ (bk : Int) < (n : Int) := by omega
          have h1 : passes (ltOf cf) n f bk dk = dk := by
            cases f with
            | zero => rfl
            | succ q => rw [passes, if_neg hlt]
          have h2 := hO.out
          rw [h1] at h2
          have H2 := hidden (h2.trans (by rw [HN.out, stable, HD.out] : passes (ltOf cf) n n 20 D = stable (ltOf cf) d0.size d0))
          clear h1 h2 hlt
          go_wp2
          go_end0
          exact ⟨rfl, by rw [HN.out] at H2; rw [← H2.out]; exact hS.out⟩
end
end
end Go.Proofs.YtbijjjhfekkfaaaGreat.StabWin
