/- labels.Show and the reference's: a set as a text. Condition: the row is within the reach. labels.Get and the reference's: the value of a name. Condition: the row is within the reach. -/
import Derived.Test.YtdggnnjjiolldaaGreatPke792ef58
import Derived.Test.YtdggnnjjiolldaaGreatPk725f7430
import Derived.Test.YtdggnnjjiolldaaGreatPk00738a2a
import Derived.Test.YtdggnnjjiolldaaGreatPkcbb96029
namespace Go.Proofs.YtdggnnjjiolldaaGreat
set_option maxRecDepth 100000
open Go.RowKit

/-- one label as a text -/
def partL (x : Lbl) : List UInt8 := x.name.data.toList ++ 61 :: quoteL x.value.data.toList
def partB (x : Lbl) : ByteArray := ⟨(partL x).toArray⟩
/-- a list as a text -/
def showP (l : List Lbl) : List UInt8 := joinL (l.map partB)
def showL (l : List Lbl) : List UInt8 := if validP l then showP l else []
theorem valid_small {l : List Lbl} (h : validP l) : l.length ≤ 8 ∧ ∀ x ∈ l, x.name.size ≤ 32 ∧ x.value.size ≤ 64 := by
  obtain ⟨h1, h2, h3⟩ := makeErr_ok h.1
  refine ⟨h2, fun x hx => ?_⟩
  obtain ⟨a, b⟩ := make_fits h3 x hx
  unfold fitN at a
  unfold fitV at b
  simp only [Bool.and_eq_true, decide_eq_true_eq] at a b
  exact ⟨a.2.2, b.2⟩
theorem partB_size {x : Lbl} (h1 : x.name.size ≤ 32) (h2 : x.value.size ≤ 64) : (partB x).size ≤ 1000 := by
  have e : (partB x).size = (partL x).length := rfl
  have h3 := quoL_len x.value.data.toList
  have e1 : x.name.data.toList.length = x.name.size := rfl
  have e2 : x.value.data.toList.length = x.value.size := rfl
  rw [e]
  simp only [partL, quoteL, List.length_append, List.length_cons, List.length_nil]
  omega
theorem infoStr : (Tryz.prog.info? 9).map (fun i => (i.zero, i.size, i.bytes)) = some (some (.string ⟨#[]⟩), 1, 16) := by kernel_rfl

end Go.Proofs.YtdggnnjjiolldaaGreat

namespace Go.Proofs.YtdggnnjjiolldaaGreat
set_option maxRecDepth 100000
open Go.RowKit

def getL : List Lbl → ByteArray → ByteArray
  | [], _ => ⟨#[]⟩
  | x :: l, nm => if x.name = nm then x.value else getL l nm
theorem getL_none : ∀ {l : List Lbl} {nm : ByteArray}, (∀ x ∈ l, x.name ≠ nm) → getL l nm = ⟨#[]⟩
  | [], _, _ => rfl
  | x :: l, nm, h => by rw [getL, if_neg (h x (by simp)), getL_none fun y hy => h y (by simp [hy])]
theorem getL_here : ∀ {l : List Lbl} {nm : ByteArray} {k : Nat} {x : Lbl}, (∀ y ∈ l.take k, y.name ≠ nm) → l[k]? = some x → x.name = nm → getL l nm = x.value
  | y :: l, nm, 0, x, _, hx, e => by
    simp only [List.getElem?_cons_zero, Option.some.injEq] at hx
    subst hx
    rw [getL, if_pos e]
  | y :: l, nm, k + 1, x, h, hx, e => by
    rw [getL, if_neg (h y (by simp)), getL_here (fun z hz => h z (by rw [List.take_succ_cons]; exact List.mem_cons_of_mem _ hz)) (by simpa using hx) e]

end Go.Proofs.YtdggnnjjiolldaaGreat
