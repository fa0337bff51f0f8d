/-
  The document's Rename.
-/
import Derived.Test.YtbejmdlncnkaaaaGreatRmB
import Derived.Test.YtbejmdlncnkaaaaGreatRvs
import Derived.Test.YtbejmdlncnkaaaaGreatCol
namespace Go.Proofs.YtbejmdlncnkaaaaGreat
open Go.RowKit

theorem rmade77m {cf : V → V → Int} (hC : RCmpOk V.wf cf) (hO : OrdOk (fun v => V.wf v ∧ vcheck v = 0) cf) {w : World} {v1 v2 : Value} {l : List BA} {rs : List Row} {hs0 : List Value} (h1 : RdStr w v1 l) (h2 : RdRows w v2 rs hs0)
    (hl : l.length ≤ 3518437208780) (hr : rs.length ≤ 5864062014634) (hn : l.Nodup) (hw : ∀ r, r ∈ rs → r.length = l.length ∧ ∀ x, x ∈ r → vcheck x = 0) (hwf : ∀ r, r ∈ rs → ∀ x, x ∈ r → V.wf x) :
    Calls Tryz.prog 67 #[v1, v2] w fun e w' => ∃ u, e = .returned u ∧ OwnTab w w' u (madeT cf l rs) := by
  refine (rmade77 hC h1 h2 hl hr (fun r h => (hw r h).1) (fun r h y hy => ⟨hwf r h y hy, hwf r h y hy⟩)).mono ?_
  rintro e w' ⟨u, hs, he, hl', ho⟩
  rw [rmadeT_eq hO hn hl' (fun r h => (hw r h).1) (fun r h y hy => ⟨hwf r h y hy, (hw r h).2 y hy⟩)] at ho
  exact ⟨u, he, ho⟩

end Go.Proofs.YtbejmdlncnkaaaaGreat
