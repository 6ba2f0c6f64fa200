/-
  What CertificateChecks computes: true, on all raw certificates.
-/
import Derived.Test.YtenpkgdnlogfiaaGreatDoorChk2
import Derived.Test.YtenpkgdnlogfiaaGreatDoorCEq1
namespace Go.Proofs.YtenpkgdnlogfiaaGreatDoor
open Go.RowKit
attribute [local go_sem ↓] Go.wp_at_zero Go.wp_at_succ
set_option maxRecDepth 20000

theorem stable_rcert {v : Value} {c : CertD} : Stable fun D w => IsRCert w D v c := fun D D' w w' h a b k => by
  obtain ⟨pv, qv, h1, h2, h3, h4, h5⟩ := h
  exact ⟨pv, qv, h1, h2, h3, stable_sl (by decide) D D' w w' h4 a b k, stable_sl (by decide) D D' w w' h5 a b k⟩

end Go.Proofs.YtenpkgdnlogfiaaGreatDoor
