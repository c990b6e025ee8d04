/- SectorNew, without memory: the walk shows it true. -/
import Derived.Test.YtpchobikpamfcaaAskSectorNew
namespace Go.Proofs.Ytpchobikpamfcaa.Pure
open Go Go.RowKit Go.Proofs.Ytpchobikpamfcaa.Sk Go.Proofs.Ytpchobikpamfcaa.OpensSectorNew
theorem SectorNew : OpensSectorNew.Pure := by
  intro a0 h0
  rfl
end Go.Proofs.Ytpchobikpamfcaa.Pure
