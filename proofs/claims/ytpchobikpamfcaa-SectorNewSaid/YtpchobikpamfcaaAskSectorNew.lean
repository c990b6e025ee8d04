/- What the law SectorNew asks, without memory; how its arguments open. -/
import Derived.Test.YtpchobikpamfcaaSkNew
import Derived.Test.YtpchobikpamfcaaOpens
namespace Go.Proofs.Ytpchobikpamfcaa.OpensSectorNew
open Go Go.RowKit Go.Proofs.Ytpchobikpamfcaa.Opens Go.Proofs.Ytpchobikpamfcaa.Q Go.Proofs.YtpchobikpamfcaaW.PrintWords Go.Proofs.Ytpchobikpamfcaa.Sk
/-- THE ONE PURE STATEMENT. -/
def Pure : Prop := ∀ (a0 : Int), ((Lit.int .i64 a0).wf = true) → cantonlaw03_SectorNew.f a0 = some true
end Go.Proofs.Ytpchobikpamfcaa.OpensSectorNew
