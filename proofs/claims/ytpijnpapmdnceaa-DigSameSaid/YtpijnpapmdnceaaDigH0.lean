/- Two digests. -/
import Derived.Test.YtpijnpapmdnceaaDigD
namespace Go.Proofs.Ytpijnpapmdnceaa
open Go Go.RowKit
theorem dgt_facts : gb (dgt []) 0 = 167#8 ∧ gb (dgt []) 1 = 255#8 ∧ gb (dgt [97#8, 98#8, 99#8]) 0 = 58#8 ∧ gb (dgt [97#8, 98#8, 99#8]) 1 = 152#8 := by decide +kernel
end Go.Proofs.Ytpijnpapmdnceaa
