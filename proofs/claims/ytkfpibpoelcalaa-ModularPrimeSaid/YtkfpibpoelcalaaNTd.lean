/- A part of the search, reckoned by the kernel: no composite number below 2^32 of this part passes the strong test to the bases 2, 7 and 61. -/
import Derived.Test.YtkfpibpoelcalaaNT3
namespace Go.Proofs.Ytkfpibpoelcalaa.NT
theorem top_6 : tops 120 10 = true := by decide +kernel
theorem top_7 : tops 130 10 = true := by decide +kernel
end Go.Proofs.Ytkfpibpoelcalaa.NT
