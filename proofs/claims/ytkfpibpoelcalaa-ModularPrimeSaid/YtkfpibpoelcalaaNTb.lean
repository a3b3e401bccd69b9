/- A part of the search, reckoned by the kernel: no composite number below 2^32 of this part passes the strong test to the bases 2, 7 and 61. -/
import Derived.Test.YtkfpibpoelcalaaNT3
namespace Go.Proofs.Ytkfpibpoelcalaa.NT
theorem top_2 : tops 60 20 = true := by decide +kernel
theorem top_3 : tops 80 20 = true := by decide +kernel
end Go.Proofs.Ytkfpibpoelcalaa.NT
