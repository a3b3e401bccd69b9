/- A part of the search, reckoned by the kernel: no composite number below 2^32 of this part passes the strong test to the bases 2, 7 and 61. -/
import Derived.Test.YtkfpibpoelcalaaNT3
namespace Go.Proofs.Ytkfpibpoelcalaa.NT
noncomputable def exc_0 : List (Nat × Nat) := [(1033, 516), (1201, 600), (1223, 611), (1297, 648)]
theorem odds_0 : odds exc_0 1001 184 = true := by decide +kernel
noncomputable def exc_1 : List (Nat × Nat) := [(1399, 699), (1423, 474), (1511, 755), (1559, 779), (1567, 783), (1657, 552), (1783, 891), (1879, 939), (1913, 956), (1951, 975), (2017, 1008)]
theorem odds_1 : odds exc_1 1369 366 = true := by decide +kernel
noncomputable def exc_2 : List (Nat × Nat) := [(2383, 1191), (2399, 1199), (2521, 1260), (2657, 664), (2687, 1343), (2689, 1344), (2791, 1395), (2801, 1400), (2887, 1443), (2903, 1451), (2969, 1484), (2971, 990), (3023, 1511), (3049, 1524), (3089,
  1544), (3167, 1583), (3191, 1595), (3217, 1608), (3313, 1656), (3359, 1679), (3373, 1124), (3391, 1695), (3407, 1703), (3463, 1731), (3529, 1764), (3583, 1791), (3863, 1931), (3889, 1944), (3919,
  1959), (3929, 1964), (4001, 2000), (4007, 2003), (4027, 1342), (4153, 2076), (4231, 2115)]
theorem odds_2 : odds exc_2 2101 1086 = true := by decide +kernel
end Go.Proofs.Ytkfpibpoelcalaa.NT
