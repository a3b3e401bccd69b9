/- The bases 2, 7 and 61 decide for all numbers below 2^32: no composite number passes. -/
import Derived.Test.YtkfpibpoelcalaaNTa
import Derived.Test.YtkfpibpoelcalaaNTb
import Derived.Test.YtkfpibpoelcalaaNTc
import Derived.Test.YtkfpibpoelcalaaNTd
import Derived.Test.YtkfpibpoelcalaaNTe
import Derived.Test.YtkfpibpoelcalaaNTf
import Derived.Test.YtkfpibpoelcalaaNTg
import Derived.Test.YtkfpibpoelcalaaNTh
namespace Go.Proofs.Ytkfpibpoelcalaa.NT
theorem top_all (i : Nat) (hi : i < tab.length) : top i = true := by
  have hl : tab.length = 165 := by decide +kernel
  rw [hl] at hi
  by_cases h0 : i < 30
  · exact tops_at top_0 (i := i - 0) (by omega) (by omega)
  by_cases h1 : i < 60
  · exact tops_at top_1 (i := i - 30) (by omega) (by omega)
  by_cases h2 : i < 80
  · exact tops_at top_2 (i := i - 60) (by omega) (by omega)
  by_cases h3 : i < 100
  · exact tops_at top_3 (i := i - 80) (by omega) (by omega)
  by_cases h4 : i < 110
  · exact tops_at top_4 (i := i - 100) (by omega) (by omega)
  by_cases h5 : i < 120
  · exact tops_at top_5 (i := i - 110) (by omega) (by omega)
  by_cases h6 : i < 130
  · exact tops_at top_6 (i := i - 120) (by omega) (by omega)
  by_cases h7 : i < 140
  · exact tops_at top_7 (i := i - 130) (by omega) (by omega)
  by_cases h8 : i < 150
  · exact tops_at top_8 (i := i - 140) (by omega) (by omega)
  by_cases h9 : i < 165
  · exact tops_at top_9 (i := i - 150) (by omega) (by omega)
  omega
theorem odd_all (x : Nat) (h1 : 1000 < x) (h2 : x < 65536) (h3 : x % 2 = 1) : ∃ e, one_ e x = true := by
  by_cases h10 : x < 1369
  · exact ⟨_, odds_at odds_0 (i := (x - 1001) / 2) (by omega) (by omega)⟩
  by_cases h11 : x < 2101
  · exact ⟨_, odds_at odds_1 (i := (x - 1369) / 2) (by omega) (by omega)⟩
  by_cases h12 : x < 4273
  · exact ⟨_, odds_at odds_2 (i := (x - 2101) / 2) (by omega) (by omega)⟩
  by_cases h13 : x < 11199
  · exact ⟨_, odds_at odds_3 (i := (x - 4273) / 2) (by omega) (by omega)⟩
  by_cases h14 : x < 23169
  · exact ⟨_, odds_at odds_4 (i := (x - 11199) / 2) (by omega) (by omega)⟩
  by_cases h15 : x < 37141
  · exact ⟨_, odds_at odds_5 (i := (x - 23169) / 2) (by omega) (by omega)⟩
  by_cases h16 : x < 51975
  · exact ⟨_, odds_at odds_6 (i := (x - 37141) / 2) (by omega) (by omega)⟩
  by_cases h17 : x < 65537
  · exact ⟨_, odds_at odds_7 (i := (x - 51975) / 2) (by omega) (by omega)⟩
  omega
theorem no_bad (n : Nat) : ¬ Bad n := no_bad_of top_all odd_all n
end Go.Proofs.Ytkfpibpoelcalaa.NT
