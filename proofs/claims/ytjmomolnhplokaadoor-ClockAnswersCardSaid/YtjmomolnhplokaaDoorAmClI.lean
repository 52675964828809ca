/-
  ClockAnswers, part I: the reference's rates.
-/
import Derived.Test.YtjmomolnhplokaaDoorAmClH
namespace Go.Am.Cl
open Go Go.Am Go.Proofs
set_option maxRecDepth 100000
set_option linter.unusedSimpArgs false
set_option linter.unusedVariables false
variable {G : Gl}
theorem rparent_ok (c : Clock) (k i : Int) (hv : validF c i = true) (hk : 0 ≤ k ∧ k < c.cho.length) : Ok Tryd.prog G 49 [.agg (encC c), int k] [] fun r h => r = int (parentF c k) ∧ h = [] := by
  have f := parent_facts hv hk
  refine Ok.intro' [] [] [5] 24 [.tmp 4] mixed Tryd.func49 (by kernel_rfl) rfl rfl rfl (by kernel_rfl) (by simp) (fun _ _ h => by cases h) (fun _ h => by cases h) ?_
  simp (config := {maxSteps := 10000000}) only [go_sem, ↓reduceIte, reduceCtorEq, Nat.reduceAdd, Nat.reduceSub, Nat.reduceMul, Nat.reduceEqDiff, Nat.reduceBEq, Nat.reduceLeDiff, Nat.reduceLT, Nat.reducePow, Nat.reduceMod]
  unfold parentF
  refine ite_intro (fun k1 => ?_) (fun k1 => ?_)
  · rw [if_pos k1]
  · refine ite_intro (fun k4 => ?_) (fun k4 => ?_)
    · have := f.2.1 k4
      rw [if_neg k1, if_pos k4]
      exact ⟨by omega, by omega, rfl⟩
    · rw [if_neg k1, if_neg k4]
      exact ⟨by have := f.2.2.1 k1 k4; omega, rfl⟩
theorem gcdI_step (x y : Int) (hx : 0 ≤ x) (hy : 0 < y) : gcdI x y = gcdI y (x.tmod y) := by
  have ht : x.tmod y = x % y := Int.tmod_eq_emod_of_nonneg hx
  simp only [gcdI, ht]
  obtain ⟨m, rfl⟩ := Int.eq_ofNat_of_zero_le hx
  obtain ⟨n, rfl⟩ := Int.eq_ofNat_of_zero_le (Int.le_of_lt hy)
  have e : (m : Int) % (n : Int) = ((m % n : Nat) : Int) := (Int.natCast_emod m n).symm
  simp only [e, Int.gcd_natCast_natCast]
  rw [Nat.gcd_comm m n, Nat.gcd_comm n (m % n), ← Nat.gcd_rec n m]
theorem divisor_ok (a b : Int) (ha : 0 ≤ a) (hb : 0 ≤ b) : Ok Tryd.prog G 67 [int a, int b] [] fun r h => r = int (gcdI a b) ∧ h = [] := by
  refine Ok.intro' [] [] [] 12 [.tmp 4] mixed Tryd.func67 (by kernel_rfl) rfl rfl rfl (by kernel_rfl) (by simp) (fun _ _ h => by cases h) (fun _ h => by cases h) ?_
  simp (config := {maxSteps := 10000000}) only [go_sem, ↓reduceIte, reduceCtorEq, Nat.reduceAdd, Nat.reduceSub, Nat.reduceMul, Nat.reduceEqDiff, Nat.reduceBEq, Nat.reduceLeDiff, Nat.reduceLT, Nat.reducePow, Nat.reduceMod]
  refine TC'.loop [2] (fun (x : Int × Int) => ⟨[(0, int x.1), (1, int x.2)], []⟩) (fun x => 0 ≤ x.1 ∧ 0 ≤ x.2 ∧ gcdI a b = gcdI x.1 x.2) (fun x => x.2.toNat) (a, b) mixed (by kernel_rfl) ?_ ?_ ?_
  · simp (config := {maxSteps := 10000000}) only [go_sem, ↓reduceIte, reduceCtorEq, Nat.reduceAdd, Nat.reduceSub, Nat.reduceMul, Nat.reduceEqDiff, Nat.reduceBEq, Nat.reduceLeDiff, Nat.reduceLT, Nat.reducePow, Nat.reduceMod]
  · exact ⟨ha, hb, rfl⟩
  · intro ⟨x, y⟩ ⟨hx, hy, hg⟩
    simp only at hx hy hg
    simp (config := {maxSteps := 10000000}) only [go_sem, ↓reduceIte, reduceCtorEq, Nat.reduceAdd, Nat.reduceSub, Nat.reduceMul, Nat.reduceEqDiff, Nat.reduceBEq, Nat.reduceLeDiff, Nat.reduceLT, Nat.reducePow, Nat.reduceMod]
    refine ite_intro (fun h => ?_) (fun h => ?_)
    · have hm := Int.emod_nonneg x h
      have hl := Int.emod_lt_of_pos x (by omega : 0 < y)
      have ht : x.tmod y = x % y := Int.tmod_eq_emod_of_nonneg hx
      exact ⟨h, (y, x.tmod y), ⟨hy, by simp only [ht]; exact hm, by rw [hg]; exact gcdI_step x y hx (by omega)⟩, by simp only [ht]; omega, rfl, rfl⟩
    · simp only [Decidable.not_not] at h
      subst h
      rw [hg]
      simp only [gcdI, Int.gcd_zero_right]
      omega
theorem rvalidR_ok (r : Rate) : Ok Tryd.prog G 54 [.agg (encR r)] [] fun v h => v = bool (validR r) ∧ h = [] := by
  refine Ok.intro' [] [] [] 29 [.tmp 2] mixed Tryd.func54 (by kernel_rfl) rfl rfl rfl (by kernel_rfl) (by simp) (fun _ _ h => by cases h) (fun _ h => by cases h) ?_
  simp (config := {maxSteps := 10000000}) only [go_sem, ↓reduceIte, reduceCtorEq, Nat.reduceAdd, Nat.reduceSub, Nat.reduceMul, Nat.reduceEqDiff, Nat.reduceBEq, Nat.reduceLeDiff, Nat.reduceLT, Nat.reducePow, Nat.reduceMod]
  unfold validR
  refine ite_intro (fun h1 => ?_) (fun h1 => ?_)
  · refine ite_intro (fun h2 => ?_) (fun h2 => ?_)
    · refine ite_intro (fun h3 => ?_) (fun h3 => ?_)
      · refine ite_intro (fun h4 => ?_) (fun h4 => ?_)
        · (refine CallW'.of [] [] (divisor_ok r.num r.den h1 (by omega)) (by simp (config := {maxSteps := 10000000}) only [go_sem, ↓reduceIte, reduceCtorEq, Nat.reduceAdd, Nat.reduceSub, Nat.reduceMul, Nat.reduceEqDiff, Nat.reduceBEq, Nat.reduceLeDiff, Nat.reduceLT, Nat.reducePow, Nat.reduceMod]) ?_; rintro _ _ ⟨rfl, rfl⟩; simp (config := {maxSteps := 10000000}) only [go_sem, ↓reduceIte, reduceCtorEq, Nat.reduceAdd, Nat.reduceSub, Nat.reduceMul, Nat.reduceEqDiff, Nat.reduceBEq, Nat.reduceLeDiff, Nat.reduceLT, Nat.reducePow, Nat.reduceMod])
          simp [h1, h2, h3, h4]
          rfl
        · simp [h4]
      · simp [h3]
    · simp [h2]
  · simp [h1]
theorem factor_ok (k : Int) : Ok Tryd.prog G 65 [int k] [] fun v h => v = bool (decide (1 ≤ k ∧ k ≤ 64)) ∧ h = [] := by
  refine Ok.intro' [] [] [] 9 [.tmp 2] mixed Tryd.func65 (by kernel_rfl) rfl rfl rfl (by kernel_rfl) (by simp) (fun _ _ h => by cases h) (fun _ h => by cases h) ?_
  simp (config := {maxSteps := 10000000}) only [go_sem, ↓reduceIte, reduceCtorEq, Nat.reduceAdd, Nat.reduceSub, Nat.reduceMul, Nat.reduceEqDiff, Nat.reduceBEq, Nat.reduceLeDiff, Nat.reduceLT, Nat.reducePow, Nat.reduceMod]
  refine ite_intro (fun h1 => ?_) (fun h1 => ?_)
  · simp [h1]
  · simp [h1]
theorem rnewR_ok (n d : Int) (h1 : n ≤ 2 ^ 62) (h2 : d ≤ 2 ^ 62): Ok Tryd.prog G 66 [int n, int d] [] fun v h => v = .tup [.agg (encR (newF n d).1), int (newF n d).2] ∧ h = [] := by
  refine Ok.intro' [] [] [] 30 [.cell 4 54, .tmp 5] mixed Tryd.func66 (by kernel_rfl) rfl rfl rfl (by kernel_rfl) (by simp) (fun _ _ h => by cases h) (fun _ h => by cases h) ?_
  simp (config := {maxSteps := 10000000}) only [go_sem, ↓reduceIte, reduceCtorEq, Nat.reduceAdd, Nat.reduceSub, Nat.reduceMul, Nat.reduceEqDiff, Nat.reduceBEq, Nat.reduceLeDiff, Nat.reduceLT, Nat.reducePow, Nat.reduceMod]
  unfold newF
  refine ite_intro (fun h3 => ?_) (fun h3 => ?_)
  · simp [h3]
  · refine ite_intro (fun h4 => ?_) (fun h4 => ?_)
    · simp [h4]
    · rw [if_neg (by omega)]
      (refine CallW'.of [] [] (divisor_ok n d (by omega) (by omega)) (by simp (config := {maxSteps := 10000000}) only [go_sem, ↓reduceIte, reduceCtorEq, Nat.reduceAdd, Nat.reduceSub, Nat.reduceMul, Nat.reduceEqDiff, Nat.reduceBEq, Nat.reduceLeDiff, Nat.reduceLT, Nat.reducePow, Nat.reduceMod]) ?_; rintro _ _ ⟨rfl, rfl⟩; simp (config := {maxSteps := 10000000}) only [go_sem, ↓reduceIte, reduceCtorEq, Nat.reduceAdd, Nat.reduceSub, Nat.reduceMul, Nat.reduceEqDiff, Nat.reduceBEq, Nat.reduceLeDiff, Nat.reduceLT, Nat.reducePow, Nat.reduceMod])
      have hg : 1 ≤ gcdI n d := gcdI_pos (by omega)
      have hq : ∀ x : Int, 0 ≤ x → x.tdiv (gcdI n d) = x / gcdI n d := fun x hx => Int.tdiv_eq_ediv_of_nonneg hx
      have hw : ∀ x : Int, 0 ≤ x → x ≤ 2 ^ 62 → IntKind.i64.wrap (x / gcdI n d) = x / gcdI n d := fun x hx hx2 => by
        have := div_bd hx hg
        exact w64 (by omega) (by omega)
      refine TC'.draw [] (.q 0 (.q 1 (.q 2 (.q 3 (.q 4 (.q 5 (.q 6 (.e [(7, (.e [(8, .done)]))])))))))) mixed (by kernel_rfl) (by kernel_rfl) ?_
      simp (config := {maxSteps := 10000000}) only [go_sem, ↓reduceIte, reduceCtorEq, Nat.reduceAdd, Nat.reduceSub, Nat.reduceMul, Nat.reduceEqDiff, Nat.reduceBEq, Nat.reduceLeDiff, Nat.reduceLT, Nat.reducePow, Nat.reduceMod]
      rw [hq n (by omega), hq d (by omega), hw n (by omega) h1, hw d (by omega) h2]
      refine ⟨by omega, by omega, ?_⟩
      (refine CallW'.of [] [] (rvalidR_ok ⟨n / gcdI n d, d / gcdI n d⟩) (by simp (config := {maxSteps := 10000000}) only [go_sem, ↓reduceIte, reduceCtorEq, Nat.reduceAdd, Nat.reduceSub, Nat.reduceMul, Nat.reduceEqDiff, Nat.reduceBEq, Nat.reduceLeDiff, Nat.reduceLT, Nat.reducePow, Nat.reduceMod]) ?_; rintro _ _ ⟨rfl, rfl⟩; simp (config := {maxSteps := 10000000}) only [go_sem, ↓reduceIte, reduceCtorEq, Nat.reduceAdd, Nat.reduceSub, Nat.reduceMul, Nat.reduceEqDiff, Nat.reduceBEq, Nat.reduceLeDiff, Nat.reduceLT, Nat.reducePow, Nat.reduceMod])
      refine ite_intro (fun hv => ?_) (fun hv => ?_)
      · simp [hv]
      · simp [hv]
theorem newF_scale {a d c : Int} (hc : 1 ≤ c) (ha : 0 ≤ a) (hd : 1 ≤ d) : newF (c * a) (c * d) = newF a d := by
  have h1 : 0 ≤ c * a := Int.mul_nonneg (by omega) ha
  have h2 : c * 1 ≤ c * d := Int.mul_le_mul_of_nonneg_left hd (by omega)
  have hg : gcdI (c * a) (c * d) = c * gcdI a d := by
    unfold gcdI
    rw [Int.gcd_mul_left, Int.natCast_mul, Int.natAbs_of_nonneg (by omega)]
  unfold newF
  rw [if_neg (by omega : ¬ (c * a < 0 ∨ c * d < 1)), if_neg (by omega : ¬ (a < 0 ∨ d < 1)), hg, Int.mul_ediv_mul_of_pos _ _ (by omega), Int.mul_ediv_mul_of_pos _ _ (by omega)]
theorem overF_eq (r : Rate) (k : Int) : overF r k = if validR r = false then (⟨0, 0⟩, 1) else if k < 1 ∨ 64 < k then (⟨0, 0⟩, 2) else newF r.num (r.den * k) := by
  unfold overF scF
  split
  · rfl
  · split
    · rfl
    · rename_i hv hk
      have ⟨b1, b2, b3, b4, b5⟩ := validR_bd (r := r) (by simpa using hv)
      have hg := gcdI_pos (n := r.num) (d := k) (by omega)
      obtain ⟨a, ha⟩ : gcdI r.num k ∣ r.num := Int.gcd_dvd_left r.num k
      obtain ⟨b, hb⟩ : gcdI r.num k ∣ k := Int.gcd_dvd_right r.num k
      have e1 : r.num / gcdI r.num k = a := Int.ediv_eq_of_eq_mul_right (by omega) ha
      have e2 : k / gcdI r.num k = b := Int.ediv_eq_of_eq_mul_right (by omega) hb
      unfold overN
      simp only [e1, e2]
      have hb1 : 1 ≤ b := by
        by_cases h : 1 ≤ b
        · exact h
        · have : gcdI r.num k * b ≤ gcdI r.num k * 0 := Int.mul_le_mul_of_nonneg_left (by omega) (by omega)
          omega
      have ha0 : 0 ≤ a := by rw [← e1]; exact (div_bd b1 hg).1
      have hd1 : 1 * 1 ≤ r.den * b := Int.mul_le_mul b3 hb1 (by omega) (by omega)
      have := newF_scale hg ha0 (by omega : 1 ≤ r.den * b)
      rw [← this, ← ha, Int.mul_left_comm, ← hb]
theorem rover_ok (r : Rate) (k : Int) : Ok Tryd.prog G 52 [.agg (encR r), int k] [] fun v h => v = .tup [.agg (encR (overF r k).1), int (overF r k).2] ∧ h = [] := by
  rw [overF_eq]
  refine Ok.intro' [] [] [] 23 [.cell 4 54, .tmp 5] mixed Tryd.func52 (by kernel_rfl) rfl rfl rfl (by kernel_rfl) (by simp) (fun _ _ h => by cases h) (fun _ h => by cases h) ?_
  simp (config := {maxSteps := 10000000}) only [go_sem, ↓reduceIte, reduceCtorEq, Nat.reduceAdd, Nat.reduceSub, Nat.reduceMul, Nat.reduceEqDiff, Nat.reduceBEq, Nat.reduceLeDiff, Nat.reduceLT, Nat.reducePow, Nat.reduceMod]
  (refine CallW'.of [] [] (rvalidR_ok r) (by simp (config := {maxSteps := 10000000}) only [go_sem, ↓reduceIte, reduceCtorEq, Nat.reduceAdd, Nat.reduceSub, Nat.reduceMul, Nat.reduceEqDiff, Nat.reduceBEq, Nat.reduceLeDiff, Nat.reduceLT, Nat.reducePow, Nat.reduceMod]) ?_; rintro _ _ ⟨rfl, rfl⟩; simp (config := {maxSteps := 10000000}) only [go_sem, ↓reduceIte, reduceCtorEq, Nat.reduceAdd, Nat.reduceSub, Nat.reduceMul, Nat.reduceEqDiff, Nat.reduceBEq, Nat.reduceLeDiff, Nat.reduceLT, Nat.reducePow, Nat.reduceMod])
  refine ite_intro (fun h1 => ?_) (fun h1 => ?_)
  · simp [h1]
  · have ⟨b1, b2, b3, b4, b5⟩ := validR_bd (r := r) (by simpa using h1)
    rw [if_neg h1]
    (refine CallW'.of [] [] (factor_ok k) (by simp (config := {maxSteps := 10000000}) only [go_sem, ↓reduceIte, reduceCtorEq, Nat.reduceAdd, Nat.reduceSub, Nat.reduceMul, Nat.reduceEqDiff, Nat.reduceBEq, Nat.reduceLeDiff, Nat.reduceLT, Nat.reducePow, Nat.reduceMod]) ?_; rintro _ _ ⟨rfl, rfl⟩; simp (config := {maxSteps := 10000000}) only [go_sem, ↓reduceIte, reduceCtorEq, Nat.reduceAdd, Nat.reduceSub, Nat.reduceMul, Nat.reduceEqDiff, Nat.reduceBEq, Nat.reduceLeDiff, Nat.reduceLT, Nat.reducePow, Nat.reduceMod])
    refine ite_intro (fun h2 => ?_) (fun h2 => ?_)
    · rw [if_pos (by omega)]
      simp
    · rw [if_neg (by omega)]
      have hm : r.den * k ≤ 16777216 * 64 := Int.mul_le_mul b4 (by omega) (by omega) (by omega)
      have hm0 : 0 ≤ r.den * k := Int.mul_nonneg (by omega) (by omega)
      (refine CallW'.of [] [] (rnewR_ok r.num (r.den * k) (by omega) (by omega)) (by simp (config := {maxSteps := 10000000}) only [go_sem, ↓reduceIte, reduceCtorEq, Nat.reduceAdd, Nat.reduceSub, Nat.reduceMul, Nat.reduceEqDiff, Nat.reduceBEq, Nat.reduceLeDiff, Nat.reduceLT, Nat.reducePow, Nat.reduceMod]; rw [w64 (by omega) (by omega)]) ?_; rintro _ _ ⟨rfl, rfl⟩; simp (config := {maxSteps := 10000000}) only [go_sem, ↓reduceIte, reduceCtorEq, Nat.reduceAdd, Nat.reduceSub, Nat.reduceMul, Nat.reduceEqDiff, Nat.reduceBEq, Nat.reduceLeDiff, Nat.reduceLT, Nat.reducePow, Nat.reduceMod])
theorem timesF_eq (r : Rate) (k : Int) : timesF r k = if validR r = false then (⟨0, 0⟩, 1) else if k < 1 ∨ 64 < k then (⟨0, 0⟩, 2) else if 144115188075855872 / (k / gcdI k r.den) < r.num then (⟨0, 0⟩, 2) else newF (r.num * (k / gcdI k r.den)) (r.den / gcdI k r.den) := by
  unfold timesF scF timN
  split
  · rfl
  · split
    · rfl
    · split
      · simp [newF]
      · rfl
theorem rtimes_ok (r : Rate) (k : Int) : Ok Tryd.prog G 53 [.agg (encR r), int k] [] fun v h => v = .tup [.agg (encR (timesF r k).1), int (timesF r k).2] ∧ h = [] := by
  rw [timesF_eq]
  refine Ok.intro' [] [] [6] 40 [.cell 4 54, .tmp 5] mixed Tryd.func53 (by kernel_rfl) rfl rfl rfl (by kernel_rfl) (by simp) (fun _ _ h => by cases h) (fun _ h => by cases h) ?_
  simp (config := {maxSteps := 10000000}) only [go_sem, ↓reduceIte, reduceCtorEq, Nat.reduceAdd, Nat.reduceSub, Nat.reduceMul, Nat.reduceEqDiff, Nat.reduceBEq, Nat.reduceLeDiff, Nat.reduceLT, Nat.reducePow, Nat.reduceMod]
  (refine CallW'.of [] [] (rvalidR_ok r) (by simp (config := {maxSteps := 10000000}) only [go_sem, ↓reduceIte, reduceCtorEq, Nat.reduceAdd, Nat.reduceSub, Nat.reduceMul, Nat.reduceEqDiff, Nat.reduceBEq, Nat.reduceLeDiff, Nat.reduceLT, Nat.reducePow, Nat.reduceMod]) ?_; rintro _ _ ⟨rfl, rfl⟩; simp (config := {maxSteps := 10000000}) only [go_sem, ↓reduceIte, reduceCtorEq, Nat.reduceAdd, Nat.reduceSub, Nat.reduceMul, Nat.reduceEqDiff, Nat.reduceBEq, Nat.reduceLeDiff, Nat.reduceLT, Nat.reducePow, Nat.reduceMod])
  refine ite_intro (fun h1 => ?_) (fun h1 => ?_)
  · simp [h1]
  · have hvr : validR r = true := by simpa using h1
    have ⟨b1, b2, b3, b4, b5⟩ := validR_bd hvr
    rw [if_neg h1]
    (refine CallW'.of [] [] (factor_ok k) (by simp (config := {maxSteps := 10000000}) only [go_sem, ↓reduceIte, reduceCtorEq, Nat.reduceAdd, Nat.reduceSub, Nat.reduceMul, Nat.reduceEqDiff, Nat.reduceBEq, Nat.reduceLeDiff, Nat.reduceLT, Nat.reducePow, Nat.reduceMod]) ?_; rintro _ _ ⟨rfl, rfl⟩; simp (config := {maxSteps := 10000000}) only [go_sem, ↓reduceIte, reduceCtorEq, Nat.reduceAdd, Nat.reduceSub, Nat.reduceMul, Nat.reduceEqDiff, Nat.reduceBEq, Nat.reduceLeDiff, Nat.reduceLT, Nat.reducePow, Nat.reduceMod])
    refine ite_intro (fun h2 => ?_) (fun h2 => ?_)
    · rw [if_pos (by omega)]
      simp
    · rw [if_neg (by omega)]
      have hg := gcdI_pos (n := k) b3
      have hp := gcd_div_pos (by omega : 1 ≤ k) b3
      have d1 := div_bd (by omega : 0 ≤ k) hg
      have d2 := div_bd (by omega : 0 ≤ r.den) hg
      have d3 := div_bd (by omega : (0 : Int) ≤ 144115188075855872) hp
      have hm := timN_bd hvr (by omega : 1 ≤ k ∧ k ≤ 64)
      (refine CallW'.of [] [] (divisor_ok k r.den (by omega) (by omega)) (by simp (config := {maxSteps := 10000000}) only [go_sem, ↓reduceIte, reduceCtorEq, Nat.reduceAdd, Nat.reduceSub, Nat.reduceMul, Nat.reduceEqDiff, Nat.reduceBEq, Nat.reduceLeDiff, Nat.reduceLT, Nat.reducePow, Nat.reduceMod]) ?_; rintro _ _ ⟨rfl, rfl⟩; simp (config := {maxSteps := 10000000}) only [go_sem, ↓reduceIte, reduceCtorEq, Nat.reduceAdd, Nat.reduceSub, Nat.reduceMul, Nat.reduceEqDiff, Nat.reduceBEq, Nat.reduceLeDiff, Nat.reduceLT, Nat.reducePow, Nat.reduceMod])
      rw [Int.tdiv_eq_ediv_of_nonneg (by omega : 0 ≤ k), w64 (by omega) (by omega : k / gcdI k r.den ≤ _), Int.tdiv_eq_ediv_of_nonneg (by omega), w64 (by omega) (by omega : 144115188075855872 / (k / gcdI k r.den) ≤ _)]
      refine ⟨by omega, by omega, ?_⟩
      refine ite_intro (fun h3 => ?_) (fun h3 => ?_)
      · simp [h3]
      · have hm := hm h3
        rw [if_neg h3]
        refine TC'.draw [2] (.q 0 (.q 1 (.q 2 (.q 3 (.q 4 (.q 5 (.q 6 (.q 7 (.q 8 (.q 9 (.e [(10, (.q 11 (.q 12 (.e [(13, (.q 14 .done))]))))]))))))))))) mixed (by kernel_rfl) (by kernel_rfl) ?_
        simp (config := {maxSteps := 10000000}) only [go_sem, ↓reduceIte, reduceCtorEq, Nat.reduceAdd, Nat.reduceSub, Nat.reduceMul, Nat.reduceEqDiff, Nat.reduceBEq, Nat.reduceLeDiff, Nat.reduceLT, Nat.reducePow, Nat.reduceMod]
        rw [Int.tdiv_eq_ediv_of_nonneg (by omega : 0 ≤ k), w64 (by omega) (by omega : k / gcdI k r.den ≤ _), w64 (by omega) (by omega : r.num * (k / gcdI k r.den) ≤ _), Int.tdiv_eq_ediv_of_nonneg (by omega), w64 (by omega) (by omega : r.den / gcdI k r.den ≤ _)]
        refine ⟨by omega, by omega, ?_⟩
        refine CallW'.of [] [] (rnewR_ok (r.num * (k / gcdI k r.den)) (r.den / gcdI k r.den) (by omega) (by omega)) (by simp (config := {maxSteps := 10000000}) only [go_sem, ↓reduceIte, reduceCtorEq, Nat.reduceAdd, Nat.reduceSub, Nat.reduceMul, Nat.reduceEqDiff, Nat.reduceBEq, Nat.reduceLeDiff, Nat.reduceLT, Nat.reducePow, Nat.reduceMod]) ?_
        rintro _ _ ⟨rfl, rfl⟩
        simp (config := {maxSteps := 10000000}) only [go_sem, ↓reduceIte, reduceCtorEq, Nat.reduceAdd, Nat.reduceSub, Nat.reduceMul, Nat.reduceEqDiff, Nat.reduceBEq, Nat.reduceLeDiff, Nat.reduceLT, Nat.reducePow, Nat.reduceMod]
end Go.Am.Cl
