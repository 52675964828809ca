/-
  ClockAnswers, part E: rates.
-/
import Derived.Test.YtjmomolnhplokaaDoorAmClD
namespace Go.Am.Cl
open Go Go.Am Go.Proofs
set_option maxRecDepth 100000
set_option linter.unusedSimpArgs false
set_option linter.unusedVariables false
variable {G : Gl}
def gcdI (a b : Int) : Int := (Int.gcd a b : Int)
theorem common_ok (a b : Int) (ha : 0 ≤ a) (hb : 0 ≤ b) : Ok Tryd.prog G 72 [int a, int b] [] fun r h => r = int (gcdI a b) ∧ h = [] := by
  refine Ok.intro' [] [] [] 12 [.tmp 4] mixed Tryd.func72 (by kernel_rfl) rfl rfl rfl (by kernel_rfl) (by simp) (fun _ _ h => by cases h) (fun _ h => by cases h) ?_
  simp (config := {maxSteps := 10000000}) only [go_sem, ↓reduceIte, reduceCtorEq, Nat.reduceAdd, Nat.reduceSub, Nat.reduceMul, Nat.reduceEqDiff, Nat.reduceBEq, Nat.reduceLeDiff, Nat.reduceLT, Nat.reducePow, Nat.reduceMod]
  refine TC'.loop [2] (fun (x : Int × Int) => ⟨[(0, int x.1), (1, int x.2)], []⟩) (fun x => 0 ≤ x.1 ∧ 0 ≤ x.2 ∧ gcdI a b = gcdI x.1 x.2) (fun x => x.2.toNat) (a, b) mixed (by kernel_rfl) ?_ ?_ ?_
  · simp (config := {maxSteps := 10000000}) only [go_sem, ↓reduceIte, reduceCtorEq, Nat.reduceAdd, Nat.reduceSub, Nat.reduceMul, Nat.reduceEqDiff, Nat.reduceBEq, Nat.reduceLeDiff, Nat.reduceLT, Nat.reducePow, Nat.reduceMod]
  · exact ⟨ha, hb, rfl⟩
  · intro ⟨x, y⟩ ⟨hx, hy, hg⟩
    simp (config := {maxSteps := 10000000}) only [go_sem, ↓reduceIte, reduceCtorEq, Nat.reduceAdd, Nat.reduceSub, Nat.reduceMul, Nat.reduceEqDiff, Nat.reduceBEq, Nat.reduceLeDiff, Nat.reduceLT, Nat.reducePow, Nat.reduceMod]
    refine ite_intro (fun h => ?_) (fun h => ?_)
    · have hy' : 0 < y := by simp only at hy; omega
      have hm := Int.emod_nonneg x h
      have hl := Int.emod_lt_of_pos x hy'
      have ht : x.tmod y = x % y := Int.tmod_eq_emod_of_nonneg hx
      refine ⟨h, (y, x.tmod y), ⟨hy, by simp only [ht]; exact hm, ?_⟩, by simp only [ht]; omega, rfl, rfl⟩
      rw [hg]
      simp only [gcdI, ht]
      obtain ⟨m, rfl⟩ := Int.eq_ofNat_of_zero_le hx
      obtain ⟨n, rfl⟩ := Int.eq_ofNat_of_zero_le hy
      have e : (m : Int) % (n : Int) = ((m % n : Nat) : Int) := (Int.natCast_emod m n).symm
      simp only [e, Int.gcd_natCast_natCast]
      rw [Nat.gcd_comm m n, Nat.gcd_comm n (m % n), ← Nat.gcd_rec n m]
    · simp only [Decidable.not_not] at h
      subst h
      rw [hg]
      simp only [gcdI, Int.gcd_zero_right]
      simp only at hx
      omega
def validR (r : Rate) : Bool := decide (0 ≤ r.num) && decide (r.num ≤ 144115188075855872) && decide (1 ≤ r.den) && decide (r.den ≤ 16777216) && decide (gcdI r.num r.den = 1)
theorem validR_ok (r : Rate) : Ok Tryd.prog G 64 [.agg (encR r)] [] fun v h => v = bool (validR r) ∧ h = [] := by
  refine Ok.intro' [] [] [] 29 [.tmp 2] mixed Tryd.func64 (by kernel_rfl) rfl rfl rfl (by kernel_rfl) (by simp) (fun _ _ h => by cases h) (fun _ h => by cases h) ?_
  simp (config := {maxSteps := 10000000}) only [go_sem, ↓reduceIte, reduceCtorEq, Nat.reduceAdd, Nat.reduceSub, Nat.reduceMul, Nat.reduceEqDiff, Nat.reduceBEq, Nat.reduceLeDiff, Nat.reduceLT, Nat.reducePow, Nat.reduceMod]
  unfold validR
  refine ite_intro (fun h1 => ?_) (fun h1 => ?_)
  · refine ite_intro (fun h2 => ?_) (fun h2 => ?_)
    · refine ite_intro (fun h3 => ?_) (fun h3 => ?_)
      · refine ite_intro (fun h4 => ?_) (fun h4 => ?_)
        · (refine CallW'.of [] [] (common_ok r.num r.den h1 (by omega)) (by simp (config := {maxSteps := 10000000}) only [go_sem, ↓reduceIte, reduceCtorEq, Nat.reduceAdd, Nat.reduceSub, Nat.reduceMul, Nat.reduceEqDiff, Nat.reduceBEq, Nat.reduceLeDiff, Nat.reduceLT, Nat.reducePow, Nat.reduceMod]) ?_; rintro _ _ ⟨rfl, rfl⟩; simp (config := {maxSteps := 10000000}) only [go_sem, ↓reduceIte, reduceCtorEq, Nat.reduceAdd, Nat.reduceSub, Nat.reduceMul, Nat.reduceEqDiff, Nat.reduceBEq, Nat.reduceLeDiff, Nat.reduceLT, Nat.reducePow, Nat.reduceMod])
          simp [h1, h2, h3, h4]
          rfl
        · simp [h4]
      · simp [h3]
    · simp [h2]
  · simp [h1]
def newF (n d : Int) : Rate × Int := if n < 0 ∨ d < 1 then (⟨0, 0⟩, 2) else if validR ⟨n / gcdI n d, d / gcdI n d⟩ = true then (⟨n / gcdI n d, d / gcdI n d⟩, 0) else (⟨0, 0⟩, 2)
theorem newR_ok (n d : Int) (h1 : n ≤ 2 ^ 62) (h2 : d ≤ 2 ^ 62): Ok Tryd.prog G 75 [int n, int d] [] fun v h => v = .tup [.agg (encR (newF n d).1), int (newF n d).2] ∧ h = [] := by
  refine Ok.intro' [] [] [] 30 [.cell 4 54, .tmp 5] mixed Tryd.func75 (by kernel_rfl) rfl rfl rfl (by kernel_rfl) (by simp) (fun _ _ h => by cases h) (fun _ h => by cases h) ?_
  simp (config := {maxSteps := 10000000}) only [go_sem, ↓reduceIte, reduceCtorEq, Nat.reduceAdd, Nat.reduceSub, Nat.reduceMul, Nat.reduceEqDiff, Nat.reduceBEq, Nat.reduceLeDiff, Nat.reduceLT, Nat.reducePow, Nat.reduceMod]
  unfold newF
  refine ite_intro (fun h3 => ?_) (fun h3 => ?_)
  · simp [h3]
  · refine ite_intro (fun h4 => ?_) (fun h4 => ?_)
    · simp [h4]
    · rw [if_neg (by omega)]
      (refine CallW'.of [] [] (common_ok n d (by omega) (by omega)) (by simp (config := {maxSteps := 10000000}) only [go_sem, ↓reduceIte, reduceCtorEq, Nat.reduceAdd, Nat.reduceSub, Nat.reduceMul, Nat.reduceEqDiff, Nat.reduceBEq, Nat.reduceLeDiff, Nat.reduceLT, Nat.reducePow, Nat.reduceMod]) ?_; rintro _ _ ⟨rfl, rfl⟩; simp (config := {maxSteps := 10000000}) only [go_sem, ↓reduceIte, reduceCtorEq, Nat.reduceAdd, Nat.reduceSub, Nat.reduceMul, Nat.reduceEqDiff, Nat.reduceBEq, Nat.reduceLeDiff, Nat.reduceLT, Nat.reducePow, Nat.reduceMod])
      have hg : 1 ≤ gcdI n d := by
        have := Int.gcd_pos_of_ne_zero_right n (by omega : d ≠ 0)
        unfold gcdI; omega
      have hq : ∀ x : Int, 0 ≤ x → x.tdiv (gcdI n d) = x / gcdI n d := fun x hx => Int.tdiv_eq_ediv_of_nonneg hx
      have hw : ∀ x : Int, 0 ≤ x → x ≤ 2 ^ 62 → IntKind.i64.wrap (x / gcdI n d) = x / gcdI n d := fun x hx hx2 => by
        have h1 := Int.ediv_nonneg hx (by omega : 0 ≤ gcdI n d)
        have h2 : x / gcdI n d ≤ x := Int.ediv_le_self _ hx
        exact w64 (by omega) (by omega)
      refine TC'.draw [] (.q 0 (.q 1 (.q 2 (.q 3 (.q 4 (.q 5 (.q 6 (.e [(7, (.e [(8, .done)]))])))))))) mixed (by kernel_rfl) (by kernel_rfl) ?_
      simp (config := {maxSteps := 10000000}) only [go_sem, ↓reduceIte, reduceCtorEq, Nat.reduceAdd, Nat.reduceSub, Nat.reduceMul, Nat.reduceEqDiff, Nat.reduceBEq, Nat.reduceLeDiff, Nat.reduceLT, Nat.reducePow, Nat.reduceMod]
      rw [hq n (by omega), hq d (by omega), hw n (by omega) h1, hw d (by omega) h2]
      refine ⟨by omega, by omega, ?_⟩
      (refine CallW'.of [] [] (validR_ok ⟨n / gcdI n d, d / gcdI n d⟩) (by simp (config := {maxSteps := 10000000}) only [go_sem, ↓reduceIte, reduceCtorEq, Nat.reduceAdd, Nat.reduceSub, Nat.reduceMul, Nat.reduceEqDiff, Nat.reduceBEq, Nat.reduceLeDiff, Nat.reduceLT, Nat.reducePow, Nat.reduceMod]) ?_; rintro _ _ ⟨rfl, rfl⟩; simp (config := {maxSteps := 10000000}) only [go_sem, ↓reduceIte, reduceCtorEq, Nat.reduceAdd, Nat.reduceSub, Nat.reduceMul, Nat.reduceEqDiff, Nat.reduceBEq, Nat.reduceLeDiff, Nat.reduceLT, Nat.reducePow, Nat.reduceMod])
      refine ite_intro (fun hv => ?_) (fun hv => ?_)
      · simp [hv]
      · simp [hv]
def scF (r : Rate) (k : Int) (nd : Int × Int) : Rate × Int := if validR r = false then (⟨0, 0⟩, 1) else if k < 1 ∨ 64 < k then (⟨0, 0⟩, 2) else newF nd.1 nd.2
theorem scaled_ok (r : Rate) (k : Int) (g : Nat) (x y : List AV) (nd : Int × Int) (hn : validR r = true → 1 ≤ k ∧ k ≤ 64 → nd.1 ≤ 2 ^ 62 ∧ nd.2 ≤ 2 ^ 62) (hg : validR r = true → 1 ≤ k ∧ k ≤ 64 → Ok Tryd.prog G g [.rowp x 0, .rowp y 0] [] fun v h => v = .tup [int nd.1, int nd.2] ∧ h = []) :
    Ok Tryd.prog G 70 [.agg (encR r), int k, .clo (.func g) [] [.rowp x 0, .rowp y 0]] [] fun v h => v = .tup [.agg (encR (scF r k nd).1), int (scF r k nd).2] ∧ h = [] := by
  refine Ok.intro' [] [] [] 26 [.cell 6 54, .tmp 7] mixed Tryd.func70 (by kernel_rfl) rfl rfl rfl (by kernel_rfl) (by simp) (fun _ _ h => by cases h) (fun _ h => by cases h) ?_
  simp (config := {maxSteps := 10000000}) only [go_sem, ↓reduceIte, reduceCtorEq, Nat.reduceAdd, Nat.reduceSub, Nat.reduceMul, Nat.reduceEqDiff, Nat.reduceBEq, Nat.reduceLeDiff, Nat.reduceLT, Nat.reducePow, Nat.reduceMod]
  (refine CallW'.of [] [] (validR_ok r) (by simp (config := {maxSteps := 10000000}) only [go_sem, ↓reduceIte, reduceCtorEq, Nat.reduceAdd, Nat.reduceSub, Nat.reduceMul, Nat.reduceEqDiff, Nat.reduceBEq, Nat.reduceLeDiff, Nat.reduceLT, Nat.reducePow, Nat.reduceMod]) ?_; rintro _ _ ⟨rfl, rfl⟩; simp (config := {maxSteps := 10000000}) only [go_sem, ↓reduceIte, reduceCtorEq, Nat.reduceAdd, Nat.reduceSub, Nat.reduceMul, Nat.reduceEqDiff, Nat.reduceBEq, Nat.reduceLeDiff, Nat.reduceLT, Nat.reducePow, Nat.reduceMod])
  unfold scF
  refine ite_intro (fun h1 => ?_) (fun h1 => ?_)
  · simp [h1]
  · rw [if_neg h1]
    refine ite_intro (fun h2 => ?_) (fun h2 => ?_)
    · simp [h2]
    · refine ite_intro (fun h3 => ?_) (fun h3 => ?_)
      · simp [h3]
      · rw [if_neg (by omega)]
        (refine CallW'.of [] [] (hg (by simpa using h1) (by omega)) (by simp (config := {maxSteps := 10000000}) only [go_sem, ↓reduceIte, reduceCtorEq, Nat.reduceAdd, Nat.reduceSub, Nat.reduceMul, Nat.reduceEqDiff, Nat.reduceBEq, Nat.reduceLeDiff, Nat.reduceLT, Nat.reducePow, Nat.reduceMod]) ?_; rintro _ _ ⟨rfl, rfl⟩; simp (config := {maxSteps := 10000000}) only [go_sem, ↓reduceIte, reduceCtorEq, Nat.reduceAdd, Nat.reduceSub, Nat.reduceMul, Nat.reduceEqDiff, Nat.reduceBEq, Nat.reduceLeDiff, Nat.reduceLT, Nat.reducePow, Nat.reduceMod])
        have hn := hn (by simpa using h1) (by omega)
        (refine CallW'.of [] [] (newR_ok nd.1 nd.2 hn.1 hn.2) (by simp (config := {maxSteps := 10000000}) only [go_sem, ↓reduceIte, reduceCtorEq, Nat.reduceAdd, Nat.reduceSub, Nat.reduceMul, Nat.reduceEqDiff, Nat.reduceBEq, Nat.reduceLeDiff, Nat.reduceLT, Nat.reducePow, Nat.reduceMod]) ?_; rintro _ _ ⟨rfl, rfl⟩; simp (config := {maxSteps := 10000000}) only [go_sem, ↓reduceIte, reduceCtorEq, Nat.reduceAdd, Nat.reduceSub, Nat.reduceMul, Nat.reduceEqDiff, Nat.reduceBEq, Nat.reduceLeDiff, Nat.reduceLT, Nat.reducePow, Nat.reduceMod])
def overN (r : Rate) (k : Int) : Int × Int := (r.num / gcdI r.num k, r.den * (k / gcdI r.num k))
theorem gcdI_pos {n d : Int} (h : 1 ≤ d) : 1 ≤ gcdI n d := by
  have := Int.gcd_pos_of_ne_zero_right n (by omega : d ≠ 0)
  unfold gcdI; omega
theorem div_bd {x g : Int} (hx : 0 ≤ x) (hg : 1 ≤ g) : 0 ≤ x / g ∧ x / g ≤ x := ⟨Int.ediv_nonneg hx (by omega), Int.ediv_le_self _ hx⟩
theorem validR_bd {r : Rate} (h : validR r = true) : 0 ≤ r.num ∧ r.num ≤ 144115188075855872 ∧ 1 ≤ r.den ∧ r.den ≤ 16777216 ∧ gcdI r.num r.den = 1 := by
  simp [validR] at h; omega
theorem over1_ok (r : Rate) (k : Int) (hr : validR r = true) (hk : 1 ≤ k ∧ k ≤ 64) : Ok Tryd.prog G 71 [.rowp (encR r) 0, .rowp [int k] 0] [] fun v h => v = .tup [int (overN r k).1, int (overN r k).2] ∧ h = [] := by
  have ⟨b1, b2, b3, b4, b5⟩ := validR_bd hr
  refine Ok.intro' [] [] [2] 19 [.tmp 2, .tmp 3] mixed Tryd.func71 (by kernel_rfl) rfl rfl rfl (by kernel_rfl) (by simp) (fun _ _ h => by cases h) (fun _ h => by cases h) ?_
  simp (config := {maxSteps := 10000000}) only [go_sem, ↓reduceIte, reduceCtorEq, Nat.reduceAdd, Nat.reduceSub, Nat.reduceMul, Nat.reduceEqDiff, Nat.reduceBEq, Nat.reduceLeDiff, Nat.reduceLT, Nat.reducePow, Nat.reduceMod]
  (refine CallW'.of [] [] (common_ok r.num k b1 (by omega)) (by simp (config := {maxSteps := 10000000}) only [go_sem, ↓reduceIte, reduceCtorEq, Nat.reduceAdd, Nat.reduceSub, Nat.reduceMul, Nat.reduceEqDiff, Nat.reduceBEq, Nat.reduceLeDiff, Nat.reduceLT, Nat.reducePow, Nat.reduceMod]) ?_; rintro _ _ ⟨rfl, rfl⟩; simp (config := {maxSteps := 10000000}) only [go_sem, ↓reduceIte, reduceCtorEq, Nat.reduceAdd, Nat.reduceSub, Nat.reduceMul, Nat.reduceEqDiff, Nat.reduceBEq, Nat.reduceLeDiff, Nat.reduceLT, Nat.reducePow, Nat.reduceMod])
  have hg := gcdI_pos (n := r.num) hk.1
  have d1 := div_bd b1 hg
  have d2 := div_bd (by omega : 0 ≤ k) hg
  rw [Int.tdiv_eq_ediv_of_nonneg b1, Int.tdiv_eq_ediv_of_nonneg (by omega : 0 ≤ k), w64 (by omega) (by omega), w64 (by omega) (by omega : k / gcdI r.num k ≤ _)]
  have hm : r.den * (k / gcdI r.num k) ≤ 16777216 * 64 := Int.mul_le_mul b4 (by omega) (by omega) (by omega)
  have hm0 : 0 ≤ r.den * (k / gcdI r.num k) := Int.mul_nonneg (by omega) (by omega)
  rw [w64 (by omega) (by omega)]
  exact ⟨by omega, by omega, rfl, rfl⟩
def overF (r : Rate) (k : Int) : Rate × Int := scF r k (overN r k)
theorem over_ok (r : Rate) (k : Int) : Ok Tryd.prog G 61 [.agg (encR r), int k] [] fun v h => v = .tup [.agg (encR (overF r k).1), int (overF r k).2] ∧ h = [] := by
  refine Ok.intro' [] [] [] 12 [.cell 4 54, .tmp 5] mixed Tryd.func61 (by kernel_rfl) rfl rfl rfl (by kernel_rfl) (by simp) (fun _ _ h => by cases h) (fun _ h => by cases h) ?_
  simp (config := {maxSteps := 10000000}) only [go_sem, ↓reduceIte, reduceCtorEq, Nat.reduceAdd, Nat.reduceSub, Nat.reduceMul, Nat.reduceEqDiff, Nat.reduceBEq, Nat.reduceLeDiff, Nat.reduceLT, Nat.reducePow, Nat.reduceMod]
  refine CallW'.of [] [] (scaled_ok r k 71 (encR r) [int k] (overN r k) (fun hr hk => ?_) (fun hr hk => over1_ok r k hr hk)) (by simp (config := {maxSteps := 10000000}) only [go_sem, ↓reduceIte, reduceCtorEq, Nat.reduceAdd, Nat.reduceSub, Nat.reduceMul, Nat.reduceEqDiff, Nat.reduceBEq, Nat.reduceLeDiff, Nat.reduceLT, Nat.reducePow, Nat.reduceMod]) ?_
  · have ⟨b1, b2, b3, b4, b5⟩ := validR_bd hr
    have hg := gcdI_pos (n := r.num) hk.1
    have d1 := div_bd b1 hg
    have d2 := div_bd (by omega : 0 ≤ k) hg
    have hm : r.den * (k / gcdI r.num k) ≤ 16777216 * 64 := Int.mul_le_mul b4 (by omega) (by omega) (by omega)
    unfold overN; simp only; omega
  rintro _ _ ⟨rfl, rfl⟩
  simp (config := {maxSteps := 10000000}) only [go_sem, ↓reduceIte, reduceCtorEq, Nat.reduceAdd, Nat.reduceSub, Nat.reduceMul, Nat.reduceEqDiff, Nat.reduceBEq, Nat.reduceLeDiff, Nat.reduceLT, Nat.reducePow, Nat.reduceMod]
  exact ⟨⟨rfl, rfl⟩, rfl⟩
def timN (r : Rate) (k : Int) : Int × Int := if 144115188075855872 / (k / gcdI k r.den) < r.num then (-1, 1) else (r.num * (k / gcdI k r.den), r.den / gcdI k r.den)
theorem gcd_div_pos {k d : Int} (hk : 1 ≤ k) (hd : 1 ≤ d) : 1 ≤ k / gcdI k d := by
  have h1 := gcdI_pos (n := k) hd
  have h2 : gcdI k d ∣ k := Int.gcd_dvd_left k d
  obtain ⟨c, hc⟩ := h2
  rw [Int.ediv_eq_of_eq_mul_right (by omega) hc]
  by_cases h : 1 ≤ c
  · exact h
  · have : gcdI k d * c ≤ gcdI k d * 0 := Int.mul_le_mul_of_nonneg_left (by omega) (by omega)
    omega
theorem timN_bd {r : Rate} {k : Int} (hr : validR r = true) (hk : 1 ≤ k ∧ k ≤ 64) : ¬ 144115188075855872 / (k / gcdI k r.den) < r.num → 0 ≤ r.num * (k / gcdI k r.den) ∧ r.num * (k / gcdI k r.den) ≤ 144115188075855872 := by
  have ⟨b1, b2, b3, b4, b5⟩ := validR_bd hr
  have hg := gcdI_pos (n := k) b3
  have hp := gcd_div_pos hk.1 b3
  intro h
  refine ⟨Int.mul_nonneg b1 (by omega), ?_⟩
  have h1 : r.num * (k / gcdI k r.den) ≤ (144115188075855872 / (k / gcdI k r.den)) * (k / gcdI k r.den) := Int.mul_le_mul_of_nonneg_right (by omega) (by omega)
  have h2 := Int.ediv_mul_le 144115188075855872 (by omega : k / gcdI k r.den ≠ 0)
  omega
theorem times1_ok (r : Rate) (k : Int) (hr : validR r = true) (hk : 1 ≤ k ∧ k ≤ 64) : Ok Tryd.prog G 73 [.rowp [int k] 0, .rowp (encR r) 0] [] fun v h => v = .tup [int (timN r k).1, int (timN r k).2] ∧ h = [] := by
  have ⟨b1, b2, b3, b4, b5⟩ := validR_bd hr
  have hg := gcdI_pos (n := k) b3
  have hp := gcd_div_pos hk.1 b3
  have d1 := div_bd (by omega : 0 ≤ k) hg
  have d2 := div_bd (by omega : 0 ≤ r.den) hg
  have d3 := div_bd (by omega : (0 : Int) ≤ 144115188075855872) hp
  have hm := timN_bd hr hk
  refine Ok.intro' [] [] [2, 4] 26 [.tmp 2, .tmp 3] mixed Tryd.func73 (by kernel_rfl) rfl rfl rfl (by kernel_rfl) (by simp) (fun _ _ h => by cases h) (fun _ h => by cases h) ?_
  simp (config := {maxSteps := 10000000}) only [go_sem, ↓reduceIte, reduceCtorEq, Nat.reduceAdd, Nat.reduceSub, Nat.reduceMul, Nat.reduceEqDiff, Nat.reduceBEq, Nat.reduceLeDiff, Nat.reduceLT, Nat.reducePow, Nat.reduceMod]
  (refine CallW'.of [] [] (common_ok k r.den (by omega) (by omega)) (by simp (config := {maxSteps := 10000000}) only [go_sem, ↓reduceIte, reduceCtorEq, Nat.reduceAdd, Nat.reduceSub, Nat.reduceMul, Nat.reduceEqDiff, Nat.reduceBEq, Nat.reduceLeDiff, Nat.reduceLT, Nat.reducePow, Nat.reduceMod]) ?_; rintro _ _ ⟨rfl, rfl⟩; simp (config := {maxSteps := 10000000}) only [go_sem, ↓reduceIte, reduceCtorEq, Nat.reduceAdd, Nat.reduceSub, Nat.reduceMul, Nat.reduceEqDiff, Nat.reduceBEq, Nat.reduceLeDiff, Nat.reduceLT, Nat.reducePow, Nat.reduceMod])
  rw [Int.tdiv_eq_ediv_of_nonneg (by omega : 0 ≤ k), w64 (by omega) (by omega : k / gcdI k r.den ≤ _), Int.tdiv_eq_ediv_of_nonneg (by omega), w64 (by omega) (by omega : 144115188075855872 / (k / gcdI k r.den) ≤ _)]
  refine ⟨by omega, by omega, ?_⟩
  unfold timN
  refine ite_intro (fun h => ?_) (fun h => ?_)
  · simp [h]
  · have hm := hm h
    rw [if_neg h]
    refine ⟨by omega, by omega, ?_, ?_⟩
    · rw [w64 (by omega) (by omega)]
    · rw [Int.tdiv_eq_ediv_of_nonneg (by omega), w64 (by omega) (by omega)]
def timesF (r : Rate) (k : Int) : Rate × Int := scF r k (timN r k)
theorem times_ok (r : Rate) (k : Int) : Ok Tryd.prog G 62 [.agg (encR r), int k] [] fun v h => v = .tup [.agg (encR (timesF r k).1), int (timesF r k).2] ∧ h = [] := by
  refine Ok.intro' [] [] [] 12 [.cell 4 54, .tmp 5] mixed Tryd.func62 (by kernel_rfl) rfl rfl rfl (by kernel_rfl) (by simp) (fun _ _ h => by cases h) (fun _ h => by cases h) ?_
  simp (config := {maxSteps := 10000000}) only [go_sem, ↓reduceIte, reduceCtorEq, Nat.reduceAdd, Nat.reduceSub, Nat.reduceMul, Nat.reduceEqDiff, Nat.reduceBEq, Nat.reduceLeDiff, Nat.reduceLT, Nat.reducePow, Nat.reduceMod]
  refine CallW'.of [] [] (scaled_ok r k 73 [int k] (encR r) (timN r k) (fun hr hk => ?_) (fun hr hk => times1_ok r k hr hk)) (by simp (config := {maxSteps := 10000000}) only [go_sem, ↓reduceIte, reduceCtorEq, Nat.reduceAdd, Nat.reduceSub, Nat.reduceMul, Nat.reduceEqDiff, Nat.reduceBEq, Nat.reduceLeDiff, Nat.reduceLT, Nat.reducePow, Nat.reduceMod]) ?_
  · have ⟨b1, b2, b3, b4, b5⟩ := validR_bd hr
    have hg := gcdI_pos (n := k) b3
    have d2 := div_bd (by omega : 0 ≤ r.den) hg
    have hm := timN_bd hr hk
    unfold timN
    split
    · simp only; omega
    · rename_i h
      have hm := hm h
      simp only; omega
  rintro _ _ ⟨rfl, rfl⟩
  simp (config := {maxSteps := 10000000}) only [go_sem, ↓reduceIte, reduceCtorEq, Nat.reduceAdd, Nat.reduceSub, Nat.reduceMul, Nat.reduceEqDiff, Nat.reduceBEq, Nat.reduceLeDiff, Nat.reduceLT, Nat.reducePow, Nat.reduceMod]
  exact ⟨⟨rfl, rfl⟩, rfl⟩
end Go.Am.Cl
