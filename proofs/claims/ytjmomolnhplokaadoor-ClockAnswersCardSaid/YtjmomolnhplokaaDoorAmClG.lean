/-
  ClockAnswers, part G: limits, and ways.
-/
import Derived.Test.YtjmomolnhplokaaDoorAmClF
namespace Go.Am.Cl
open Go Go.Am Go.Proofs
set_option maxRecDepth 100000
set_option linter.unusedSimpArgs false
set_option linter.unusedVariables false
variable {G : Gl}
def limBad (n : Nat) (x : Limit) : Bool := !withinF x.clock 0 ((n : Int) - 1) || !withinF x.high 0 4000000000 || !withinF x.low 0 x.high
theorem limits1_ok (l : List Clock) (x : Limit) (hl : l.length < 2 ^ 40) : Ok Tryd.prog G 42 [.agg (encL x), .rowp [sl false 5 encC l] 0] [] fun r h => r = bool (limBad l.length x) ∧ h = [] := by
  refine Ok.intro' [] [] [] 25 [.tmp 3] mixed Tryd.func42 (by kernel_rfl) rfl rfl rfl (by kernel_rfl) (by simp) (fun _ _ h => by cases h) (fun _ h => by cases h) ?_
  simp (config := {maxSteps := 10000000}) only [go_sem, ↓reduceIte, reduceCtorEq, Nat.reduceAdd, Nat.reduceSub, Nat.reduceMul, Nat.reduceEqDiff, Nat.reduceBEq, Nat.reduceLeDiff, Nat.reduceLT, Nat.reducePow, Nat.reduceMod]
  rw [w64 (by omega) (by omega)]
  unfold limBad
  (refine CallW'.of [] [] (within_ok x.clock 0 ((l.length : Int) - 1)) (by simp (config := {maxSteps := 10000000}) only [go_sem, ↓reduceIte, reduceCtorEq, Nat.reduceAdd, Nat.reduceSub, Nat.reduceMul, Nat.reduceEqDiff, Nat.reduceBEq, Nat.reduceLeDiff, Nat.reduceLT, Nat.reducePow, Nat.reduceMod]) ?_; rintro _ _ ⟨rfl, rfl⟩; simp (config := {maxSteps := 10000000}) only [go_sem, ↓reduceIte, reduceCtorEq, Nat.reduceAdd, Nat.reduceSub, Nat.reduceMul, Nat.reduceEqDiff, Nat.reduceBEq, Nat.reduceLeDiff, Nat.reduceLT, Nat.reducePow, Nat.reduceMod])
  refine ite_intro (fun h1 => ?_) (fun h1 => ?_)
  · simp [h1]
  · (refine CallW'.of [] [] (within_ok x.high 0 4000000000) (by simp (config := {maxSteps := 10000000}) only [go_sem, ↓reduceIte, reduceCtorEq, Nat.reduceAdd, Nat.reduceSub, Nat.reduceMul, Nat.reduceEqDiff, Nat.reduceBEq, Nat.reduceLeDiff, Nat.reduceLT, Nat.reducePow, Nat.reduceMod]) ?_; rintro _ _ ⟨rfl, rfl⟩; simp (config := {maxSteps := 10000000}) only [go_sem, ↓reduceIte, reduceCtorEq, Nat.reduceAdd, Nat.reduceSub, Nat.reduceMul, Nat.reduceEqDiff, Nat.reduceBEq, Nat.reduceLeDiff, Nat.reduceLT, Nat.reducePow, Nat.reduceMod])
    refine ite_intro (fun h2 => ?_) (fun h2 => ?_)
    · simp [h2]
    · (refine CallW'.of [] [] (within_ok x.low 0 x.high) (by simp (config := {maxSteps := 10000000}) only [go_sem, ↓reduceIte, reduceCtorEq, Nat.reduceAdd, Nat.reduceSub, Nat.reduceMul, Nat.reduceEqDiff, Nat.reduceBEq, Nat.reduceLeDiff, Nat.reduceLT, Nat.reducePow, Nat.reduceMod]) ?_; rintro _ _ ⟨rfl, rfl⟩; simp (config := {maxSteps := 10000000}) only [go_sem, ↓reduceIte, reduceCtorEq, Nat.reduceAdd, Nat.reduceSub, Nat.reduceMul, Nat.reduceEqDiff, Nat.reduceBEq, Nat.reduceLeDiff, Nat.reduceLT, Nat.reducePow, Nat.reduceMod])
      simp at h1 h2
      simp [h1, h2]
def limitsF (l : List Clock) (m : List Limit) : Bool := decide (checkF l = 0) && decide (m.length ≤ 32) && !m.any (limBad l.length)
theorem Limits_ok (l : List Clock) (m : List Limit) (hl : l.length < 2 ^ 40) (hm : m.length < 2 ^ 40) : Ok Tryd.prog G 20 [sl false 5 encC l, sl false 3 encL m] [] fun r h => r = bool (limitsF l m) ∧ h = [] := by
  refine Ok.intro' [] [] [] 19 [.tmp 4] mixed Tryd.func20 (by kernel_rfl) rfl rfl rfl (by kernel_rfl) (by simp) (fun _ _ h => by cases h) (fun _ h => by cases h) ?_
  simp (config := {maxSteps := 10000000}) only [go_sem, ↓reduceIte, reduceCtorEq, Nat.reduceAdd, Nat.reduceSub, Nat.reduceMul, Nat.reduceEqDiff, Nat.reduceBEq, Nat.reduceLeDiff, Nat.reduceLT, Nat.reducePow, Nat.reduceMod]
  (refine CallW'.of [] [] (check_ok l (by omega)) (by simp (config := {maxSteps := 10000000}) only [go_sem, ↓reduceIte, reduceCtorEq, Nat.reduceAdd, Nat.reduceSub, Nat.reduceMul, Nat.reduceEqDiff, Nat.reduceBEq, Nat.reduceLeDiff, Nat.reduceLT, Nat.reducePow, Nat.reduceMod]) ?_; rintro _ _ ⟨rfl, rfl⟩; simp (config := {maxSteps := 10000000}) only [go_sem, ↓reduceIte, reduceCtorEq, Nat.reduceAdd, Nat.reduceSub, Nat.reduceMul, Nat.reduceEqDiff, Nat.reduceBEq, Nat.reduceLeDiff, Nat.reduceLT, Nat.reducePow, Nat.reduceMod])
  unfold limitsF
  refine ite_intro (fun h1 => ?_) (fun h1 => ?_)
  · refine ite_intro (fun h2 => ?_) (fun h2 => ?_)
    · (refine CallW'.of [] [] (containsL_ok m 42 [sl false 5 encC l] (limBad l.length) (by omega) (fun x _ => limits1_ok l x hl)) (by simp (config := {maxSteps := 10000000}) only [go_sem, ↓reduceIte, reduceCtorEq, Nat.reduceAdd, Nat.reduceSub, Nat.reduceMul, Nat.reduceEqDiff, Nat.reduceBEq, Nat.reduceLeDiff, Nat.reduceLT, Nat.reducePow, Nat.reduceMod]) ?_; rintro _ _ ⟨rfl, rfl⟩; simp (config := {maxSteps := 10000000}) only [go_sem, ↓reduceIte, reduceCtorEq, Nat.reduceAdd, Nat.reduceSub, Nat.reduceMul, Nat.reduceEqDiff, Nat.reduceBEq, Nat.reduceLeDiff, Nat.reduceLT, Nat.reducePow, Nat.reduceMod])
      have : m.length ≤ 32 := by omega
      simp [h1, this]
    · have : ¬ m.length ≤ 32 := by omega
      simp [this]
  · simp [h1]
def meetBad (r : List Rate) (x : Limit) : Bool := decide (r.getD x.clock.toNat default = ⟨0, 1⟩) || !withinR (r.getD x.clock.toNat default) x.low x.high
theorem off_eq (r : Rate) : (r.num == 0 && r.den == 1) = decide (r = ⟨0, 1⟩) := by
  obtain ⟨n, d⟩ := r
  simp only [Rate.mk.injEq, Bool.decide_and]
  rfl
theorem meets1_ok (r : List Rate) (x : Limit) (hx : 0 ≤ x.clock ∧ x.clock < r.length) : Ok Tryd.prog GOff 45 [.agg (encL x), .rowp [slF true 2 encR r] 0] [] fun v h => v = bool (meetBad r x) ∧ h = [] := by
  refine Ok.intro' [] [] [] 24 [.tmp 3] mixed Tryd.func45 (by kernel_rfl) rfl rfl rfl (by kernel_rfl) (by simp) (fun _ _ h => by cases h) (fun _ h => by cases h) ?_
  simp (config := {maxSteps := 10000000}) only [go_sem, ↓reduceIte, reduceCtorEq, Nat.reduceAdd, Nat.reduceSub, Nat.reduceMul, Nat.reduceEqDiff, Nat.reduceBEq, Nat.reduceLeDiff, Nat.reduceLT, Nat.reducePow, Nat.reduceMod]
  refine TC'.draw [2] (.q 0 (.q 1 (.q 2 (.q 3 (.q 4 (.q 5 (.q 6 (.q 7 (.q 8 (.q 9 (.q 10 (.q 11 (.q 12 (.q 13 (.q 14 (.q 15 (.q 16 (.e [(17, (.q 18 (.q 19 (.q 20 .done))))])))))))))))))))))) mixed (by kernel_rfl) (by kernel_rfl) ?_
  simp (config := {maxSteps := 10000000}) only [go_sem, ↓reduceIte, reduceCtorEq, Nat.reduceAdd, Nat.reduceSub, Nat.reduceMul, Nat.reduceEqDiff, Nat.reduceBEq, Nat.reduceLeDiff, Nat.reduceLT, Nat.reducePow, Nat.reduceMod]
  rw [off_eq]
  unfold meetBad
  refine ⟨hx, ?_⟩
  refine ite_intro (fun h1 => ?_) (fun h1 => ?_)
  · rw [h1]; rfl
  · rw [Bool.not_eq_true] at h1
    refine ⟨hx, ?_⟩
    refine CallW'.of [] [] (withinR_ok (r.getD x.clock.toNat default) x.low x.high) (by simp (config := {maxSteps := 10000000}) only [go_sem, ↓reduceIte, reduceCtorEq, Nat.reduceAdd, Nat.reduceSub, Nat.reduceMul, Nat.reduceEqDiff, Nat.reduceBEq, Nat.reduceLeDiff, Nat.reduceLT, Nat.reducePow, Nat.reduceMod]) ?_
    rintro _ _ ⟨rfl, rfl⟩
    simp (config := {maxSteps := 10000000}) only [go_sem, ↓reduceIte, reduceCtorEq, Nat.reduceAdd, Nat.reduceSub, Nat.reduceMul, Nat.reduceEqDiff, Nat.reduceBEq, Nat.reduceLeDiff, Nat.reduceLT, Nat.reducePow, Nat.reduceMod]
    rw [h1]; rfl
def ownBad (c : Clock) (r : Rate) : Bool := decide (r ≠ ⟨0, 1⟩) && decide (c.high ≠ 0) && !withinR r c.low c.high
def OwnP (l : List Clock) (r : List Rate) : Prop := ∀ i, i < l.length → ownBad (l.getD i default) (r.getD i default) = false
instance (l : List Clock) (r : List Rate) : Decidable (OwnP l r) := inferInstanceAs (Decidable (∀ i, i < l.length → _))
def meetsF (l : List Clock) (s : List Int) (m : List Limit) : Bool := limitsF l m && decide (SetP l s) && decide (OwnP l (ratesUp l s l.length)) && !m.any (meetBad (ratesUp l s l.length))
theorem Meets_ok (l : List Clock) (s : List Int) (m : List Limit) (hl : l.length < 2 ^ 40) (hm : m.length < 2 ^ 40) (hc : ∀ c, c ∈ l → c.cho.length < 2 ^ 60) :
    Ok Tryd.prog GOff 22 [sl false 5 encC l, ints false s, sl false 3 encL m] [] fun v h => v = bool (meetsF l s m) ∧ h = [] := by
  refine Ok.intro' [] [] [] 58 [.tmp 6] mixed Tryd.func22 (by kernel_rfl) rfl rfl rfl (by kernel_rfl) (by simp) (fun _ _ h => by cases h) (fun _ h => by cases h) ?_
  simp (config := {maxSteps := 10000000}) only [go_sem, ↓reduceIte, reduceCtorEq, Nat.reduceAdd, Nat.reduceSub, Nat.reduceMul, Nat.reduceEqDiff, Nat.reduceBEq, Nat.reduceLeDiff, Nat.reduceLT, Nat.reducePow, Nat.reduceMod]
  (refine CallW'.of [] [] (Limits_ok l m hl hm) (by simp (config := {maxSteps := 10000000}) only [go_sem, ↓reduceIte, reduceCtorEq, Nat.reduceAdd, Nat.reduceSub, Nat.reduceMul, Nat.reduceEqDiff, Nat.reduceBEq, Nat.reduceLeDiff, Nat.reduceLT, Nat.reducePow, Nat.reduceMod]) ?_; rintro _ _ ⟨rfl, rfl⟩; simp (config := {maxSteps := 10000000}) only [go_sem, ↓reduceIte, reduceCtorEq, Nat.reduceAdd, Nat.reduceSub, Nat.reduceMul, Nat.reduceEqDiff, Nat.reduceBEq, Nat.reduceLeDiff, Nat.reduceLT, Nat.reducePow, Nat.reduceMod])
  unfold meetsF
  refine ite_intro (fun h1 => ?_) (fun h1 => ?_)
  · simp [h1]
  rw [Bool.not_eq_false] at h1
  (refine CallW'.of [] [] (setting_ok l s (by omega) hc) (by simp (config := {maxSteps := 10000000}) only [go_sem, ↓reduceIte, reduceCtorEq, Nat.reduceAdd, Nat.reduceSub, Nat.reduceMul, Nat.reduceEqDiff, Nat.reduceBEq, Nat.reduceLeDiff, Nat.reduceLT, Nat.reducePow, Nat.reduceMod]) ?_; rintro _ _ ⟨rfl, rfl⟩; simp (config := {maxSteps := 10000000}) only [go_sem, ↓reduceIte, reduceCtorEq, Nat.reduceAdd, Nat.reduceSub, Nat.reduceMul, Nat.reduceEqDiff, Nat.reduceBEq, Nat.reduceLeDiff, Nat.reduceLT, Nat.reducePow, Nat.reduceMod])
  refine ite_intro (fun h2 => ?_) (fun h2 => ?_)
  · simp [h2]
  simp only [Decidable.not_not] at h2
  have h1' := h1
  simp only [limitsF, Bool.and_eq_true, decide_eq_true_eq] at h1
  have hz := checkF_zero h1.1.1
  have hlen := ratesUp_len l s l.length
  (refine CallW'.of [] [] (rates_ok l s hl hz.2.1 h2) (by simp (config := {maxSteps := 10000000}) only [go_sem, ↓reduceIte, reduceCtorEq, Nat.reduceAdd, Nat.reduceSub, Nat.reduceMul, Nat.reduceEqDiff, Nat.reduceBEq, Nat.reduceLeDiff, Nat.reduceLT, Nat.reducePow, Nat.reduceMod]) ?_; rintro _ _ ⟨rfl, rfl⟩; simp (config := {maxSteps := 10000000}) only [go_sem, ↓reduceIte, reduceCtorEq, Nat.reduceAdd, Nat.reduceSub, Nat.reduceMul, Nat.reduceEqDiff, Nat.reduceBEq, Nat.reduceLeDiff, Nat.reduceLT, Nat.reducePow, Nat.reduceMod])
  refine TC'.loop [] (fun (i : Nat) => ⟨[(0, sl false 5 encC l), (2, sl false 3 encL m), (7, .ptr 7 0), (23, sl false 5 encC l), (24, int l.length), (25, int i)], [(7, .box [slF true 2 encR (ratesUp l s l.length)])]⟩) (fun i => i ≤ l.length ∧ ∀ j, j < i → ownBad (l.getD j default) ((ratesUp l s l.length).getD j default) = false) (fun i => l.length - i) 0 mixed (by kernel_rfl) ?_ ?_ ?_
  · simp (config := {maxSteps := 10000000}) only [go_sem, ↓reduceIte, reduceCtorEq, Nat.reduceAdd, Nat.reduceSub, Nat.reduceMul, Nat.reduceEqDiff, Nat.reduceBEq, Nat.reduceLeDiff, Nat.reduceLT, Nat.reducePow, Nat.reduceMod]
    simp
  · simp
  intro i ⟨hi, hv⟩
  simp (config := {maxSteps := 10000000}) only [go_sem, ↓reduceIte, reduceCtorEq, Nat.reduceAdd, Nat.reduceSub, Nat.reduceMul, Nat.reduceEqDiff, Nat.reduceBEq, Nat.reduceLeDiff, Nat.reduceLT, Nat.reducePow, Nat.reduceMod]
  refine ite_intro (fun hlt => ?_) (fun hlt => ?_)
  · have hlt : i < l.length := by omega
    refine ⟨by omega, ?_⟩
    refine TC'.draw [7, 9] (.q 0 (.q 1 (.q 2 (.q 3 (.q 4 (.q 5 (.q 6 (.q 7 (.q 8 (.q 9 (.q 10 (.q 11 (.q 12 (.q 13 (.q 14 (.q 15 (.q 16 (.q 17 (.q 18 (.q 19 (.e [(20, (.q 21 (.q 22 .done)))]))))))))))))))))))))) mixed (by kernel_rfl) (by kernel_rfl) ?_
    simp (config := {maxSteps := 10000000}) only [go_sem, ↓reduceIte, reduceCtorEq, Nat.reduceAdd, Nat.reduceSub, Nat.reduceMul, Nat.reduceEqDiff, Nat.reduceBEq, Nat.reduceLeDiff, Nat.reduceLT, Nat.reducePow, Nat.reduceMod]
    have good : ownBad (l.getD i default) ((ratesUp l s l.length).getD i default) = false → ∃ y, (y ≤ l.length ∧ ∀ j, j < y → ownBad (l.getD j default) ((ratesUp l s l.length).getD j default) = false) ∧ l.length - y < l.length - i ∧ IntKind.i64.wrap (↑i + 1) = ↑y := fun h =>
      ⟨i + 1, ⟨by omega, fun j hj => by
        by_cases e : j = i
        · rw [e]; exact h
        · exact hv j (by omega)⟩, by omega, by rw [w64 (by omega) (by omega)]; omega⟩
    rw [off_eq]
    refine ⟨by omega, ?_⟩
    refine ite_intro (fun h3 => ?_) (fun h3 => ?_)
    · simp only [decide_eq_false_iff_not] at h3
      refine ite_intro (fun h4 => ?_) (fun h4 => ?_)
      · refine ⟨by omega, ?_⟩
        refine CallW'.of [] [] (withinR_ok ((ratesUp l s l.length).getD i default) (l.getD i default).low (l.getD i default).high) (by simp (config := {maxSteps := 10000000}) only [go_sem, ↓reduceIte, reduceCtorEq, Nat.reduceAdd, Nat.reduceSub, Nat.reduceMul, Nat.reduceEqDiff, Nat.reduceBEq, Nat.reduceLeDiff, Nat.reduceLT, Nat.reducePow, Nat.reduceMod]) ?_
        rintro _ _ ⟨rfl, rfl⟩
        simp (config := {maxSteps := 10000000}) only [go_sem, ↓reduceIte, reduceCtorEq, Nat.reduceAdd, Nat.reduceSub, Nat.reduceMul, Nat.reduceEqDiff, Nat.reduceBEq, Nat.reduceLeDiff, Nat.reduceLT, Nat.reducePow, Nat.reduceMod]
        refine ite_intro (fun h5 => ?_) (fun h5 => ?_)
        · have : ¬ OwnP l (ratesUp l s l.length) := fun h => by
            have := h i hlt
            unfold ownBad at this
            rw [h5, decide_eq_true h3, decide_eq_true h4] at this
            cases this
          simp [this]
        · rw [Bool.not_eq_false] at h5
          exact good (by unfold ownBad; rw [h5]; simp)
      · exact good (by unfold ownBad; rw [decide_eq_false h4]; simp)
    · simp only [decide_eq_false_iff_not, Decidable.not_not] at h3
      exact good (by unfold ownBad; rw [h3]; simp)
  · have hown : OwnP l (ratesUp l s l.length) := fun j hj => hv j (by omega)
    refine CallW'.of [] [] (containsL_ok m 45 [slF true 2 encR (ratesUp l s l.length)] (meetBad (ratesUp l s l.length)) (by omega) (fun x hx => meets1_ok _ x ?_)) (by simp (config := {maxSteps := 10000000}) only [go_sem, ↓reduceIte, reduceCtorEq, Nat.reduceAdd, Nat.reduceSub, Nat.reduceMul, Nat.reduceEqDiff, Nat.reduceBEq, Nat.reduceLeDiff, Nat.reduceLT, Nat.reducePow, Nat.reduceMod]) ?_
    · have := h1.2
      simp only [Bool.not_eq_true', List.any_eq_false] at this
      have := this x hx
      simp only [limBad, Bool.or_eq_true, not_or, Bool.not_eq_true', Bool.not_eq_false] at this
      have := withinF_true.1 this.1.1
      omega
    rintro _ _ ⟨rfl, rfl⟩
    simp (config := {maxSteps := 10000000}) only [go_sem, ↓reduceIte, reduceCtorEq, Nat.reduceAdd, Nat.reduceSub, Nat.reduceMul, Nat.reduceEqDiff, Nat.reduceBEq, Nat.reduceLeDiff, Nat.reduceLT, Nat.reducePow, Nat.reduceMod]
    simp [h1', h2, hown]
def wayUp (l : List Clock) (s : List Int) : Nat → Int → List Int
  | 0, _ => []
  | f + 1, k => if k < 0 then [] else k :: wayUp l s f (parentF (l.getD k.toNat default) (s.getD k.toNat default))
def wayF (l : List Clock) (s : List Int) (k : Int) : List Int := if checkF l = 0 ∧ SetP l s ∧ 0 ≤ k ∧ k < l.length then wayUp l s (l.length + 1) k else []
theorem parent_next {l : List Clock} {s : List Int} (hv : allValid l) (hs : SetP l s) {x : Int} (h0 : 0 ≤ x) (hx : x < l.length) : -1 ≤ parentF (l.getD x.toNat default) (s.getD x.toNat default) ∧ parentF (l.getD x.toNat default) (s.getD x.toNat default) < x := by
  have f := parent_facts (hv x.toNat (by omega)) (hs.2 x.toNat (by omega))
  rcases f.2.2.2.1 with h | h
  · have : parentF (l.getD x.toNat default) (s.getD x.toNat default) = -1 := by unfold parentF; rw [if_pos h]
    omega
  · omega
theorem wayUp_fuel {l : List Clock} {s : List Int} (hv : allValid l) (hs : SetP l s) : ∀ (f g : Nat) (x : Int), x < l.length → x + 2 ≤ f → x + 2 ≤ g → -1 ≤ x → wayUp l s f x = wayUp l s g x
  | 0, g, x, _, h1, _, h3 => by omega
  | f + 1, 0, x, _, _, h2, h3 => by omega
  | f + 1, g + 1, x, hx, h1, h2, h3 => by
    simp only [wayUp]
    split
    · rfl
    · have := parent_next hv hs (by omega : 0 ≤ x) hx
      rw [wayUp_fuel hv hs f g _ (by omega) (by omega) (by omega) this.1]
theorem Way_ok (l : List Clock) (s : List Int) (k : Int) (hl : l.length < 2 ^ 40) (hc : ∀ c, c ∈ l → c.cho.length < 2 ^ 60) : Ok Tryd.prog G 25 [sl false 5 encC l, ints false s, int k] [] fun v h => v = ints true (wayF l s k) ∧ h = [] := by
  refine Ok.weak (Q := fun r h => leP r (ints true (wayF l s k)) ∧ h = []) ?_ (fun r h ⟨h1, h2⟩ => ⟨_, h1, rfl, h2⟩)
  refine Ok.intro' [] [] [] 31 [.tmp 6] mixed Tryd.func25 (by kernel_rfl) rfl rfl rfl (by kernel_rfl) (by simp) (fun _ _ h => by cases h) (fun _ h => by cases h) ?_
  simp (config := {maxSteps := 10000000}) only [go_sem, ↓reduceIte, reduceCtorEq, Nat.reduceAdd, Nat.reduceSub, Nat.reduceMul, Nat.reduceEqDiff, Nat.reduceBEq, Nat.reduceLeDiff, Nat.reduceLT, Nat.reducePow, Nat.reduceMod]
  (refine CallW'.of [] [] (Setting_ok l s hl hc) (by simp (config := {maxSteps := 10000000}) only [go_sem, ↓reduceIte, reduceCtorEq, Nat.reduceAdd, Nat.reduceSub, Nat.reduceMul, Nat.reduceEqDiff, Nat.reduceBEq, Nat.reduceLeDiff, Nat.reduceLT, Nat.reducePow, Nat.reduceMod]) ?_; rintro _ _ ⟨rfl, rfl⟩; simp (config := {maxSteps := 10000000}) only [go_sem, ↓reduceIte, reduceCtorEq, Nat.reduceAdd, Nat.reduceSub, Nat.reduceMul, Nat.reduceEqDiff, Nat.reduceBEq, Nat.reduceLeDiff, Nat.reduceLT, Nat.reducePow, Nat.reduceMod])
  unfold wayF
  refine ite_intro (fun h1 => ?_) (fun h1 => ?_)
  · rw [if_neg (fun h => h1 ⟨h.1, h.2.1⟩)]
    simp (config := {maxSteps := 10000000}) only [go_sem, ↓reduceIte, reduceCtorEq, Nat.reduceAdd, Nat.reduceSub, Nat.reduceMul, Nat.reduceEqDiff, Nat.reduceBEq, Nat.reduceLeDiff, Nat.reduceLT, Nat.reducePow, Nat.reduceMod]
  simp only [Decidable.not_not] at h1
  rw [w64 (by omega) (by omega)]
  (refine CallW'.of [] [] (within_ok k 0 ((l.length : Int) - 1)) (by simp (config := {maxSteps := 10000000}) only [go_sem, ↓reduceIte, reduceCtorEq, Nat.reduceAdd, Nat.reduceSub, Nat.reduceMul, Nat.reduceEqDiff, Nat.reduceBEq, Nat.reduceLeDiff, Nat.reduceLT, Nat.reducePow, Nat.reduceMod]) ?_; rintro _ _ ⟨rfl, rfl⟩; simp (config := {maxSteps := 10000000}) only [go_sem, ↓reduceIte, reduceCtorEq, Nat.reduceAdd, Nat.reduceSub, Nat.reduceMul, Nat.reduceEqDiff, Nat.reduceBEq, Nat.reduceLeDiff, Nat.reduceLT, Nat.reducePow, Nat.reduceMod])
  refine ite_intro (fun h2 => ?_) (fun h2 => ?_)
  · have h2 := withinF_false.1 h2
    rw [if_neg (fun h => by omega)]
    simp (config := {maxSteps := 10000000}) only [go_sem, ↓reduceIte, reduceCtorEq, Nat.reduceAdd, Nat.reduceSub, Nat.reduceMul, Nat.reduceEqDiff, Nat.reduceBEq, Nat.reduceLeDiff, Nat.reduceLT, Nat.reducePow, Nat.reduceMod]
  rw [Bool.not_eq_false] at h2
  have h2 := withinF_true.1 h2
  have hz := checkF_zero h1.1
  rw [if_pos ⟨h1.1, h1.2, by omega, by omega⟩]
  refine TC'.ent (Ent.virt 7 29 1 (by simp (config := {maxSteps := 10000000}) only [go_sem, ↓reduceIte, reduceCtorEq, Nat.reduceAdd, Nat.reduceSub, Nat.reduceMul, Nat.reduceEqDiff, Nat.reduceBEq, Nat.reduceLeDiff, Nat.reduceLT, Nat.reducePow, Nat.reduceMod]) (by simp (config := {maxSteps := 10000000}) only [go_sem, ↓reduceIte, reduceCtorEq, Nat.reduceAdd, Nat.reduceSub, Nat.reduceMul, Nat.reduceEqDiff, Nat.reduceBEq, Nat.reduceLeDiff, Nat.reduceLT, Nat.reducePow, Nat.reduceMod])) ?_
  refine TC'.loop [] (fun (x : Int × List Int) => ⟨[(0, sl false 5 encC l), (1, ints false s), (2, int x.1), (7, .own 29 1 0 x.2.length false)], [(29, .arr 1 x.2.length (fun i => [int (x.2.getD i default)]) false)]⟩)
    (fun x => x.1 < l.length ∧ -1 ≤ x.1 ∧ (x.2.length : Int) + x.1 < l.length ∧ wayUp l s (l.length + 1) k = x.2 ++ wayUp l s (x.1 + 2).toNat x.1) (fun x => (x.1 + 1).toNat) (k, []) mixed (by kernel_rfl) ?_ ?_ ?_
  · simp (config := {maxSteps := 10000000}) only [go_sem, ↓reduceIte, reduceCtorEq, Nat.reduceAdd, Nat.reduceSub, Nat.reduceMul, Nat.reduceEqDiff, Nat.reduceBEq, Nat.reduceLeDiff, Nat.reduceLT, Nat.reducePow, Nat.reduceMod]
    simp
  · exact ⟨by simp only; omega, by simp only; omega, by simp; omega, by simp only [List.nil_append]; exact wayUp_fuel hz.2.1 h1.2 _ _ k (by omega) (by omega) (by omega) (by omega)⟩
  intro ⟨x, out⟩ ⟨hx1, hx2, hx3, hx4⟩
  simp only at hx1 hx2 hx3 hx4
  simp (config := {maxSteps := 10000000}) only [go_sem, ↓reduceIte, reduceCtorEq, Nat.reduceAdd, Nat.reduceSub, Nat.reduceMul, Nat.reduceEqDiff, Nat.reduceBEq, Nat.reduceLeDiff, Nat.reduceLT, Nat.reducePow, Nat.reduceMod]
  refine ite_intro (fun hge => ?_) (fun hge => ?_)
  · refine ⟨by omega, ?_⟩
    have hp := parent_next hz.2.1 h1.2 hge hx1
    (refine CallW'.of [] [] (parent_ok l s x (by omega) ⟨hge, hx1⟩ hz.2.1 h1.2) (by simp (config := {maxSteps := 10000000}) only [go_sem, ↓reduceIte, reduceCtorEq, Nat.reduceAdd, Nat.reduceSub, Nat.reduceMul, Nat.reduceEqDiff, Nat.reduceBEq, Nat.reduceLeDiff, Nat.reduceLT, Nat.reducePow, Nat.reduceMod]) ?_; rintro _ _ ⟨rfl, rfl⟩; simp (config := {maxSteps := 10000000}) only [go_sem, ↓reduceIte, reduceCtorEq, Nat.reduceAdd, Nat.reduceSub, Nat.reduceMul, Nat.reduceEqDiff, Nat.reduceBEq, Nat.reduceLeDiff, Nat.reduceLT, Nat.reducePow, Nat.reduceMod])
    refine ⟨(parentF (l.getD x.toNat default) (s.getD x.toNat default), out ++ [x]), ⟨by simp only; omega, hp.1, by simp only [List.length_append, List.length_singleton]; omega, ?_⟩, by simp only; omega, ⟨rfl, by simp⟩, by simp, fun i hi => appF_snoc encI out x _ rfl i hi⟩
    rw [hx4]
    simp only [List.append_assoc, List.singleton_append]
    congr 1
    obtain ⟨f, hf⟩ : ∃ f, (x + 2).toNat = f + 1 := ⟨(x + 1).toNat, by omega⟩
    rw [hf, wayUp, if_neg (by omega), wayUp_fuel hz.2.1 h1.2 f (parentF (l.getD x.toNat default) (s.getD x.toNat default) + 2).toNat _ (by omega) (by omega) (by omega) hp.1]
  · have : wayUp l s (l.length + 1) k = out := by
      rw [hx4]
      obtain ⟨f, hf⟩ : ∃ f, (x + 2).toNat = f + 1 := ⟨(x + 1).toNat, by omega⟩
      rw [hf, wayUp, if_pos (by omega), List.append_nil]
    rw [this]
    exact ⟨rfl, fun _ _ => rfl⟩
end Go.Am.Cl
