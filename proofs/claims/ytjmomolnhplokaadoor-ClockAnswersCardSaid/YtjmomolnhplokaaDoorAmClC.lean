/-
  ClockAnswers, part C: contracts of the functions that check.
-/
import Derived.Test.YtjmomolnhplokaaDoorAmClB
namespace Go.Am.Cl
open Go Go.Am Go.Proofs
set_option maxRecDepth 100000
set_option linter.unusedSimpArgs false
set_option linter.unusedVariables false
variable {G : Gl}
theorem valid1_ok (p at' : Int) : Ok Tryd.prog G 57 [int p, .rowp [int at'] 0] [] fun r h => r = bool (!withinF p 0 (IntKind.i64.wrap (at' - 1))) ∧ h = [] := by
  refine Ok.intro' [] [] [] 9 [.tmp 3] mixed Tryd.func57 (by kernel_rfl) rfl rfl rfl (by kernel_rfl) (by simp) (fun _ _ h => by cases h) (fun _ h => by cases h) ?_
  simp (config := {maxSteps := 10000000}) only [go_sem, ↓reduceIte, reduceCtorEq, Nat.reduceAdd, Nat.reduceSub, Nat.reduceMul, Nat.reduceEqDiff, Nat.reduceBEq, Nat.reduceLeDiff, Nat.reduceLT, Nat.reducePow, Nat.reduceMod]
  (refine CallW'.of [] [] (within_ok p 0 (IntKind.i64.wrap (at' - 1))) (by simp (config := {maxSteps := 10000000}) only [go_sem, ↓reduceIte, reduceCtorEq, Nat.reduceAdd, Nat.reduceSub, Nat.reduceMul, Nat.reduceEqDiff, Nat.reduceBEq, Nat.reduceLeDiff, Nat.reduceLT, Nat.reducePow, Nat.reduceMod]) ?_; rintro _ _ ⟨rfl, rfl⟩; simp (config := {maxSteps := 10000000}) only [go_sem, ↓reduceIte, reduceCtorEq, Nat.reduceAdd, Nat.reduceSub, Nat.reduceMul, Nat.reduceEqDiff, Nat.reduceBEq, Nat.reduceLeDiff, Nat.reduceLT, Nat.reducePow, Nat.reduceMod])
def choF (c : Clock) : Bool :=
  if c.kind = 1 then decide (c.par.length = 0) && decide (c.cho.length = 1) && withinF (c.cho.getD 0 default) 1 4000000000
  else if c.kind = 2 ∨ c.kind = 3 then decide (c.par.length = 1) && decide (0 < c.cho.length) && decide (DiffP 1 64 c.cho)
  else if c.kind = 4 then decide (0 < c.cho.length) && decide (DiffP 0 ((c.par.length : Int) - 1) c.cho)
  else if c.kind = 5 then decide (c.par.length = 1) && decide (c.cho = [0, 1]) else false
def validF (c : Clock) (i : Int) : Bool := c.par.all (fun p => withinF p 0 (i - 1)) && withinF c.high 0 4000000000 && withinF c.low 0 c.high && choF c
theorem valid_ok (c : Clock) (i : Int) (hi : 0 ≤ i ∧ i < 2 ^ 60) (hl : c.par.length < 2 ^ 60 ∧ c.cho.length < 2 ^ 60) : Ok Tryd.prog G 36 [.agg (encC c), int i] [] fun r h => r = bool (validF c i) ∧ h = [] := by
  refine Ok.intro' [] [] [] 88 [.tmp 4] mixed Tryd.func36 (by kernel_rfl) rfl rfl rfl (by kernel_rfl) (by simp) (fun _ _ h => by cases h) (fun _ h => by cases h) ?_
  simp (config := {maxSteps := 10000000}) only [go_sem, ↓reduceIte, reduceCtorEq, Nat.reduceAdd, Nat.reduceSub, Nat.reduceMul, Nat.reduceEqDiff, Nat.reduceBEq, Nat.reduceLeDiff, Nat.reduceLT, Nat.reducePow, Nat.reduceMod]
  have h57 := containsI_ok (G := G) c.par 57 [int i] (fun p => !withinF p 0 (i - 1)) hl.1 (fun x _ => by have := valid1_ok (G := G) x i; rw [w64 (by omega) (by omega)] at this; exact this)
  (refine CallW'.of [] [] (h57) (by simp (config := {maxSteps := 10000000}) only [go_sem, ↓reduceIte, reduceCtorEq, Nat.reduceAdd, Nat.reduceSub, Nat.reduceMul, Nat.reduceEqDiff, Nat.reduceBEq, Nat.reduceLeDiff, Nat.reduceLT, Nat.reducePow, Nat.reduceMod]) ?_; rintro _ _ ⟨rfl, rfl⟩; simp (config := {maxSteps := 10000000}) only [go_sem, ↓reduceIte, reduceCtorEq, Nat.reduceAdd, Nat.reduceSub, Nat.reduceMul, Nat.reduceEqDiff, Nat.reduceBEq, Nat.reduceLeDiff, Nat.reduceLT, Nat.reducePow, Nat.reduceMod])
  refine ite_intro (fun ha => ?_) (fun ha => ?_)
  · have : (c.par.all fun p => withinF p 0 (i - 1)) = false := by
      rw [List.any_eq_true] at ha
      obtain ⟨x, hx, hh⟩ := ha
      rw [List.all_eq_false]
      exact ⟨x, hx, by simpa using hh⟩
    simp [validF, this]
  · have ha : (c.par.all fun p => withinF p 0 (i - 1)) = true := by
      rw [Bool.not_eq_true, List.any_eq_false] at ha
      rw [List.all_eq_true]
      intro x hx
      simpa using ha x hx
    (refine CallW'.of [] [] (within_ok c.high 0 4000000000) (by simp (config := {maxSteps := 10000000}) only [go_sem, ↓reduceIte, reduceCtorEq, Nat.reduceAdd, Nat.reduceSub, Nat.reduceMul, Nat.reduceEqDiff, Nat.reduceBEq, Nat.reduceLeDiff, Nat.reduceLT, Nat.reducePow, Nat.reduceMod]) ?_; rintro _ _ ⟨rfl, rfl⟩; simp (config := {maxSteps := 10000000}) only [go_sem, ↓reduceIte, reduceCtorEq, Nat.reduceAdd, Nat.reduceSub, Nat.reduceMul, Nat.reduceEqDiff, Nat.reduceBEq, Nat.reduceLeDiff, Nat.reduceLT, Nat.reducePow, Nat.reduceMod])
    refine ite_intro (fun hh => ?_) (fun hh => ?_)
    · simp [validF, hh]
    · simp only [Bool.not_eq_false] at hh
      (refine CallW'.of [] [] (within_ok c.low 0 c.high) (by simp (config := {maxSteps := 10000000}) only [go_sem, ↓reduceIte, reduceCtorEq, Nat.reduceAdd, Nat.reduceSub, Nat.reduceMul, Nat.reduceEqDiff, Nat.reduceBEq, Nat.reduceLeDiff, Nat.reduceLT, Nat.reducePow, Nat.reduceMod]) ?_; rintro _ _ ⟨rfl, rfl⟩; simp (config := {maxSteps := 10000000}) only [go_sem, ↓reduceIte, reduceCtorEq, Nat.reduceAdd, Nat.reduceSub, Nat.reduceMul, Nat.reduceEqDiff, Nat.reduceBEq, Nat.reduceLeDiff, Nat.reduceLT, Nat.reducePow, Nat.reduceMod])
      refine ite_intro (fun hw => ?_) (fun hw => ?_)
      · simp [validF, hw]
      · simp only [Bool.not_eq_false] at hw
        have hv : validF c i = choF c := by simp [validF, ha, hh, hw]
        rw [hv]
        have d23 : c.kind = 2 ∨ c.kind = 3 → choF c = (decide (c.par.length = 1) && decide (0 < c.cho.length) && decide (DiffP 1 64 c.cho)) := fun h => by
          unfold choF
          rw [if_neg (by omega), if_pos h]
        have d4 : c.kind = 4 → choF c = (decide (0 < c.cho.length) && decide (DiffP 0 ((c.par.length : Int) - 1) c.cho)) := fun h => by
          unfold choF
          rw [if_neg (by omega), if_neg (by omega), if_pos h]
        have d5 : c.kind = 5 → choF c = (decide (c.par.length = 1) && decide (c.cho = [0, 1])) := fun h => by
          unfold choF
          rw [if_neg (by omega), if_neg (by omega), if_neg (by omega), if_pos h]
        refine ite_intro (fun k1 => ?_) (fun k1 => ?_)
        · have d1 : choF c = (decide (c.par.length = 0) && decide (c.cho.length = 1) && withinF (c.cho.getD 0 default) 1 4000000000) := by unfold choF; rw [if_pos k1]
          refine ite_intro (fun p1 => ?_) (fun p1 => ?_)
          · refine ite_intro (fun p2 => ?_) (fun p2 => ?_)
            · refine ⟨by omega, ?_⟩
              (refine CallW'.of [] [] (within_ok (c.cho.getD 0 default) 1 4000000000) (by simp (config := {maxSteps := 10000000}) only [go_sem, ↓reduceIte, reduceCtorEq, Nat.reduceAdd, Nat.reduceSub, Nat.reduceMul, Nat.reduceEqDiff, Nat.reduceBEq, Nat.reduceLeDiff, Nat.reduceLT, Nat.reducePow, Nat.reduceMod]) ?_; rintro _ _ ⟨rfl, rfl⟩; simp (config := {maxSteps := 10000000}) only [go_sem, ↓reduceIte, reduceCtorEq, Nat.reduceAdd, Nat.reduceSub, Nat.reduceMul, Nat.reduceEqDiff, Nat.reduceBEq, Nat.reduceLeDiff, Nat.reduceLT, Nat.reducePow, Nat.reduceMod])
              rw [d1, decide_eq_true (by omega : c.par.length = 0), decide_eq_true (by omega : c.cho.length = 1)]
              simp
            · rw [d1, decide_eq_false (by omega : ¬ c.cho.length = 1)]; simp
          · rw [d1, decide_eq_false (by omega : ¬ c.par.length = 0)]; simp
        · refine ite_intro (fun k2 => ?_) (fun k2 => ?_)
          · rw [if_pos k2]
            refine ite_intro (fun p1 => ?_) (fun p1 => ?_)
            · refine ite_intro (fun p2 => ?_) (fun p2 => ?_)
              · (refine CallW'.of [] [] (different_ok c.cho 1 64 hl.2) (by simp (config := {maxSteps := 10000000}) only [go_sem, ↓reduceIte, reduceCtorEq, Nat.reduceAdd, Nat.reduceSub, Nat.reduceMul, Nat.reduceEqDiff, Nat.reduceBEq, Nat.reduceLeDiff, Nat.reduceLT, Nat.reducePow, Nat.reduceMod]) ?_; rintro _ _ ⟨rfl, rfl⟩; simp (config := {maxSteps := 10000000}) only [go_sem, ↓reduceIte, reduceCtorEq, Nat.reduceAdd, Nat.reduceSub, Nat.reduceMul, Nat.reduceEqDiff, Nat.reduceBEq, Nat.reduceLeDiff, Nat.reduceLT, Nat.reducePow, Nat.reduceMod])
                rw [d23 (by omega), decide_eq_true (by omega : c.par.length = 1), decide_eq_true (by omega : 0 < c.cho.length)]
                simp
              · rw [d23 (by omega), decide_eq_false (by omega : ¬ 0 < c.cho.length)]; simp
            · rw [d23 (by omega), decide_eq_false (by omega : ¬ c.par.length = 1)]; simp
          · refine ite_intro (fun k3 => ?_) (fun k3 => ?_)
            · refine ite_intro (fun p1 => ?_) (fun p1 => ?_)
              · refine ite_intro (fun p2 => ?_) (fun p2 => ?_)
                · (refine CallW'.of [] [] (different_ok c.cho 1 64 hl.2) (by simp (config := {maxSteps := 10000000}) only [go_sem, ↓reduceIte, reduceCtorEq, Nat.reduceAdd, Nat.reduceSub, Nat.reduceMul, Nat.reduceEqDiff, Nat.reduceBEq, Nat.reduceLeDiff, Nat.reduceLT, Nat.reducePow, Nat.reduceMod]) ?_; rintro _ _ ⟨rfl, rfl⟩; simp (config := {maxSteps := 10000000}) only [go_sem, ↓reduceIte, reduceCtorEq, Nat.reduceAdd, Nat.reduceSub, Nat.reduceMul, Nat.reduceEqDiff, Nat.reduceBEq, Nat.reduceLeDiff, Nat.reduceLT, Nat.reducePow, Nat.reduceMod])
                  rw [d23 (by omega), decide_eq_true (by omega : c.par.length = 1), decide_eq_true (by omega : 0 < c.cho.length)]
                  simp
                · rw [d23 (by omega), decide_eq_false (by omega : ¬ 0 < c.cho.length)]; simp
              · rw [d23 (by omega), decide_eq_false (by omega : ¬ c.par.length = 1)]; simp
            · refine ite_intro (fun k4 => ?_) (fun k4 => ?_)
              · refine ite_intro (fun p2 => ?_) (fun p2 => ?_)
                · (refine CallW'.of [] [] (different_ok c.cho 0 ((c.par.length : Int) - 1) hl.2) (by simp (config := {maxSteps := 10000000}) only [go_sem, ↓reduceIte, reduceCtorEq, Nat.reduceAdd, Nat.reduceSub, Nat.reduceMul, Nat.reduceEqDiff, Nat.reduceBEq, Nat.reduceLeDiff, Nat.reduceLT, Nat.reducePow, Nat.reduceMod]; rw [w64 (by omega) (by omega)]) ?_; rintro _ _ ⟨rfl, rfl⟩; simp (config := {maxSteps := 10000000}) only [go_sem, ↓reduceIte, reduceCtorEq, Nat.reduceAdd, Nat.reduceSub, Nat.reduceMul, Nat.reduceEqDiff, Nat.reduceBEq, Nat.reduceLeDiff, Nat.reduceLT, Nat.reducePow, Nat.reduceMod])
                  rw [d4 k4, decide_eq_true (by omega : 0 < c.cho.length)]
                  simp
                · rw [d4 k4, decide_eq_false (by omega : ¬ 0 < c.cho.length)]; simp
              · refine ite_intro (fun k5 => ?_) (fun k5 => ?_)
                · refine ite_intro (fun p1 => ?_) (fun p1 => ?_)
                  · (refine CallW'.of [] [] (equal_ok c.cho [0, 1] hl.2) (by simp (config := {maxSteps := 10000000}) only [go_sem, ↓reduceIte, reduceCtorEq, Nat.reduceAdd, Nat.reduceSub, Nat.reduceMul, Nat.reduceEqDiff, Nat.reduceBEq, Nat.reduceLeDiff, Nat.reduceLT, Nat.reducePow, Nat.reduceMod]; intro i hi; rcases i with _ | _ | i; rfl; rfl; omega) ?_; rintro _ _ ⟨rfl, rfl⟩; simp (config := {maxSteps := 10000000}) only [go_sem, ↓reduceIte, reduceCtorEq, Nat.reduceAdd, Nat.reduceSub, Nat.reduceMul, Nat.reduceEqDiff, Nat.reduceBEq, Nat.reduceLeDiff, Nat.reduceLT, Nat.reducePow, Nat.reduceMod])
                    rw [d5 k5, decide_eq_true (by omega : c.par.length = 1)]
                    simp
                  · rw [d5 k5, decide_eq_false (by omega : ¬ c.par.length = 1)]; simp
                · unfold choF
                  rw [if_neg k1, if_neg (by omega), if_neg k4, if_neg k5]
end Go.Am.Cl
