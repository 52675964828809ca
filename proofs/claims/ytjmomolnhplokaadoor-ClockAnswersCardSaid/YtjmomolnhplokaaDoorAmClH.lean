/-
  ClockAnswers, part H: the reference's Check.
-/
import Derived.Test.YtjmomolnhplokaaDoorAmClG
namespace Go.Am.Cl
open Go Go.Am Go.Proofs
set_option maxRecDepth 100000
set_option linter.unusedSimpArgs false
set_option linter.unusedVariables false
variable {G : Gl}
theorem in_ok (l : List Int) (v : Int) (hl : l.length < 2 ^ 60) : Ok Tryd.prog G 50 [ints false l, int v] [] fun r h => r = bool (decide (v ∈ l)) ∧ h = [] := by
  refine Ok.intro' [] [] [] 18 [.tmp 4] mixed Tryd.func50 (by kernel_rfl) rfl rfl rfl (by kernel_rfl) (by simp) (fun _ _ h => by cases h) (fun _ h => by cases h) ?_
  simp (config := {maxSteps := 10000000}) only [go_sem, ↓reduceIte, reduceCtorEq, Nat.reduceAdd, Nat.reduceSub, Nat.reduceMul, Nat.reduceEqDiff, Nat.reduceBEq, Nat.reduceLeDiff, Nat.reduceLT, Nat.reducePow, Nat.reduceMod]
  refine TC'.loop [] (fun (i : Nat) => ⟨[(0, ints false l), (1, int v), (5, int i)], []⟩) (fun i => i ≤ l.length ∧ v ∉ l.take i) (fun i => l.length - i) 0 mixed (by kernel_rfl) ?_ ?_ ?_
  · simp (config := {maxSteps := 10000000}) only [go_sem, ↓reduceIte, reduceCtorEq, Nat.reduceAdd, Nat.reduceSub, Nat.reduceMul, Nat.reduceEqDiff, Nat.reduceBEq, Nat.reduceLeDiff, Nat.reduceLT, Nat.reducePow, Nat.reduceMod]
    simp
  · simp
  intro i ⟨hi, hv⟩
  simp (config := {maxSteps := 10000000}) only [go_sem, ↓reduceIte, reduceCtorEq, Nat.reduceAdd, Nat.reduceSub, Nat.reduceMul, Nat.reduceEqDiff, Nat.reduceBEq, Nat.reduceLeDiff, Nat.reduceLT, Nat.reducePow, Nat.reduceMod]
  refine ite_intro (fun hlt => ?_) (fun hlt => ?_)
  · have hlt : i < l.length := by omega
    refine ⟨by omega, ?_⟩
    refine ite_intro (fun he => ?_) (fun he => ?_)
    · rw [decide_eq_true (by rw [← he]; exact getD_mem hlt)]
    · refine ⟨i + 1, ⟨by omega, ?_⟩, by omega, by rw [w64 (by omega) (by omega)]; omega⟩
      rw [take_getD (d := default) hlt]
      simp only [List.mem_append, List.mem_singleton, hv, Ne.symm he, or_self, not_false_eq_true]
  · rw [take_all (by omega)] at hv
    simp [hv]
theorem ints_ok (l m : List Int) (hl : l.length < 2 ^ 60) : Ok Tryd.prog G 24 [ints false l, ints false m] [] fun r h => r = bool (decide (l = m)) ∧ h = [] := by
  refine Ok.intro' [] [] [] 26 [.tmp 4] mixed Tryd.func24 (by kernel_rfl) rfl rfl rfl (by kernel_rfl) (by simp) (fun _ _ h => by cases h) (fun _ h => by cases h) ?_
  simp (config := {maxSteps := 10000000}) only [go_sem, ↓reduceIte, reduceCtorEq, Nat.reduceAdd, Nat.reduceSub, Nat.reduceMul, Nat.reduceEqDiff, Nat.reduceBEq, Nat.reduceLeDiff, Nat.reduceLT, Nat.reducePow, Nat.reduceMod]
  refine ite_intro (fun hne => ?_) (fun hne => ?_)
  · have : l ≠ m := fun h => hne (by rw [h])
    simp [this]
  have hne : l.length = m.length := by omega
  refine TC'.loop [6] (fun (i : Nat) => ⟨[(0, ints false l), (1, ints false m), (5, int i)], []⟩) (fun i => i ≤ l.length ∧ l.take i = m.take i) (fun i => l.length - i) 0 mixed (by kernel_rfl) ?_ ?_ ?_
  · simp (config := {maxSteps := 10000000}) only [go_sem, ↓reduceIte, reduceCtorEq, Nat.reduceAdd, Nat.reduceSub, Nat.reduceMul, Nat.reduceEqDiff, Nat.reduceBEq, Nat.reduceLeDiff, Nat.reduceLT, Nat.reducePow, Nat.reduceMod]
    simp
  · simp
  intro i ⟨hi, hv⟩
  simp (config := {maxSteps := 10000000}) only [go_sem, ↓reduceIte, reduceCtorEq, Nat.reduceAdd, Nat.reduceSub, Nat.reduceMul, Nat.reduceEqDiff, Nat.reduceBEq, Nat.reduceLeDiff, Nat.reduceLT, Nat.reducePow, Nat.reduceMod]
  refine ite_intro (fun hlt => ?_) (fun hlt => ?_)
  · have hlt : i < l.length := by omega
    refine ⟨by omega, by omega, ?_⟩
    refine ite_intro (fun hw => ?_) (fun hw => ?_)
    · have : l ≠ m := fun h => hw (by rw [h])
      simp [this]
    · refine ⟨i + 1, ⟨by omega, ?_⟩, by omega, by rw [w64 (by omega) (by omega)]; omega⟩
      rw [take_getD (d := default) hlt, take_getD (d := default) (by omega : i < m.length), hv]
      simp only [Decidable.not_not] at hw
      rw [hw]
  · rw [take_all (by omega), take_all (by omega)] at hv
    simp [hv]
theorem rdifferent_ok (l : List Int) (lo hi' : Int) (hl : l.length < 2 ^ 60) : Ok Tryd.prog G 60 [ints false l, int lo, int hi'] [] fun r h => r = bool (decide (DiffP lo hi' l)) ∧ h = [] := by
  refine Ok.intro' [] [] [] 32 [.tmp 6] mixed Tryd.func60 (by kernel_rfl) rfl rfl rfl (by kernel_rfl) (by simp) (fun _ _ h => by cases h) (fun _ h => by cases h) ?_
  simp (config := {maxSteps := 10000000}) only [go_sem, ↓reduceIte, reduceCtorEq, Nat.reduceAdd, Nat.reduceSub, Nat.reduceMul, Nat.reduceEqDiff, Nat.reduceBEq, Nat.reduceLeDiff, Nat.reduceLT, Nat.reducePow, Nat.reduceMod]
  refine TC'.loop [] (fun (i : Nat) => ⟨[(0, ints false l), (1, int lo), (2, int hi'), (9, ints false l), (10, int l.length), (11, int i)], []⟩) (fun i => i ≤ l.length ∧ DiffP lo hi' (l.take i)) (fun i => l.length - i) 0 mixed (by kernel_rfl) ?_ ?_ ?_
  · simp (config := {maxSteps := 10000000}) only [go_sem, ↓reduceIte, reduceCtorEq, Nat.reduceAdd, Nat.reduceSub, Nat.reduceMul, Nat.reduceEqDiff, Nat.reduceBEq, Nat.reduceLeDiff, Nat.reduceLT, Nat.reducePow, Nat.reduceMod]
    simp
  · simp [DiffP]
  intro i ⟨hi, hv⟩
  simp (config := {maxSteps := 10000000}) only [go_sem, ↓reduceIte, reduceCtorEq, Nat.reduceAdd, Nat.reduceSub, Nat.reduceMul, Nat.reduceEqDiff, Nat.reduceBEq, Nat.reduceLeDiff, Nat.reduceLT, Nat.reducePow, Nat.reduceMod]
  have bad : i < l.length → ¬ (lo ≤ l.getD i default ∧ l.getD i default ≤ hi' ∧ l.getD i default ∉ l.take i) → false = decide (DiffP lo hi' l) := fun hlt h => by
    have hd := diffP_snoc lo hi' (l.take i) (l.getD i default)
    rw [← take_getD hlt] at hd
    have : ¬ DiffP lo hi' l := fun h' => by
      have := hd.1 (diffP_take (i + 1) h')
      exact h ⟨this.2.1.1, this.2.1.2, this.1⟩
    simp [this]
  refine ite_intro (fun hlt => ?_) (fun hlt => ?_)
  · have hlt : i < l.length := by omega
    refine ⟨by omega, ?_⟩
    refine ite_intro (fun h1 => ?_) (fun h1 => ?_)
    · exact bad hlt (by omega)
    · refine ite_intro (fun h2 => ?_) (fun h2 => ?_)
      · exact bad hlt (by omega)
      · refine ⟨by omega, ?_⟩
        (refine CallW'.of [] [] (in_ok (l.take i) (l.getD i default) (by simp; omega)) (by simp (config := {maxSteps := 10000000}) only [go_sem, ↓reduceIte, reduceCtorEq, Nat.reduceAdd, Nat.reduceSub, Nat.reduceMul, Nat.reduceEqDiff, Nat.reduceBEq, Nat.reduceLeDiff, Nat.reduceLT, Nat.reducePow, Nat.reduceMod]; exact ⟨by simp; omega, fun r hr => by rw [getD_take hr]⟩) ?_; rintro _ _ ⟨rfl, rfl⟩; simp (config := {maxSteps := 10000000}) only [go_sem, ↓reduceIte, reduceCtorEq, Nat.reduceAdd, Nat.reduceSub, Nat.reduceMul, Nat.reduceEqDiff, Nat.reduceBEq, Nat.reduceLeDiff, Nat.reduceLT, Nat.reducePow, Nat.reduceMod])
        refine ite_intro (fun hm => ?_) (fun hm => ?_)
        · exact bad hlt (fun h => h.2.2 hm)
        · have hd := diffP_snoc lo hi' (l.take i) (l.getD i default)
          rw [← take_getD hlt] at hd
          exact ⟨i + 1, ⟨by omega, hd.2 ⟨hm, by omega, hv⟩⟩, by omega, by rw [w64 (by omega) (by omega)]; omega⟩
  · rw [take_all (by omega)] at hv
    simp [hv]
theorem rchoices_ok (c : Clock) (hl : c.par.length < 2 ^ 60 ∧ c.cho.length < 2 ^ 60) : Ok Tryd.prog G 37 [.agg (encC c)] [] fun r h => r = bool (choF c) ∧ h = [] := by
  refine Ok.intro' [] [] [] 82 [.tmp 2] mixed Tryd.func37 (by kernel_rfl) rfl rfl rfl (by kernel_rfl) (by simp) (fun _ _ h => by cases h) (fun _ h => by cases h) ?_
  simp (config := {maxSteps := 10000000}) only [go_sem, ↓reduceIte, reduceCtorEq, Nat.reduceAdd, Nat.reduceSub, Nat.reduceMul, Nat.reduceEqDiff, Nat.reduceBEq, Nat.reduceLeDiff, Nat.reduceLT, Nat.reducePow, Nat.reduceMod]
  have d23 : c.kind = 2 ∨ c.kind = 3 → choF c = (decide (c.par.length = 1) && decide (0 < c.cho.length) && decide (DiffP 1 64 c.cho)) := fun h => by
    unfold choF
    rw [if_neg (by omega), if_pos h]
  have d4 : c.kind = 4 → choF c = (decide (0 < c.cho.length) && decide (DiffP 0 ((c.par.length : Int) - 1) c.cho)) := fun h => by
    unfold choF
    rw [if_neg (by omega), if_neg (by omega), if_pos h]
  have d5 : c.kind = 5 → choF c = (decide (c.par.length = 1) && decide (c.cho = [0, 1])) := fun h => by
    unfold choF
    rw [if_neg (by omega), if_neg (by omega), if_neg (by omega), if_pos h]
  refine ite_intro (fun k1 => ?_) (fun k1 => ?_)
  · have d1 : choF c = (decide (c.par.length = 0) && decide (c.cho.length = 1) && withinF (c.cho.getD 0 default) 1 4000000000) := by unfold choF; rw [if_pos k1]
    rw [d1]
    refine ite_intro (fun p1 => ?_) (fun p1 => ?_)
    · refine ite_intro (fun p2 => ?_) (fun p2 => ?_)
      · rw [decide_eq_true (by omega : c.par.length = 0), decide_eq_true (by omega : c.cho.length = 1)]
        unfold withinF
        refine ⟨by omega, ?_⟩
        refine ite_intro (fun p3 => ?_) (fun p3 => ?_)
        · refine ⟨by omega, ?_⟩
          rw [decide_eq_true p3]; simp
        · rw [decide_eq_false p3]; simp
      · rw [decide_eq_false (by omega : ¬ c.cho.length = 1)]; simp
    · rw [decide_eq_false (by omega : ¬ c.par.length = 0)]; simp
  · refine ite_intro (fun k2 => ?_) (fun k2 => ?_)
    · rw [if_pos k2]
      refine ite_intro (fun p1 => ?_) (fun p1 => ?_)
      · refine ite_intro (fun p2 => ?_) (fun p2 => ?_)
        · (refine CallW'.of [] [] (rdifferent_ok c.cho 1 64 hl.2) (by simp (config := {maxSteps := 10000000}) only [go_sem, ↓reduceIte, reduceCtorEq, Nat.reduceAdd, Nat.reduceSub, Nat.reduceMul, Nat.reduceEqDiff, Nat.reduceBEq, Nat.reduceLeDiff, Nat.reduceLT, Nat.reducePow, Nat.reduceMod]) ?_; rintro _ _ ⟨rfl, rfl⟩; simp (config := {maxSteps := 10000000}) only [go_sem, ↓reduceIte, reduceCtorEq, Nat.reduceAdd, Nat.reduceSub, Nat.reduceMul, Nat.reduceEqDiff, Nat.reduceBEq, Nat.reduceLeDiff, Nat.reduceLT, Nat.reducePow, Nat.reduceMod])
          rw [d23 (by omega), decide_eq_true (by omega : c.par.length = 1), decide_eq_true (by omega : 0 < c.cho.length)]
          simp
        · rw [d23 (by omega), decide_eq_false (by omega : ¬ 0 < c.cho.length)]; simp
      · rw [d23 (by omega), decide_eq_false (by omega : ¬ c.par.length = 1)]; simp
    · refine ite_intro (fun k3 => ?_) (fun k3 => ?_)
      · refine ite_intro (fun p1 => ?_) (fun p1 => ?_)
        · refine ite_intro (fun p2 => ?_) (fun p2 => ?_)
          · (refine CallW'.of [] [] (rdifferent_ok c.cho 1 64 hl.2) (by simp (config := {maxSteps := 10000000}) only [go_sem, ↓reduceIte, reduceCtorEq, Nat.reduceAdd, Nat.reduceSub, Nat.reduceMul, Nat.reduceEqDiff, Nat.reduceBEq, Nat.reduceLeDiff, Nat.reduceLT, Nat.reducePow, Nat.reduceMod]) ?_; rintro _ _ ⟨rfl, rfl⟩; simp (config := {maxSteps := 10000000}) only [go_sem, ↓reduceIte, reduceCtorEq, Nat.reduceAdd, Nat.reduceSub, Nat.reduceMul, Nat.reduceEqDiff, Nat.reduceBEq, Nat.reduceLeDiff, Nat.reduceLT, Nat.reducePow, Nat.reduceMod])
            rw [d23 (by omega), decide_eq_true (by omega : c.par.length = 1), decide_eq_true (by omega : 0 < c.cho.length)]
            simp
          · rw [d23 (by omega), decide_eq_false (by omega : ¬ 0 < c.cho.length)]; simp
        · rw [d23 (by omega), decide_eq_false (by omega : ¬ c.par.length = 1)]; simp
      · refine ite_intro (fun k4 => ?_) (fun k4 => ?_)
        · refine ite_intro (fun p1 => ?_) (fun p1 => ?_)
          · refine ite_intro (fun p2 => ?_) (fun p2 => ?_)
            · (refine CallW'.of [] [] (rdifferent_ok c.cho 0 ((c.par.length : Int) - 1) hl.2) (by simp (config := {maxSteps := 10000000}) only [go_sem, ↓reduceIte, reduceCtorEq, Nat.reduceAdd, Nat.reduceSub, Nat.reduceMul, Nat.reduceEqDiff, Nat.reduceBEq, Nat.reduceLeDiff, Nat.reduceLT, Nat.reducePow, Nat.reduceMod]; rw [w64 (by omega) (by omega)]) ?_; rintro _ _ ⟨rfl, rfl⟩; simp (config := {maxSteps := 10000000}) only [go_sem, ↓reduceIte, reduceCtorEq, Nat.reduceAdd, Nat.reduceSub, Nat.reduceMul, Nat.reduceEqDiff, Nat.reduceBEq, Nat.reduceLeDiff, Nat.reduceLT, Nat.reducePow, Nat.reduceMod])
              rw [d4 k4, decide_eq_true (by omega : 0 < c.cho.length)]
              simp
            · rw [d4 k4, decide_eq_false (by omega : ¬ 0 < c.cho.length)]; simp
          · rw [d4 k4]
            by_cases hc : 0 < c.cho.length
            · have : ¬ DiffP 0 ((c.par.length : Int) - 1) c.cho := fun h => by
                have := h.2 _ (getD_mem (d := default) hc)
                omega
              simp [this]
            · simp [hc]
        · refine ite_intro (fun k5 => ?_) (fun k5 => ?_)
          · refine ite_intro (fun p1 => ?_) (fun p1 => ?_)
            · (refine CallW'.of [] [] (ints_ok c.cho [0, 1] hl.2) (by simp (config := {maxSteps := 10000000}) only [go_sem, ↓reduceIte, reduceCtorEq, Nat.reduceAdd, Nat.reduceSub, Nat.reduceMul, Nat.reduceEqDiff, Nat.reduceBEq, Nat.reduceLeDiff, Nat.reduceLT, Nat.reducePow, Nat.reduceMod]; intro i hi; rcases i with _ | _ | i; rfl; rfl; omega) ?_; rintro _ _ ⟨rfl, rfl⟩; simp (config := {maxSteps := 10000000}) only [go_sem, ↓reduceIte, reduceCtorEq, Nat.reduceAdd, Nat.reduceSub, Nat.reduceMul, Nat.reduceEqDiff, Nat.reduceBEq, Nat.reduceLeDiff, Nat.reduceLT, Nat.reducePow, Nat.reduceMod])
              rw [d5 k5, decide_eq_true (by omega : c.par.length = 1)]
              simp
            · rw [d5 k5, decide_eq_false (by omega : ¬ c.par.length = 1)]; simp
          · unfold choF
            rw [if_neg k1, if_neg (by omega), if_neg k4, if_neg k5]
theorem facOf_le {f : List Int} {b : Int} (hb : 0 ≤ b) (hf : ∀ n, n ∈ f → n ≤ b) (c : Clock) : facOf f c ≤ b + 1 := by
  have := accP_le hb hf c.par
  unfold facOf; split <;> omega
theorem facs_bd (l : List Clock) : ∀ i, i ≤ l.length → ∀ n, n ∈ facs (l.take i) → 0 ≤ n ∧ n ≤ i
  | 0, _, n, h => by simp [facs] at h
  | i + 1, hi, n, h => by
    have ih := facs_bd l i (by omega)
    rw [facs_take (by omega), List.mem_append, List.mem_singleton] at h
    rcases h with h | rfl
    · have := ih n h; omega
    · have h1 := facOf_le (f := facs (l.take i)) (b := i) (by omega) (fun n hn => (ih n hn).2) (l.getD i default)
      have h2 := accP_nonneg (facs (l.take i)) (l.getD i default).par
      have h3 := facOf_nonneg (facs (l.take i)) (l.getD i default)
      omega
theorem factors_ok (l : List Clock) (hl : l.length ≤ 16) (hp : ∀ i, i < l.length → ∀ p, p ∈ (l.getD i default).par → 0 ≤ p ∧ p < i) (hlp : ∀ c, c ∈ l → c.par.length ≤ 8) : Ok Tryd.prog G 38 [sl false 5 encC l] [] fun r h => r = ints true (facs l) ∧ h = [] := by
  refine Ok.weak (Q := fun r h => leP r (ints true (facs l)) ∧ h = []) ?_ (fun r h ⟨h1, h2⟩ => ⟨_, h1, rfl, h2⟩)
  refine Ok.intro' [] [] [] 45 [.tmp 2] mixed Tryd.func38 (by kernel_rfl) rfl rfl rfl (by kernel_rfl) (by simp) (fun _ _ h => by cases h) (fun _ h => by cases h) ?_
  simp (config := {maxSteps := 10000000}) only [go_sem, ↓reduceIte, reduceCtorEq, Nat.reduceAdd, Nat.reduceSub, Nat.reduceMul, Nat.reduceEqDiff, Nat.reduceBEq, Nat.reduceLeDiff, Nat.reduceLT, Nat.reducePow, Nat.reduceMod]
  refine TC'.ent (Ent.virt 3 42 1 (by simp (config := {maxSteps := 10000000}) only [go_sem, ↓reduceIte, reduceCtorEq, Nat.reduceAdd, Nat.reduceSub, Nat.reduceMul, Nat.reduceEqDiff, Nat.reduceBEq, Nat.reduceLeDiff, Nat.reduceLT, Nat.reducePow, Nat.reduceMod]) (by simp (config := {maxSteps := 10000000}) only [go_sem, ↓reduceIte, reduceCtorEq, Nat.reduceAdd, Nat.reduceSub, Nat.reduceMul, Nat.reduceEqDiff, Nat.reduceBEq, Nat.reduceLeDiff, Nat.reduceLT, Nat.reducePow, Nat.reduceMod])) ?_
  refine TC'.loop [] (fun (i : Nat) => ⟨[(3, .own 42 1 0 (facs (l.take i)).length false), (9, sl false 5 encC l), (10, int l.length), (11, int i)], [(42, .arr 1 (facs (l.take i)).length (fun x => [int ((facs (l.take i)).getD x default)]) false)]⟩) (fun i => i ≤ l.length) (fun i => l.length - i) 0 mixed (by kernel_rfl) ?_ ?_ ?_
  · simp (config := {maxSteps := 10000000}) only [go_sem, ↓reduceIte, reduceCtorEq, Nat.reduceAdd, Nat.reduceSub, Nat.reduceMul, Nat.reduceEqDiff, Nat.reduceBEq, Nat.reduceLeDiff, Nat.reduceLT, Nat.reducePow, Nat.reduceMod]
    simp [facs]
  · simp
  intro i hi
  have hlen := facs_len_take l i hi
  simp (config := {maxSteps := 10000000}) only [go_sem, ↓reduceIte, reduceCtorEq, Nat.reduceAdd, Nat.reduceSub, Nat.reduceMul, Nat.reduceEqDiff, Nat.reduceBEq, Nat.reduceLeDiff, Nat.reduceLT, Nat.reducePow, Nat.reduceMod]
  refine ite_intro (fun hlt => ?_) (fun hlt => ?_)
  · have hlt : i < l.length := by omega
    refine ⟨by omega, ?_⟩
    refine TC'.loop [] (fun (j : Nat) => ⟨[(3, .own 42 1 0 (facs (l.take i)).length false), (9, sl false 5 encC l), (10, int l.length), (11, int i), (5, .ptr 5 0), (6, int (accP (facs (l.take i)) ((l.getD i default).par.take j))), (16, ints true (l.getD i default).par), (17, int (l.getD i default).par.length), (18, int j)],
      [(5, .box (encC (l.getD i default))), (42, .arr 1 (facs (l.take i)).length (fun x => [int ((facs (l.take i)).getD x default)]) false)]⟩) (fun j => j ≤ (l.getD i default).par.length) (fun j => (l.getD i default).par.length - j) 0 mixed (by kernel_rfl) ?_ ?_ ?_
    · simp (config := {maxSteps := 10000000}) only [go_sem, ↓reduceIte, reduceCtorEq, Nat.reduceAdd, Nat.reduceSub, Nat.reduceMul, Nat.reduceEqDiff, Nat.reduceBEq, Nat.reduceLeDiff, Nat.reduceLT, Nat.reducePow, Nat.reduceMod]
      simp [accP]
    · simp
    intro j hj
    have hpl := hlp _ (getD_mem (d := default) hlt)
    simp (config := {maxSteps := 10000000}) only [go_sem, ↓reduceIte, reduceCtorEq, Nat.reduceAdd, Nat.reduceSub, Nat.reduceMul, Nat.reduceEqDiff, Nat.reduceBEq, Nat.reduceLeDiff, Nat.reduceLT, Nat.reducePow, Nat.reduceMod]
    refine ite_intro (fun hjl => ?_) (fun hjl => ?_)
    · have hjl : j < (l.getD i default).par.length := by omega
      have hpb := hp i hlt _ (getD_mem (d := default) hjl)
      refine ⟨by omega, by omega, by omega, j + 1, by omega, by omega, ?_, by rw [w64 (by omega) (by omega)]; omega⟩
      rw [take_getD (d := default) hjl, accP_snoc]
      split <;> omega
    · have hfull : (l.getD i default).par.take j = (l.getD i default).par := take_all (by omega)
      rw [hfull]
      have hb := facs_bd l i hi
      have ha0 := accP_nonneg (facs (l.take i)) (l.getD i default).par
      have ha4 := accP_le (f := facs (l.take i)) (by omega : (0 : Int) ≤ i) (fun n hn => (hb n hn).2) (l.getD i default).par
      have hft := facs_take hlt
      have fin : ∀ v : Int, v = facOf (facs (l.take i)) (l.getD i default) → ∃ y, y ≤ l.length ∧ l.length - y < l.length - i ∧ ((facs (l.take i)).length + 1 = (facs (l.take y)).length ∧ IntKind.i64.wrap (↑i + 1) = ↑y) ∧
          (facs (l.take i)).length + 1 = (facs (l.take y)).length ∧ ∀ x, x < (facs (l.take i)).length + 1 → appF (facs (l.take i)).length (fun x => [int ((facs (l.take i)).getD x default)]) (fun r => litF [[int v]] r) x = [int ((facs (l.take y)).getD x default)] := fun v hv =>
        ⟨i + 1, by omega, by omega, ⟨by rw [hft]; simp, by rw [w64 (by omega) (by omega)]; omega⟩, by rw [hft]; simp, fun x hx => by rw [hft, ← hv]; exact appF_snoc encI (facs (l.take i)) v _ rfl x hx⟩
      rw [w64 (by omega) (by omega : accP (facs (l.take i)) (l.getD i default).par + 1 ≤ _)]
      refine ite_intro (fun k2 => ?_) (fun k2 => ?_)
      · exact ⟨by omega, fin _ (by unfold facOf; rw [if_pos (.inl k2)])⟩
      · refine ite_intro (fun k3 => ?_) (fun k3 => ?_)
        · exact ⟨by omega, fin _ (by unfold facOf; rw [if_pos (.inr k3)])⟩
        · exact ⟨by omega, fin _ (by unfold facOf; rw [if_neg (by omega)]; omega)⟩
  · rw [take_all (by omega)]
    exact ⟨rfl, fun _ _ => rfl⟩
def mpr (l : List Clock) : Int := l.foldl (fun n c => min (n * c.cho.length) 1099511627776) 1
theorem mpr_snoc (l : List Clock) (c : Clock) : mpr (l ++ [c]) = min (mpr l * c.cho.length) 1099511627776 := by simp [mpr, List.foldl_append]
theorem mpr_take {l : List Clock} {i : Nat} (h : i < l.length) : mpr (l.take (i + 1)) = min (mpr (l.take i) * (l.getD i default).cho.length) 1099511627776 := by rw [take_getD (d := default) h, mpr_snoc]
theorem mpr_prod (l : List Clock) : ∀ i, i ≤ l.length → (∀ j, j < i → 1 ≤ (l.getD j default).cho.length) → mpr (l.take i) = min (prod (l.take i)) 1099511627776 ∧ 1 ≤ prod (l.take i)
  | 0, _, _ => by simp [mpr, prod]; omega
  | i + 1, hi, hc => by
    obtain ⟨h1, h2⟩ := mpr_prod l i (by omega) (fun j hj => hc j (by omega))
    have hk : (1 : Int) ≤ (l.getD i default).cho.length := by have := hc i (by omega); omega
    rw [mpr_take (by omega), prod_take (by omega), h1]
    have h3 : (1 : Int) * 1 ≤ prod (l.take i) * ((l.getD i default).cho.length : Int) := Int.mul_le_mul h2 hk (by omega) (by omega)
    refine ⟨?_, by omega⟩
    by_cases h : prod (l.take i) ≤ 1099511627776
    · rw [show min (prod (l.take i)) 1099511627776 = prod (l.take i) by omega]
    · rw [show min (prod (l.take i)) 1099511627776 = 1099511627776 by omega]
      have h4 : (1099511627776 : Int) * 1 ≤ 1099511627776 * ((l.getD i default).cho.length : Int) := Int.mul_le_mul_of_nonneg_left hk (by omega)
      have h5 : (1099511627776 : Int) * 1 ≤ prod (l.take i) * ((l.getD i default).cho.length : Int) := Int.mul_le_mul (by omega) hk (by omega) (by omega)
      omega
theorem validF_iff (c : Clock) (i : Int) : validF c i = true ↔ (∀ p, p ∈ c.par → 0 ≤ p ∧ p < i) ∧ choF c = true ∧ 0 ≤ c.low ∧ c.low ≤ c.high ∧ c.high ≤ 4000000000 := by
  constructor
  · intro h
    have h1 := validF_par h
    simp only [validF, Bool.and_eq_true] at h
    have h2 := withinF_true.1 h.1.2
    have h3 := withinF_true.1 h.1.1.2
    exact ⟨h1, h.2, by omega, by omega, by omega⟩
  · intro ⟨h1, h2, h3, h4, h5⟩
    simp only [validF, Bool.and_eq_true, List.all_eq_true]
    exact ⟨⟨⟨fun p hp => withinF_true.2 (by have := h1 p hp; omega), withinF_true.2 (by omega)⟩, withinF_true.2 (by omega)⟩, h2⟩
theorem rcheck_ok (l : List Clock) (hl : l.length < 2 ^ 60) : Ok Tryd.prog G 14 [sl false 5 encC l] [] fun r h => r = int (checkF l) ∧ h = [] := by
  refine Ok.intro' [] [] [] 93 [.tmp 2] mixed Tryd.func14 (by kernel_rfl) rfl rfl rfl (by kernel_rfl) (by simp) (fun _ _ h => by cases h) (fun _ h => by cases h) ?_
  simp (config := {maxSteps := 10000000}) only [go_sem, ↓reduceIte, reduceCtorEq, Nat.reduceAdd, Nat.reduceSub, Nat.reduceMul, Nat.reduceEqDiff, Nat.reduceBEq, Nat.reduceLeDiff, Nat.reduceLT, Nat.reducePow, Nat.reduceMod]
  refine ite_intro (fun h1 => ?_) (fun h1 => ?_)
  · unfold checkF
    rw [if_pos (.inl (by omega))]
  refine TC'.loop [] (fun (i : Nat) => ⟨[(0, sl false 5 encC l), (15, sl false 5 encC l), (16, int l.length), (17, int i)], []⟩) (fun i => i ≤ l.length ∧ ∀ j, j < i → longF (l.getD j default) = false) (fun i => l.length - i) 0 mixed (by kernel_rfl) ?_ ?_ ?_
  · simp (config := {maxSteps := 10000000}) only [go_sem, ↓reduceIte, reduceCtorEq, Nat.reduceAdd, Nat.reduceSub, Nat.reduceMul, Nat.reduceEqDiff, Nat.reduceBEq, Nat.reduceLeDiff, Nat.reduceLT, Nat.reducePow, Nat.reduceMod]
    simp
  · simp
  intro i ⟨hi, hv⟩
  simp (config := {maxSteps := 10000000}) only [go_sem, ↓reduceIte, reduceCtorEq, Nat.reduceAdd, Nat.reduceSub, Nat.reduceMul, Nat.reduceEqDiff, Nat.reduceBEq, Nat.reduceLeDiff, Nat.reduceLT, Nat.reducePow, Nat.reduceMod]
  refine ite_intro (fun hlt => ?_) (fun hlt => ?_)
  · have hlt : i < l.length := by omega
    refine ⟨by omega, ?_⟩
    have bad : longF (l.getD i default) = true → (3 : Int) = checkF l := fun h => by
      unfold checkF
      rw [if_pos (.inr (List.any_eq_true.2 ⟨_, getD_mem hlt, h⟩))]
    refine ite_intro (fun hb => ?_) (fun hb => ?_)
    · exact bad (by unfold longF; rw [decide_eq_true (by omega : 8 < (l.getD i default).par.length)]; simp)
    · refine ite_intro (fun hb2 => ?_) (fun hb2 => ?_)
      · exact bad (by unfold longF; rw [decide_eq_true (by omega : 8 < (l.getD i default).cho.length)]; simp)
      · refine ⟨i + 1, ⟨by omega, fun j hj => ?_⟩, by omega, by rw [w64 (by omega) (by omega)]; omega⟩
        by_cases e : j = i
        · rw [e]
          unfold longF
          rw [decide_eq_false (by omega : ¬ 8 < (l.getD i default).par.length), decide_eq_false (by omega : ¬ 8 < (l.getD i default).cho.length)]; rfl
        · exact hv j (by omega)
  have h2 : l.any longF = false := by
    rw [List.any_eq_false]
    intro c hc
    obtain ⟨k, hk, rfl⟩ := List.mem_iff_getElem.1 hc
    have := hv k (by omega)
    rw [List.getD_eq_getElem?_getD, List.getElem?_eq_getElem hk] at this
    rw [Option.getD_some] at this
    rw [this]; simp
  have hlong : ∀ c, c ∈ l → c.par.length ≤ 8 ∧ c.cho.length ≤ 8 := fun c hc => by
    rw [List.any_eq_false] at h2
    have := h2 c hc
    simp [longF] at this
    omega
  clear hlt hi hv
  refine TC'.loop [] (fun (i : Nat) => ⟨[(0, sl false 5 encC l), (5, int (mpr (l.take i))), (32, sl false 5 encC l), (33, int l.length), (34, int i)], []⟩) (fun i => i ≤ l.length ∧ ∀ j, j < i → validF (l.getD j default) j = true) (fun i => l.length - i) 0 mixed (by kernel_rfl) ?_ ?_ ?_
  · simp (config := {maxSteps := 10000000}) only [go_sem, ↓reduceIte, reduceCtorEq, Nat.reduceAdd, Nat.reduceSub, Nat.reduceMul, Nat.reduceEqDiff, Nat.reduceBEq, Nat.reduceLeDiff, Nat.reduceLT, Nat.reducePow, Nat.reduceMod]
    simp [mpr]
  · simp
  clear i; intro i ⟨hi, hv⟩
  have bad : i < l.length → ¬ validF (l.getD i default) i = true → (1 : Int) = checkF l := fun hlt h => by
    unfold checkF
    rw [if_neg (by simp only [not_or]; exact ⟨by omega, by simp [h2]⟩), if_pos (fun h' => h (h' i hlt))]
  simp (config := {maxSteps := 10000000}) only [go_sem, ↓reduceIte, reduceCtorEq, Nat.reduceAdd, Nat.reduceSub, Nat.reduceMul, Nat.reduceEqDiff, Nat.reduceBEq, Nat.reduceLeDiff, Nat.reduceLT, Nat.reducePow, Nat.reduceMod]
  refine ite_intro (fun hlt => ?_) (fun hlt => ?_)
  · have hlt : i < l.length := by omega
    have hq := hlong _ (getD_mem (d := default) hlt)
    refine ⟨by omega, ?_⟩
    refine TC'.loop [] (fun (j : Nat) => ⟨[(0, sl false 5 encC l), (5, int (mpr (l.take i))), (32, sl false 5 encC l), (33, int l.length), (34, int i), (6, int i), (7, .ptr 7 0), (40, ints true (l.getD i default).par), (41, int (l.getD i default).par.length), (42, int j)],
      [(7, .box (encC (l.getD i default)))]⟩) (fun j => j ≤ (l.getD i default).par.length ∧ ∀ x, x < j → 0 ≤ (l.getD i default).par.getD x default ∧ (l.getD i default).par.getD x default < i) (fun j => (l.getD i default).par.length - j) 0 mixed (by kernel_rfl) ?_ ?_ ?_
    · simp (config := {maxSteps := 10000000}) only [go_sem, ↓reduceIte, reduceCtorEq, Nat.reduceAdd, Nat.reduceSub, Nat.reduceMul, Nat.reduceEqDiff, Nat.reduceBEq, Nat.reduceLeDiff, Nat.reduceLT, Nat.reducePow, Nat.reduceMod]
      simp
    · simp
    intro j ⟨hj, hpv⟩
    simp (config := {maxSteps := 10000000}) only [go_sem, ↓reduceIte, reduceCtorEq, Nat.reduceAdd, Nat.reduceSub, Nat.reduceMul, Nat.reduceEqDiff, Nat.reduceBEq, Nat.reduceLeDiff, Nat.reduceLT, Nat.reducePow, Nat.reduceMod]
    refine ite_intro (fun hjl => ?_) (fun hjl => ?_)
    · have hjl : j < (l.getD i default).par.length := by omega
      refine ⟨by omega, ?_⟩
      have bad2 : ¬ (0 ≤ (l.getD i default).par.getD j default ∧ (l.getD i default).par.getD j default < i) → (1 : Int) = checkF l := fun h => bad hlt fun h' => h (validF_par h' _ (getD_mem hjl))
      refine ite_intro (fun p1 => ?_) (fun p1 => ?_)
      · exact bad2 (by omega)
      · refine ite_intro (fun p2 => ?_) (fun p2 => ?_)
        · exact bad2 (by omega)
        · refine ⟨j + 1, ⟨by omega, fun x hx => ?_⟩, by omega, by rw [w64 (by omega) (by omega)]; omega⟩
          by_cases e : x = j
          · rw [e]; omega
          · exact hpv x (by omega)
    · (refine CallW'.of [] [] (rchoices_ok (l.getD i default) (by omega)) (by simp (config := {maxSteps := 10000000}) only [go_sem, ↓reduceIte, reduceCtorEq, Nat.reduceAdd, Nat.reduceSub, Nat.reduceMul, Nat.reduceEqDiff, Nat.reduceBEq, Nat.reduceLeDiff, Nat.reduceLT, Nat.reducePow, Nat.reduceMod]) ?_; rintro _ _ ⟨rfl, rfl⟩; simp (config := {maxSteps := 10000000}) only [go_sem, ↓reduceIte, reduceCtorEq, Nat.reduceAdd, Nat.reduceSub, Nat.reduceMul, Nat.reduceEqDiff, Nat.reduceBEq, Nat.reduceLeDiff, Nat.reduceLT, Nat.reducePow, Nat.reduceMod])
      have hmp := mpr_prod l i hi (fun j hj => validF_cho (hv j hj))
      have hpar : ∀ p, p ∈ (l.getD i default).par → 0 ≤ p ∧ p < (i : Int) := fun p hp => by
        obtain ⟨k, hk, rfl⟩ := List.mem_iff_getElem.1 hp
        have := hpv k (by omega)
        rw [List.getD_eq_getElem?_getD, List.getElem?_eq_getElem hk, Option.getD_some] at this
        exact this
      have hvi := validF_iff (l.getD i default) i
      refine ite_intro (fun q1 => ?_) (fun q1 => ?_)
      · exact bad hlt fun h => by rw [(hvi.1 h).2.1] at q1; cases q1
      · refine ite_intro (fun q2 => ?_) (fun q2 => ?_)
        · exact bad hlt fun h => by have := hvi.1 h; omega
        · refine ite_intro (fun q3 => ?_) (fun q3 => ?_)
          · exact bad hlt fun h => by have := hvi.1 h; omega
          · refine ite_intro (fun q4 => ?_) (fun q4 => ?_)
            · exact bad hlt fun h => by have := hvi.1 h; omega
            · have hvi := hvi.2 ⟨hpar, by simpa using q1, by omega, by omega, by omega⟩
              have hm0 : 1 ≤ mpr (l.take i) := by omega
              have hm1 : mpr (l.take i) ≤ 1099511627776 := by omega
              have hc1 := validF_cho hvi
              have hml : mpr (l.take i) * ((l.getD i default).cho.length : Int) ≤ 1099511627776 * 8 := Int.mul_le_mul hm1 (by omega) (by omega) (by omega)
              have hml0 : 0 ≤ mpr (l.take i) * ((l.getD i default).cho.length : Int) := Int.mul_nonneg (by omega) (by omega)
              refine ⟨i + 1, ⟨by omega, fun j hj => ?_⟩, by omega, ?_, by rw [w64 (by omega) (by omega)]; omega⟩
              · by_cases e : j = i
                · rw [e]; exact hvi
                · exact hv j (by omega)
              · rw [w64 (by omega) (by omega), mpr_take hlt]
                split <;> omega
  · have he : l.take i = l := take_all (by omega)
    have hil : i = l.length := by omega
    have hall : allValid l := fun j hj => hv j (by omega)
    have hmp := mpr_prod l i hi (fun j hj => validF_cho (hv j hj))
    rw [he] at hmp ⊢
    refine ite_intro (fun q1 => ?_) (fun q1 => ?_)
    · unfold checkF
      rw [if_neg (by simp only [not_or]; exact ⟨by omega, by simp [h2]⟩), if_neg (by simp [hall]), if_pos (.inl (by omega))]
    · (refine CallW'.of [] [] (factors_ok l (by omega) (fun i hi p hp => validF_par (hall i hi) p hp) (fun c hc => (hlong c hc).1)) (by simp (config := {maxSteps := 10000000}) only [go_sem, ↓reduceIte, reduceCtorEq, Nat.reduceAdd, Nat.reduceSub, Nat.reduceMul, Nat.reduceEqDiff, Nat.reduceBEq, Nat.reduceLeDiff, Nat.reduceLT, Nat.reducePow, Nat.reduceMod]) ?_; rintro _ _ ⟨rfl, rfl⟩; simp (config := {maxSteps := 10000000}) only [go_sem, ↓reduceIte, reduceCtorEq, Nat.reduceAdd, Nat.reduceSub, Nat.reduceMul, Nat.reduceEqDiff, Nat.reduceBEq, Nat.reduceLeDiff, Nat.reduceLT, Nat.reducePow, Nat.reduceMod])
      have hfl := facs_len_take l l.length (by omega)
      rw [List.take_length] at hfl
      refine TC'.loop [] (fun (i : Nat) => ⟨[(84, ints true (facs l)), (85, int (facs l).length), (86, int i)], []⟩) (fun i => i ≤ (facs l).length ∧ ∀ j, j < i → (facs l).getD j default ≤ 4) (fun i => (facs l).length - i) 0 mixed (by kernel_rfl) ?_ ?_ ?_
      · simp (config := {maxSteps := 10000000}) only [go_sem, ↓reduceIte, reduceCtorEq, Nat.reduceAdd, Nat.reduceSub, Nat.reduceMul, Nat.reduceEqDiff, Nat.reduceBEq, Nat.reduceLeDiff, Nat.reduceLT, Nat.reducePow, Nat.reduceMod]
        simp
      · simp
      clear hv he hil bad hi hlt i
      intro i ⟨hi, hv⟩
      simp (config := {maxSteps := 10000000}) only [go_sem, ↓reduceIte, reduceCtorEq, Nat.reduceAdd, Nat.reduceSub, Nat.reduceMul, Nat.reduceEqDiff, Nat.reduceBEq, Nat.reduceLeDiff, Nat.reduceLT, Nat.reducePow, Nat.reduceMod]
      refine ite_intro (fun hlt => ?_) (fun hlt => ?_)
      · have hlt : i < (facs l).length := by omega
        refine ⟨by omega, ?_⟩
        refine ite_intro (fun q2 => ?_) (fun q2 => ?_)
        · unfold checkF
          rw [if_neg (by simp only [not_or]; exact ⟨by omega, by simp [h2]⟩), if_neg (by simp [hall]), if_pos (.inr (List.any_eq_true.2 ⟨_, getD_mem (d := default) hlt, by rw [decide_eq_true q2]⟩))]
        · refine ⟨i + 1, ⟨by omega, fun j hj => ?_⟩, by omega, by rw [w64 (by omega) (by omega)]; omega⟩
          by_cases e : j = i
          · rw [e]; omega
          · exact hv j (by omega)
      · unfold checkF
        rw [if_neg (by simp only [not_or]; exact ⟨by omega, by simp [h2]⟩), if_neg (by simp [hall]), if_neg]
        simp only [not_or]
        refine ⟨by omega, ?_⟩
        rw [Bool.not_eq_true, List.any_eq_false]
        intro n hn
        obtain ⟨k, hk, rfl⟩ := List.mem_iff_getElem.1 hn
        have := hv k (by omega)
        rw [List.getD_eq_getElem?_getD, List.getElem?_eq_getElem hk, Option.getD_some] at this
        simp; omega
end Go.Am.Cl
