/-
  ClockAnswers, part B: contracts of small functions.
-/
import Derived.Test.YtjmomolnhplokaaDoorAmClA
namespace Go.Am.Cl
open Go Go.Am Go.Proofs
set_option maxRecDepth 100000
set_option linter.unusedSimpArgs false
set_option linter.unusedVariables false
variable {G : Gl}
def withinF (n lo hi : Int) : Bool := decide (lo ≤ n) && decide (n ≤ hi)
theorem withinF_true {n lo hi : Int} : withinF n lo hi = true ↔ lo ≤ n ∧ n ≤ hi := by simp [withinF]
theorem withinF_false {n lo hi : Int} : withinF n lo hi = false ↔ ¬ (lo ≤ n ∧ n ≤ hi) := by rw [← withinF_true]; simp
theorem within_ok (n lo hi : Int) : Ok Tryd.prog G 43 [int n, int lo, int hi] [] fun r h => r = bool (withinF n lo hi) ∧ h = [] := by
  refine Ok.intro' [] [] [] 15 [.tmp 6] mixed Tryd.func43 (by kernel_rfl) rfl rfl rfl (by kernel_rfl) (by simp) (fun _ _ h => by cases h) (fun _ h => by cases h) ?_
  simp (config := {maxSteps := 10000000}) only [go_sem, ↓reduceIte, reduceCtorEq, Nat.reduceAdd, Nat.reduceSub, Nat.reduceMul, Nat.reduceEqDiff, Nat.reduceBEq, Nat.reduceLeDiff, Nat.reduceLT, Nat.reducePow, Nat.reduceMod]
  unfold withinF
  split <;> simp_all
  omega
theorem index_ok (l : List Int) (v : Int) (hl : l.length < 2 ^ 60) : Ok Tryd.prog G 74 [ints false l, int v] [] fun r h => (∃ k, r = int k ∧ (0 ≤ k ↔ v ∈ l)) ∧ h = [] := by
  refine Ok.intro' [] [] [] 19 [.tmp 4] mixed Tryd.func74 (by kernel_rfl) rfl rfl rfl (by kernel_rfl) (by simp) (fun _ _ h => by cases h) (fun _ h => by cases h) ?_
  simp (config := {maxSteps := 10000000}) only [go_sem, ↓reduceIte, reduceCtorEq, Nat.reduceAdd, Nat.reduceSub, Nat.reduceMul, Nat.reduceEqDiff, Nat.reduceBEq, Nat.reduceLeDiff, Nat.reduceLT, Nat.reducePow, Nat.reduceMod]
  refine TC'.loop [] (fun (i : Nat) => ⟨[(0, ints false l), (1, int v), (7, int l.length), (8, int i)], []⟩) (fun i => i ≤ l.length ∧ v ∉ l.take i) (fun i => l.length - i) 0 mixed (by kernel_rfl) ?_ ?_ ?_
  · simp (config := {maxSteps := 10000000}) only [go_sem, ↓reduceIte, reduceCtorEq, Nat.reduceAdd, Nat.reduceSub, Nat.reduceMul, Nat.reduceEqDiff, Nat.reduceBEq, Nat.reduceLeDiff, Nat.reduceLT, Nat.reducePow, Nat.reduceMod]
    simp
  · simp
  · intro i ⟨hi, hv⟩
    simp (config := {maxSteps := 10000000}) only [go_sem, ↓reduceIte, reduceCtorEq, Nat.reduceAdd, Nat.reduceSub, Nat.reduceMul, Nat.reduceEqDiff, Nat.reduceBEq, Nat.reduceLeDiff, Nat.reduceLT, Nat.reducePow, Nat.reduceMod]
    split
    · rename_i hlt
      have hlt : i < l.length := by omega
      refine ⟨by omega, ?_⟩
      split
      · rename_i he
        exact ⟨_, rfl, by rw [he]; exact ⟨fun _ => getD_mem hlt, fun _ => by omega⟩⟩
      · rename_i he
        refine ⟨i + 1, ⟨by omega, ?_⟩, by omega, by rw [w64 (by omega) (by omega)]; omega⟩
        rw [take_getD (d := default) hlt]
        simp only [List.mem_append, List.mem_singleton, hv, he, or_self, not_false_eq_true]
    · rename_i hlt
      rw [take_all (by omega)] at hv
      exact ⟨_, rfl, by simp [hv]⟩
theorem contains_ok (l : List Int) (v : Int) (hl : l.length < 2 ^ 60) : Ok Tryd.prog G 69 [ints false l, int v] [] fun r h => r = bool (decide (v ∈ l)) ∧ h = [] := by
  refine Ok.intro' [] [] [] 9 [.tmp 4] mixed Tryd.func69 (by kernel_rfl) rfl rfl rfl (by kernel_rfl) (by simp) (fun _ _ h => by cases h) (fun _ h => by cases h) ?_
  simp (config := {maxSteps := 10000000}) only [go_sem, ↓reduceIte, reduceCtorEq, Nat.reduceAdd, Nat.reduceSub, Nat.reduceMul, Nat.reduceEqDiff, Nat.reduceBEq, Nat.reduceLeDiff, Nat.reduceLT, Nat.reducePow, Nat.reduceMod]
  refine CallW'.of [] [] (index_ok l v hl) (by simp (config := {maxSteps := 10000000}) only [go_sem, ↓reduceIte, reduceCtorEq, Nat.reduceAdd, Nat.reduceSub, Nat.reduceMul, Nat.reduceEqDiff, Nat.reduceBEq, Nat.reduceLeDiff, Nat.reduceLT, Nat.reducePow, Nat.reduceMod]) ?_
  rintro _ _ ⟨⟨k, rfl, hk⟩, rfl⟩
  simp (config := {maxSteps := 10000000}) only [go_sem, ↓reduceIte, reduceCtorEq, Nat.reduceAdd, Nat.reduceSub, Nat.reduceMul, Nat.reduceEqDiff, Nat.reduceBEq, Nat.reduceLeDiff, Nat.reduceLT, Nat.reducePow, Nat.reduceMod]
  simp [hk]
def DiffP (lo hi : Int) (l : List Int) : Prop := l.Nodup ∧ ∀ n, n ∈ l → lo ≤ n ∧ n ≤ hi
instance (lo hi : Int) (l : List Int) : Decidable (DiffP lo hi l) := inferInstanceAs (Decidable (_ ∧ _))
theorem diffP_snoc (lo hi : Int) (l : List Int) (x : Int) : DiffP lo hi (l ++ [x]) ↔ x ∉ l ∧ (lo ≤ x ∧ x ≤ hi) ∧ DiffP lo hi l := by
  simp only [DiffP, List.nodup_append, List.mem_append, List.mem_singleton]
  grind
theorem diffP_take {lo hi : Int} {l : List Int} (i : Nat) (h : DiffP lo hi l) : DiffP lo hi (l.take i) :=
  ⟨h.1.sublist (List.take_sublist _ _), fun n hn => h.2 n (List.mem_of_mem_take hn)⟩
theorem different_ok (l : List Int) (lo hi' : Int) (hl : l.length < 2 ^ 60) : Ok Tryd.prog G 58 [ints false l, int lo, int hi'] [] fun r h => r = bool (decide (DiffP lo hi' l)) ∧ h = [] := by
  refine Ok.intro' [] [] [] 29 [.tmp 6] mixed Tryd.func58 (by kernel_rfl) rfl rfl rfl (by kernel_rfl) (by simp) (fun _ _ h => by cases h) (fun _ h => by cases h) ?_
  simp (config := {maxSteps := 10000000}) only [go_sem, ↓reduceIte, reduceCtorEq, Nat.reduceAdd, Nat.reduceSub, Nat.reduceMul, Nat.reduceEqDiff, Nat.reduceBEq, Nat.reduceLeDiff, Nat.reduceLT, Nat.reducePow, Nat.reduceMod]
  refine TC'.loop [] (fun (i : Nat) => ⟨[(0, ints false l), (1, int lo), (2, int hi'), (9, ints false l), (10, int l.length), (11, int i)], []⟩) (fun i => i ≤ l.length ∧ DiffP lo hi' (l.take i)) (fun i => l.length - i) 0 mixed (by kernel_rfl) ?_ ?_ ?_
  · simp (config := {maxSteps := 10000000}) only [go_sem, ↓reduceIte, reduceCtorEq, Nat.reduceAdd, Nat.reduceSub, Nat.reduceMul, Nat.reduceEqDiff, Nat.reduceBEq, Nat.reduceLeDiff, Nat.reduceLT, Nat.reducePow, Nat.reduceMod]
    simp
  · simp [DiffP]
  · intro i ⟨hi, hv⟩
    simp (config := {maxSteps := 10000000}) only [go_sem, ↓reduceIte, reduceCtorEq, Nat.reduceAdd, Nat.reduceSub, Nat.reduceMul, Nat.reduceEqDiff, Nat.reduceBEq, Nat.reduceLeDiff, Nat.reduceLT, Nat.reducePow, Nat.reduceMod]
    split
    · rename_i hlt
      have hlt : i < l.length := by omega
      refine ⟨by omega, ?_⟩
      (refine CallW'.of [] [] (within_ok (l.getD i default) lo hi') (by simp (config := {maxSteps := 10000000}) only [go_sem, ↓reduceIte, reduceCtorEq, Nat.reduceAdd, Nat.reduceSub, Nat.reduceMul, Nat.reduceEqDiff, Nat.reduceBEq, Nat.reduceLeDiff, Nat.reduceLT, Nat.reducePow, Nat.reduceMod]) ?_; rintro _ _ ⟨rfl, rfl⟩; simp (config := {maxSteps := 10000000}) only [go_sem, ↓reduceIte, reduceCtorEq, Nat.reduceAdd, Nat.reduceSub, Nat.reduceMul, Nat.reduceEqDiff, Nat.reduceBEq, Nat.reduceLeDiff, Nat.reduceLT, Nat.reducePow, Nat.reduceMod])
      have hd := diffP_snoc lo hi' (l.take i) (l.getD i default)
      rw [← take_getD hlt] at hd
      split
      · rename_i hw
        have : ¬ DiffP lo hi' l := fun h => by
          exact (withinF_false.1 hw) (hd.1 (diffP_take (i + 1) h)).2.1
        simp [this]
      · rename_i hw
        refine ⟨by omega, ?_⟩
        (refine CallW'.of [] [] (contains_ok (l.take i) (l.getD i default) (by simp; omega)) (by simp (config := {maxSteps := 10000000}) only [go_sem, ↓reduceIte, reduceCtorEq, Nat.reduceAdd, Nat.reduceSub, Nat.reduceMul, Nat.reduceEqDiff, Nat.reduceBEq, Nat.reduceLeDiff, Nat.reduceLT, Nat.reducePow, Nat.reduceMod]; exact ⟨by simp; omega, fun r hr => by rw [getD_take hr]⟩) ?_; rintro _ _ ⟨rfl, rfl⟩; simp (config := {maxSteps := 10000000}) only [go_sem, ↓reduceIte, reduceCtorEq, Nat.reduceAdd, Nat.reduceSub, Nat.reduceMul, Nat.reduceEqDiff, Nat.reduceBEq, Nat.reduceLeDiff, Nat.reduceLT, Nat.reducePow, Nat.reduceMod])
        split
        · rename_i hm
          have : ¬ DiffP lo hi' l := fun h => (hd.1 (diffP_take (i + 1) h)).1 hm
          simp [this]
        · rename_i hm
          refine ⟨i + 1, ⟨by omega, hd.2 ⟨hm, ?_, hv⟩⟩, by omega, by rw [w64 (by omega) (by omega)]; omega⟩
          exact withinF_true.1 (by simpa using hw)
    · rw [take_all (by omega)] at hv
      simp [hv]
theorem equal_ok (l m : List Int) (hl : l.length < 2 ^ 60) : Ok Tryd.prog G 59 [ints false l, ints false m] [] fun r h => r = bool (decide (l = m)) ∧ h = [] := by
  refine Ok.intro' [] [] [] 26 [.tmp 4] mixed Tryd.func59 (by kernel_rfl) rfl rfl rfl (by kernel_rfl) (by simp) (fun _ _ h => by cases h) (fun _ h => by cases h) ?_
  simp (config := {maxSteps := 10000000}) only [go_sem, ↓reduceIte, reduceCtorEq, Nat.reduceAdd, Nat.reduceSub, Nat.reduceMul, Nat.reduceEqDiff, Nat.reduceBEq, Nat.reduceLeDiff, Nat.reduceLT, Nat.reducePow, Nat.reduceMod]
  split
  · rename_i hne
    have : l ≠ m := fun h => hne (by rw [h])
    simp [this]
  · rename_i hne
    have hne : l.length = m.length := by omega
    refine TC'.loop [6] (fun (i : Nat) => ⟨[(0, ints false l), (1, ints false m), (12, int l.length), (13, int i)], []⟩) (fun i => i ≤ l.length ∧ l.take i = m.take i) (fun i => l.length - i) 0 mixed (by kernel_rfl) ?_ ?_ ?_
    · simp (config := {maxSteps := 10000000}) only [go_sem, ↓reduceIte, reduceCtorEq, Nat.reduceAdd, Nat.reduceSub, Nat.reduceMul, Nat.reduceEqDiff, Nat.reduceBEq, Nat.reduceLeDiff, Nat.reduceLT, Nat.reducePow, Nat.reduceMod]
      simp
    · simp
    · intro i ⟨hi, hv⟩
      simp (config := {maxSteps := 10000000}) only [go_sem, ↓reduceIte, reduceCtorEq, Nat.reduceAdd, Nat.reduceSub, Nat.reduceMul, Nat.reduceEqDiff, Nat.reduceBEq, Nat.reduceLeDiff, Nat.reduceLT, Nat.reducePow, Nat.reduceMod]
      split
      · rename_i hlt
        have hlt : i < l.length := by omega
        refine ⟨by omega, by omega, ?_⟩
        split
        · rename_i hw
          have : l ≠ m := fun h => hw (by rw [h])
          simp [this]
        · rename_i hw
          refine ⟨i + 1, ⟨by omega, ?_⟩, by omega, by rw [w64 (by omega) (by omega)]; omega⟩
          rw [take_getD (d := default) hlt, take_getD (d := default) (by omega : i < m.length), hv]
          simp only [Decidable.not_not] at hw
          rw [hw]
      · rw [take_all (by omega), take_all (by omega)] at hv
        simp [hv]
/-! the first for which a function says so -/
theorem indexI_ok (l : List Int) (g : Nat) (row : List AV) (p : Int → Bool) (hl : l.length < 2 ^ 60) (hp : ∀ x, x ∈ l → Ok Tryd.prog G g [int x, .rowp row 0] [] fun r h => r = bool (p x) ∧ h = []) :
    Ok Tryd.prog G 68 [ints false l, .clo (.func g) [] [.rowp row 0]] [] fun r h => (∃ k, r = int k ∧ (0 ≤ k ↔ l.any p = true)) ∧ h = [] := by
  refine Ok.intro' [] [] [] 19 [.tmp 4] mixed Tryd.func68 (by kernel_rfl) rfl rfl rfl (by kernel_rfl) (by simp) (fun _ _ h => by cases h) (fun _ h => by cases h) ?_
  simp (config := {maxSteps := 10000000}) only [go_sem, ↓reduceIte, reduceCtorEq, Nat.reduceAdd, Nat.reduceSub, Nat.reduceMul, Nat.reduceEqDiff, Nat.reduceBEq, Nat.reduceLeDiff, Nat.reduceLT, Nat.reducePow, Nat.reduceMod]
  refine TC'.loop [] (fun (i : Nat) => ⟨[(0, ints false l), (1, .clo (.func g) [] [.rowp row 0]), (7, int l.length), (8, int i)], []⟩) (fun i => i ≤ l.length ∧ (l.take i).any p = false) (fun i => l.length - i) 0 mixed (by kernel_rfl) ?_ ?_ ?_
  · simp (config := {maxSteps := 10000000}) only [go_sem, ↓reduceIte, reduceCtorEq, Nat.reduceAdd, Nat.reduceSub, Nat.reduceMul, Nat.reduceEqDiff, Nat.reduceBEq, Nat.reduceLeDiff, Nat.reduceLT, Nat.reducePow, Nat.reduceMod]
    simp
  · simp
  · intro i ⟨hi, hv⟩
    simp (config := {maxSteps := 10000000}) only [go_sem, ↓reduceIte, reduceCtorEq, Nat.reduceAdd, Nat.reduceSub, Nat.reduceMul, Nat.reduceEqDiff, Nat.reduceBEq, Nat.reduceLeDiff, Nat.reduceLT, Nat.reducePow, Nat.reduceMod]
    split
    · rename_i hlt
      have hlt : i < l.length := by omega
      refine ⟨by omega, ?_⟩
      (refine CallW'.of [] [] (hp (l.getD i default) (getD_mem hlt)) (by simp (config := {maxSteps := 10000000}) only [go_sem, ↓reduceIte, reduceCtorEq, Nat.reduceAdd, Nat.reduceSub, Nat.reduceMul, Nat.reduceEqDiff, Nat.reduceBEq, Nat.reduceLeDiff, Nat.reduceLT, Nat.reducePow, Nat.reduceMod]) ?_; rintro _ _ ⟨rfl, rfl⟩; simp (config := {maxSteps := 10000000}) only [go_sem, ↓reduceIte, reduceCtorEq, Nat.reduceAdd, Nat.reduceSub, Nat.reduceMul, Nat.reduceEqDiff, Nat.reduceBEq, Nat.reduceLeDiff, Nat.reduceLT, Nat.reducePow, Nat.reduceMod])
      split
      · rename_i ht
        exact ⟨_, rfl, by rw [List.any_eq_true]; exact ⟨fun _ => ⟨_, getD_mem hlt, ht⟩, fun _ => by omega⟩⟩
      · rename_i ht
        refine ⟨i + 1, ⟨by omega, ?_⟩, by omega, by rw [w64 (by omega) (by omega)]; omega⟩
        rw [take_getD (d := default) hlt, List.any_append, hv]
        simpa using ht
    · rw [take_all (by omega)] at hv
      exact ⟨_, rfl, by simp [hv]⟩
theorem containsI_ok (l : List Int) (g : Nat) (row : List AV) (p : Int → Bool) (hl : l.length < 2 ^ 60) (hp : ∀ x, x ∈ l → Ok Tryd.prog G g [int x, .rowp row 0] [] fun r h => r = bool (p x) ∧ h = []) :
    Ok Tryd.prog G 56 [ints false l, .clo (.func g) [] [.rowp row 0]] [] fun r h => r = bool (l.any p) ∧ h = [] := by
  refine Ok.intro' [] [] [] 9 [.tmp 4] mixed Tryd.func56 (by kernel_rfl) rfl rfl rfl (by kernel_rfl) (by simp) (fun _ _ h => by cases h) (fun _ h => by cases h) ?_
  simp (config := {maxSteps := 10000000}) only [go_sem, ↓reduceIte, reduceCtorEq, Nat.reduceAdd, Nat.reduceSub, Nat.reduceMul, Nat.reduceEqDiff, Nat.reduceBEq, Nat.reduceLeDiff, Nat.reduceLT, Nat.reducePow, Nat.reduceMod]
  refine CallW'.of [] [] (indexI_ok l g row p hl hp) (by simp (config := {maxSteps := 10000000}) only [go_sem, ↓reduceIte, reduceCtorEq, Nat.reduceAdd, Nat.reduceSub, Nat.reduceMul, Nat.reduceEqDiff, Nat.reduceBEq, Nat.reduceLeDiff, Nat.reduceLT, Nat.reducePow, Nat.reduceMod]) ?_
  rintro _ _ ⟨⟨k, rfl, hk⟩, rfl⟩
  simp (config := {maxSteps := 10000000}) only [go_sem, ↓reduceIte, reduceCtorEq, Nat.reduceAdd, Nat.reduceSub, Nat.reduceMul, Nat.reduceEqDiff, Nat.reduceBEq, Nat.reduceLeDiff, Nat.reduceLT, Nat.reducePow, Nat.reduceMod]
  by_cases h : l.any p = true
  · simp [hk.2 h, h]
  · rw [Bool.not_eq_true] at h
    simp only [h, Bool.false_eq_true, iff_false] at hk
    simp [hk, h]
theorem indexC_ok (l : List Clock) (g : Nat) (p : Clock → Bool) (hl : l.length < 2 ^ 60) (hp : ∀ x, x ∈ l → Ok Tryd.prog G g [.agg (encC x)] [] fun r h => r = bool (p x) ∧ h = []) :
    Ok Tryd.prog G 55 [sl false 5 encC l, .clo (.func g) [] []] [] fun r h => (∃ k, r = int k ∧ (0 ≤ k ↔ l.any p = true)) ∧ h = [] := by
  refine Ok.intro' [] [] [] 19 [.tmp 4] mixed Tryd.func55 (by kernel_rfl) rfl rfl rfl (by kernel_rfl) (by simp) (fun _ _ h => by cases h) (fun _ h => by cases h) ?_
  simp (config := {maxSteps := 10000000}) only [go_sem, ↓reduceIte, reduceCtorEq, Nat.reduceAdd, Nat.reduceSub, Nat.reduceMul, Nat.reduceEqDiff, Nat.reduceBEq, Nat.reduceLeDiff, Nat.reduceLT, Nat.reducePow, Nat.reduceMod]
  refine TC'.loop [] (fun (i : Nat) => ⟨[(0, sl false 5 encC l), (1, .clo (.func g) [] []), (7, int l.length), (8, int i)], []⟩) (fun i => i ≤ l.length ∧ (l.take i).any p = false) (fun i => l.length - i) 0 mixed (by kernel_rfl) ?_ ?_ ?_
  · simp (config := {maxSteps := 10000000}) only [go_sem, ↓reduceIte, reduceCtorEq, Nat.reduceAdd, Nat.reduceSub, Nat.reduceMul, Nat.reduceEqDiff, Nat.reduceBEq, Nat.reduceLeDiff, Nat.reduceLT, Nat.reducePow, Nat.reduceMod]
    simp
  · simp
  · intro i ⟨hi, hv⟩
    simp (config := {maxSteps := 10000000}) only [go_sem, ↓reduceIte, reduceCtorEq, Nat.reduceAdd, Nat.reduceSub, Nat.reduceMul, Nat.reduceEqDiff, Nat.reduceBEq, Nat.reduceLeDiff, Nat.reduceLT, Nat.reducePow, Nat.reduceMod]
    split
    · rename_i hlt
      have hlt : i < l.length := by omega
      refine ⟨by omega, ?_⟩
      (refine CallW'.of [] [] (hp (l.getD i default) (getD_mem hlt)) (by simp (config := {maxSteps := 10000000}) only [go_sem, ↓reduceIte, reduceCtorEq, Nat.reduceAdd, Nat.reduceSub, Nat.reduceMul, Nat.reduceEqDiff, Nat.reduceBEq, Nat.reduceLeDiff, Nat.reduceLT, Nat.reducePow, Nat.reduceMod]) ?_; rintro _ _ ⟨rfl, rfl⟩; simp (config := {maxSteps := 10000000}) only [go_sem, ↓reduceIte, reduceCtorEq, Nat.reduceAdd, Nat.reduceSub, Nat.reduceMul, Nat.reduceEqDiff, Nat.reduceBEq, Nat.reduceLeDiff, Nat.reduceLT, Nat.reducePow, Nat.reduceMod])
      split
      · rename_i ht
        exact ⟨_, rfl, by rw [List.any_eq_true]; exact ⟨fun _ => ⟨_, getD_mem hlt, ht⟩, fun _ => by omega⟩⟩
      · rename_i ht
        refine ⟨i + 1, ⟨by omega, ?_⟩, by omega, by rw [w64 (by omega) (by omega)]; omega⟩
        rw [take_getD (d := default) hlt, List.any_append, hv]
        simpa using ht
    · rw [take_all (by omega)] at hv
      exact ⟨_, rfl, by simp [hv]⟩
theorem containsC_ok (l : List Clock) (g : Nat) (p : Clock → Bool) (hl : l.length < 2 ^ 60) (hp : ∀ x, x ∈ l → Ok Tryd.prog G g [.agg (encC x)] [] fun r h => r = bool (p x) ∧ h = []) :
    Ok Tryd.prog G 34 [sl false 5 encC l, .clo (.func g) [] []] [] fun r h => r = bool (l.any p) ∧ h = [] := by
  refine Ok.intro' [] [] [] 9 [.tmp 4] mixed Tryd.func34 (by kernel_rfl) rfl rfl rfl (by kernel_rfl) (by simp) (fun _ _ h => by cases h) (fun _ h => by cases h) ?_
  simp (config := {maxSteps := 10000000}) only [go_sem, ↓reduceIte, reduceCtorEq, Nat.reduceAdd, Nat.reduceSub, Nat.reduceMul, Nat.reduceEqDiff, Nat.reduceBEq, Nat.reduceLeDiff, Nat.reduceLT, Nat.reducePow, Nat.reduceMod]
  refine CallW'.of [] [] (indexC_ok l g p hl hp) (by simp (config := {maxSteps := 10000000}) only [go_sem, ↓reduceIte, reduceCtorEq, Nat.reduceAdd, Nat.reduceSub, Nat.reduceMul, Nat.reduceEqDiff, Nat.reduceBEq, Nat.reduceLeDiff, Nat.reduceLT, Nat.reducePow, Nat.reduceMod]) ?_
  rintro _ _ ⟨⟨k, rfl, hk⟩, rfl⟩
  simp (config := {maxSteps := 10000000}) only [go_sem, ↓reduceIte, reduceCtorEq, Nat.reduceAdd, Nat.reduceSub, Nat.reduceMul, Nat.reduceEqDiff, Nat.reduceBEq, Nat.reduceLeDiff, Nat.reduceLT, Nat.reducePow, Nat.reduceMod]
  by_cases h : l.any p = true
  · simp [hk.2 h, h]
  · rw [Bool.not_eq_true] at h
    simp only [h, Bool.false_eq_true, iff_false] at hk
    simp [hk, h]
theorem indexL_ok (l : List Limit) (g : Nat) (row : List AV) (p : Limit → Bool) (hl : l.length < 2 ^ 60) (hp : ∀ x, x ∈ l → Ok Tryd.prog G g [.agg (encL x), .rowp row 0] [] fun r h => r = bool (p x) ∧ h = []) :
    Ok Tryd.prog G 63 [sl false 3 encL l, .clo (.func g) [] [.rowp row 0]] [] fun r h => (∃ k, r = int k ∧ (0 ≤ k ↔ l.any p = true)) ∧ h = [] := by
  refine Ok.intro' [] [] [] 19 [.tmp 4] mixed Tryd.func63 (by kernel_rfl) rfl rfl rfl (by kernel_rfl) (by simp) (fun _ _ h => by cases h) (fun _ h => by cases h) ?_
  simp (config := {maxSteps := 10000000}) only [go_sem, ↓reduceIte, reduceCtorEq, Nat.reduceAdd, Nat.reduceSub, Nat.reduceMul, Nat.reduceEqDiff, Nat.reduceBEq, Nat.reduceLeDiff, Nat.reduceLT, Nat.reducePow, Nat.reduceMod]
  refine TC'.loop [] (fun (i : Nat) => ⟨[(0, sl false 3 encL l), (1, .clo (.func g) [] [.rowp row 0]), (7, int l.length), (8, int i)], []⟩) (fun i => i ≤ l.length ∧ (l.take i).any p = false) (fun i => l.length - i) 0 mixed (by kernel_rfl) ?_ ?_ ?_
  · simp (config := {maxSteps := 10000000}) only [go_sem, ↓reduceIte, reduceCtorEq, Nat.reduceAdd, Nat.reduceSub, Nat.reduceMul, Nat.reduceEqDiff, Nat.reduceBEq, Nat.reduceLeDiff, Nat.reduceLT, Nat.reducePow, Nat.reduceMod]
    simp
  · simp
  · intro i ⟨hi, hv⟩
    simp (config := {maxSteps := 10000000}) only [go_sem, ↓reduceIte, reduceCtorEq, Nat.reduceAdd, Nat.reduceSub, Nat.reduceMul, Nat.reduceEqDiff, Nat.reduceBEq, Nat.reduceLeDiff, Nat.reduceLT, Nat.reducePow, Nat.reduceMod]
    split
    · rename_i hlt
      have hlt : i < l.length := by omega
      refine ⟨by omega, ?_⟩
      (refine CallW'.of [] [] (hp (l.getD i default) (getD_mem hlt)) (by simp (config := {maxSteps := 10000000}) only [go_sem, ↓reduceIte, reduceCtorEq, Nat.reduceAdd, Nat.reduceSub, Nat.reduceMul, Nat.reduceEqDiff, Nat.reduceBEq, Nat.reduceLeDiff, Nat.reduceLT, Nat.reducePow, Nat.reduceMod]) ?_; rintro _ _ ⟨rfl, rfl⟩; simp (config := {maxSteps := 10000000}) only [go_sem, ↓reduceIte, reduceCtorEq, Nat.reduceAdd, Nat.reduceSub, Nat.reduceMul, Nat.reduceEqDiff, Nat.reduceBEq, Nat.reduceLeDiff, Nat.reduceLT, Nat.reducePow, Nat.reduceMod])
      split
      · rename_i ht
        exact ⟨_, rfl, by rw [List.any_eq_true]; exact ⟨fun _ => ⟨_, getD_mem hlt, ht⟩, fun _ => by omega⟩⟩
      · rename_i ht
        refine ⟨i + 1, ⟨by omega, ?_⟩, by omega, by rw [w64 (by omega) (by omega)]; omega⟩
        rw [take_getD (d := default) hlt, List.any_append, hv]
        simpa using ht
    · rw [take_all (by omega)] at hv
      exact ⟨_, rfl, by simp [hv]⟩
theorem containsL_ok (l : List Limit) (g : Nat) (row : List AV) (p : Limit → Bool) (hl : l.length < 2 ^ 60) (hp : ∀ x, x ∈ l → Ok Tryd.prog G g [.agg (encL x), .rowp row 0] [] fun r h => r = bool (p x) ∧ h = []) :
    Ok Tryd.prog G 41 [sl false 3 encL l, .clo (.func g) [] [.rowp row 0]] [] fun r h => r = bool (l.any p) ∧ h = [] := by
  refine Ok.intro' [] [] [] 9 [.tmp 4] mixed Tryd.func41 (by kernel_rfl) rfl rfl rfl (by kernel_rfl) (by simp) (fun _ _ h => by cases h) (fun _ h => by cases h) ?_
  simp (config := {maxSteps := 10000000}) only [go_sem, ↓reduceIte, reduceCtorEq, Nat.reduceAdd, Nat.reduceSub, Nat.reduceMul, Nat.reduceEqDiff, Nat.reduceBEq, Nat.reduceLeDiff, Nat.reduceLT, Nat.reducePow, Nat.reduceMod]
  refine CallW'.of [] [] (indexL_ok l g row p hl hp) (by simp (config := {maxSteps := 10000000}) only [go_sem, ↓reduceIte, reduceCtorEq, Nat.reduceAdd, Nat.reduceSub, Nat.reduceMul, Nat.reduceEqDiff, Nat.reduceBEq, Nat.reduceLeDiff, Nat.reduceLT, Nat.reducePow, Nat.reduceMod]) ?_
  rintro _ _ ⟨⟨k, rfl, hk⟩, rfl⟩
  simp (config := {maxSteps := 10000000}) only [go_sem, ↓reduceIte, reduceCtorEq, Nat.reduceAdd, Nat.reduceSub, Nat.reduceMul, Nat.reduceEqDiff, Nat.reduceBEq, Nat.reduceLeDiff, Nat.reduceLT, Nat.reducePow, Nat.reduceMod]
  by_cases h : l.any p = true
  · simp [hk.2 h, h]
  · rw [Bool.not_eq_true] at h
    simp only [h, Bool.false_eq_true, iff_false] at hk
    simp [hk, h]
end Go.Am.Cl
