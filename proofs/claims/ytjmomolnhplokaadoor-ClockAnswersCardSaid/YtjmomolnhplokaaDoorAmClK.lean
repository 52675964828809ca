/-
  ClockAnswers, part K: the tape.
-/
import Derived.Test.YtjmomolnhplokaaDoorAmClJ
namespace Go.Am.Cl
open Go Go.Am Go.Proofs
set_option maxRecDepth 100000
set_option linter.unusedSimpArgs false
set_option linter.unusedVariables false
variable {G : Gl}
def modF (x n : Int) : Int := if n < 1 then 0 else x % n
theorem mod_ok (x n : Int) (hn : n < 2 ^ 60) : Ok Tryd.prog G 30 [int x, int n] [] fun r h => r = int (modF x n) ∧ h = [] := by
  refine Ok.intro' [] [] [] 16 [.tmp 4] mixed Tryd.func30 (by kernel_rfl) rfl rfl rfl (by kernel_rfl) (by simp) (fun _ _ h => by cases h) (fun _ h => by cases h) ?_
  simp (config := {maxSteps := 10000000}) only [go_sem, ↓reduceIte, reduceCtorEq, Nat.reduceAdd, Nat.reduceSub, Nat.reduceMul, Nat.reduceEqDiff, Nat.reduceBEq, Nat.reduceLeDiff, Nat.reduceLT, Nat.reducePow, Nat.reduceMod]
  unfold modF
  refine ite_intro (fun h1 => ?_) (fun h1 => ?_)
  · rw [if_pos h1]
  · rw [if_neg h1]
    have e1 : x.tmod n = x - n * x.tdiv n := Int.tmod_def x n
    have e2 : (x - n * x.tdiv n) % n = x % n := Int.sub_mul_emod_self_left x n (x.tdiv n)
    rw [← e1] at e2
    have b1 := Int.tmod_lt_of_pos x (by omega : 0 < n)
    have b2 := Int.lt_tmod_of_pos x (by omega : 0 < n)
    refine ⟨by omega, ?_⟩
    refine ite_intro (fun h2 => ?_) (fun h2 => ?_)
    · rw [w64 (by omega) (by omega), ← e2, ← Int.add_emod_right, Int.emod_eq_of_lt (by omega) (by omega)]
    · rw [← e2, Int.emod_eq_of_lt (by omega) (by omega)]
def tapeB (L : List Int) (p : Int) : Blk := .box [ints true L, int p]
attribute [go_sem] tapeB
def rawF (L : List Int) (p : Int) : Int × Int := if p ≥ L.length then (0, p) else (L.getD p.toNat default, p + 1)
theorem raw_ok (L : List Int) (p : Int) (h0 : 0 ≤ p) (h1 : (L.length : Int) ≤ 500) : Ok Tryd.prog G 31 [.ptr 1000 0] [(1000, tapeB L p)] fun r h => r = int (rawF L p).1 ∧ h = [(1000, tapeB L (rawF L p).2)] := by
  refine Ok.intro' [1000] [] [1, 4] 31 [.tmp 2] mixed Tryd.func31 (by kernel_rfl) rfl rfl rfl (by kernel_rfl) (by simp) (fun id b h => by simp only [lk] at h; (repeat' split at h) <;> simp_all) (by simp) ?_
  simp (config := {maxSteps := 10000000}) only [go_sem, ↓reduceIte, reduceCtorEq, Nat.reduceAdd, Nat.reduceSub, Nat.reduceMul, Nat.reduceEqDiff, Nat.reduceBEq, Nat.reduceLeDiff, Nat.reduceLT, Nat.reducePow, Nat.reduceMod]
  unfold rawF
  refine ite_intro (fun h2 => ?_) (fun h2 => ?_)
  · rw [if_pos (by omega)]
    exact ⟨rfl, rfl⟩
  · rw [if_neg (by omega), w64 (by omega : -9223372036854775808 ≤ p + 1) (by omega), w64 (by omega) (by omega), show p + 1 - 1 = p by omega]
    exact ⟨by omega, rfl, rfl⟩
theorem new_ok (t : List Int) (ht : t.length < 2 ^ 60) : Ok Tryd.prog G 6 [ints true t] [] fun r h => r = .ptr 1000 0 ∧ h = [(1000, tapeB (t.take 500) 0)] := by
  have h9 : Ok Tryd.prog G 6 [ints true t] [] fun r h => r = .ptr 9 0 ∧ h = [(9, tapeB (t.take 500) 0)] := by
    refine Ok.weakH (Q := fun r h => r = .ptr 9 0 ∧ h = [(9, .box [.fz true false 1 (t.take 500).length (fun i => [int (t.getD i default)]), int 0])]) ?_ ?_
    · refine Ok.intro' [] [9] [] 10 [.tmp 2] mixed Tryd.func6 (by kernel_rfl) rfl rfl rfl (by kernel_rfl) (by simp) (fun _ _ h => by cases h) (fun _ h => by cases h) ?_
      simp (config := {maxSteps := 10000000}) only [go_sem, ↓reduceIte, reduceCtorEq, Nat.reduceAdd, Nat.reduceSub, Nat.reduceMul, Nat.reduceEqDiff, Nat.reduceBEq, Nat.reduceLeDiff, Nat.reduceLT, Nat.reducePow, Nat.reduceMod]
      have : (if 500 < (t.length : Int) then 500 else (t.length : Int)).toNat = (t.take 500).length := by simp; split <;> omega
      rw [this]
      exact ⟨by split <;> omega, rfl⟩
    · rintro r h ⟨rfl, rfl⟩
      refine ⟨_, _, leP_refl _, ?_, rfl, rfl⟩
      simp (config := {maxSteps := 10000000}) only [go_sem, ↓reduceIte, reduceCtorEq, Nat.reduceAdd, Nat.reduceSub, Nat.reduceMul, Nat.reduceEqDiff, Nat.reduceBEq, Nat.reduceLeDiff, Nat.reduceLT, Nat.reducePow, Nat.reduceMod]
      intro i hi
      rw [getD_take (by simp at hi; omega)]
  refine (h9.sw 9 1000).mono ?_
  rintro r h ⟨r', h', ⟨rfl, rfl⟩, rfl, rfl⟩
  simp (config := {maxSteps := 10000000}) only [go_sem, ↓reduceIte, reduceCtorEq, Nat.reduceAdd, Nat.reduceSub, Nat.reduceMul, Nat.reduceEqDiff, Nat.reduceBEq, Nat.reduceLeDiff, Nat.reduceLT, Nat.reducePow, Nat.reduceMod]
/-- what is left of a tape -/
def At (L : List Int) (h : Hp) : Prop := ∃ p, 0 ≤ p ∧ h = [(1000, tapeB L p)]
theorem n_ok (L : List Int) (p n : Int) (h0 : 0 ≤ p) (h1 : (L.length : Int) ≤ 500) (hn : n < 2 ^ 60) : Ok Tryd.prog G 10 [.ptr 1000 0, int n] [(1000, tapeB L p)] fun r h => (∃ v, r = int v ∧ 0 ≤ v ∧ (1 ≤ n → v < n) ∧ (n < 1 → v = 0)) ∧ ∃ p', 0 ≤ p' ∧ h = [(1000, tapeB L p')] := by
  refine Ok.intro' [1000] [] [] 9 [.tmp 4] mixed Tryd.func10 (by kernel_rfl) rfl rfl rfl (by kernel_rfl) (by simp) (fun id b h => by simp only [lk] at h; (repeat' split at h) <;> simp_all) (by simp) ?_
  simp (config := {maxSteps := 10000000}) only [go_sem, ↓reduceIte, reduceCtorEq, Nat.reduceAdd, Nat.reduceSub, Nat.reduceMul, Nat.reduceEqDiff, Nat.reduceBEq, Nat.reduceLeDiff, Nat.reduceLT, Nat.reducePow, Nat.reduceMod]
  refine CallW'.of [1000] [] (raw_ok L p h0 h1) (by simp (config := {maxSteps := 10000000}) only [go_sem, ↓reduceIte, reduceCtorEq, Nat.reduceAdd, Nat.reduceSub, Nat.reduceMul, Nat.reduceEqDiff, Nat.reduceBEq, Nat.reduceLeDiff, Nat.reduceLT, Nat.reducePow, Nat.reduceMod]) ?_
  rintro _ _ ⟨rfl, rfl⟩
  simp (config := {maxSteps := 10000000}) only [go_sem, ↓reduceIte, reduceCtorEq, Nat.reduceAdd, Nat.reduceSub, Nat.reduceMul, Nat.reduceEqDiff, Nat.reduceBEq, Nat.reduceLeDiff, Nat.reduceLT, Nat.reducePow, Nat.reduceMod]
  refine CallW'.of [] [] (mod_ok (rawF L p).1 n hn) (by simp (config := {maxSteps := 10000000}) only [go_sem, ↓reduceIte, reduceCtorEq, Nat.reduceAdd, Nat.reduceSub, Nat.reduceMul, Nat.reduceEqDiff, Nat.reduceBEq, Nat.reduceLeDiff, Nat.reduceLT, Nat.reducePow, Nat.reduceMod]) ?_
  rintro _ _ ⟨rfl, rfl⟩
  simp (config := {maxSteps := 10000000}) only [go_sem, ↓reduceIte, reduceCtorEq, Nat.reduceAdd, Nat.reduceSub, Nat.reduceMul, Nat.reduceEqDiff, Nat.reduceBEq, Nat.reduceLeDiff, Nat.reduceLT, Nat.reducePow, Nat.reduceMod]
  refine ⟨⟨_, rfl, ?_⟩, _, ?_, rfl⟩
  · unfold modF
    split
    · exact ⟨by omega, fun h => by omega, fun _ => rfl⟩
    · exact ⟨Int.emod_nonneg _ (by omega), fun _ => Int.emod_lt_of_pos _ (by omega), fun h => by omega⟩
  · unfold rawF; split <;> simp only <;> omega
theorem range_ok (L : List Int) (p lo hi' : Int) (h0 : 0 ≤ p) (h1 : (L.length : Int) ≤ 500) (hl : -(2 ^ 40) ≤ lo ∧ lo ≤ 2 ^ 40) (hh : -(2 ^ 40) ≤ hi' ∧ hi' ≤ 2 ^ 40) : Ok Tryd.prog G 9 [.ptr 1000 0, int lo, int hi'] [(1000, tapeB L p)]
    fun r h => (∃ v, r = int v ∧ lo ≤ v ∧ (lo ≤ hi' → v ≤ hi') ∧ (hi' < lo → v = lo)) ∧ ∃ p', 0 ≤ p' ∧ h = [(1000, tapeB L p')] := by
  refine Ok.intro' [1000] [] [] 15 [.tmp 6] mixed Tryd.func9 (by kernel_rfl) rfl rfl rfl (by kernel_rfl) (by simp) (fun id b h => by simp only [lk] at h; (repeat' split at h) <;> simp_all) (by simp) ?_
  simp (config := {maxSteps := 10000000}) only [go_sem, ↓reduceIte, reduceCtorEq, Nat.reduceAdd, Nat.reduceSub, Nat.reduceMul, Nat.reduceEqDiff, Nat.reduceBEq, Nat.reduceLeDiff, Nat.reduceLT, Nat.reducePow, Nat.reduceMod]
  rw [w64 (by omega : -9223372036854775808 ≤ hi' - lo) (by omega), w64 (by omega) (by omega)]
  refine CallW'.of [1000] [] (n_ok L p (hi' - lo + 1) h0 h1 (by omega)) (by simp (config := {maxSteps := 10000000}) only [go_sem, ↓reduceIte, reduceCtorEq, Nat.reduceAdd, Nat.reduceSub, Nat.reduceMul, Nat.reduceEqDiff, Nat.reduceBEq, Nat.reduceLeDiff, Nat.reduceLT, Nat.reducePow, Nat.reduceMod]) ?_
  rintro _ _ ⟨⟨v, rfl, v0, v1, v2⟩, p', hp', rfl⟩
  simp (config := {maxSteps := 10000000}) only [go_sem, ↓reduceIte, reduceCtorEq, Nat.reduceAdd, Nat.reduceSub, Nat.reduceMul, Nat.reduceEqDiff, Nat.reduceBEq, Nat.reduceLeDiff, Nat.reduceLT, Nat.reducePow, Nat.reduceMod]
  have hv : v ≤ 2 ^ 42 := by
    by_cases h : 1 ≤ hi' - lo + 1
    · have := v1 h; omega
    · rw [v2 (by omega)]; omega
  rw [w64 (by omega) (by omega)]
  exact ⟨⟨_, rfl, by omega, fun h => by have := v1 (by omega); omega, fun h => by have := v2 (by omega); omega⟩, _, hp', rfl⟩
theorem pick_ok (L : List Int) (p : Int) (l : List Int) (h0 : 0 ≤ p) (h1 : (L.length : Int) ≤ 500) (hl : 1 ≤ l.length ∧ l.length < 2 ^ 40) : Ok Tryd.prog G 28 [.ptr 1000 0, ints false l] [(1000, tapeB L p)]
    fun r h => (∃ v, r = int v ∧ v ∈ l) ∧ ∃ p', 0 ≤ p' ∧ h = [(1000, tapeB L p')] := by
  refine Ok.intro' [1000] [] [] 12 [.tmp 4] mixed Tryd.func28 (by kernel_rfl) rfl rfl rfl (by kernel_rfl) (by simp) (fun id b h => by simp only [lk] at h; (repeat' split at h) <;> simp_all) (by simp) ?_
  simp (config := {maxSteps := 10000000}) only [go_sem, ↓reduceIte, reduceCtorEq, Nat.reduceAdd, Nat.reduceSub, Nat.reduceMul, Nat.reduceEqDiff, Nat.reduceBEq, Nat.reduceLeDiff, Nat.reduceLT, Nat.reducePow, Nat.reduceMod]
  refine CallW'.of [1000] [] (n_ok L p l.length h0 h1 (by omega)) (by simp (config := {maxSteps := 10000000}) only [go_sem, ↓reduceIte, reduceCtorEq, Nat.reduceAdd, Nat.reduceSub, Nat.reduceMul, Nat.reduceEqDiff, Nat.reduceBEq, Nat.reduceLeDiff, Nat.reduceLT, Nat.reducePow, Nat.reduceMod]) ?_
  rintro _ _ ⟨⟨v, rfl, v0, v1, v2⟩, p', hp', rfl⟩
  simp (config := {maxSteps := 10000000}) only [go_sem, ↓reduceIte, reduceCtorEq, Nat.reduceAdd, Nat.reduceSub, Nat.reduceMul, Nat.reduceEqDiff, Nat.reduceBEq, Nat.reduceLeDiff, Nat.reduceLT, Nat.reducePow, Nat.reduceMod]
  have := v1 (by omega)
  exact ⟨by omega, ⟨_, rfl, getD_mem (by omega)⟩, _, hp', rfl⟩
theorem order_row (o : List Int) (k : Nat) (x : Int) (hk : k ≤ o.length) (i : Nat) (hi : i < k + (1 + (o.length - k))) : appF k (fun i => [int (o.getD i default)]) (fun r => appF 1 (fun r => litF [[int x]] r) (fun r => [int (o.getD (k + r) default)]) r) i =
    [int ((o.take k ++ x :: o.drop k).getD i default)] := by
  have hl : (o.take k).length = k := by simp; omega
  unfold appF
  by_cases c1 : i < k
  · rw [if_pos c1, List.getD_eq_getElem?_getD (l := o.take k ++ x :: o.drop k), List.getElem?_append_left (by omega), ← List.getD_eq_getElem?_getD, getD_take c1]
  · rw [if_neg c1, List.getD_eq_getElem?_getD (l := o.take k ++ x :: o.drop k), List.getElem?_append_right (by omega), hl]
    by_cases c2 : i - k < 1
    · simp only [c2, if_true]
      rw [show i - k = 0 by omega]
      rfl
    · simp only [c2, if_false]
      obtain ⟨j, hj⟩ : ∃ j, i - k = j + 1 := ⟨i - k - 1, by omega⟩
      rw [hj, List.getElem?_cons_succ, ← List.getD_eq_getElem?_getD, getD_drop]
      rfl
theorem order_ok (L : List Int) (p n : Int) (h0 : 0 ≤ p) (h1 : (L.length : Int) ≤ 500) (hn : n ≤ 1000) : Ok Tryd.prog G 51 [.ptr 1000 0, int n] [(1000, tapeB L p)]
    fun r h => (∃ l : List Int, r = ints true l ∧ (0 ≤ n → (l.length : Int) = n) ∧ (n ≤ 0 → l = [])) ∧ ∃ p', 0 ≤ p' ∧ h = [(1000, tapeB L p')] := by
  refine Ok.weak (Q := fun r h => (∃ l : List Int, leP r (ints true l) ∧ (0 ≤ n → (l.length : Int) = n) ∧ (n ≤ 0 → l = [])) ∧ ∃ p', 0 ≤ p' ∧ h = [(1000, tapeB L p')]) ?_ (fun r h ⟨⟨l, h1, h2⟩, h3⟩ => ⟨_, h1, ⟨l, rfl, h2⟩, h3⟩)
  refine Ok.intro' [1000] [] [] 32 [.tmp 4] mixed Tryd.func51 (by kernel_rfl) rfl rfl rfl (by kernel_rfl) (by simp) (fun id b h => by simp only [lk] at h; (repeat' split at h) <;> simp_all) (by simp) ?_
  simp (config := {maxSteps := 10000000}) only [go_sem, ↓reduceIte, reduceCtorEq, Nat.reduceAdd, Nat.reduceSub, Nat.reduceMul, Nat.reduceEqDiff, Nat.reduceBEq, Nat.reduceLeDiff, Nat.reduceLT, Nat.reducePow, Nat.reduceMod]
  refine TC'.ent (Ent.virt 5 30 1 (by simp (config := {maxSteps := 10000000}) only [go_sem, ↓reduceIte, reduceCtorEq, Nat.reduceAdd, Nat.reduceSub, Nat.reduceMul, Nat.reduceEqDiff, Nat.reduceBEq, Nat.reduceLeDiff, Nat.reduceLT, Nat.reducePow, Nat.reduceMod]) (by simp (config := {maxSteps := 10000000}) only [go_sem, ↓reduceIte, reduceCtorEq, Nat.reduceAdd, Nat.reduceSub, Nat.reduceMul, Nat.reduceEqDiff, Nat.reduceBEq, Nat.reduceLeDiff, Nat.reduceLT, Nat.reducePow, Nat.reduceMod])) ?_
  refine TC'.loop [] (fun (x : List Int × Int) => ⟨[(0, .ptr 1000 0), (1, int n), (5, .own 30 1 0 x.1.length false), (6, int x.1.length)], [(1000, tapeB L x.2), (30, .arr 1 x.1.length (fun i => [int (x.1.getD i default)]) false)]⟩)
    (fun x => 0 ≤ x.2 ∧ ((x.1.length : Int) ≤ n ∨ x.1 = [])) (fun x => (n - x.1.length).toNat) ([], p) mixed (by kernel_rfl) ?_ ?_ ?_
  · simp (config := {maxSteps := 10000000}) only [go_sem, ↓reduceIte, reduceCtorEq, Nat.reduceAdd, Nat.reduceSub, Nat.reduceMul, Nat.reduceEqDiff, Nat.reduceBEq, Nat.reduceLeDiff, Nat.reduceLT, Nat.reducePow, Nat.reduceMod]
    simp
  · exact ⟨h0, .inr rfl⟩
  intro ⟨o, q⟩ ⟨hq, ho⟩
  simp only at hq ho
  simp (config := {maxSteps := 10000000}) only [go_sem, ↓reduceIte, reduceCtorEq, Nat.reduceAdd, Nat.reduceSub, Nat.reduceMul, Nat.reduceEqDiff, Nat.reduceBEq, Nat.reduceLeDiff, Nat.reduceLT, Nat.reducePow, Nat.reduceMod]
  refine ite_intro (fun hlt => ?_) (fun hlt => ?_)
  · rw [w64 (by omega) (by omega : (o.length : Int) + 1 ≤ _)]
    refine CallW'.of [1000] [] (n_ok L q (o.length + 1) hq h1 (by omega)) (by simp (config := {maxSteps := 10000000}) only [go_sem, ↓reduceIte, reduceCtorEq, Nat.reduceAdd, Nat.reduceSub, Nat.reduceMul, Nat.reduceEqDiff, Nat.reduceBEq, Nat.reduceLeDiff, Nat.reduceLT, Nat.reducePow, Nat.reduceMod]) ?_
    rintro _ _ ⟨⟨v, rfl, v0, v1, v2⟩, p', hp', rfl⟩
    simp (config := {maxSteps := 10000000}) only [go_sem, ↓reduceIte, reduceCtorEq, Nat.reduceAdd, Nat.reduceSub, Nat.reduceMul, Nat.reduceEqDiff, Nat.reduceBEq, Nat.reduceLeDiff, Nat.reduceLT, Nat.reducePow, Nat.reduceMod]
    have hv := v1 (by omega)
    refine ⟨by omega, by omega, by omega, by omega, (o.take v.toNat ++ (o.length : Int) :: o.drop v.toNat, p'), ⟨hp', .inl ?_⟩, ?_, ⟨?_, ?_⟩, rfl, ?_, fun i hi => order_row o v.toNat o.length (by omega) i hi⟩
    · simp; omega
    · simp; omega
    · simp; omega
    · rw [w64 (by omega) (by omega)]; simp; omega
    · simp; omega
  · refine ⟨⟨o, ⟨rfl, fun _ _ => rfl⟩, fun h => ?_, fun h => ?_⟩, q, hq, rfl⟩
    · rcases ho with h' | rfl
      · omega
      · simp at hlt ⊢; omega
    · rcases ho with h' | rfl
      · exact List.eq_nil_of_length_eq_zero (by omega)
      · rfl
end Go.Am.Cl
