/-
  ClockAnswers, part M: generated lists of clocks.
-/
import Derived.Test.YtjmomolnhplokaaDoorAmClL
import Derived.Test.YtjmomolnhplokaaDoorAmY
namespace Go.Am.Cl
open Go Go.Am Go.Proofs
set_option maxRecDepth 100000
set_option linter.unusedSimpArgs false
set_option linter.unusedVariables false
set_option maxHeartbeats 4000000
variable {G : Gl}
theorem clocks_ok (L : List Int) (p n : Int) (h0 : 0 ≤ p) (h1 : (L.length : Int) ≤ 500) (hn : n < 2 ^ 40) : Ok Tryd.prog G 7 [.ptr 1000 0, int n, int 4096] [(1000, tapeB L p)]
    fun r h => (∃ l : List Clock, r = sl true 5 encC l ∧ 1 ≤ l.length ∧ checkF l = 0) ∧ ∃ p', 0 ≤ p' ∧ h = [(1000, tapeB L p')] := by
  refine Ok.weak (Q := fun r h => (∃ l : List Clock, leP r (sl true 5 encC l) ∧ 1 ≤ l.length ∧ checkF l = 0) ∧ ∃ p', 0 ≤ p' ∧ h = [(1000, tapeB L p')]) ?_ (fun r h ⟨⟨l, h1, h2⟩, h3⟩ => ⟨_, h1, ⟨l, rfl, h2⟩, h3⟩)
  refine Ok.intro' [1000] [] [] 53 [.tmp 6] mixed Tryd.func7 (by kernel_rfl) rfl rfl rfl (by kernel_rfl) (by simp) (fun id b h => by simp only [lk] at h; (repeat' split at h) <;> simp_all) (by simp) ?_
  simp (config := {maxSteps := 10000000}) only [go_sem, ↓reduceIte, reduceCtorEq, Nat.reduceAdd, Nat.reduceSub, Nat.reduceMul, Nat.reduceEqDiff, Nat.reduceBEq, Nat.reduceLeDiff, Nat.reduceLT, Nat.reducePow, Nat.reduceMod]
  refine CallW'.of [1000] [] (pick_ok L p [12, 24, 100, 24000000] h0 h1 (by simp)) (by simp (config := {maxSteps := 10000000}) only [go_sem, ↓reduceIte, reduceCtorEq, Nat.reduceAdd, Nat.reduceSub, Nat.reduceMul, Nat.reduceEqDiff, Nat.reduceBEq, Nat.reduceLeDiff, Nat.reduceLT, Nat.reducePow, Nat.reduceMod]; exact fun i hi => litF_map encI [12, 24, 100, 24000000] i hi) ?_
  rintro _ _ ⟨⟨v, rfl, hv⟩, p1, hp1, rfl⟩
  simp (config := {maxSteps := 10000000}) only [go_sem, ↓reduceIte, reduceCtorEq, Nat.reduceAdd, Nat.reduceSub, Nat.reduceMul, Nat.reduceEqDiff, Nat.reduceBEq, Nat.reduceLeDiff, Nat.reduceLT, Nat.reducePow, Nat.reduceMod]
  refine CallW'.of [1000] [] (n_ok L p1 n hp1 h1 (by omega)) (by simp (config := {maxSteps := 10000000}) only [go_sem, ↓reduceIte, reduceCtorEq, Nat.reduceAdd, Nat.reduceSub, Nat.reduceMul, Nat.reduceEqDiff, Nat.reduceBEq, Nat.reduceLeDiff, Nat.reduceLT, Nat.reducePow, Nat.reduceMod]) ?_
  rintro _ _ ⟨⟨k, rfl, hk, _⟩, p2, hp2, rfl⟩
  simp (config := {maxSteps := 10000000}) only [go_sem, ↓reduceIte, reduceCtorEq, Nat.reduceAdd, Nat.reduceSub, Nat.reduceMul, Nat.reduceEqDiff, Nat.reduceBEq, Nat.reduceLeDiff, Nat.reduceLT, Nat.reducePow, Nat.reduceMod]
  refine TC'.ent (Ent.arr 16 5 1 _ (fun i => encC ([(⟨1, [], [v], 0, 0⟩ : Clock)].getD i default)) _ rfl ?_) ?_
  · intro i hi
    obtain rfl : i = 0 := by omega
    simp (config := {maxSteps := 10000000}) only [go_sem, ↓reduceIte, reduceCtorEq, Nat.reduceAdd, Nat.reduceSub, Nat.reduceMul, Nat.reduceEqDiff, Nat.reduceBEq, Nat.reduceLeDiff, Nat.reduceLT, Nat.reducePow, Nat.reduceMod]
    simp only [litF_zero, go_sem, ↓reduceIte, reduceCtorEq, Nat.reduceAdd, Nat.reduceSub, Nat.reduceMul, Nat.reduceEqDiff, Nat.reduceBEq, Nat.reduceLeDiff, Nat.reduceLT, Nat.reducePow, Nat.reduceMod]
    exact fun i hi => litF_map encI [v] i hi
  simp (config := {maxSteps := 10000000}) only [go_sem, ↓reduceIte, reduceCtorEq, Nat.reduceAdd, Nat.reduceSub, Nat.reduceMul, Nat.reduceEqDiff, Nat.reduceBEq, Nat.reduceLeDiff, Nat.reduceLT, Nat.reducePow, Nat.reduceMod]
  have hv0 : checkF [⟨1, [], [v], 0, 0⟩] = 0 := by
    simp only [List.mem_cons, List.not_mem_nil, or_false] at hv
    rcases hv with rfl | rfl | rfl | rfl <;> decide
  refine TC'.loop [] (fun (x : Int × Int × Int × List Clock) => ⟨[(0, .ptr 1000 0), (2, int 4096), (7, .own 16 5 0 x.2.2.2.length false), (8, int x.2.2.1), (9, int x.1)], [(1000, tapeB L x.2.1), (16, .arr 5 x.2.2.2.length (fun i => encC (x.2.2.2.getD i default)) false)]⟩)
    (fun x => (0 ≤ x.1 ∧ x.1 < 2 ^ 41) ∧ 0 ≤ x.2.1 ∧ (0 ≤ x.2.2.1 ∧ x.2.2.1 ≤ 4096) ∧ 1 ≤ x.2.2.2.length ∧ checkF x.2.2.2 = 0) (fun x => x.1.toNat) (k, p2, 1, [⟨1, [], [v], 0, 0⟩]) mixed (by kernel_rfl) ?_ ?_ ?_
  · simp (config := {maxSteps := 10000000}) only [go_sem, ↓reduceIte, reduceCtorEq, Nat.reduceAdd, Nat.reduceSub, Nat.reduceMul, Nat.reduceEqDiff, Nat.reduceBEq, Nat.reduceLeDiff, Nat.reduceLT, Nat.reducePow, Nat.reduceMod]
  · exact ⟨⟨hk, by simp only; omega⟩, hp2, by simp, by simp, hv0⟩
  intro ⟨i, q, pr, l⟩ ⟨hi, hq, hpr, hl, hc⟩
  simp only at hi hq hpr hl hc
  obtain ⟨hl16, hvl, hbl⟩ := checkF_zero hc
  simp (config := {maxSteps := 10000000}) only [go_sem, ↓reduceIte, reduceCtorEq, Nat.reduceAdd, Nat.reduceSub, Nat.reduceMul, Nat.reduceEqDiff, Nat.reduceBEq, Nat.reduceLeDiff, Nat.reduceLT, Nat.reducePow, Nat.reduceMod]
  refine ite_intro (fun hgt => ?_) (fun hgt => ?_)
  · refine CallW'.of [1000] [] (one_ok L q l.length hq h1 (by omega)) (by simp (config := {maxSteps := 10000000}) only [go_sem, ↓reduceIte, reduceCtorEq, Nat.reduceAdd, Nat.reduceSub, Nat.reduceMul, Nat.reduceEqDiff, Nat.reduceBEq, Nat.reduceLeDiff, Nat.reduceLT, Nat.reducePow, Nat.reduceMod]) ?_
    rintro _ _ ⟨⟨c, rfl, hg⟩, q1, hq1, rfl⟩
    have hm0 : 0 ≤ pr * (c.cho.length : Int) := Int.mul_nonneg hpr.1 (by omega)
    have hm1 : pr * (c.cho.length : Int) ≤ 4096 * 100 := Int.mul_le_mul hpr.2 (by have := hg.2; omega) (by omega) (by omega)
    simp (config := {maxSteps := 10000000}) only [go_sem, ↓reduceIte, reduceCtorEq, Nat.reduceAdd, Nat.reduceSub, Nat.reduceMul, Nat.reduceEqDiff, Nat.reduceBEq, Nat.reduceLeDiff, Nat.reduceLT, Nat.reducePow, Nat.reduceMod]
    rw [w64 (n := pr * (c.cho.length : Int)) (by omega) (by omega)]
    refine ite_intro (fun hmost => ?_) (fun hmost => ?_)
    · exact ⟨(i - 1, q1, pr, l), ⟨by simp only; omega, hq1, hpr, hl, hc⟩, by simp only; omega, ⟨rfl, rfl, w64 (by omega) (by omega)⟩, rfl, rfl, fun i hi => ⟨rfl, rfl, rfl, rfl, rfl⟩⟩
    · refine TC'.draw [10, 16] (.q 1 (.q 3 (.e [(0, .e [(2, .e [(4, .e [(5, .e [(6, .e [(7, .done)])])])]), (4, .e [(2, .e [(5, .e [(6, .e [(7, .done)])])])])]), (4, .e [(0, .e [(2, .e [(5, .e [(6, .e [(7, .done)])])])])])]))) mixed (by kernel_rfl) (by kernel_rfl) ?_
      simp (config := {maxSteps := 10000000}) only [go_sem, ↓reduceIte, reduceCtorEq, Nat.reduceAdd, Nat.reduceSub, Nat.reduceMul, Nat.reduceEqDiff, Nat.reduceBEq, Nat.reduceLeDiff, Nat.reduceLT, Nat.reducePow, Nat.reduceMod]
      repeat' apply And.intro
      all_goals first | omega | skip
      all_goals
        (refine CallW'.of [] [] (rcheck_ok (l ++ [c]) (by simp; omega)) (by simp (config := {maxSteps := 10000000}) only [go_sem, ↓reduceIte, reduceCtorEq, Nat.reduceAdd, Nat.reduceSub, Nat.reduceMul, Nat.reduceEqDiff, Nat.reduceBEq, Nat.reduceLeDiff, Nat.reduceLT, Nat.reducePow, Nat.reduceMod]; exact ⟨by simp, fun i hi => appF_snoc encC l c _ rfl i hi⟩) ?_; rintro _ _ ⟨rfl, rfl⟩; simp (config := {maxSteps := 10000000}) only [go_sem, ↓reduceIte, reduceCtorEq, Nat.reduceAdd, Nat.reduceSub, Nat.reduceMul, Nat.reduceEqDiff, Nat.reduceBEq, Nat.reduceLeDiff, Nat.reduceLT, Nat.reducePow, Nat.reduceMod])
        refine ite_intro (fun hbad => ?_) (fun hbad => ?_)
        · exact ⟨(i - 1, q1, pr, l), ⟨by simp only; omega, hq1, hpr, hl, hc⟩, by simp only; omega, ⟨rfl, rfl, w64 (by omega) (by omega)⟩, rfl, rfl, fun i hi => ⟨rfl, rfl, rfl, rfl, rfl⟩⟩
        · exact ⟨by omega, (i - 1, q1, pr * (c.cho.length : Int), l ++ [c]), ⟨by simp only; omega, hq1, ⟨hm0, by simp only; omega⟩, by simp, Classical.not_not.1 hbad⟩, by simp only; omega, ⟨by simp, w64 (by omega) (by omega), w64 (by omega) (by omega)⟩, rfl, by simp, fun i hi => appF_snoc encC l c _ rfl i hi⟩
  · exact ⟨⟨l, ⟨rfl, fun i hi => ⟨rfl, rfl, rfl, rfl, rfl⟩⟩, hl, hc⟩, q, hq, rfl⟩
end Go.Am.Cl
