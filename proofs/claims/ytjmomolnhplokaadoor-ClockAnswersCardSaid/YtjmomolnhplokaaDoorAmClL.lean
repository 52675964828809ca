/-
  ClockAnswers, part L: generated clocks.
-/
import Derived.Test.YtjmomolnhplokaaDoorAmClK
namespace Go.Am.Cl
open Go Go.Am Go.Proofs
set_option maxRecDepth 100000
set_option linter.unusedSimpArgs false
set_option linter.unusedVariables false
variable {G : Gl}
set_option maxHeartbeats 4000000
def goodC (c : Clock) : Prop := c.par.length ≤ 100 ∧ c.cho.length ≤ 100
theorem one_ok (L : List Int) (p k : Int) (h0 : 0 ≤ p) (h1 : (L.length : Int) ≤ 500) (hk : k < 2 ^ 40) : Ok Tryd.prog G 29 [.ptr 1000 0, int k] [(1000, tapeB L p)]
    fun r h => (∃ c : Clock, r = .agg (encC c) ∧ goodC c) ∧ ∃ p', 0 ≤ p' ∧ h = [(1000, tapeB L p')] := by
  refine Ok.weak (Q := fun r h => (∃ c : Clock, leP r (.agg (encC c)) ∧ goodC c) ∧ ∃ p', 0 ≤ p' ∧ h = [(1000, tapeB L p')]) ?_ (fun r h ⟨⟨l, h1, h2⟩, h3⟩ => ⟨_, h1, ⟨l, rfl, h2⟩, h3⟩)
  refine Ok.intro' [1000] [] [] 103 [.cell 4 51] mixed Tryd.func29 (by kernel_rfl) rfl rfl rfl (by kernel_rfl) (by simp) (fun id b h => by simp only [lk] at h; (repeat' split at h) <;> simp_all) (by simp) ?_
  simp (config := {maxSteps := 10000000}) only [go_sem, ↓reduceIte, reduceCtorEq, Nat.reduceAdd, Nat.reduceSub, Nat.reduceMul, Nat.reduceEqDiff, Nat.reduceBEq, Nat.reduceLeDiff, Nat.reduceLT, Nat.reducePow, Nat.reduceMod]
  refine CallW'.of [1000] [] (pick_ok L p [1, 2, 2, 3, 3, 4, 4, 5, 5] h0 h1 (by simp)) (by simp (config := {maxSteps := 10000000}) only [go_sem, ↓reduceIte, reduceCtorEq, Nat.reduceAdd, Nat.reduceSub, Nat.reduceMul, Nat.reduceEqDiff, Nat.reduceBEq, Nat.reduceLeDiff, Nat.reduceLT, Nat.reducePow, Nat.reduceMod]; exact fun i hi => litF_map encI [1, 2, 2, 3, 3, 4, 4, 5, 5] i hi) ?_
  rintro _ _ ⟨⟨v, rfl, hv⟩, p1, hp1, rfl⟩
  simp (config := {maxSteps := 10000000}) only [go_sem, ↓reduceIte, reduceCtorEq, Nat.reduceAdd, Nat.reduceSub, Nat.reduceMul, Nat.reduceEqDiff, Nat.reduceBEq, Nat.reduceLeDiff, Nat.reduceLT, Nat.reducePow, Nat.reduceMod]
  refine ite_intro (fun k1 => ?_) (fun k1 => ?_)
  · refine CallW'.of [1000] [] (pick_ok L p1 [10, 12, 32, 24000000] hp1 h1 (by simp)) (by simp (config := {maxSteps := 10000000}) only [go_sem, ↓reduceIte, reduceCtorEq, Nat.reduceAdd, Nat.reduceSub, Nat.reduceMul, Nat.reduceEqDiff, Nat.reduceBEq, Nat.reduceLeDiff, Nat.reduceLT, Nat.reducePow, Nat.reduceMod]; exact fun i hi => litF_map encI [10, 12, 32, 24000000] i hi) ?_
    rintro _ _ ⟨⟨y, rfl, _⟩, p2, hp2, rfl⟩
    simp (config := {maxSteps := 10000000}) only [go_sem, ↓reduceIte, reduceCtorEq, Nat.reduceAdd, Nat.reduceSub, Nat.reduceMul, Nat.reduceEqDiff, Nat.reduceBEq, Nat.reduceLeDiff, Nat.reduceLT, Nat.reducePow, Nat.reduceMod]
    refine CallW'.of [1000] [] (n_ok L p2 5 hp2 h1 (by omega)) (by simp (config := {maxSteps := 10000000}) only [go_sem, ↓reduceIte, reduceCtorEq, Nat.reduceAdd, Nat.reduceSub, Nat.reduceMul, Nat.reduceEqDiff, Nat.reduceBEq, Nat.reduceLeDiff, Nat.reduceLT, Nat.reducePow, Nat.reduceMod]) ?_
    rintro _ _ ⟨⟨x5, rfl, _⟩, q1, hq1, rfl⟩
    simp (config := {maxSteps := 10000000}) only [go_sem, ↓reduceIte, reduceCtorEq, Nat.reduceAdd, Nat.reduceSub, Nat.reduceMul, Nat.reduceEqDiff, Nat.reduceBEq, Nat.reduceLeDiff, Nat.reduceLT, Nat.reducePow, Nat.reduceMod]
    refine ite_intro (fun hx5 => ?_) (fun hx5 => ?_)
    · refine CallW'.of [1000] [] (pick_ok L q1 [0, 1, 10, 100] hq1 h1 (by simp)) (by simp (config := {maxSteps := 10000000}) only [go_sem, ↓reduceIte, reduceCtorEq, Nat.reduceAdd, Nat.reduceSub, Nat.reduceMul, Nat.reduceEqDiff, Nat.reduceBEq, Nat.reduceLeDiff, Nat.reduceLT, Nat.reducePow, Nat.reduceMod]; exact fun i hi => litF_map encI [0, 1, 10, 100] i hi) ?_
      rintro _ _ ⟨⟨x6, rfl, _⟩, q2, hq2, rfl⟩
      simp (config := {maxSteps := 10000000}) only [go_sem, ↓reduceIte, reduceCtorEq, Nat.reduceAdd, Nat.reduceSub, Nat.reduceMul, Nat.reduceEqDiff, Nat.reduceBEq, Nat.reduceLeDiff, Nat.reduceLT, Nat.reducePow, Nat.reduceMod]
      refine TC'.draw [] (.q 0 (.q 2 (.e [(1, .e [(3, .e [(4, .e [(5, .e [(6, .e [(7, .done)])])])])]), (3, .e [(1, .e [(4, .e [(5, .e [(6, .e [(7, .done)])])])]), (4, .e [(1, .e [(5, .e [(6, .e [(7, .done)])])])])])]))) mixed (by kernel_rfl) (by kernel_rfl) ?_
      simp (config := {maxSteps := 10000000}) only [go_sem, ↓reduceIte, reduceCtorEq, Nat.reduceAdd, Nat.reduceSub, Nat.reduceMul, Nat.reduceEqDiff, Nat.reduceBEq, Nat.reduceLeDiff, Nat.reduceLT, Nat.reducePow, Nat.reduceMod]
      refine ⟨?_, ?_, ?_⟩
      all_goals
        refine CallW'.of [1000] [] (pick_ok L q2 [0, 20, 200, 1000000000] hq2 h1 (by simp)) (by simp (config := {maxSteps := 10000000}) only [go_sem, ↓reduceIte, reduceCtorEq, Nat.reduceAdd, Nat.reduceSub, Nat.reduceMul, Nat.reduceEqDiff, Nat.reduceBEq, Nat.reduceLeDiff, Nat.reduceLT, Nat.reducePow, Nat.reduceMod]; exact fun i hi => litF_map encI [0, 20, 200, 1000000000] i hi) ?_
        rintro _ _ ⟨⟨x7, rfl, _⟩, q3, hq3, rfl⟩
        simp (config := {maxSteps := 10000000}) only [go_sem, ↓reduceIte, reduceCtorEq, Nat.reduceAdd, Nat.reduceSub, Nat.reduceMul, Nat.reduceEqDiff, Nat.reduceBEq, Nat.reduceLeDiff, Nat.reduceLT, Nat.reducePow, Nat.reduceMod]
        exact ⟨⟨⟨v, [], [y], x6, _⟩, ⟨rfl, rfl, ⟨rfl, fun i hi => litF_map encI [y] i hi⟩, rfl, rfl⟩, ⟨by simp, by simp⟩⟩, q3, hq3, rfl⟩
    · exact ⟨⟨⟨v, [], [y], 0, 0⟩, ⟨rfl, rfl, ⟨rfl, fun i hi => litF_map encI [y] i hi⟩, rfl, rfl⟩, ⟨by simp, by simp⟩⟩, q1, hq1, rfl⟩
  · refine ite_intro (fun k2 => ?_) (fun k2 => ?_)
    · rw [if_pos k2]
      refine CallW'.of [1000] [] (n_ok L p1 k hp1 h1 (by omega)) (by simp (config := {maxSteps := 10000000}) only [go_sem, ↓reduceIte, reduceCtorEq, Nat.reduceAdd, Nat.reduceSub, Nat.reduceMul, Nat.reduceEqDiff, Nat.reduceBEq, Nat.reduceLeDiff, Nat.reduceLT, Nat.reducePow, Nat.reduceMod]) ?_
      rintro _ _ ⟨⟨y, rfl, _⟩, p2, hp2, rfl⟩
      simp (config := {maxSteps := 10000000}) only [go_sem, ↓reduceIte, reduceCtorEq, Nat.reduceAdd, Nat.reduceSub, Nat.reduceMul, Nat.reduceEqDiff, Nat.reduceBEq, Nat.reduceLeDiff, Nat.reduceLT, Nat.reducePow, Nat.reduceMod]
      refine CallW'.of [1000] [] (range_ok L p2 1 4 hp2 h1 (by omega) (by omega)) (by simp (config := {maxSteps := 10000000}) only [go_sem, ↓reduceIte, reduceCtorEq, Nat.reduceAdd, Nat.reduceSub, Nat.reduceMul, Nat.reduceEqDiff, Nat.reduceBEq, Nat.reduceLeDiff, Nat.reduceLT, Nat.reducePow, Nat.reduceMod]) ?_
      rintro _ _ ⟨⟨z, rfl, z1, z2, z3⟩, p3, hp3, rfl⟩
      simp (config := {maxSteps := 10000000}) only [go_sem, ↓reduceIte, reduceCtorEq, Nat.reduceAdd, Nat.reduceSub, Nat.reduceMul, Nat.reduceEqDiff, Nat.reduceBEq, Nat.reduceLeDiff, Nat.reduceLT, Nat.reducePow, Nat.reduceMod]
      refine TC'.ent (Ent.virtB 5 2 55 1 (by simp (config := {maxSteps := 10000000}) only [go_sem, ↓reduceIte, reduceCtorEq, Nat.reduceAdd, Nat.reduceSub, Nat.reduceMul, Nat.reduceEqDiff, Nat.reduceBEq, Nat.reduceLeDiff, Nat.reduceLT, Nat.reducePow, Nat.reduceMod]; exact ⟨_, rfl, rfl⟩) (by simp (config := {maxSteps := 10000000}) only [go_sem, ↓reduceIte, reduceCtorEq, Nat.reduceAdd, Nat.reduceSub, Nat.reduceMul, Nat.reduceEqDiff, Nat.reduceBEq, Nat.reduceLeDiff, Nat.reduceLT, Nat.reducePow, Nat.reduceMod]) (by omega)) ?_
      refine TC'.loop [] (fun (x : Int × Int × List Int) => ⟨[(0, .ptr 1000 0), (1, int k), (4, .ptr 4 0), (5, .ptr 5 0), (6, int x.1)], [(1000, tapeB L x.2.1), (4, .box [int 0, .sc (.slice none 0 0), .sc (.slice none 0 0), int 0, int 0]), (5, .box [int v, .own 35 1 0 1 true, .own 55 1 0 x.2.2.length false, int 0, int 0]), (35, .arr 1 1 (litF [[int y]]) true), (55, .arr 1 x.2.2.length (fun i => [int (x.2.2.getD i default)]) false)]⟩)
        (fun x => 0 ≤ x.1 ∧ 0 ≤ x.2.1 ∧ (x.2.2.length : Int) + x.1 ≤ 4) (fun x => x.1.toNat) (z, p3, []) mixed (by kernel_rfl) ?_ ?_ ?_
      · simp (config := {maxSteps := 10000000}) only [go_sem, ↓reduceIte, reduceCtorEq, Nat.reduceAdd, Nat.reduceSub, Nat.reduceMul, Nat.reduceEqDiff, Nat.reduceBEq, Nat.reduceLeDiff, Nat.reduceLT, Nat.reducePow, Nat.reduceMod]
        simp
      · exact ⟨by simp only; omega, hp3, by simp; omega⟩
      intro ⟨i, q, o⟩ ⟨hi, hq, ho⟩
      simp only at hi hq ho
      simp (config := {maxSteps := 10000000}) only [go_sem, ↓reduceIte, reduceCtorEq, Nat.reduceAdd, Nat.reduceSub, Nat.reduceMul, Nat.reduceEqDiff, Nat.reduceBEq, Nat.reduceLeDiff, Nat.reduceLT, Nat.reducePow, Nat.reduceMod]
      refine ite_intro (fun hgt => ?_) (fun hgt => ?_)
      · refine CallW'.of [1000] [] (pick_ok L q [1, 2, 3, 4, 5, 8, 64] hq h1 (by simp)) (by simp (config := {maxSteps := 10000000}) only [go_sem, ↓reduceIte, reduceCtorEq, Nat.reduceAdd, Nat.reduceSub, Nat.reduceMul, Nat.reduceEqDiff, Nat.reduceBEq, Nat.reduceLeDiff, Nat.reduceLT, Nat.reducePow, Nat.reduceMod]; exact fun i hi => litF_map encI [1, 2, 3, 4, 5, 8, 64] i hi) ?_
        rintro _ _ ⟨⟨f, rfl, _⟩, p4, hp4, rfl⟩
        simp (config := {maxSteps := 10000000}) only [go_sem, ↓reduceIte, reduceCtorEq, Nat.reduceAdd, Nat.reduceSub, Nat.reduceMul, Nat.reduceEqDiff, Nat.reduceBEq, Nat.reduceLeDiff, Nat.reduceLT, Nat.reducePow, Nat.reduceMod]
        (refine CallW'.of [] [] (in_ok o f (by omega)) (by simp (config := {maxSteps := 10000000}) only [go_sem, ↓reduceIte, reduceCtorEq, Nat.reduceAdd, Nat.reduceSub, Nat.reduceMul, Nat.reduceEqDiff, Nat.reduceBEq, Nat.reduceLeDiff, Nat.reduceLT, Nat.reducePow, Nat.reduceMod]) ?_; rintro _ _ ⟨rfl, rfl⟩; simp (config := {maxSteps := 10000000}) only [go_sem, ↓reduceIte, reduceCtorEq, Nat.reduceAdd, Nat.reduceSub, Nat.reduceMul, Nat.reduceEqDiff, Nat.reduceBEq, Nat.reduceLeDiff, Nat.reduceLT, Nat.reducePow, Nat.reduceMod])
        refine ite_intro (fun hin => ?_) (fun hin => ?_)
        · exact ⟨by omega, (i - 1, p4, o ++ [f]), ⟨by simp only; omega, hp4, by simp only [List.length_append, List.length_singleton]; omega⟩, by simp only; omega, by rw [w64 (by omega) (by omega)], rfl, by simp, by simp, fun x hx => appF_snoc encI o f _ rfl x hx⟩
        · exact ⟨(i - 1, p4, o), ⟨by simp only; omega, hp4, by simp only; omega⟩, by simp only; omega, by rw [w64 (by omega) (by omega)], rfl, rfl, rfl, fun _ _ => rfl⟩
      · refine CallW'.of [1000] [] (n_ok L q 5 hq h1 (by omega)) (by simp (config := {maxSteps := 10000000}) only [go_sem, ↓reduceIte, reduceCtorEq, Nat.reduceAdd, Nat.reduceSub, Nat.reduceMul, Nat.reduceEqDiff, Nat.reduceBEq, Nat.reduceLeDiff, Nat.reduceLT, Nat.reducePow, Nat.reduceMod]) ?_
        rintro _ _ ⟨⟨x5, rfl, _⟩, q1, hq1, rfl⟩
        simp (config := {maxSteps := 10000000}) only [go_sem, ↓reduceIte, reduceCtorEq, Nat.reduceAdd, Nat.reduceSub, Nat.reduceMul, Nat.reduceEqDiff, Nat.reduceBEq, Nat.reduceLeDiff, Nat.reduceLT, Nat.reducePow, Nat.reduceMod]
        refine ite_intro (fun hx5 => ?_) (fun hx5 => ?_)
        · refine CallW'.of [1000] [] (pick_ok L q1 [0, 1, 10, 100] hq1 h1 (by simp)) (by simp (config := {maxSteps := 10000000}) only [go_sem, ↓reduceIte, reduceCtorEq, Nat.reduceAdd, Nat.reduceSub, Nat.reduceMul, Nat.reduceEqDiff, Nat.reduceBEq, Nat.reduceLeDiff, Nat.reduceLT, Nat.reducePow, Nat.reduceMod]; exact fun i hi => litF_map encI [0, 1, 10, 100] i hi) ?_
          rintro _ _ ⟨⟨x6, rfl, _⟩, q2, hq2, rfl⟩
          simp (config := {maxSteps := 10000000}) only [go_sem, ↓reduceIte, reduceCtorEq, Nat.reduceAdd, Nat.reduceSub, Nat.reduceMul, Nat.reduceEqDiff, Nat.reduceBEq, Nat.reduceLeDiff, Nat.reduceLT, Nat.reducePow, Nat.reduceMod]
          refine TC'.draw [] (.q 0 (.q 2 (.e [(1, .e [(3, .e [(4, .e [(5, .e [(6, .e [(7, .done)])])])])]), (3, .e [(1, .e [(4, .e [(5, .e [(6, .e [(7, .done)])])])]), (4, .e [(1, .e [(5, .e [(6, .e [(7, .done)])])])])])]))) mixed (by kernel_rfl) (by kernel_rfl) ?_
          simp (config := {maxSteps := 10000000}) only [go_sem, ↓reduceIte, reduceCtorEq, Nat.reduceAdd, Nat.reduceSub, Nat.reduceMul, Nat.reduceEqDiff, Nat.reduceBEq, Nat.reduceLeDiff, Nat.reduceLT, Nat.reducePow, Nat.reduceMod]
          refine ⟨?_, ?_, ?_⟩
          all_goals
            refine CallW'.of [1000] [] (pick_ok L q2 [0, 20, 200, 1000000000] hq2 h1 (by simp)) (by simp (config := {maxSteps := 10000000}) only [go_sem, ↓reduceIte, reduceCtorEq, Nat.reduceAdd, Nat.reduceSub, Nat.reduceMul, Nat.reduceEqDiff, Nat.reduceBEq, Nat.reduceLeDiff, Nat.reduceLT, Nat.reducePow, Nat.reduceMod]; exact fun i hi => litF_map encI [0, 20, 200, 1000000000] i hi) ?_
            rintro _ _ ⟨⟨x7, rfl, _⟩, q3, hq3, rfl⟩
            simp (config := {maxSteps := 10000000}) only [go_sem, ↓reduceIte, reduceCtorEq, Nat.reduceAdd, Nat.reduceSub, Nat.reduceMul, Nat.reduceEqDiff, Nat.reduceBEq, Nat.reduceLeDiff, Nat.reduceLT, Nat.reducePow, Nat.reduceMod]
            exact ⟨⟨⟨v, [y], o, x6, _⟩, ⟨rfl, ⟨rfl, fun i hi => litF_map encI [y] i hi⟩, ⟨rfl, fun _ _ => rfl⟩, rfl, rfl⟩, ⟨by simp, by simp only; omega⟩⟩, q3, hq3, rfl⟩
        · exact ⟨⟨⟨v, [y], o, 0, 0⟩, ⟨rfl, ⟨rfl, fun i hi => litF_map encI [y] i hi⟩, ⟨rfl, fun _ _ => rfl⟩, rfl, rfl⟩, ⟨by simp, by simp only; omega⟩⟩, q1, hq1, rfl⟩
    · refine ite_intro (fun k3 => ?_) (fun k3 => ?_)
      · refine CallW'.of [1000] [] (n_ok L p1 k hp1 h1 (by omega)) (by simp (config := {maxSteps := 10000000}) only [go_sem, ↓reduceIte, reduceCtorEq, Nat.reduceAdd, Nat.reduceSub, Nat.reduceMul, Nat.reduceEqDiff, Nat.reduceBEq, Nat.reduceLeDiff, Nat.reduceLT, Nat.reducePow, Nat.reduceMod]) ?_
        rintro _ _ ⟨⟨y, rfl, _⟩, p2, hp2, rfl⟩
        simp (config := {maxSteps := 10000000}) only [go_sem, ↓reduceIte, reduceCtorEq, Nat.reduceAdd, Nat.reduceSub, Nat.reduceMul, Nat.reduceEqDiff, Nat.reduceBEq, Nat.reduceLeDiff, Nat.reduceLT, Nat.reducePow, Nat.reduceMod]
        refine CallW'.of [1000] [] (range_ok L p2 1 4 hp2 h1 (by omega) (by omega)) (by simp (config := {maxSteps := 10000000}) only [go_sem, ↓reduceIte, reduceCtorEq, Nat.reduceAdd, Nat.reduceSub, Nat.reduceMul, Nat.reduceEqDiff, Nat.reduceBEq, Nat.reduceLeDiff, Nat.reduceLT, Nat.reducePow, Nat.reduceMod]) ?_
        rintro _ _ ⟨⟨z, rfl, z1, z2, z3⟩, p3, hp3, rfl⟩
        simp (config := {maxSteps := 10000000}) only [go_sem, ↓reduceIte, reduceCtorEq, Nat.reduceAdd, Nat.reduceSub, Nat.reduceMul, Nat.reduceEqDiff, Nat.reduceBEq, Nat.reduceLeDiff, Nat.reduceLT, Nat.reducePow, Nat.reduceMod]
        refine TC'.ent (Ent.virtB 5 2 55 1 (by simp (config := {maxSteps := 10000000}) only [go_sem, ↓reduceIte, reduceCtorEq, Nat.reduceAdd, Nat.reduceSub, Nat.reduceMul, Nat.reduceEqDiff, Nat.reduceBEq, Nat.reduceLeDiff, Nat.reduceLT, Nat.reducePow, Nat.reduceMod]; exact ⟨_, rfl, rfl⟩) (by simp (config := {maxSteps := 10000000}) only [go_sem, ↓reduceIte, reduceCtorEq, Nat.reduceAdd, Nat.reduceSub, Nat.reduceMul, Nat.reduceEqDiff, Nat.reduceBEq, Nat.reduceLeDiff, Nat.reduceLT, Nat.reducePow, Nat.reduceMod]) (by omega)) ?_
        refine TC'.loop [] (fun (x : Int × Int × List Int) => ⟨[(0, .ptr 1000 0), (1, int k), (4, .ptr 4 0), (5, .ptr 5 0), (6, int x.1)], [(1000, tapeB L x.2.1), (4, .box [int 0, .sc (.slice none 0 0), .sc (.slice none 0 0), int 0, int 0]), (5, .box [int v, .own 35 1 0 1 true, .own 55 1 0 x.2.2.length false, int 0, int 0]), (35, .arr 1 1 (litF [[int y]]) true), (55, .arr 1 x.2.2.length (fun i => [int (x.2.2.getD i default)]) false)]⟩)
          (fun x => 0 ≤ x.1 ∧ 0 ≤ x.2.1 ∧ (x.2.2.length : Int) + x.1 ≤ 4) (fun x => x.1.toNat) (z, p3, []) mixed (by kernel_rfl) ?_ ?_ ?_
        · simp (config := {maxSteps := 10000000}) only [go_sem, ↓reduceIte, reduceCtorEq, Nat.reduceAdd, Nat.reduceSub, Nat.reduceMul, Nat.reduceEqDiff, Nat.reduceBEq, Nat.reduceLeDiff, Nat.reduceLT, Nat.reducePow, Nat.reduceMod]
          simp
        · exact ⟨by simp only; omega, hp3, by simp; omega⟩
        intro ⟨i, q, o⟩ ⟨hi, hq, ho⟩
        simp only at hi hq ho
        simp (config := {maxSteps := 10000000}) only [go_sem, ↓reduceIte, reduceCtorEq, Nat.reduceAdd, Nat.reduceSub, Nat.reduceMul, Nat.reduceEqDiff, Nat.reduceBEq, Nat.reduceLeDiff, Nat.reduceLT, Nat.reducePow, Nat.reduceMod]
        refine ite_intro (fun hgt => ?_) (fun hgt => ?_)
        · refine CallW'.of [1000] [] (pick_ok L q [1, 2, 3, 4, 5, 8, 64] hq h1 (by simp)) (by simp (config := {maxSteps := 10000000}) only [go_sem, ↓reduceIte, reduceCtorEq, Nat.reduceAdd, Nat.reduceSub, Nat.reduceMul, Nat.reduceEqDiff, Nat.reduceBEq, Nat.reduceLeDiff, Nat.reduceLT, Nat.reducePow, Nat.reduceMod]; exact fun i hi => litF_map encI [1, 2, 3, 4, 5, 8, 64] i hi) ?_
          rintro _ _ ⟨⟨f, rfl, _⟩, p4, hp4, rfl⟩
          simp (config := {maxSteps := 10000000}) only [go_sem, ↓reduceIte, reduceCtorEq, Nat.reduceAdd, Nat.reduceSub, Nat.reduceMul, Nat.reduceEqDiff, Nat.reduceBEq, Nat.reduceLeDiff, Nat.reduceLT, Nat.reducePow, Nat.reduceMod]
          (refine CallW'.of [] [] (in_ok o f (by omega)) (by simp (config := {maxSteps := 10000000}) only [go_sem, ↓reduceIte, reduceCtorEq, Nat.reduceAdd, Nat.reduceSub, Nat.reduceMul, Nat.reduceEqDiff, Nat.reduceBEq, Nat.reduceLeDiff, Nat.reduceLT, Nat.reducePow, Nat.reduceMod]) ?_; rintro _ _ ⟨rfl, rfl⟩; simp (config := {maxSteps := 10000000}) only [go_sem, ↓reduceIte, reduceCtorEq, Nat.reduceAdd, Nat.reduceSub, Nat.reduceMul, Nat.reduceEqDiff, Nat.reduceBEq, Nat.reduceLeDiff, Nat.reduceLT, Nat.reducePow, Nat.reduceMod])
          refine ite_intro (fun hin => ?_) (fun hin => ?_)
          · exact ⟨by omega, (i - 1, p4, o ++ [f]), ⟨by simp only; omega, hp4, by simp only [List.length_append, List.length_singleton]; omega⟩, by simp only; omega, by rw [w64 (by omega) (by omega)], rfl, by simp, by simp, fun x hx => appF_snoc encI o f _ rfl x hx⟩
          · exact ⟨(i - 1, p4, o), ⟨by simp only; omega, hp4, by simp only; omega⟩, by simp only; omega, by rw [w64 (by omega) (by omega)], rfl, rfl, rfl, fun _ _ => rfl⟩
        · refine CallW'.of [1000] [] (n_ok L q 5 hq h1 (by omega)) (by simp (config := {maxSteps := 10000000}) only [go_sem, ↓reduceIte, reduceCtorEq, Nat.reduceAdd, Nat.reduceSub, Nat.reduceMul, Nat.reduceEqDiff, Nat.reduceBEq, Nat.reduceLeDiff, Nat.reduceLT, Nat.reducePow, Nat.reduceMod]) ?_
          rintro _ _ ⟨⟨x5, rfl, _⟩, q1, hq1, rfl⟩
          simp (config := {maxSteps := 10000000}) only [go_sem, ↓reduceIte, reduceCtorEq, Nat.reduceAdd, Nat.reduceSub, Nat.reduceMul, Nat.reduceEqDiff, Nat.reduceBEq, Nat.reduceLeDiff, Nat.reduceLT, Nat.reducePow, Nat.reduceMod]
          refine ite_intro (fun hx5 => ?_) (fun hx5 => ?_)
          · refine CallW'.of [1000] [] (pick_ok L q1 [0, 1, 10, 100] hq1 h1 (by simp)) (by simp (config := {maxSteps := 10000000}) only [go_sem, ↓reduceIte, reduceCtorEq, Nat.reduceAdd, Nat.reduceSub, Nat.reduceMul, Nat.reduceEqDiff, Nat.reduceBEq, Nat.reduceLeDiff, Nat.reduceLT, Nat.reducePow, Nat.reduceMod]; exact fun i hi => litF_map encI [0, 1, 10, 100] i hi) ?_
            rintro _ _ ⟨⟨x6, rfl, _⟩, q2, hq2, rfl⟩
            simp (config := {maxSteps := 10000000}) only [go_sem, ↓reduceIte, reduceCtorEq, Nat.reduceAdd, Nat.reduceSub, Nat.reduceMul, Nat.reduceEqDiff, Nat.reduceBEq, Nat.reduceLeDiff, Nat.reduceLT, Nat.reducePow, Nat.reduceMod]
            refine TC'.draw [] (.q 0 (.q 2 (.e [(1, .e [(3, .e [(4, .e [(5, .e [(6, .e [(7, .done)])])])])]), (3, .e [(1, .e [(4, .e [(5, .e [(6, .e [(7, .done)])])])]), (4, .e [(1, .e [(5, .e [(6, .e [(7, .done)])])])])])]))) mixed (by kernel_rfl) (by kernel_rfl) ?_
            simp (config := {maxSteps := 10000000}) only [go_sem, ↓reduceIte, reduceCtorEq, Nat.reduceAdd, Nat.reduceSub, Nat.reduceMul, Nat.reduceEqDiff, Nat.reduceBEq, Nat.reduceLeDiff, Nat.reduceLT, Nat.reducePow, Nat.reduceMod]
            refine ⟨?_, ?_, ?_⟩
            all_goals
              refine CallW'.of [1000] [] (pick_ok L q2 [0, 20, 200, 1000000000] hq2 h1 (by simp)) (by simp (config := {maxSteps := 10000000}) only [go_sem, ↓reduceIte, reduceCtorEq, Nat.reduceAdd, Nat.reduceSub, Nat.reduceMul, Nat.reduceEqDiff, Nat.reduceBEq, Nat.reduceLeDiff, Nat.reduceLT, Nat.reducePow, Nat.reduceMod]; exact fun i hi => litF_map encI [0, 20, 200, 1000000000] i hi) ?_
              rintro _ _ ⟨⟨x7, rfl, _⟩, q3, hq3, rfl⟩
              simp (config := {maxSteps := 10000000}) only [go_sem, ↓reduceIte, reduceCtorEq, Nat.reduceAdd, Nat.reduceSub, Nat.reduceMul, Nat.reduceEqDiff, Nat.reduceBEq, Nat.reduceLeDiff, Nat.reduceLT, Nat.reducePow, Nat.reduceMod]
              exact ⟨⟨⟨v, [y], o, x6, _⟩, ⟨rfl, ⟨rfl, fun i hi => litF_map encI [y] i hi⟩, ⟨rfl, fun _ _ => rfl⟩, rfl, rfl⟩, ⟨by simp, by simp only; omega⟩⟩, q3, hq3, rfl⟩
          · exact ⟨⟨⟨v, [y], o, 0, 0⟩, ⟨rfl, ⟨rfl, fun i hi => litF_map encI [y] i hi⟩, ⟨rfl, fun _ _ => rfl⟩, rfl, rfl⟩, ⟨by simp, by simp only; omega⟩⟩, q1, hq1, rfl⟩
      · refine ite_intro (fun k4 => ?_) (fun k4 => ?_)
        · refine CallW'.of [1000] [] (range_ok L p1 1 3 hp1 h1 (by omega) (by omega)) (by simp (config := {maxSteps := 10000000}) only [go_sem, ↓reduceIte, reduceCtorEq, Nat.reduceAdd, Nat.reduceSub, Nat.reduceMul, Nat.reduceEqDiff, Nat.reduceBEq, Nat.reduceLeDiff, Nat.reduceLT, Nat.reducePow, Nat.reduceMod]) ?_
          rintro _ _ ⟨⟨z, rfl, z1, z2, z3⟩, p3, hp3, rfl⟩
          simp (config := {maxSteps := 10000000}) only [go_sem, ↓reduceIte, reduceCtorEq, Nat.reduceAdd, Nat.reduceSub, Nat.reduceMul, Nat.reduceEqDiff, Nat.reduceBEq, Nat.reduceLeDiff, Nat.reduceLT, Nat.reducePow, Nat.reduceMod]
          refine TC'.ent (Ent.virtB 5 1 71 1 (by simp (config := {maxSteps := 10000000}) only [go_sem, ↓reduceIte, reduceCtorEq, Nat.reduceAdd, Nat.reduceSub, Nat.reduceMul, Nat.reduceEqDiff, Nat.reduceBEq, Nat.reduceLeDiff, Nat.reduceLT, Nat.reducePow, Nat.reduceMod]; exact ⟨_, rfl, rfl⟩) (by simp (config := {maxSteps := 10000000}) only [go_sem, ↓reduceIte, reduceCtorEq, Nat.reduceAdd, Nat.reduceSub, Nat.reduceMul, Nat.reduceEqDiff, Nat.reduceBEq, Nat.reduceLeDiff, Nat.reduceLT, Nat.reducePow, Nat.reduceMod]) (by omega)) ?_
          refine TC'.loop [] (fun (x : Int × Int × List Int) => ⟨[(0, .ptr 1000 0), (1, int k), (4, .ptr 4 0), (5, .ptr 5 0), (8, int x.1)], [(1000, tapeB L x.2.1), (4, .box [int 0, .sc (.slice none 0 0), .sc (.slice none 0 0), int 0, int 0]), (5, .box [int v, .own 71 1 0 x.2.2.length false, .sc (.slice none 0 0), int 0, int 0]), (71, .arr 1 x.2.2.length (fun i => [int (x.2.2.getD i default)]) false)]⟩)
            (fun x => 0 ≤ x.1 ∧ 0 ≤ x.2.1 ∧ (x.2.2.length : Int) + x.1 = z) (fun x => x.1.toNat) (z, p3, []) mixed (by kernel_rfl) ?_ ?_ ?_
          · simp (config := {maxSteps := 10000000}) only [go_sem, ↓reduceIte, reduceCtorEq, Nat.reduceAdd, Nat.reduceSub, Nat.reduceMul, Nat.reduceEqDiff, Nat.reduceBEq, Nat.reduceLeDiff, Nat.reduceLT, Nat.reducePow, Nat.reduceMod]
            simp
          · exact ⟨by simp only; omega, hp3, by simp⟩
          intro ⟨i, q, o⟩ ⟨hi, hq, ho⟩
          simp only at hi hq ho
          simp (config := {maxSteps := 10000000}) only [go_sem, ↓reduceIte, reduceCtorEq, Nat.reduceAdd, Nat.reduceSub, Nat.reduceMul, Nat.reduceEqDiff, Nat.reduceBEq, Nat.reduceLeDiff, Nat.reduceLT, Nat.reducePow, Nat.reduceMod]
          refine ite_intro (fun hgt => ?_) (fun hgt => ?_)
          · refine TC'.draw [] (.q 0 (.q 2 (.q 3 (.e [(1, .e [(4, .e [(5, .e [(6, .q 7 (.e [(8, .done)]))])])]), (4, .e [(1, .e [(5, .e [(6, .q 7 (.e [(8, .done)]))])]), (5, .e [(1, .e [(6, .q 7 (.e [(8, .done)]))])])])])))) mixed (by kernel_rfl) (by kernel_rfl) ?_
            simp (config := {maxSteps := 10000000}) only [go_sem, ↓reduceIte, reduceCtorEq, Nat.reduceAdd, Nat.reduceSub, Nat.reduceMul, Nat.reduceEqDiff, Nat.reduceBEq, Nat.reduceLeDiff, Nat.reduceLT, Nat.reducePow, Nat.reduceMod]
            refine ⟨?_, ?_⟩
            all_goals
              refine CallW'.of [1000] [] (n_ok L q k hq h1 (by omega)) (by simp (config := {maxSteps := 10000000}) only [go_sem, ↓reduceIte, reduceCtorEq, Nat.reduceAdd, Nat.reduceSub, Nat.reduceMul, Nat.reduceEqDiff, Nat.reduceBEq, Nat.reduceLeDiff, Nat.reduceLT, Nat.reducePow, Nat.reduceMod]) ?_
              rintro _ _ ⟨⟨y, rfl, _⟩, p4, hp4, rfl⟩
              simp (config := {maxSteps := 10000000}) only [go_sem, ↓reduceIte, reduceCtorEq, Nat.reduceAdd, Nat.reduceSub, Nat.reduceMul, Nat.reduceEqDiff, Nat.reduceBEq, Nat.reduceLeDiff, Nat.reduceLT, Nat.reducePow, Nat.reduceMod]
            · exact ⟨by omega, (i - 1, p4, o ++ [y]), ⟨by simp only; omega, hp4, by simp only [List.length_append, List.length_singleton]; omega⟩, by simp only; omega, by rw [w64 (by omega) (by omega)], rfl, by simp, by simp, fun x hx => appF_snoc encI o y _ rfl x hx⟩
            · refine ⟨?_, ?_⟩
              all_goals
                exact ⟨by omega, (i - 1, p4, o ++ [y]), ⟨by simp only; omega, hp4, by simp only [List.length_append, List.length_singleton]; omega⟩, by simp only; omega, by rw [w64 (by omega) (by omega)], rfl, by simp, by simp, fun x hx => appF_snoc encI o y _ rfl x hx⟩
          · refine CallW'.of [1000] [] (order_ok L q o.length hq h1 (by omega)) (by simp (config := {maxSteps := 10000000}) only [go_sem, ↓reduceIte, reduceCtorEq, Nat.reduceAdd, Nat.reduceSub, Nat.reduceMul, Nat.reduceEqDiff, Nat.reduceBEq, Nat.reduceLeDiff, Nat.reduceLT, Nat.reducePow, Nat.reduceMod]) ?_
            rintro _ _ ⟨⟨c, rfl, c1, c2⟩, p4, hp4, rfl⟩
            simp (config := {maxSteps := 10000000}) only [go_sem, ↓reduceIte, reduceCtorEq, Nat.reduceAdd, Nat.reduceSub, Nat.reduceMul, Nat.reduceEqDiff, Nat.reduceBEq, Nat.reduceLeDiff, Nat.reduceLT, Nat.reducePow, Nat.reduceMod]
            refine TC'.draw [] (.q 0 (.q 2 (.q 3 (.e [(1, .e [(4, .q 5 (.e [(6, .e [(7, .q 8 (.e [(9, .done)]))])]))]), (4, .q 5 (.e [(1, .e [(6, .e [(7, .q 8 (.e [(9, .done)]))])]), (6, .e [(1, .e [(7, .q 8 (.e [(9, .done)]))])])]))])))) mixed (by kernel_rfl) (by kernel_rfl) ?_
            simp (config := {maxSteps := 10000000}) only [go_sem, ↓reduceIte, reduceCtorEq, Nat.reduceAdd, Nat.reduceSub, Nat.reduceMul, Nat.reduceEqDiff, Nat.reduceBEq, Nat.reduceLeDiff, Nat.reduceLT, Nat.reducePow, Nat.reduceMod]
            refine ⟨?_, ?_, ?_⟩
            all_goals
              refine CallW'.of [1000] [] (range_ok L p4 1 c.length hp4 h1 (by omega) (by omega)) (by simp (config := {maxSteps := 10000000}) only [go_sem, ↓reduceIte, reduceCtorEq, Nat.reduceAdd, Nat.reduceSub, Nat.reduceMul, Nat.reduceEqDiff, Nat.reduceBEq, Nat.reduceLeDiff, Nat.reduceLT, Nat.reducePow, Nat.reduceMod]) ?_
              rintro _ _ ⟨⟨x, rfl, x1, x2, x3⟩, p5, hp5, rfl⟩
              simp (config := {maxSteps := 10000000}) only [go_sem, ↓reduceIte, reduceCtorEq, Nat.reduceAdd, Nat.reduceSub, Nat.reduceMul, Nat.reduceEqDiff, Nat.reduceBEq, Nat.reduceLeDiff, Nat.reduceLT, Nat.reducePow, Nat.reduceMod]
              refine ⟨by omega, ?_⟩
              refine CallW'.of [1000] [] (n_ok L p5 5 hp5 h1 (by omega)) (by simp (config := {maxSteps := 10000000}) only [go_sem, ↓reduceIte, reduceCtorEq, Nat.reduceAdd, Nat.reduceSub, Nat.reduceMul, Nat.reduceEqDiff, Nat.reduceBEq, Nat.reduceLeDiff, Nat.reduceLT, Nat.reducePow, Nat.reduceMod]) ?_
              rintro _ _ ⟨⟨x5, rfl, _⟩, q1, hq1, rfl⟩
              simp (config := {maxSteps := 10000000}) only [go_sem, ↓reduceIte, reduceCtorEq, Nat.reduceAdd, Nat.reduceSub, Nat.reduceMul, Nat.reduceEqDiff, Nat.reduceBEq, Nat.reduceLeDiff, Nat.reduceLT, Nat.reducePow, Nat.reduceMod]
              refine ite_intro (fun hx5 => ?_) (fun hx5 => ?_)
              · refine CallW'.of [1000] [] (pick_ok L q1 [0, 1, 10, 100] hq1 h1 (by simp)) (by simp (config := {maxSteps := 10000000}) only [go_sem, ↓reduceIte, reduceCtorEq, Nat.reduceAdd, Nat.reduceSub, Nat.reduceMul, Nat.reduceEqDiff, Nat.reduceBEq, Nat.reduceLeDiff, Nat.reduceLT, Nat.reducePow, Nat.reduceMod]; exact fun i hi => litF_map encI [0, 1, 10, 100] i hi) ?_
                rintro _ _ ⟨⟨x6, rfl, _⟩, q2, hq2, rfl⟩
                simp (config := {maxSteps := 10000000}) only [go_sem, ↓reduceIte, reduceCtorEq, Nat.reduceAdd, Nat.reduceSub, Nat.reduceMul, Nat.reduceEqDiff, Nat.reduceBEq, Nat.reduceLeDiff, Nat.reduceLT, Nat.reducePow, Nat.reduceMod]
                refine TC'.draw [] (.q 0 (.q 2 (.e [(1, .e [(3, .e [(4, .e [(5, .e [(6, .e [(7, .done)])])])])]), (3, .e [(1, .e [(4, .e [(5, .e [(6, .e [(7, .done)])])])]), (4, .e [(1, .e [(5, .e [(6, .e [(7, .done)])])])])])]))) mixed (by kernel_rfl) (by kernel_rfl) ?_
                simp (config := {maxSteps := 10000000}) only [go_sem, ↓reduceIte, reduceCtorEq, Nat.reduceAdd, Nat.reduceSub, Nat.reduceMul, Nat.reduceEqDiff, Nat.reduceBEq, Nat.reduceLeDiff, Nat.reduceLT, Nat.reducePow, Nat.reduceMod]
                refine ⟨?_, ?_, ?_⟩
                all_goals
                  refine CallW'.of [1000] [] (pick_ok L q2 [0, 20, 200, 1000000000] hq2 h1 (by simp)) (by simp (config := {maxSteps := 10000000}) only [go_sem, ↓reduceIte, reduceCtorEq, Nat.reduceAdd, Nat.reduceSub, Nat.reduceMul, Nat.reduceEqDiff, Nat.reduceBEq, Nat.reduceLeDiff, Nat.reduceLT, Nat.reducePow, Nat.reduceMod]; exact fun i hi => litF_map encI [0, 20, 200, 1000000000] i hi) ?_
                  rintro _ _ ⟨⟨x7, rfl, _⟩, q3, hq3, rfl⟩
                  simp (config := {maxSteps := 10000000}) only [go_sem, ↓reduceIte, reduceCtorEq, Nat.reduceAdd, Nat.reduceSub, Nat.reduceMul, Nat.reduceEqDiff, Nat.reduceBEq, Nat.reduceLeDiff, Nat.reduceLT, Nat.reducePow, Nat.reduceMod]
                  exact ⟨⟨⟨v, o, c.take x.toNat, x6, _⟩, ⟨rfl, ⟨rfl, fun _ _ => rfl⟩, ⟨by simp; omega, fun i hi => by rw [getD_take (by omega)]⟩, rfl, rfl⟩, ⟨by simp only; omega, by simp; omega⟩⟩, q3, hq3, rfl⟩
              · exact ⟨⟨⟨v, o, c.take x.toNat, 0, 0⟩, ⟨rfl, ⟨rfl, fun _ _ => rfl⟩, ⟨by simp; omega, fun i hi => by rw [getD_take (by omega)]⟩, rfl, rfl⟩, ⟨by simp only; omega, by simp; omega⟩⟩, q1, hq1, rfl⟩
        · refine CallW'.of [1000] [] (n_ok L p1 k hp1 h1 (by omega)) (by simp (config := {maxSteps := 10000000}) only [go_sem, ↓reduceIte, reduceCtorEq, Nat.reduceAdd, Nat.reduceSub, Nat.reduceMul, Nat.reduceEqDiff, Nat.reduceBEq, Nat.reduceLeDiff, Nat.reduceLT, Nat.reducePow, Nat.reduceMod]) ?_
          rintro _ _ ⟨⟨y, rfl, _⟩, p2, hp2, rfl⟩
          simp (config := {maxSteps := 10000000}) only [go_sem, ↓reduceIte, reduceCtorEq, Nat.reduceAdd, Nat.reduceSub, Nat.reduceMul, Nat.reduceEqDiff, Nat.reduceBEq, Nat.reduceLeDiff, Nat.reduceLT, Nat.reducePow, Nat.reduceMod]
          refine CallW'.of [1000] [] (n_ok L p2 5 hp2 h1 (by omega)) (by simp (config := {maxSteps := 10000000}) only [go_sem, ↓reduceIte, reduceCtorEq, Nat.reduceAdd, Nat.reduceSub, Nat.reduceMul, Nat.reduceEqDiff, Nat.reduceBEq, Nat.reduceLeDiff, Nat.reduceLT, Nat.reducePow, Nat.reduceMod]) ?_
          rintro _ _ ⟨⟨x5, rfl, _⟩, q1, hq1, rfl⟩
          simp (config := {maxSteps := 10000000}) only [go_sem, ↓reduceIte, reduceCtorEq, Nat.reduceAdd, Nat.reduceSub, Nat.reduceMul, Nat.reduceEqDiff, Nat.reduceBEq, Nat.reduceLeDiff, Nat.reduceLT, Nat.reducePow, Nat.reduceMod]
          refine ite_intro (fun hx5 => ?_) (fun hx5 => ?_)
          · refine CallW'.of [1000] [] (pick_ok L q1 [0, 1, 10, 100] hq1 h1 (by simp)) (by simp (config := {maxSteps := 10000000}) only [go_sem, ↓reduceIte, reduceCtorEq, Nat.reduceAdd, Nat.reduceSub, Nat.reduceMul, Nat.reduceEqDiff, Nat.reduceBEq, Nat.reduceLeDiff, Nat.reduceLT, Nat.reducePow, Nat.reduceMod]; exact fun i hi => litF_map encI [0, 1, 10, 100] i hi) ?_
            rintro _ _ ⟨⟨x6, rfl, _⟩, q2, hq2, rfl⟩
            simp (config := {maxSteps := 10000000}) only [go_sem, ↓reduceIte, reduceCtorEq, Nat.reduceAdd, Nat.reduceSub, Nat.reduceMul, Nat.reduceEqDiff, Nat.reduceBEq, Nat.reduceLeDiff, Nat.reduceLT, Nat.reducePow, Nat.reduceMod]
            refine TC'.draw [] (.q 0 (.q 2 (.e [(1, .e [(3, .e [(4, .e [(5, .e [(6, .e [(7, .done)])])])])]), (3, .e [(1, .e [(4, .e [(5, .e [(6, .e [(7, .done)])])])]), (4, .e [(1, .e [(5, .e [(6, .e [(7, .done)])])])])])]))) mixed (by kernel_rfl) (by kernel_rfl) ?_
            simp (config := {maxSteps := 10000000}) only [go_sem, ↓reduceIte, reduceCtorEq, Nat.reduceAdd, Nat.reduceSub, Nat.reduceMul, Nat.reduceEqDiff, Nat.reduceBEq, Nat.reduceLeDiff, Nat.reduceLT, Nat.reducePow, Nat.reduceMod]
            refine ⟨?_, ?_, ?_⟩
            all_goals
              refine CallW'.of [1000] [] (pick_ok L q2 [0, 20, 200, 1000000000] hq2 h1 (by simp)) (by simp (config := {maxSteps := 10000000}) only [go_sem, ↓reduceIte, reduceCtorEq, Nat.reduceAdd, Nat.reduceSub, Nat.reduceMul, Nat.reduceEqDiff, Nat.reduceBEq, Nat.reduceLeDiff, Nat.reduceLT, Nat.reducePow, Nat.reduceMod]; exact fun i hi => litF_map encI [0, 20, 200, 1000000000] i hi) ?_
              rintro _ _ ⟨⟨x7, rfl, _⟩, q3, hq3, rfl⟩
              simp (config := {maxSteps := 10000000}) only [go_sem, ↓reduceIte, reduceCtorEq, Nat.reduceAdd, Nat.reduceSub, Nat.reduceMul, Nat.reduceEqDiff, Nat.reduceBEq, Nat.reduceLeDiff, Nat.reduceLT, Nat.reducePow, Nat.reduceMod]
              exact ⟨⟨⟨v, [y], [0, 1], x6, _⟩, ⟨rfl, ⟨rfl, fun i hi => litF_map encI [y] i hi⟩, ⟨rfl, fun i hi => litF_map encI [0, 1] i hi⟩, rfl, rfl⟩, ⟨by simp, by simp⟩⟩, q3, hq3, rfl⟩
          · exact ⟨⟨⟨v, [y], [0, 1], 0, 0⟩, ⟨rfl, ⟨rfl, fun i hi => litF_map encI [y] i hi⟩, ⟨rfl, fun i hi => litF_map encI [0, 1] i hi⟩, rfl, rfl⟩, ⟨by simp, by simp⟩⟩, q1, hq1, rfl⟩
end Go.Am.Cl
