/-
  ClockAnswers: clocks in which one thing is changed, where a nested row is appended to (parents).
-/
import Derived.Test.YtjmomolnhplokaaDoorAmClBent
namespace Go.Am.Cl
open Go Go.Am Go.Proofs
set_option maxRecDepth 100000
set_option linter.unusedSimpArgs false
set_option linter.unusedVariables false
set_option maxHeartbeats 4000000
variable {G : Gl}
/-- what is put in the place of the row's slice: its own name -/
def fL1 (l : List Clock) (K : Nat) (A : Option Addr) (c : Nat) : Nat → List AV := updF (fun r => encC (l.getD r default)) K [int (l.getD K default).kind, .sc (.slice A (l.getD K default).par.length c), .fz true false 1 (l.getD K default).cho.length (fun r => encI ((l.getD K default).cho.getD r default)), int (l.getD K default).low, int (l.getD K default).high]
def I1 (L : List Int) (p : Int) (l : List Clock) (K : Nat) : Nat ⊕ (Nat × Option Addr × Nat) → St
  | .inl i => ⟨[(0, .ptr 1000 0), (5, .own 28 5 0 i false), (9, sl false 5 encC l), (10, int l.length), (11, int i)], [(1000, tapeB L p), (28, .arr 5 i (fun r => encC (l.getD r default)) false)]⟩
  | .inr (i, A, c) => ⟨[(0, .ptr 1000 0), (5, .own 28 5 0 i false), (9, sl false 5 encC l), (10, int l.length), (11, int i)], [(1000, tapeB L p), (28, .arr 5 i (fL1 l K A c) false), (100015, .arr 1 (l.getD K default).par.length (fun r => encI ((l.getD K default).par.getD r default)) false), (200001, .lnk (.slice A (l.getD K default).par.length c) (.own 100015 1 0 (l.getD K default).par.length false))]⟩
def R1 (l : List Clock) (K : Nat) : Nat ⊕ (Nat × Option Addr × Nat) → Prop
  | .inl i => i ≤ K
  | .inr (i, _, _) => K < i ∧ i ≤ l.length
def m1 (l : List Clock) : Nat ⊕ (Nat × Option Addr × Nat) → Nat
  | .inl i => l.length - i
  | .inr (i, _, _) => l.length - i
theorem fL1_at {l : List Clock} {K : Nat} {A : Option Addr} {c : Nat} : fL1 l K A c K = [int (l.getD K default).kind, .sc (.slice A (l.getD K default).par.length c), .fz true false 1 (l.getD K default).cho.length (fun r => encI ((l.getD K default).cho.getD r default)), int (l.getD K default).low, int (l.getD K default).high] := updF_same _ _ _
theorem fL1_ne {l : List Clock} {K r : Nat} {A : Option Addr} {c : Nat} (h : r ≠ K) : fL1 l K A c r = encC (l.getD r default) := by
  unfold fL1 updF
  rw [if_neg h]
theorem fL1_set {l : List Clock} {K : Nat} {A : Option Addr} {c : Nat} (c' : AV) : updF (fL1 l K A c) K ((fL1 l K A c K).set 1 c') = updF (fun r => encC (l.getD r default)) K [int (l.getD K default).kind, c', .fz true false 1 (l.getD K default).cho.length (fun r => encI ((l.getD K default).cho.getD r default)), int (l.getD K default).low, int (l.getD K default).high] := by
  rw [fL1_at]
  funext r
  unfold fL1 updF
  split
  · rfl
  · rfl
theorem bent1_ok (L : List Int) (p : Int) (l : List Clock) (h0 : 0 ≤ p) (h1 : (L.length : Int) ≤ 500) (hl : 1 ≤ l.length) (hc : checkF l = 0) (hT : modF (rawF L (rawF L p).2).1 7 = 1) : Ok Tryd.prog G 12 [.ptr 1000 0, sl false 5 encC l] [(1000, tapeB L p)] (BentQ L) := by
  obtain ⟨hl16, hv, hb⟩ := checkF_zero hc
  have hb' : ∀ i, i < l.length → (l.getD i default).par.length ≤ 8 ∧ (l.getD i default).cho.length ≤ 8 := fun i hi => hb _ (getD_mem (d := default) hi)
  refine Ok.intro' [1000] [] [] 109 [.tmp 4] mixed Tryd.func12 (by kernel_rfl) rfl rfl rfl (by kernel_rfl) (by simp) (fun id b h => by simp only [lk] at h; (repeat' split at h) <;> simp_all) (by simp) ?_
  simp (config := {maxSteps := 10000000}) only [go_sem, ↓reduceIte, reduceCtorEq, Nat.reduceAdd, Nat.reduceSub, Nat.reduceMul, Nat.reduceEqDiff, Nat.reduceBEq, Nat.reduceLeDiff, Nat.reduceLT, Nat.reducePow, Nat.reduceMod]
  refine TC'.ent (Ent.virt 5 28 5 rfl rfl) ?_
  simp (config := {maxSteps := 10000000}) only [go_sem, ↓reduceIte, reduceCtorEq, Nat.reduceAdd, Nat.reduceSub, Nat.reduceMul, Nat.reduceEqDiff, Nat.reduceBEq, Nat.reduceLeDiff, Nat.reduceLT, Nat.reducePow, Nat.reduceMod]
  have hK := modF_lt (x := (rawF L p).1) (n := l.length) (by omega)
  obtain ⟨K, hKn⟩ : ∃ K : Nat, modF (rawF L p).1 l.length = K := ⟨(modF (rawF L p).1 l.length).toNat, by omega⟩
  rw [hKn] at hK
  have hp1 := rawF_pos (L := L) h0
  generalize hp1e : (rawF L p).2 = p1 at hp1 hT
  have hp2 := rawF_pos (L := L) hp1
  have hKl : K < l.length := by omega
  have hbK := hb' _ hKl
  refine TC'.loop [] (I1 L p l K) (R1 l K) (m1 l) (.inl 0) mixed (by kernel_rfl) ?_ ?_ ?_
  · simp (config := {maxSteps := 10000000}) only [go_sem, ↓reduceIte, reduceCtorEq, Nat.reduceAdd, Nat.reduceSub, Nat.reduceMul, Nat.reduceEqDiff, Nat.reduceBEq, Nat.reduceLeDiff, Nat.reduceLT, Nat.reducePow, Nat.reduceMod, I1]
    simp
  · exact Nat.zero_le _
  rintro (i | ⟨i, A, c⟩) hR
  · have hi : i ≤ K := hR
    have hlt : i < l.length := by omega
    have hbi := hb' i hlt
    simp (config := {maxSteps := 10000000}) only [go_sem, ↓reduceIte, reduceCtorEq, Nat.reduceAdd, Nat.reduceSub, Nat.reduceMul, Nat.reduceEqDiff, Nat.reduceBEq, Nat.reduceLeDiff, Nat.reduceLT, Nat.reducePow, Nat.reduceMod, I1]
    refine (if_pos (by omega)).mpr ?_
    refine ⟨by omega, ?_⟩
    by_cases hiK : i = K
    · refine TC'.drawTo [] (.q 1 (.q 5 (.e [(0, .e [(2, .e [(3, .e [(4, .e [(6, .q 8 (.e [(7, .e [(9, .q 10 (.e [(11, .done)]))])]))]), (6, .q 8 (.e [(4, .e [(7, .e [(9, .q 10 (.e [(11, .done)]))])])]))]), (4, .e [(3, .e [(6, .q 8 (.e [(7, .e [(9, .q 10 (.e [(11, .done)]))])]))]), (6, .e [(3, .q 8 (.e [(7, .e [(9, .q 10 (.e [(11, .done)]))])]))])]), (6, .e [(3, .q 8 (.e [(4, .e [(7, .e [(9, .q 10 (.e [(11, .done)]))])])])), (4, .e [(3, .q 8 (.e [(7, .e [(9, .q 10 (.e [(11, .done)]))])]))])])]), (4, .e [(2, .e [(3, .e [(6, .q 8 (.e [(7, .e [(9, .q 10 (.e [(11, .done)]))])]))]), (6, .e [(3, .q 8 (.e [(7, .e [(9, .q 10 (.e [(11, .done)]))])]))])]), (6, .e [(2, .e [(3, .q 8 (.e [(7, .e [(9, .q 10 (.e [(11, .done)]))])]))])])]), (6, .e [(2, .e [(3, .q 8 (.e [(4, .e [(7, .e [(9, .q 10 (.e [(11, .done)]))])])])), (4, .e [(3, .q 8 (.e [(7, .e [(9, .q 10 (.e [(11, .done)]))])]))])]), (4, .e [(2, .e [(3, .q 8 (.e [(7, .e [(9, .q 10 (.e [(11, .done)]))])]))])])])]), (2, .e [(0, .e [(3, .e [(4, .e [(6, .q 8 (.e [(7, .e [(9, .q 10 (.e [(11, .done)]))])]))]), (6, .q 8 (.e [(4, .e [(7, .e [(9, .q 10 (.e [(11, .done)]))])])]))]), (4, .e [(3, .e [(6, .q 8 (.e [(7, .e [(9, .q 10 (.e [(11, .done)]))])]))]), (6, .e [(3, .q 8 (.e [(7, .e [(9, .q 10 (.e [(11, .done)]))])]))])]), (6, .e [(3, .q 8 (.e [(4, .e [(7, .e [(9, .q 10 (.e [(11, .done)]))])])])), (4, .e [(3, .q 8 (.e [(7, .e [(9, .q 10 (.e [(11, .done)]))])]))])])]), (4, .e [(0, .e [(3, .e [(6, .q 8 (.e [(7, .e [(9, .q 10 (.e [(11, .done)]))])]))]), (6, .e [(3, .q 8 (.e [(7, .e [(9, .q 10 (.e [(11, .done)]))])]))])]), (6, .e [(0, .e [(3, .q 8 (.e [(7, .e [(9, .q 10 (.e [(11, .done)]))])]))])])]), (6, .e [(0, .e [(3, .q 8 (.e [(4, .e [(7, .e [(9, .q 10 (.e [(11, .done)]))])])])), (4, .e [(3, .q 8 (.e [(7, .e [(9, .q 10 (.e [(11, .done)]))])]))])]), (4, .e [(0, .e [(3, .q 8 (.e [(7, .e [(9, .q 10 (.e [(11, .done)]))])]))])])])]), (4, .e [(0, .e [(2, .e [(3, .e [(6, .q 8 (.e [(7, .e [(9, .q 10 (.e [(11, .done)]))])]))]), (6, .e [(3, .q 8 (.e [(7, .e [(9, .q 10 (.e [(11, .done)]))])]))])]), (6, .e [(2, .e [(3, .q 8 (.e [(7, .e [(9, .q 10 (.e [(11, .done)]))])]))])])]), (2, .e [(0, .e [(3, .e [(6, .q 8 (.e [(7, .e [(9, .q 10 (.e [(11, .done)]))])]))]), (6, .e [(3, .q 8 (.e [(7, .e [(9, .q 10 (.e [(11, .done)]))])]))])]), (6, .e [(0, .e [(3, .q 8 (.e [(7, .e [(9, .q 10 (.e [(11, .done)]))])]))])])]), (6, .e [(0, .e [(2, .e [(3, .q 8 (.e [(7, .e [(9, .q 10 (.e [(11, .done)]))])]))])]), (2, .e [(0, .e [(3, .q 8 (.e [(7, .e [(9, .q 10 (.e [(11, .done)]))])]))])])])]), (6, .e [(0, .e [(2, .e [(3, .q 8 (.e [(4, .e [(7, .e [(9, .q 10 (.e [(11, .done)]))])])])), (4, .e [(3, .q 8 (.e [(7, .e [(9, .q 10 (.e [(11, .done)]))])]))])]), (4, .e [(2, .e [(3, .q 8 (.e [(7, .e [(9, .q 10 (.e [(11, .done)]))])]))])])]), (2, .e [(0, .e [(3, .q 8 (.e [(4, .e [(7, .e [(9, .q 10 (.e [(11, .done)]))])])])), (4, .e [(3, .q 8 (.e [(7, .e [(9, .q 10 (.e [(11, .done)]))])]))])]), (4, .e [(0, .e [(3, .q 8 (.e [(7, .e [(9, .q 10 (.e [(11, .done)]))])]))])])]), (4, .e [(0, .e [(2, .e [(3, .q 8 (.e [(7, .e [(9, .q 10 (.e [(11, .done)]))])]))])]), (2, .e [(0, .e [(3, .q 8 (.e [(7, .e [(9, .q 10 (.e [(11, .done)]))])]))])])])])]))) ⟨[(0, .ptr 1000 0), (5, .own 28 5 0 i false), (7, .ptr 7 0), (9, sl false 5 encC l), (10, int l.length), (11, int i)], [(1000, tapeB L p), (28, .arr 5 i (fun r => encC (l.getD r default)) false),
      (7, .box [int (l.getD i default).kind, .own 15 1 0 (l.getD i default).par.length false, .own 19 1 0 (l.getD i default).cho.length false, int (l.getD i default).low, int (l.getD i default).high]),
      (15, .arr 1 (l.getD i default).par.length (fun r => encI ((l.getD i default).par.getD r default)) false), (19, .arr 1 (l.getD i default).cho.length (fun r => encI ((l.getD i default).cho.getD r default)) false)]⟩ mixed (by kernel_rfl) (by kernel_rfl) ?_ (Sem.ent (Ent.sw 15 100015 rfl rfl) ?_)
      · simp (config := {maxSteps := 10000000}) only [go_sem, ↓reduceIte, reduceCtorEq, Nat.reduceAdd, Nat.reduceSub, Nat.reduceMul, Nat.reduceEqDiff, Nat.reduceBEq, Nat.reduceLeDiff, Nat.reduceLT, Nat.reducePow, Nat.reduceMod]
        have q1 : (l.getD i default).par.length * 8 ≤ 140737488355328 := by omega
        have q2 : (l.getD i default).par.length ≤ 140737488355328 := by omega
        have q3 : (l.getD i default).cho.length * 8 ≤ 140737488355328 := by omega
        have q4 : (l.getD i default).cho.length ≤ 140737488355328 := by omega
        simp only [q1, q2, q3, q4, and_self]
      simp (config := {maxSteps := 10000000}) only [go_sem, ↓reduceIte, reduceCtorEq, Nat.reduceAdd, Nat.reduceSub, Nat.reduceMul, Nat.reduceEqDiff, Nat.reduceBEq, Nat.reduceLeDiff, Nat.reduceLT, Nat.reducePow, Nat.reduceMod]
      refine Sem.link 7 1 200001 rfl rfl rfl (by omega) fun A c => ?_
      simp (config := {maxSteps := 10000000}) only [go_sem, ↓reduceIte, reduceCtorEq, Nat.reduceAdd, Nat.reduceSub, Nat.reduceMul, Nat.reduceEqDiff, Nat.reduceBEq, Nat.reduceLeDiff, Nat.reduceLT, Nat.reducePow, Nat.reduceMod]
      refine Sem.done ?_
      simp (config := {maxSteps := 10000000}) only [go_sem, ↓reduceIte, reduceCtorEq, Nat.reduceAdd, Nat.reduceSub, Nat.reduceMul, Nat.reduceEqDiff, Nat.reduceBEq, Nat.reduceLeDiff, Nat.reduceLT, Nat.reducePow, Nat.reduceMod]
      subst hiK
      refine ⟨by omega, .inr (i + 1, A, c), ?_, ?_, ?_⟩
      · simp only [R1]; omega
      · simp only [m1]; omega
      simp (config := {maxSteps := 10000000}) only [go_sem, ↓reduceIte, reduceCtorEq, Nat.reduceAdd, Nat.reduceSub, Nat.reduceMul, Nat.reduceEqDiff, Nat.reduceBEq, Nat.reduceLeDiff, Nat.reduceLT, Nat.reducePow, Nat.reduceMod, I1]
      refine ⟨by rw [w64 (by omega) (by omega)]; simp, fun r hr => ?_⟩
      unfold appF
      by_cases e : r < i
      · rw [if_pos e, fL1_ne (by omega)]; rfl
      · obtain rfl : r = i := by omega
        rw [if_neg e, fL1_at, Nat.sub_self]; rfl
    · refine TC'.drawTo [] (.q 1 (.q 5 (.e [(0, .e [(2, .e [(3, .e [(4, .e [(6, .q 8 (.e [(7, .e [(9, .q 10 (.e [(11, .done)]))])]))]), (6, .q 8 (.e [(4, .e [(7, .e [(9, .q 10 (.e [(11, .done)]))])])]))]), (4, .e [(3, .e [(6, .q 8 (.e [(7, .e [(9, .q 10 (.e [(11, .done)]))])]))]), (6, .e [(3, .q 8 (.e [(7, .e [(9, .q 10 (.e [(11, .done)]))])]))])]), (6, .e [(3, .q 8 (.e [(4, .e [(7, .e [(9, .q 10 (.e [(11, .done)]))])])])), (4, .e [(3, .q 8 (.e [(7, .e [(9, .q 10 (.e [(11, .done)]))])]))])])]), (4, .e [(2, .e [(3, .e [(6, .q 8 (.e [(7, .e [(9, .q 10 (.e [(11, .done)]))])]))]), (6, .e [(3, .q 8 (.e [(7, .e [(9, .q 10 (.e [(11, .done)]))])]))])]), (6, .e [(2, .e [(3, .q 8 (.e [(7, .e [(9, .q 10 (.e [(11, .done)]))])]))])])]), (6, .e [(2, .e [(3, .q 8 (.e [(4, .e [(7, .e [(9, .q 10 (.e [(11, .done)]))])])])), (4, .e [(3, .q 8 (.e [(7, .e [(9, .q 10 (.e [(11, .done)]))])]))])]), (4, .e [(2, .e [(3, .q 8 (.e [(7, .e [(9, .q 10 (.e [(11, .done)]))])]))])])])]), (2, .e [(0, .e [(3, .e [(4, .e [(6, .q 8 (.e [(7, .e [(9, .q 10 (.e [(11, .done)]))])]))]), (6, .q 8 (.e [(4, .e [(7, .e [(9, .q 10 (.e [(11, .done)]))])])]))]), (4, .e [(3, .e [(6, .q 8 (.e [(7, .e [(9, .q 10 (.e [(11, .done)]))])]))]), (6, .e [(3, .q 8 (.e [(7, .e [(9, .q 10 (.e [(11, .done)]))])]))])]), (6, .e [(3, .q 8 (.e [(4, .e [(7, .e [(9, .q 10 (.e [(11, .done)]))])])])), (4, .e [(3, .q 8 (.e [(7, .e [(9, .q 10 (.e [(11, .done)]))])]))])])]), (4, .e [(0, .e [(3, .e [(6, .q 8 (.e [(7, .e [(9, .q 10 (.e [(11, .done)]))])]))]), (6, .e [(3, .q 8 (.e [(7, .e [(9, .q 10 (.e [(11, .done)]))])]))])]), (6, .e [(0, .e [(3, .q 8 (.e [(7, .e [(9, .q 10 (.e [(11, .done)]))])]))])])]), (6, .e [(0, .e [(3, .q 8 (.e [(4, .e [(7, .e [(9, .q 10 (.e [(11, .done)]))])])])), (4, .e [(3, .q 8 (.e [(7, .e [(9, .q 10 (.e [(11, .done)]))])]))])]), (4, .e [(0, .e [(3, .q 8 (.e [(7, .e [(9, .q 10 (.e [(11, .done)]))])]))])])])]), (4, .e [(0, .e [(2, .e [(3, .e [(6, .q 8 (.e [(7, .e [(9, .q 10 (.e [(11, .done)]))])]))]), (6, .e [(3, .q 8 (.e [(7, .e [(9, .q 10 (.e [(11, .done)]))])]))])]), (6, .e [(2, .e [(3, .q 8 (.e [(7, .e [(9, .q 10 (.e [(11, .done)]))])]))])])]), (2, .e [(0, .e [(3, .e [(6, .q 8 (.e [(7, .e [(9, .q 10 (.e [(11, .done)]))])]))]), (6, .e [(3, .q 8 (.e [(7, .e [(9, .q 10 (.e [(11, .done)]))])]))])]), (6, .e [(0, .e [(3, .q 8 (.e [(7, .e [(9, .q 10 (.e [(11, .done)]))])]))])])]), (6, .e [(0, .e [(2, .e [(3, .q 8 (.e [(7, .e [(9, .q 10 (.e [(11, .done)]))])]))])]), (2, .e [(0, .e [(3, .q 8 (.e [(7, .e [(9, .q 10 (.e [(11, .done)]))])]))])])])]), (6, .e [(0, .e [(2, .e [(3, .q 8 (.e [(4, .e [(7, .e [(9, .q 10 (.e [(11, .done)]))])])])), (4, .e [(3, .q 8 (.e [(7, .e [(9, .q 10 (.e [(11, .done)]))])]))])]), (4, .e [(2, .e [(3, .q 8 (.e [(7, .e [(9, .q 10 (.e [(11, .done)]))])]))])])]), (2, .e [(0, .e [(3, .q 8 (.e [(4, .e [(7, .e [(9, .q 10 (.e [(11, .done)]))])])])), (4, .e [(3, .q 8 (.e [(7, .e [(9, .q 10 (.e [(11, .done)]))])]))])]), (4, .e [(0, .e [(3, .q 8 (.e [(7, .e [(9, .q 10 (.e [(11, .done)]))])]))])])]), (4, .e [(0, .e [(2, .e [(3, .q 8 (.e [(7, .e [(9, .q 10 (.e [(11, .done)]))])]))])]), (2, .e [(0, .e [(3, .q 8 (.e [(7, .e [(9, .q 10 (.e [(11, .done)]))])]))])])])])]))) ⟨[(0, .ptr 1000 0), (5, .own 28 5 0 i false), (7, .ptr 7 0), (9, sl false 5 encC l), (10, int l.length), (11, int i)], [(1000, tapeB L p), (28, .arr 5 i (fun r => encC (l.getD r default)) false),
      (7, .box [int (l.getD i default).kind, .own 15 1 0 (l.getD i default).par.length false, .own 19 1 0 (l.getD i default).cho.length false, int (l.getD i default).low, int (l.getD i default).high]),
      (15, .arr 1 (l.getD i default).par.length (fun r => encI ((l.getD i default).par.getD r default)) false), (19, .arr 1 (l.getD i default).cho.length (fun r => encI ((l.getD i default).cho.getD r default)) false)]⟩ mixed (by kernel_rfl) (by kernel_rfl) ?_ (Sem.done ?_)
      · simp (config := {maxSteps := 10000000}) only [go_sem, ↓reduceIte, reduceCtorEq, Nat.reduceAdd, Nat.reduceSub, Nat.reduceMul, Nat.reduceEqDiff, Nat.reduceBEq, Nat.reduceLeDiff, Nat.reduceLT, Nat.reducePow, Nat.reduceMod]
        have q1 : (l.getD i default).par.length * 8 ≤ 140737488355328 := by omega
        have q2 : (l.getD i default).par.length ≤ 140737488355328 := by omega
        have q3 : (l.getD i default).cho.length * 8 ≤ 140737488355328 := by omega
        have q4 : (l.getD i default).cho.length ≤ 140737488355328 := by omega
        simp only [q1, q2, q3, q4, and_self]
      simp (config := {maxSteps := 10000000}) only [go_sem, ↓reduceIte, reduceCtorEq, Nat.reduceAdd, Nat.reduceSub, Nat.reduceMul, Nat.reduceEqDiff, Nat.reduceBEq, Nat.reduceLeDiff, Nat.reduceLT, Nat.reducePow, Nat.reduceMod]
      refine ⟨by omega, .inl (i + 1), ?_, ?_, ?_⟩
      · simp only [R1]; omega
      · simp only [m1]; omega
      simp (config := {maxSteps := 10000000}) only [go_sem, ↓reduceIte, reduceCtorEq, Nat.reduceAdd, Nat.reduceSub, Nat.reduceMul, Nat.reduceEqDiff, Nat.reduceBEq, Nat.reduceLeDiff, Nat.reduceLT, Nat.reducePow, Nat.reduceMod, I1]
      exact ⟨by rw [w64 (by omega) (by omega)]; simp, fun r hr => appF_fix (f := fun r => encC (l.getD r default)) rfl r hr⟩
  · obtain ⟨hi, hle⟩ : K < i ∧ i ≤ l.length := hR
    simp (config := {maxSteps := 10000000}) only [go_sem, ↓reduceIte, reduceCtorEq, Nat.reduceAdd, Nat.reduceSub, Nat.reduceMul, Nat.reduceEqDiff, Nat.reduceBEq, Nat.reduceLeDiff, Nat.reduceLT, Nat.reducePow, Nat.reduceMod, I1]
    refine ite_intro (fun hgt => ?_) (fun hgt => ?_)
    · have hlt : i < l.length := by omega
      have hbi := hb' i hlt
      refine ⟨by omega, ?_⟩
      refine TC'.drawTo [] (.q 1 (.q 5 (.e [(0, .e [(2, .e [(3, .e [(4, .e [(6, .q 8 (.e [(7, .e [(9, .q 10 (.e [(11, .done)]))])]))]), (6, .q 8 (.e [(4, .e [(7, .e [(9, .q 10 (.e [(11, .done)]))])])]))]), (4, .e [(3, .e [(6, .q 8 (.e [(7, .e [(9, .q 10 (.e [(11, .done)]))])]))]), (6, .e [(3, .q 8 (.e [(7, .e [(9, .q 10 (.e [(11, .done)]))])]))])]), (6, .e [(3, .q 8 (.e [(4, .e [(7, .e [(9, .q 10 (.e [(11, .done)]))])])])), (4, .e [(3, .q 8 (.e [(7, .e [(9, .q 10 (.e [(11, .done)]))])]))])])]), (4, .e [(2, .e [(3, .e [(6, .q 8 (.e [(7, .e [(9, .q 10 (.e [(11, .done)]))])]))]), (6, .e [(3, .q 8 (.e [(7, .e [(9, .q 10 (.e [(11, .done)]))])]))])]), (6, .e [(2, .e [(3, .q 8 (.e [(7, .e [(9, .q 10 (.e [(11, .done)]))])]))])])]), (6, .e [(2, .e [(3, .q 8 (.e [(4, .e [(7, .e [(9, .q 10 (.e [(11, .done)]))])])])), (4, .e [(3, .q 8 (.e [(7, .e [(9, .q 10 (.e [(11, .done)]))])]))])]), (4, .e [(2, .e [(3, .q 8 (.e [(7, .e [(9, .q 10 (.e [(11, .done)]))])]))])])])]), (2, .e [(0, .e [(3, .e [(4, .e [(6, .q 8 (.e [(7, .e [(9, .q 10 (.e [(11, .done)]))])]))]), (6, .q 8 (.e [(4, .e [(7, .e [(9, .q 10 (.e [(11, .done)]))])])]))]), (4, .e [(3, .e [(6, .q 8 (.e [(7, .e [(9, .q 10 (.e [(11, .done)]))])]))]), (6, .e [(3, .q 8 (.e [(7, .e [(9, .q 10 (.e [(11, .done)]))])]))])]), (6, .e [(3, .q 8 (.e [(4, .e [(7, .e [(9, .q 10 (.e [(11, .done)]))])])])), (4, .e [(3, .q 8 (.e [(7, .e [(9, .q 10 (.e [(11, .done)]))])]))])])]), (4, .e [(0, .e [(3, .e [(6, .q 8 (.e [(7, .e [(9, .q 10 (.e [(11, .done)]))])]))]), (6, .e [(3, .q 8 (.e [(7, .e [(9, .q 10 (.e [(11, .done)]))])]))])]), (6, .e [(0, .e [(3, .q 8 (.e [(7, .e [(9, .q 10 (.e [(11, .done)]))])]))])])]), (6, .e [(0, .e [(3, .q 8 (.e [(4, .e [(7, .e [(9, .q 10 (.e [(11, .done)]))])])])), (4, .e [(3, .q 8 (.e [(7, .e [(9, .q 10 (.e [(11, .done)]))])]))])]), (4, .e [(0, .e [(3, .q 8 (.e [(7, .e [(9, .q 10 (.e [(11, .done)]))])]))])])])]), (4, .e [(0, .e [(2, .e [(3, .e [(6, .q 8 (.e [(7, .e [(9, .q 10 (.e [(11, .done)]))])]))]), (6, .e [(3, .q 8 (.e [(7, .e [(9, .q 10 (.e [(11, .done)]))])]))])]), (6, .e [(2, .e [(3, .q 8 (.e [(7, .e [(9, .q 10 (.e [(11, .done)]))])]))])])]), (2, .e [(0, .e [(3, .e [(6, .q 8 (.e [(7, .e [(9, .q 10 (.e [(11, .done)]))])]))]), (6, .e [(3, .q 8 (.e [(7, .e [(9, .q 10 (.e [(11, .done)]))])]))])]), (6, .e [(0, .e [(3, .q 8 (.e [(7, .e [(9, .q 10 (.e [(11, .done)]))])]))])])]), (6, .e [(0, .e [(2, .e [(3, .q 8 (.e [(7, .e [(9, .q 10 (.e [(11, .done)]))])]))])]), (2, .e [(0, .e [(3, .q 8 (.e [(7, .e [(9, .q 10 (.e [(11, .done)]))])]))])])])]), (6, .e [(0, .e [(2, .e [(3, .q 8 (.e [(4, .e [(7, .e [(9, .q 10 (.e [(11, .done)]))])])])), (4, .e [(3, .q 8 (.e [(7, .e [(9, .q 10 (.e [(11, .done)]))])]))])]), (4, .e [(2, .e [(3, .q 8 (.e [(7, .e [(9, .q 10 (.e [(11, .done)]))])]))])])]), (2, .e [(0, .e [(3, .q 8 (.e [(4, .e [(7, .e [(9, .q 10 (.e [(11, .done)]))])])])), (4, .e [(3, .q 8 (.e [(7, .e [(9, .q 10 (.e [(11, .done)]))])]))])]), (4, .e [(0, .e [(3, .q 8 (.e [(7, .e [(9, .q 10 (.e [(11, .done)]))])]))])])]), (4, .e [(0, .e [(2, .e [(3, .q 8 (.e [(7, .e [(9, .q 10 (.e [(11, .done)]))])]))])]), (2, .e [(0, .e [(3, .q 8 (.e [(7, .e [(9, .q 10 (.e [(11, .done)]))])]))])])])])]))) ⟨[(0, .ptr 1000 0), (5, .own 28 5 0 i false), (7, .ptr 7 0), (9, sl false 5 encC l), (10, int l.length), (11, int i)], [(1000, tapeB L p), (28, .arr 5 i (fL1 l K A c) false),
      (7, .box [int (l.getD i default).kind, .own 15 1 0 (l.getD i default).par.length false, .own 19 1 0 (l.getD i default).cho.length false, int (l.getD i default).low, int (l.getD i default).high]),
      (15, .arr 1 (l.getD i default).par.length (fun r => encI ((l.getD i default).par.getD r default)) false), (19, .arr 1 (l.getD i default).cho.length (fun r => encI ((l.getD i default).cho.getD r default)) false), (100015, .arr 1 (l.getD K default).par.length (fun r => encI ((l.getD K default).par.getD r default)) false), (200001, .lnk (.slice A (l.getD K default).par.length c) (.own 100015 1 0 (l.getD K default).par.length false))]⟩ mixed (by kernel_rfl) (by kernel_rfl) ?_ (Sem.done ?_)
      · simp (config := {maxSteps := 10000000}) only [go_sem, ↓reduceIte, reduceCtorEq, Nat.reduceAdd, Nat.reduceSub, Nat.reduceMul, Nat.reduceEqDiff, Nat.reduceBEq, Nat.reduceLeDiff, Nat.reduceLT, Nat.reducePow, Nat.reduceMod]
        have q1 : (l.getD i default).par.length * 8 ≤ 140737488355328 := by omega
        have q2 : (l.getD i default).par.length ≤ 140737488355328 := by omega
        have q3 : (l.getD i default).cho.length * 8 ≤ 140737488355328 := by omega
        have q4 : (l.getD i default).cho.length ≤ 140737488355328 := by omega
        simp only [q1, q2, q3, q4, and_self]
      simp (config := {maxSteps := 10000000}) only [go_sem, ↓reduceIte, reduceCtorEq, Nat.reduceAdd, Nat.reduceSub, Nat.reduceMul, Nat.reduceEqDiff, Nat.reduceBEq, Nat.reduceLeDiff, Nat.reduceLT, Nat.reducePow, Nat.reduceMod]
      refine ⟨by omega, .inr (i + 1, A, c), ?_, ?_, ?_⟩
      · simp only [R1]; omega
      · simp only [m1]; omega
      simp (config := {maxSteps := 10000000}) only [go_sem, ↓reduceIte, reduceCtorEq, Nat.reduceAdd, Nat.reduceSub, Nat.reduceMul, Nat.reduceEqDiff, Nat.reduceBEq, Nat.reduceLeDiff, Nat.reduceLT, Nat.reducePow, Nat.reduceMod, I1]
      exact ⟨by rw [w64 (by omega) (by omega)]; simp, fun r hr => appF_fix (f := fL1 l K A c) (by rw [fL1_ne (by omega)]; rfl) r hr⟩
    · obtain rfl : i = l.length := by omega
      refine CallW'.of [1000] [] (nE_ok L p l.length h0 h1 (by omega)) (by simp (config := {maxSteps := 10000000}) only [go_sem, ↓reduceIte, reduceCtorEq, Nat.reduceAdd, Nat.reduceSub, Nat.reduceMul, Nat.reduceEqDiff, Nat.reduceBEq, Nat.reduceLeDiff, Nat.reduceLT, Nat.reducePow, Nat.reduceMod]) ?_
      rintro _ _ ⟨rfl, rfl⟩
      simp (config := {maxSteps := 10000000}) only [go_sem, ↓reduceIte, reduceCtorEq, Nat.reduceAdd, Nat.reduceSub, Nat.reduceMul, Nat.reduceEqDiff, Nat.reduceBEq, Nat.reduceLeDiff, Nat.reduceLT, Nat.reducePow, Nat.reduceMod]
      rw [hKn, hp1e]
      refine ⟨by omega, ?_⟩
      refine CallW'.of [1000] [] (nE_ok L p1 7 hp1 h1 (by omega)) (by simp (config := {maxSteps := 10000000}) only [go_sem, ↓reduceIte, reduceCtorEq, Nat.reduceAdd, Nat.reduceSub, Nat.reduceMul, Nat.reduceEqDiff, Nat.reduceBEq, Nat.reduceLeDiff, Nat.reduceLT, Nat.reducePow, Nat.reduceMod]) ?_
      rintro _ _ ⟨rfl, rfl⟩
      simp (config := {maxSteps := 10000000}) only [go_sem, ↓reduceIte, reduceCtorEq, Nat.reduceAdd, Nat.reduceSub, Nat.reduceMul, Nat.reduceEqDiff, Nat.reduceBEq, Nat.reduceLeDiff, Nat.reduceLT, Nat.reducePow, Nat.reduceMod]
      rw [hT]
      generalize (rawF L p1).2 = p2 at hp2
      rw [if_neg (by decide), if_pos rfl]
      have hrow : ∀ r, r < l.length → (fL1 l K A c r).length = 5 ∧ (fL1 l K A c r).all isZ = true := fun r hr => by
        by_cases e : r = K
        · subst e; rw [fL1_at]; exact ⟨rfl, rfl⟩
        · rw [fL1_ne e]; exact ⟨rfl, rfl⟩
      refine TC'.ent (Ent.arrBox 28 5 l.length 200001 K 1 (fL1 l K A c) false _ _ rfl rfl hKl (by rw [fL1_at]; rfl)) ?_
      have hBl := rows_len (n := l.length) fun r hr => (hrow r hr).1
      have hBz := rows_all (n := l.length) (p := isZ) fun r hr => (hrow r hr).2
      have hset := fun c' => rows_set (c := c') (fun r hr => (hrow r hr).1) hKl (show 1 < 5 by omega)
      simp only [fL1_set] at hset
      generalize rows (fL1 l K A c) l.length = B at hBl hBz hset
      refine TC'.ent (Ent.elpPtr 8 28 5 K 0 rfl) ?_
      have hX : K * 5 + 5 ≤ l.length * 5 := by omega
      rw [Nat.add_zero]
      generalize K * 5 = X at hX hset
      have hXB : X + 1 < B.length := by omega
      have hXs : X + 0 + 0 + 1 + 1 ≤ B.length := by omega
      simp (config := {maxSteps := 10000000}) only [go_sem, ↓reduceIte, reduceCtorEq, Nat.reduceAdd, Nat.reduceSub, Nat.reduceMul, Nat.reduceEqDiff, Nat.reduceBEq, Nat.reduceLeDiff, Nat.reduceLT, Nat.reducePow, Nat.reduceMod]
      refine TC'.drawE [] (.q 0 (.q 1 (.q 2 (.q 3 (.q 5 (.q 6 (.q 7 (.e [(4, .e [(8, .e [(9, .e [(10, .q 11 (.q 12 (.e [(13, .done)])))])])]), (8, .e [(4, .e [(9, .e [(10, .q 11 (.q 12 (.e [(13, .done)])))])]), (9, .e [(4, .e [(10, .q 11 (.q 12 (.e [(13, .done)])))])])])])))))))) mixed (by kernel_rfl) (by kernel_rfl) ?_
      simp (config := {maxSteps := 10000000}) only [go_sem, ↓reduceIte, reduceCtorEq, Nat.reduceAdd, Nat.reduceSub, Nat.reduceMul, Nat.reduceEqDiff, Nat.reduceBEq, Nat.reduceLeDiff, Nat.reduceLT, Nat.reducePow, Nat.reduceMod, killL_set, killL_pure hBz, get_set_self hXB, List.set_set, List.length_set]
      repeat' apply And.intro
      all_goals
        refine CallW'.of [1000] [] (range_ok L p2 (-1) l.length hp2 h1 (by omega) (by omega)) (by simp (config := {maxSteps := 10000000}) only [go_sem, ↓reduceIte, reduceCtorEq, Nat.reduceAdd, Nat.reduceSub, Nat.reduceMul, Nat.reduceEqDiff, Nat.reduceBEq, Nat.reduceLeDiff, Nat.reduceLT, Nat.reducePow, Nat.reduceMod]) ?_
        rintro _ _ ⟨⟨v, rfl, _⟩, q, hq, rfl⟩
        simp (config := {maxSteps := 10000000}) only [go_sem, ↓reduceIte, reduceCtorEq, Nat.reduceAdd, Nat.reduceSub, Nat.reduceMul, Nat.reduceEqDiff, Nat.reduceBEq, Nat.reduceLeDiff, Nat.reduceLT, Nat.reducePow, Nat.reduceMod, killL_set, killL_pure hBz, get_set_self hXB, List.set_set, List.length_set, hXs]
        repeat' apply And.intro
      all_goals first | omega | skip
      all_goals
        refine Sem.ent (Ent.frz 100015 (by simp (config := {maxSteps := 10000000}) only [go_sem, ↓reduceIte, reduceCtorEq, Nat.reduceAdd, Nat.reduceSub, Nat.reduceMul, Nat.reduceEqDiff, Nat.reduceBEq, Nat.reduceLeDiff, Nat.reduceLT, Nat.reducePow, Nat.reduceMod])) ?_
        simp (config := {maxSteps := 10000000}) only [go_sem, ↓reduceIte, reduceCtorEq, Nat.reduceAdd, Nat.reduceSub, Nat.reduceMul, Nat.reduceEqDiff, Nat.reduceBEq, Nat.reduceLeDiff, Nat.reduceLT, Nat.reducePow, Nat.reduceMod, frzL_set, frzL_pure hBz]
        rw [hset]
        refine Sem.ent (Ent.boxArr 28 5 l.length _ rfl fun r hr => ?_) ?_
        · unfold updF
          split
          · exact ⟨rfl, rfl⟩
          · exact ⟨rfl, rfl⟩
        simp (config := {maxSteps := 10000000}) only [go_sem, ↓reduceIte, reduceCtorEq, Nat.reduceAdd, Nat.reduceSub, Nat.reduceMul, Nat.reduceEqDiff, Nat.reduceBEq, Nat.reduceLeDiff, Nat.reduceLT, Nat.reducePow, Nat.reduceMod]
        refine Sem.done ?_
        simp (config := {maxSteps := 10000000}) only [go_sem, ↓reduceIte, reduceCtorEq, Nat.reduceAdd, Nat.reduceSub, Nat.reduceMul, Nat.reduceEqDiff, Nat.reduceBEq, Nat.reduceLeDiff, Nat.reduceLT, Nat.reducePow, Nat.reduceMod]
        exact BentQ.of ⟨(l.getD K default).kind, (l.getD K default).par ++ [v], (l.getD K default).cho, (l.getD K default).low, (l.getD K default).high⟩ hl16 hb hKl ⟨rfl, ⟨rfl, by simp, rfl, (fun h => h), fun r hr => appF_snoc encI (l.getD K default).par v _ rfl r hr⟩, ⟨rfl, rfl, rfl, (fun h => h), fun r hr => rfl⟩, rfl, rfl, trivial⟩ (by simp only [List.length_append, List.length_singleton]; omega) ⟨q, hq, rfl⟩
end Go.Am.Cl
