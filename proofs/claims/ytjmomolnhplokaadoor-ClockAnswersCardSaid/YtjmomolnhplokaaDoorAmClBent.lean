/-
  ClockAnswers: clocks in which one thing is changed.
-/
import Derived.Test.YtjmomolnhplokaaDoorAmClN
import Derived.Test.YtjmomolnhplokaaDoorAmAA
namespace Go.Am.Cl
open Go Go.Am Go.Proofs
set_option maxRecDepth 100000
set_option linter.unusedSimpArgs false
set_option linter.unusedVariables false
set_option maxHeartbeats 4000000
variable {G : Gl}
def fine (l : List Clock) : Prop := l.length ≤ 400 ∧ ∀ c, c ∈ l → c.par.length ≤ 400 ∧ c.cho.length ≤ 400
theorem nE_ok (L : List Int) (p n : Int) (h0 : 0 ≤ p) (h1 : (L.length : Int) ≤ 500) (hn : n < 2 ^ 60) : Ok Tryd.prog G 10 [.ptr 1000 0, int n] [(1000, tapeB L p)] fun r h => r = int (modF (rawF L p).1 n) ∧ h = [(1000, tapeB L (rawF L p).2)] := by
  refine Ok.intro' [1000] [] [] 9 [.tmp 4] mixed Tryd.func10 (by kernel_rfl) rfl rfl rfl (by kernel_rfl) (by simp) (fun id b h => by simp only [lk] at h; (repeat' split at h) <;> simp_all) (by simp) ?_
  simp (config := {maxSteps := 10000000}) only [go_sem, ↓reduceIte, reduceCtorEq, Nat.reduceAdd, Nat.reduceSub, Nat.reduceMul, Nat.reduceEqDiff, Nat.reduceBEq, Nat.reduceLeDiff, Nat.reduceLT, Nat.reducePow, Nat.reduceMod]
  refine CallW'.of [1000] [] (raw_ok L p h0 h1) (by simp (config := {maxSteps := 10000000}) only [go_sem, ↓reduceIte, reduceCtorEq, Nat.reduceAdd, Nat.reduceSub, Nat.reduceMul, Nat.reduceEqDiff, Nat.reduceBEq, Nat.reduceLeDiff, Nat.reduceLT, Nat.reducePow, Nat.reduceMod]) ?_
  rintro _ _ ⟨rfl, rfl⟩
  simp (config := {maxSteps := 10000000}) only [go_sem, ↓reduceIte, reduceCtorEq, Nat.reduceAdd, Nat.reduceSub, Nat.reduceMul, Nat.reduceEqDiff, Nat.reduceBEq, Nat.reduceLeDiff, Nat.reduceLT, Nat.reducePow, Nat.reduceMod]
  refine CallW'.of [] [] (mod_ok (rawF L p).1 n hn) (by simp (config := {maxSteps := 10000000}) only [go_sem, ↓reduceIte, reduceCtorEq, Nat.reduceAdd, Nat.reduceSub, Nat.reduceMul, Nat.reduceEqDiff, Nat.reduceBEq, Nat.reduceLeDiff, Nat.reduceLT, Nat.reducePow, Nat.reduceMod]) ?_
  rintro _ _ ⟨rfl, rfl⟩
  simp (config := {maxSteps := 10000000}) only [go_sem, ↓reduceIte, reduceCtorEq, Nat.reduceAdd, Nat.reduceSub, Nat.reduceMul, Nat.reduceEqDiff, Nat.reduceBEq, Nat.reduceLeDiff, Nat.reduceLT, Nat.reducePow, Nat.reduceMod]
theorem modF_lt {x n : Int} (hn : 1 ≤ n) : 0 ≤ modF x n ∧ modF x n < n := by
  unfold modF
  rw [if_neg (by omega)]
  exact ⟨Int.emod_nonneg _ (by omega), Int.emod_lt_of_pos _ (by omega)⟩
theorem rawF_pos {L : List Int} {p : Int} (h : 0 ≤ p) : 0 ≤ (rawF L p).2 := by
  unfold rawF; split <;> simp only <;> omega
theorem encC_leR (c : Clock) : leR (encC c) (encC c) := by simp [leR, leC, encC, sl]
theorem upd_rows {l : List Clock} {K : Nat} {c : Clock} {row : List AV} (hK : K < l.length) (hr : leR row (encC c)) (i : Nat) (hi : i < l.length) : leR (updF (fun i => encC (l.getD i default)) K row i) (encC ((l.set K c).getD i default)) := by
  unfold updF
  by_cases e : i = K
  · subst e; simpa [List.getD_eq_getElem?_getD, hi] using hr
  · simp only [e, if_false]
    rw [List.getD_eq_getElem?_getD, List.getD_eq_getElem?_getD, List.getElem?_set_ne (Ne.symm e)]
    exact encC_leR _
theorem fine_set {l : List Clock} {K : Nat} {c : Clock} (hl : l.length ≤ 16) (hb : ∀ c, c ∈ l → c.par.length ≤ 8 ∧ c.cho.length ≤ 8) (hc : c.par.length ≤ 20 ∧ c.cho.length ≤ 20) : fine (l.set K c) := by
  refine ⟨by rw [List.length_set]; omega, fun d hd => ?_⟩
  rcases List.mem_or_eq_of_mem_set hd with h | h
  · have := hb d h; omega
  · subst h; omega
/-- what Bent returns -/
def BentQ (L : List Int) (r : AV) (h : Hp) : Prop := (∃ fu n f, ∃ b : List Clock, r = .fz true fu 5 n f ∧ b.length = n ∧ (∀ i, i < n → leR (f i) (encC (b.getD i default))) ∧ fine b) ∧ ∃ p', 0 ≤ p' ∧ h = [(1000, tapeB L p')]
theorem BentQ.of {L : List Int} {l : List Clock} {K : Nat} {fu : Bool} {row : List AV} {h : Hp} (c : Clock) (hl : l.length ≤ 16) (hb : ∀ c, c ∈ l → c.par.length ≤ 8 ∧ c.cho.length ≤ 8) (hK : K < l.length) (hr : leR row (encC c)) (hc : c.par.length ≤ 20 ∧ c.cho.length ≤ 20) (hh : ∃ p', 0 ≤ p' ∧ h = [(1000, tapeB L p')]) :
    BentQ L (.fz true fu 5 l.length (updF (fun i => encC (l.getD i default)) K row)) h :=
  ⟨⟨fu, _, _, l.set K c, rfl, by simp, fun i hi => upd_rows hK hr i hi, fine_set hl hb hc⟩, hh⟩
theorem BentQ.set {L : List Int} {l : List Clock} {K : Nat} {fu : Bool} {h : Hp} (c : Clock) (hl : l.length ≤ 16) (hb : ∀ c, c ∈ l → c.par.length ≤ 8 ∧ c.cho.length ≤ 8) (hK : K < l.length) (hc : c.par.length ≤ 20 ∧ c.cho.length ≤ 20) (hh : ∃ p', 0 ≤ p' ∧ h = [(1000, tapeB L p')]) :
    BentQ L (.fz true fu 5 l.length (updF (fun i => encC (l.getD i default)) K (encC c))) h := BentQ.of c hl hb hK (encC_leR c) hc hh
def rowD : List AV := [int 1, .sc (.slice none 0 0), .fz true true 1 1 (fun r => litF [[int 1]] r), int 0, int 0]
theorem rowD_le : leR rowD (encC ⟨1, [], [1], 0, 0⟩) := ⟨rfl, ⟨rfl, rfl⟩, ⟨rfl, rfl, rfl, (fun h => by cases h), fun i hi => litF_map encI [1] i hi⟩, rfl, rfl, trivial⟩
theorem bent0_ok (L : List Int) (p : Int) (l : List Clock) (h0 : 0 ≤ p) (h1 : (L.length : Int) ≤ 500) (hl : 1 ≤ l.length) (hc : checkF l = 0) (hT1 : modF (rawF L (rawF L p).2).1 7 ≠ 1) (hT2 : modF (rawF L (rawF L p).2).1 7 ≠ 2) : Ok Tryd.prog G 12 [.ptr 1000 0, sl false 5 encC l] [(1000, tapeB L p)] (BentQ L) := by
  obtain ⟨hl16, hv, hb⟩ := checkF_zero hc
  have hb' : ∀ i, i < l.length → (l.getD i default).par.length ≤ 8 ∧ (l.getD i default).cho.length ≤ 8 := fun i hi => hb _ (getD_mem (d := default) hi)
  refine Ok.intro' [1000] [] [] 109 [.tmp 4] mixed Tryd.func12 (by kernel_rfl) rfl rfl rfl (by kernel_rfl) (by simp) (fun id b h => by simp only [lk] at h; (repeat' split at h) <;> simp_all) (by simp) ?_
  simp (config := {maxSteps := 10000000}) only [go_sem, ↓reduceIte, reduceCtorEq, Nat.reduceAdd, Nat.reduceSub, Nat.reduceMul, Nat.reduceEqDiff, Nat.reduceBEq, Nat.reduceLeDiff, Nat.reduceLT, Nat.reducePow, Nat.reduceMod]
  refine TC'.ent (Ent.virt 5 28 5 rfl rfl) ?_
  simp (config := {maxSteps := 10000000}) only [go_sem, ↓reduceIte, reduceCtorEq, Nat.reduceAdd, Nat.reduceSub, Nat.reduceMul, Nat.reduceEqDiff, Nat.reduceBEq, Nat.reduceLeDiff, Nat.reduceLT, Nat.reducePow, Nat.reduceMod]
  have hK := modF_lt (x := (rawF L p).1) (n := l.length) (by omega)
  generalize hKe : modF (rawF L p).1 l.length = K at hK
  have hp1 := rawF_pos (L := L) h0
  generalize hp1e : (rawF L p).2 = p1 at hp1 hT1 hT2
  have hp2 := rawF_pos (L := L) hp1
  have hT := modF_lt (x := (rawF L p1).1) (n := 7) (by omega)
  generalize hTe : modF (rawF L p1).1 7 = T at hT hT1 hT2
  refine TC'.loop [] (fun (i : Nat) => ⟨[(0, .ptr 1000 0), (5, .own 28 5 0 i false), (9, sl false 5 encC l), (10, int l.length), (11, int i)], [(1000, tapeB L p), (28, .arr 5 i (fun r => encC (l.getD r default)) false)]⟩)
    (fun i => i ≤ l.length) (fun i => l.length - i) 0 mixed (by kernel_rfl) ?_ ?_ ?_
  · simp (config := {maxSteps := 10000000}) only [go_sem, ↓reduceIte, reduceCtorEq, Nat.reduceAdd, Nat.reduceSub, Nat.reduceMul, Nat.reduceEqDiff, Nat.reduceBEq, Nat.reduceLeDiff, Nat.reduceLT, Nat.reducePow, Nat.reduceMod]
    simp
  · omega
  intro i hi
  simp (config := {maxSteps := 10000000}) only [go_sem, ↓reduceIte, reduceCtorEq, Nat.reduceAdd, Nat.reduceSub, Nat.reduceMul, Nat.reduceEqDiff, Nat.reduceBEq, Nat.reduceLeDiff, Nat.reduceLT, Nat.reducePow, Nat.reduceMod]
  refine ite_intro (fun hgt => ?_) (fun hgt => ?_)
  · have hlt : i < l.length := by omega
    have hbi := hb' i hlt
    refine ⟨by omega, ?_⟩
    refine TC'.drawTo [] (.q 1 (.q 5 (.e [(0, .e [(2, .e [(3, .e [(4, .e [(6, .q 8 (.e [(7, .e [(9, .q 10 (.e [(11, .done)]))])]))]), (6, .q 8 (.e [(4, .e [(7, .e [(9, .q 10 (.e [(11, .done)]))])])]))]), (4, .e [(3, .e [(6, .q 8 (.e [(7, .e [(9, .q 10 (.e [(11, .done)]))])]))]), (6, .e [(3, .q 8 (.e [(7, .e [(9, .q 10 (.e [(11, .done)]))])]))])]), (6, .e [(3, .q 8 (.e [(4, .e [(7, .e [(9, .q 10 (.e [(11, .done)]))])])])), (4, .e [(3, .q 8 (.e [(7, .e [(9, .q 10 (.e [(11, .done)]))])]))])])]), (4, .e [(2, .e [(3, .e [(6, .q 8 (.e [(7, .e [(9, .q 10 (.e [(11, .done)]))])]))]), (6, .e [(3, .q 8 (.e [(7, .e [(9, .q 10 (.e [(11, .done)]))])]))])]), (6, .e [(2, .e [(3, .q 8 (.e [(7, .e [(9, .q 10 (.e [(11, .done)]))])]))])])]), (6, .e [(2, .e [(3, .q 8 (.e [(4, .e [(7, .e [(9, .q 10 (.e [(11, .done)]))])])])), (4, .e [(3, .q 8 (.e [(7, .e [(9, .q 10 (.e [(11, .done)]))])]))])]), (4, .e [(2, .e [(3, .q 8 (.e [(7, .e [(9, .q 10 (.e [(11, .done)]))])]))])])])]), (2, .e [(0, .e [(3, .e [(4, .e [(6, .q 8 (.e [(7, .e [(9, .q 10 (.e [(11, .done)]))])]))]), (6, .q 8 (.e [(4, .e [(7, .e [(9, .q 10 (.e [(11, .done)]))])])]))]), (4, .e [(3, .e [(6, .q 8 (.e [(7, .e [(9, .q 10 (.e [(11, .done)]))])]))]), (6, .e [(3, .q 8 (.e [(7, .e [(9, .q 10 (.e [(11, .done)]))])]))])]), (6, .e [(3, .q 8 (.e [(4, .e [(7, .e [(9, .q 10 (.e [(11, .done)]))])])])), (4, .e [(3, .q 8 (.e [(7, .e [(9, .q 10 (.e [(11, .done)]))])]))])])]), (4, .e [(0, .e [(3, .e [(6, .q 8 (.e [(7, .e [(9, .q 10 (.e [(11, .done)]))])]))]), (6, .e [(3, .q 8 (.e [(7, .e [(9, .q 10 (.e [(11, .done)]))])]))])]), (6, .e [(0, .e [(3, .q 8 (.e [(7, .e [(9, .q 10 (.e [(11, .done)]))])]))])])]), (6, .e [(0, .e [(3, .q 8 (.e [(4, .e [(7, .e [(9, .q 10 (.e [(11, .done)]))])])])), (4, .e [(3, .q 8 (.e [(7, .e [(9, .q 10 (.e [(11, .done)]))])]))])]), (4, .e [(0, .e [(3, .q 8 (.e [(7, .e [(9, .q 10 (.e [(11, .done)]))])]))])])])]), (4, .e [(0, .e [(2, .e [(3, .e [(6, .q 8 (.e [(7, .e [(9, .q 10 (.e [(11, .done)]))])]))]), (6, .e [(3, .q 8 (.e [(7, .e [(9, .q 10 (.e [(11, .done)]))])]))])]), (6, .e [(2, .e [(3, .q 8 (.e [(7, .e [(9, .q 10 (.e [(11, .done)]))])]))])])]), (2, .e [(0, .e [(3, .e [(6, .q 8 (.e [(7, .e [(9, .q 10 (.e [(11, .done)]))])]))]), (6, .e [(3, .q 8 (.e [(7, .e [(9, .q 10 (.e [(11, .done)]))])]))])]), (6, .e [(0, .e [(3, .q 8 (.e [(7, .e [(9, .q 10 (.e [(11, .done)]))])]))])])]), (6, .e [(0, .e [(2, .e [(3, .q 8 (.e [(7, .e [(9, .q 10 (.e [(11, .done)]))])]))])]), (2, .e [(0, .e [(3, .q 8 (.e [(7, .e [(9, .q 10 (.e [(11, .done)]))])]))])])])]), (6, .e [(0, .e [(2, .e [(3, .q 8 (.e [(4, .e [(7, .e [(9, .q 10 (.e [(11, .done)]))])])])), (4, .e [(3, .q 8 (.e [(7, .e [(9, .q 10 (.e [(11, .done)]))])]))])]), (4, .e [(2, .e [(3, .q 8 (.e [(7, .e [(9, .q 10 (.e [(11, .done)]))])]))])])]), (2, .e [(0, .e [(3, .q 8 (.e [(4, .e [(7, .e [(9, .q 10 (.e [(11, .done)]))])])])), (4, .e [(3, .q 8 (.e [(7, .e [(9, .q 10 (.e [(11, .done)]))])]))])]), (4, .e [(0, .e [(3, .q 8 (.e [(7, .e [(9, .q 10 (.e [(11, .done)]))])]))])])]), (4, .e [(0, .e [(2, .e [(3, .q 8 (.e [(7, .e [(9, .q 10 (.e [(11, .done)]))])]))])]), (2, .e [(0, .e [(3, .q 8 (.e [(7, .e [(9, .q 10 (.e [(11, .done)]))])]))])])])])]))) ⟨[(0, .ptr 1000 0), (5, .own 28 5 0 i false), (7, .ptr 7 0), (9, sl false 5 encC l), (10, int l.length), (11, int i)], [(1000, tapeB L p), (28, .arr 5 i (fun r => encC (l.getD r default)) false),
      (7, .box [int (l.getD i default).kind, .own 15 1 0 (l.getD i default).par.length false, .own 19 1 0 (l.getD i default).cho.length false, int (l.getD i default).low, int (l.getD i default).high]),
      (15, .arr 1 (l.getD i default).par.length (fun r => encI ((l.getD i default).par.getD r default)) false), (19, .arr 1 (l.getD i default).cho.length (fun r => encI ((l.getD i default).cho.getD r default)) false)]⟩ mixed (by kernel_rfl) (by kernel_rfl) ?_ (Sem.done ?_)
    · simp (config := {maxSteps := 10000000}) only [go_sem, ↓reduceIte, reduceCtorEq, Nat.reduceAdd, Nat.reduceSub, Nat.reduceMul, Nat.reduceEqDiff, Nat.reduceBEq, Nat.reduceLeDiff, Nat.reduceLT, Nat.reducePow, Nat.reduceMod]
      have q1 : (l.getD i default).par.length * 8 ≤ 140737488355328 := by omega
      have q2 : (l.getD i default).par.length ≤ 140737488355328 := by omega
      have q3 : (l.getD i default).cho.length * 8 ≤ 140737488355328 := by omega
      have q4 : (l.getD i default).cho.length ≤ 140737488355328 := by omega
      simp only [q1, q2, q3, q4, and_self]
    · simp (config := {maxSteps := 10000000}) only [go_sem, ↓reduceIte, reduceCtorEq, Nat.reduceAdd, Nat.reduceSub, Nat.reduceMul, Nat.reduceEqDiff, Nat.reduceBEq, Nat.reduceLeDiff, Nat.reduceLT, Nat.reducePow, Nat.reduceMod]
      exact ⟨by omega, i + 1, by omega, by omega, ⟨rfl, by rw [w64 (by omega) (by omega)]; simp⟩, rfl, fun r hr => appF_fix (f := fun r => encC (l.getD r default)) rfl r hr⟩
  · have hi : i = l.length := by omega
    subst hi
    refine CallW'.of [1000] [] (nE_ok L p l.length h0 h1 (by omega)) (by simp (config := {maxSteps := 10000000}) only [go_sem, ↓reduceIte, reduceCtorEq, Nat.reduceAdd, Nat.reduceSub, Nat.reduceMul, Nat.reduceEqDiff, Nat.reduceBEq, Nat.reduceLeDiff, Nat.reduceLT, Nat.reducePow, Nat.reduceMod]) ?_
    rintro _ _ ⟨rfl, rfl⟩
    simp (config := {maxSteps := 10000000}) only [go_sem, ↓reduceIte, reduceCtorEq, Nat.reduceAdd, Nat.reduceSub, Nat.reduceMul, Nat.reduceEqDiff, Nat.reduceBEq, Nat.reduceLeDiff, Nat.reduceLT, Nat.reducePow, Nat.reduceMod]
    rw [hKe, hp1e]
    refine ⟨by omega, ?_⟩
    refine CallW'.of [1000] [] (nE_ok L p1 7 hp1 h1 (by omega)) (by simp (config := {maxSteps := 10000000}) only [go_sem, ↓reduceIte, reduceCtorEq, Nat.reduceAdd, Nat.reduceSub, Nat.reduceMul, Nat.reduceEqDiff, Nat.reduceBEq, Nat.reduceLeDiff, Nat.reduceLT, Nat.reducePow, Nat.reduceMod]) ?_
    rintro _ _ ⟨rfl, rfl⟩
    simp (config := {maxSteps := 10000000}) only [go_sem, ↓reduceIte, reduceCtorEq, Nat.reduceAdd, Nat.reduceSub, Nat.reduceMul, Nat.reduceEqDiff, Nat.reduceBEq, Nat.reduceLeDiff, Nat.reduceLT, Nat.reducePow, Nat.reduceMod]
    rw [hTe]
    generalize (rawF L p1).2 = p2 at hp2
    have hKl : K.toNat < l.length := by omega
    have hbK := hb' _ hKl
    refine ite_intro (fun t0 => ?_) (fun t0 => ?_)
    · refine CallW'.of [1000] [] (range_ok L p2 0 6 hp2 h1 (by omega) (by omega)) (by simp (config := {maxSteps := 10000000}) only [go_sem, ↓reduceIte, reduceCtorEq, Nat.reduceAdd, Nat.reduceSub, Nat.reduceMul, Nat.reduceEqDiff, Nat.reduceBEq, Nat.reduceLeDiff, Nat.reduceLT, Nat.reducePow, Nat.reduceMod]) ?_
      rintro _ _ ⟨⟨v, rfl, _⟩, q, hq, rfl⟩
      simp (config := {maxSteps := 10000000}) only [go_sem, ↓reduceIte, reduceCtorEq, Nat.reduceAdd, Nat.reduceSub, Nat.reduceMul, Nat.reduceEqDiff, Nat.reduceBEq, Nat.reduceLeDiff, Nat.reduceLT, Nat.reducePow, Nat.reduceMod]
      refine ⟨by omega, ?_⟩
      exact BentQ.set ⟨v, (l.getD K.toNat default).par, (l.getD K.toNat default).cho, (l.getD K.toNat default).low, (l.getD K.toNat default).high⟩ hl16 hb hKl (by simp only; omega) ⟨q, hq, rfl⟩
    refine ite_intro (fun t1 => ?_) (fun t1 => ?_)
    · exact absurd t1 hT1
    refine ite_intro (fun t2 => ?_) (fun t2 => ?_)
    · exact absurd t2 hT2
    refine ite_intro (fun t3 => ?_) (fun t3 => ?_)
    · refine ⟨by omega, ?_⟩
      refine CallW'.of [1000] [] (pick_ok L p2 [-1, 0, IntKind.i64.wrap ((l.getD K.toNat default).high + 1)] hp2 h1 (by simp)) (by simp (config := {maxSteps := 10000000}) only [go_sem, ↓reduceIte, reduceCtorEq, Nat.reduceAdd, Nat.reduceSub, Nat.reduceMul, Nat.reduceEqDiff, Nat.reduceBEq, Nat.reduceLeDiff, Nat.reduceLT, Nat.reducePow, Nat.reduceMod]; exact fun i hi => litF_map encI [-1, 0, IntKind.i64.wrap ((l.getD K.toNat default).high + 1)] i hi) ?_
      rintro _ _ ⟨⟨v, rfl, _⟩, q, hq, rfl⟩
      simp (config := {maxSteps := 10000000}) only [go_sem, ↓reduceIte, reduceCtorEq, Nat.reduceAdd, Nat.reduceSub, Nat.reduceMul, Nat.reduceEqDiff, Nat.reduceBEq, Nat.reduceLeDiff, Nat.reduceLT, Nat.reducePow, Nat.reduceMod]
      refine ⟨by omega, ?_⟩
      exact BentQ.set ⟨(l.getD K.toNat default).kind, (l.getD K.toNat default).par, (l.getD K.toNat default).cho, v, (l.getD K.toNat default).high⟩ hl16 hb hKl (by simp only; omega) ⟨q, hq, rfl⟩
    refine ite_intro (fun t4 => ?_) (fun t4 => ?_)
    · refine CallW'.of [1000] [] (pick_ok L p2 [-1, 0, 4000000000, 4000000001] hp2 h1 (by simp)) (by simp (config := {maxSteps := 10000000}) only [go_sem, ↓reduceIte, reduceCtorEq, Nat.reduceAdd, Nat.reduceSub, Nat.reduceMul, Nat.reduceEqDiff, Nat.reduceBEq, Nat.reduceLeDiff, Nat.reduceLT, Nat.reducePow, Nat.reduceMod]; exact fun i hi => litF_map encI [-1, 0, 4000000000, 4000000001] i hi) ?_
      rintro _ _ ⟨⟨v, rfl, _⟩, q, hq, rfl⟩
      simp (config := {maxSteps := 10000000}) only [go_sem, ↓reduceIte, reduceCtorEq, Nat.reduceAdd, Nat.reduceSub, Nat.reduceMul, Nat.reduceEqDiff, Nat.reduceBEq, Nat.reduceLeDiff, Nat.reduceLT, Nat.reducePow, Nat.reduceMod]
      refine ⟨by omega, ?_⟩
      exact BentQ.set ⟨(l.getD K.toNat default).kind, (l.getD K.toNat default).par, (l.getD K.toNat default).cho, (l.getD K.toNat default).low, v⟩ hl16 hb hKl (by simp only; omega) ⟨q, hq, rfl⟩
    refine ite_intro (fun t5 => ?_) (fun t5 => ?_)
    · refine ⟨by omega, ?_⟩
      refine BentQ.of ⟨(l.getD K.toNat default).kind, (l.getD K.toNat default).par, [], (l.getD K.toNat default).low, (l.getD K.toNat default).high⟩ hl16 hb hKl ?_ ⟨by simp only; omega, by simp⟩ ⟨p2, hp2, rfl⟩
      exact ⟨rfl, ⟨rfl, rfl, rfl, (fun h => h), fun _ _ => rfl⟩, ⟨rfl, rfl⟩, rfl, rfl, trivial⟩
    refine TC'.loop [] (fun (x : List Clock × (Nat → List AV)) => ⟨[(5, .own 28 5 0 x.1.length false)], [(1000, tapeB L p2), (28, .arr 5 x.1.length x.2 false)]⟩)
      (fun x => x.1.length ≤ 17 ∧ (∀ i, i < x.1.length → leR (x.2 i) (encC (x.1.getD i default))) ∧ ∀ c, c ∈ x.1 → c.par.length ≤ 8 ∧ c.cho.length ≤ 8) (fun x => 17 - x.1.length) (l, fun i => encC (l.getD i default)) mixed (by kernel_rfl) ?_ ?_ ?_
    · simp (config := {maxSteps := 10000000}) only [go_sem, ↓reduceIte, reduceCtorEq, Nat.reduceAdd, Nat.reduceSub, Nat.reduceMul, Nat.reduceEqDiff, Nat.reduceBEq, Nat.reduceLeDiff, Nat.reduceLT, Nat.reducePow, Nat.reduceMod]
    · exact ⟨by simp only; omega, fun i hi => encC_leR _, hb⟩
    intro ⟨b, f⟩ ⟨b1, b2, b3⟩
    simp only at b1 b2 b3
    simp (config := {maxSteps := 10000000}) only [go_sem, ↓reduceIte, reduceCtorEq, Nat.reduceAdd, Nat.reduceSub, Nat.reduceMul, Nat.reduceEqDiff, Nat.reduceBEq, Nat.reduceLeDiff, Nat.reduceLT, Nat.reducePow, Nat.reduceMod]
    refine ite_intro (fun hle => ?_) (fun hle => ?_)
    · refine ⟨by omega, (b ++ [⟨1, [], [1], 0, 0⟩], appF b.length f (fun r => litF [rowD] r)), ⟨by simp only [List.length_append, List.length_singleton]; omega, fun i hi => ?_, fun c hc => ?_⟩, by simp only [List.length_append, List.length_singleton]; omega, by simp, by simp, fun i hi => rfl⟩
      · simp only [List.length_append, List.length_singleton] at hi
        by_cases e : i < b.length
        · have e1 : appF b.length f (fun r => litF [rowD] r) i = f i := by simp [appF, e]
          rw [getD_snoc_lt e]
          have := b2 i e
          simp only [e1]
          exact this
        · have : i = b.length := by omega
          subst this
          have e1 : appF b.length f (fun r => litF [rowD] r) b.length = rowD := by simp [appF, litF]
          rw [getD_snoc_eq rfl]
          simp only [e1]
          exact rowD_le
      · rcases List.mem_append.1 hc with h | h
        · exact b3 c h
        · simp only [List.mem_singleton] at h; subst h; simp
    · exact ⟨⟨_, _, _, b, rfl, rfl, b2, ⟨by omega, fun c hc => by have := b3 c hc; omega⟩⟩, p2, hp2, rfl⟩
end Go.Am.Cl
