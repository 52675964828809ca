/-
  ClockAnswers, part N: generated settings and limits; small clocks; the chapter's example.
-/
import Derived.Test.YtjmomolnhplokaaDoorAmClM
namespace Go.Am.Cl
open Go Go.Am Go.Proofs
set_option maxRecDepth 100000
set_option linter.unusedSimpArgs false
set_option linter.unusedVariables false
set_option maxHeartbeats 4000000
variable {G : Gl}
theorem gsetting_ok (L : List Int) (p : Int) (l : List Clock) (h0 : 0 ≤ p) (h1 : (L.length : Int) ≤ 500) (hl : l.length < 2 ^ 30) (hc : ∀ i, i < l.length → 1 ≤ (l.getD i default).cho.length ∧ (l.getD i default).cho.length < 2 ^ 40) : Ok Tryd.prog G 8 [.ptr 1000 0, sl false 5 encC l] [(1000, tapeB L p)]
    fun r h => (∃ s : List Int, r = ints true s ∧ SetP l s) ∧ ∃ p', 0 ≤ p' ∧ h = [(1000, tapeB L p')] := by
  refine Ok.weak (Q := fun r h => (∃ s : List Int, leP r (ints true s) ∧ SetP l s) ∧ ∃ p', 0 ≤ p' ∧ h = [(1000, tapeB L p')]) ?_ (fun r h ⟨⟨l, h1, h2⟩, h3⟩ => ⟨_, h1, ⟨l, rfl, h2⟩, h3⟩)
  refine Ok.intro' [1000] [] [] 24 [.tmp 4] mixed Tryd.func8 (by kernel_rfl) rfl rfl rfl (by kernel_rfl) (by simp) (fun id b h => by simp only [lk] at h; (repeat' split at h) <;> simp_all) (by simp) ?_
  simp (config := {maxSteps := 10000000}) only [go_sem, ↓reduceIte, reduceCtorEq, Nat.reduceAdd, Nat.reduceSub, Nat.reduceMul, Nat.reduceEqDiff, Nat.reduceBEq, Nat.reduceLeDiff, Nat.reduceLT, Nat.reducePow, Nat.reduceMod]
  refine TC'.ent (Ent.virt 5 21 1 rfl rfl) ?_
  simp (config := {maxSteps := 10000000}) only [go_sem, ↓reduceIte, reduceCtorEq, Nat.reduceAdd, Nat.reduceSub, Nat.reduceMul, Nat.reduceEqDiff, Nat.reduceBEq, Nat.reduceLeDiff, Nat.reduceLT, Nat.reducePow, Nat.reduceMod]
  refine TC'.loop [] (fun (x : Int × List Int) => ⟨[(0, .ptr 1000 0), (5, .own 21 1 0 x.2.length false), (8, sl false 5 encC l), (9, int l.length), (10, int x.2.length)], [(1000, tapeB L x.1), (21, .arr 1 x.2.length (fun i => encI (x.2.getD i default)) false)]⟩)
    (fun x => 0 ≤ x.1 ∧ x.2.length ≤ l.length ∧ ∀ i, i < x.2.length → 0 ≤ x.2.getD i default ∧ x.2.getD i default < (l.getD i default).cho.length) (fun x => l.length - x.2.length) (p, []) mixed (by kernel_rfl) ?_ ?_ ?_
  · simp (config := {maxSteps := 10000000}) only [go_sem, ↓reduceIte, reduceCtorEq, Nat.reduceAdd, Nat.reduceSub, Nat.reduceMul, Nat.reduceEqDiff, Nat.reduceBEq, Nat.reduceLeDiff, Nat.reduceLT, Nat.reducePow, Nat.reduceMod]
    simp
  · exact ⟨h0, by simp, by simp⟩
  intro ⟨q, s⟩ ⟨hq, hs, hb⟩
  simp only at hq hs hb
  simp (config := {maxSteps := 10000000}) only [go_sem, ↓reduceIte, reduceCtorEq, Nat.reduceAdd, Nat.reduceSub, Nat.reduceMul, Nat.reduceEqDiff, Nat.reduceBEq, Nat.reduceLeDiff, Nat.reduceLT, Nat.reducePow, Nat.reduceMod]
  refine ite_intro (fun hgt => ?_) (fun hgt => ?_)
  · have hlt : s.length < l.length := by omega
    have hcl := hc s.length hlt
    refine ⟨by omega, ?_⟩
    refine CallW'.of [1000] [] (n_ok L q (l.getD s.length default).cho.length hq h1 (by omega)) (by simp (config := {maxSteps := 10000000}) only [go_sem, ↓reduceIte, reduceCtorEq, Nat.reduceAdd, Nat.reduceSub, Nat.reduceMul, Nat.reduceEqDiff, Nat.reduceBEq, Nat.reduceLeDiff, Nat.reduceLT, Nat.reducePow, Nat.reduceMod]) ?_
    rintro _ _ ⟨⟨v, rfl, v0, v1, _⟩, q1, hq1, rfl⟩
    simp (config := {maxSteps := 10000000}) only [go_sem, ↓reduceIte, reduceCtorEq, Nat.reduceAdd, Nat.reduceSub, Nat.reduceMul, Nat.reduceEqDiff, Nat.reduceBEq, Nat.reduceLeDiff, Nat.reduceLT, Nat.reducePow, Nat.reduceMod]
    have := v1 (by omega)
    refine ⟨by omega, (q1, s ++ [v]), ⟨hq1, by simp; omega, fun i hi => ?_⟩, by simp; omega, ⟨by simp, by rw [w64 (by omega) (by omega)]; simp⟩, rfl, by simp, fun i hi => appF_snoc encI s v _ rfl i hi⟩
    simp only [List.length_append, List.length_singleton] at hi
    by_cases e : i < s.length
    · rw [getD_snoc_lt e]; exact hb i e
    · rw [getD_snoc_eq (by omega), show i = s.length by omega]; exact ⟨v0, this⟩
  · refine ⟨⟨s, ⟨rfl, fun i hi => rfl⟩, by omega, fun i hi => hb i (by omega)⟩, q, hq, rfl⟩
theorem floor_ok (r : Rate) : Ok Tryd.prog G 33 [.agg (encR r)] [] fun v h => (∃ x, v = int x) ∧ h = [] := by
  refine Ok.intro' [] [] [] 11 [.tmp 2] mixed Tryd.func33 (by kernel_rfl) rfl rfl rfl (by kernel_rfl) (by simp) (fun _ _ h => by cases h) (fun _ h => by cases h) ?_
  simp (config := {maxSteps := 10000000}) only [go_sem, ↓reduceIte, reduceCtorEq, Nat.reduceAdd, Nat.reduceSub, Nat.reduceMul, Nat.reduceEqDiff, Nat.reduceBEq, Nat.reduceLeDiff, Nat.reduceLT, Nat.reducePow, Nat.reduceMod]
  (refine CallW'.of [] [] (rvalidR_ok r) (by simp (config := {maxSteps := 10000000}) only [go_sem, ↓reduceIte, reduceCtorEq, Nat.reduceAdd, Nat.reduceSub, Nat.reduceMul, Nat.reduceEqDiff, Nat.reduceBEq, Nat.reduceLeDiff, Nat.reduceLT, Nat.reducePow, Nat.reduceMod]) ?_; rintro _ _ ⟨rfl, rfl⟩; simp (config := {maxSteps := 10000000}) only [go_sem, ↓reduceIte, reduceCtorEq, Nat.reduceAdd, Nat.reduceSub, Nat.reduceMul, Nat.reduceEqDiff, Nat.reduceBEq, Nat.reduceLeDiff, Nat.reduceLT, Nat.reducePow, Nat.reduceMod])
  refine ite_intro (fun hv => ?_) (fun hv => ?_)
  · exact ⟨_, rfl⟩
  · have : 1 ≤ r.den := by
      simp only [Bool.not_eq_false, validR, Bool.and_eq_true, decide_eq_true_eq] at hv
      exact hv.1.1.2
    exact ⟨by omega, _, rfl⟩
theorem cho_pos {l : List Clock} (hv : allValid l) {i : Nat} (hi : i < l.length) : 1 ≤ (l.getD i default).cho.length := by
  have h := hv i hi
  simp only [validF, Bool.and_eq_true] at h
  have h := h.2
  unfold choF at h
  split at h
  · simp only [Bool.and_eq_true, decide_eq_true_eq] at h; omega
  split at h
  · simp only [Bool.and_eq_true, decide_eq_true_eq] at h; omega
  split at h
  · simp only [Bool.and_eq_true, decide_eq_true_eq] at h; omega
  split at h
  · simp only [Bool.and_eq_true, decide_eq_true_eq] at h; rw [h.2]; decide
  · cases h
theorem glimits_ok (L : List Int) (p n : Int) (l : List Clock) (h0 : 0 ≤ p) (h1 : (L.length : Int) ≤ 500) (hl : 1 ≤ l.length) (hn : 0 ≤ n ∧ n < 2 ^ 20) (hc : checkF l = 0) : Ok Tryd.prog G 11 [.ptr 1000 0, sl false 5 encC l, int n] [(1000, tapeB L p)]
    fun r h => (∃ m : List Limit, r = sl true 3 encL m ∧ m.length ≤ n.toNat) ∧ ∃ p', 0 ≤ p' ∧ h = [(1000, tapeB L p')] := by
  refine Ok.weak (Q := fun r h => (∃ m : List Limit, leP r (sl true 3 encL m) ∧ m.length ≤ n.toNat) ∧ ∃ p', 0 ≤ p' ∧ h = [(1000, tapeB L p')]) ?_ (fun r h ⟨⟨l, h1, h2⟩, h3⟩ => ⟨_, h1, ⟨l, rfl, h2⟩, h3⟩)
  obtain ⟨hl16, hv, hb⟩ := checkF_zero hc
  refine Ok.intro' [1000] [] [] 62 [.tmp 6] mixed Tryd.func11 (by kernel_rfl) rfl rfl rfl (by kernel_rfl) (by simp) (fun id b h => by simp only [lk] at h; (repeat' split at h) <;> simp_all) (by simp) ?_
  simp (config := {maxSteps := 10000000}) only [go_sem, ↓reduceIte, reduceCtorEq, Nat.reduceAdd, Nat.reduceSub, Nat.reduceMul, Nat.reduceEqDiff, Nat.reduceBEq, Nat.reduceLeDiff, Nat.reduceLT, Nat.reducePow, Nat.reduceMod]
  refine CallW'.of [1000] [] (gsetting_ok L p l h0 h1 (by omega) fun i hi => ⟨cho_pos hv hi, by have := (hb _ (getD_mem (d := default) hi)).2; omega⟩) (by simp (config := {maxSteps := 10000000}) only [go_sem, ↓reduceIte, reduceCtorEq, Nat.reduceAdd, Nat.reduceSub, Nat.reduceMul, Nat.reduceEqDiff, Nat.reduceBEq, Nat.reduceLeDiff, Nat.reduceLT, Nat.reducePow, Nat.reduceMod]) ?_
  rintro _ _ ⟨⟨s, rfl, hs⟩, p1, hp1, rfl⟩
  simp (config := {maxSteps := 10000000}) only [go_sem, ↓reduceIte, reduceCtorEq, Nat.reduceAdd, Nat.reduceSub, Nat.reduceMul, Nat.reduceEqDiff, Nat.reduceBEq, Nat.reduceLeDiff, Nat.reduceLT, Nat.reducePow, Nat.reduceMod]
  refine CallW'.of [] [] (states_ok l s (by omega) hv hs) (by simp (config := {maxSteps := 10000000}) only [go_sem, ↓reduceIte, reduceCtorEq, Nat.reduceAdd, Nat.reduceSub, Nat.reduceMul, Nat.reduceEqDiff, Nat.reduceBEq, Nat.reduceLeDiff, Nat.reduceLT, Nat.reducePow, Nat.reduceMod]) ?_
  rintro _ _ ⟨rfl, rfl⟩
  simp (config := {maxSteps := 10000000}) only [go_sem, ↓reduceIte, reduceCtorEq, Nat.reduceAdd, Nat.reduceSub, Nat.reduceMul, Nat.reduceEqDiff, Nat.reduceBEq, Nat.reduceLeDiff, Nat.reduceLT, Nat.reducePow, Nat.reduceMod]
  rw [w64 (n := n + 1) (by omega) (by omega)]
  refine CallW'.of [1000] [] (n_ok L p1 (n + 1) hp1 h1 (by omega)) (by simp (config := {maxSteps := 10000000}) only [go_sem, ↓reduceIte, reduceCtorEq, Nat.reduceAdd, Nat.reduceSub, Nat.reduceMul, Nat.reduceEqDiff, Nat.reduceBEq, Nat.reduceLeDiff, Nat.reduceLT, Nat.reducePow, Nat.reduceMod]) ?_
  rintro _ _ ⟨⟨k, rfl, k0, k1, _⟩, p2, hp2, rfl⟩
  simp (config := {maxSteps := 10000000}) only [go_sem, ↓reduceIte, reduceCtorEq, Nat.reduceAdd, Nat.reduceSub, Nat.reduceMul, Nat.reduceEqDiff, Nat.reduceBEq, Nat.reduceLeDiff, Nat.reduceLT, Nat.reducePow, Nat.reduceMod]
  have hk := k1 (by omega)
  refine TC'.ent (Ent.virt 10 60 3 rfl rfl) ?_
  simp (config := {maxSteps := 10000000}) only [go_sem, ↓reduceIte, reduceCtorEq, Nat.reduceAdd, Nat.reduceSub, Nat.reduceMul, Nat.reduceEqDiff, Nat.reduceBEq, Nat.reduceLeDiff, Nat.reduceLT, Nat.reducePow, Nat.reduceMod]
  have hrl := ratesUp_len l s l.length
  refine TC'.loop [] (fun (x : Int × Int × List Limit) => ⟨[(0, .ptr 1000 0), (1, sl false 5 encC l), (8, sl true 2 encR (ratesUp l s l.length)), (10, .own 60 3 0 x.2.2.length false), (11, int x.1)], [(1000, tapeB L x.2.1), (60, .arr 3 x.2.2.length (fun i => encL (x.2.2.getD i default)) false)]⟩)
    (fun x => 0 ≤ x.1 ∧ 0 ≤ x.2.1 ∧ x.1 + x.2.2.length ≤ n) (fun x => x.1.toNat) (k, p2, []) mixed (by kernel_rfl) ?_ ?_ ?_
  · simp (config := {maxSteps := 10000000}) only [go_sem, ↓reduceIte, reduceCtorEq, Nat.reduceAdd, Nat.reduceSub, Nat.reduceMul, Nat.reduceEqDiff, Nat.reduceBEq, Nat.reduceLeDiff, Nat.reduceLT, Nat.reducePow, Nat.reduceMod]
    simp
  · exact ⟨k0, hp2, by simp; omega⟩
  intro ⟨i, q, m⟩ ⟨hi, hq, hm⟩
  simp only at hi hq hm
  simp (config := {maxSteps := 10000000}) only [go_sem, ↓reduceIte, reduceCtorEq, Nat.reduceAdd, Nat.reduceSub, Nat.reduceMul, Nat.reduceEqDiff, Nat.reduceBEq, Nat.reduceLeDiff, Nat.reduceLT, Nat.reducePow, Nat.reduceMod]
  refine ite_intro (fun hgt => ?_) (fun hgt => ?_)
  · refine CallW'.of [1000] [] (n_ok L q l.length hq h1 (by omega)) (by simp (config := {maxSteps := 10000000}) only [go_sem, ↓reduceIte, reduceCtorEq, Nat.reduceAdd, Nat.reduceSub, Nat.reduceMul, Nat.reduceEqDiff, Nat.reduceBEq, Nat.reduceLeDiff, Nat.reduceLT, Nat.reducePow, Nat.reduceMod]) ?_
    rintro _ _ ⟨⟨k, rfl, k0, k1, _⟩, q1, hq1, rfl⟩
    simp (config := {maxSteps := 10000000}) only [go_sem, ↓reduceIte, reduceCtorEq, Nat.reduceAdd, Nat.reduceSub, Nat.reduceMul, Nat.reduceEqDiff, Nat.reduceBEq, Nat.reduceLeDiff, Nat.reduceLT, Nat.reducePow, Nat.reduceMod]
    have hk := k1 (by omega)
    refine ⟨by omega, ?_⟩
    refine CallW'.of [] [] (floor_ok ((ratesUp l s l.length).getD k.toNat default)) (by simp (config := {maxSteps := 10000000}) only [go_sem, ↓reduceIte, reduceCtorEq, Nat.reduceAdd, Nat.reduceSub, Nat.reduceMul, Nat.reduceEqDiff, Nat.reduceBEq, Nat.reduceLeDiff, Nat.reduceLT, Nat.reducePow, Nat.reduceMod]) ?_
    rintro _ _ ⟨⟨f, rfl⟩, rfl⟩
    simp (config := {maxSteps := 10000000}) only [go_sem, ↓reduceIte, reduceCtorEq, Nat.reduceAdd, Nat.reduceSub, Nat.reduceMul, Nat.reduceEqDiff, Nat.reduceBEq, Nat.reduceLeDiff, Nat.reduceLT, Nat.reducePow, Nat.reduceMod]
    generalize (if 4000000000 < f then 4000000000 else f) = f
    refine CallW'.of [1000] [] (pick_ok L q1 [0, 1, 10, f] hq1 h1 (by simp)) (by simp (config := {maxSteps := 10000000}) only [go_sem, ↓reduceIte, reduceCtorEq, Nat.reduceAdd, Nat.reduceSub, Nat.reduceMul, Nat.reduceEqDiff, Nat.reduceBEq, Nat.reduceLeDiff, Nat.reduceLT, Nat.reducePow, Nat.reduceMod]; exact fun i hi => litF_map encI [0, 1, 10, f] i hi) ?_
    rintro _ _ ⟨⟨v, rfl, _⟩, q2, hq2, rfl⟩
    simp (config := {maxSteps := 10000000}) only [go_sem, ↓reduceIte, reduceCtorEq, Nat.reduceAdd, Nat.reduceSub, Nat.reduceMul, Nat.reduceEqDiff, Nat.reduceBEq, Nat.reduceLeDiff, Nat.reduceLT, Nat.reducePow, Nat.reduceMod]
    refine CallW'.of [1000] [] (pick_ok L q2 [0, 1, 5, 100] hq2 h1 (by simp)) (by simp (config := {maxSteps := 10000000}) only [go_sem, ↓reduceIte, reduceCtorEq, Nat.reduceAdd, Nat.reduceSub, Nat.reduceMul, Nat.reduceEqDiff, Nat.reduceBEq, Nat.reduceLeDiff, Nat.reduceLT, Nat.reducePow, Nat.reduceMod]; exact fun i hi => litF_map encI [0, 1, 5, 100] i hi) ?_
    rintro _ _ ⟨⟨u, rfl, _⟩, q3, hq3, rfl⟩
    simp (config := {maxSteps := 10000000}) only [go_sem, ↓reduceIte, reduceCtorEq, Nat.reduceAdd, Nat.reduceSub, Nat.reduceMul, Nat.reduceEqDiff, Nat.reduceBEq, Nat.reduceLeDiff, Nat.reduceLT, Nat.reducePow, Nat.reduceMod]
    generalize hx1 : (if IntKind.i64.wrap (f - v) > 0 then IntKind.i64.wrap (f - v) else 0) = x1
    generalize hx2 : (if IntKind.i64.wrap (f + u) < 4000000000 then IntKind.i64.wrap (f + u) else 4000000000) = x2
    refine ⟨by omega, (i - 1, q3, m ++ [⟨k, x1, x2⟩]), ⟨by simp only; omega, hq3, by simp only [List.length_append, List.length_singleton]; omega⟩, by simp only; omega, ⟨by simp, w64 (by omega) (by omega)⟩, rfl, by simp, ?_⟩
    exact fun i hi => appF_snoc encL m ⟨k, x1, x2⟩ _ rfl i hi
  · exact ⟨⟨m, ⟨rfl, fun i hi => ⟨rfl, rfl, rfl⟩⟩, by omega⟩, q, hq, rfl⟩
def bulkC (l : List Clock) : Nat → Int
  | 0 => l.length
  | n + 1 => bulkC l n + ((l.getD n default).par.length + (l.getD n default).cho.length)
/-- are they small? -/
theorem small_ok (l : List Clock) (hl : l.length < 2 ^ 60) (hb : ∀ c, c ∈ l → c.par.length < 2 ^ 60 ∧ c.cho.length < 2 ^ 60) : Ok Tryd.prog G 4 [sl false 5 encC l] [] fun r h => ∃ b : Bool, r = bool b ∧ h = [] ∧ (b = true → l.length ≤ 300 ∧ ∀ c, c ∈ l → c.par.length ≤ 300 ∧ c.cho.length ≤ 300) := by
  refine Ok.intro' [] [] [] 34 [.tmp 2] mixed Tryd.func4 (by kernel_rfl) rfl rfl rfl (by kernel_rfl) (by simp) (fun _ _ h => by cases h) (fun _ h => by cases h) ?_
  simp (config := {maxSteps := 10000000}) only [go_sem, ↓reduceIte, reduceCtorEq, Nat.reduceAdd, Nat.reduceSub, Nat.reduceMul, Nat.reduceEqDiff, Nat.reduceBEq, Nat.reduceLeDiff, Nat.reduceLT, Nat.reducePow, Nat.reduceMod]
  refine TC'.loop [5] (fun (x : Nat × Int) => ⟨[(0, sl false 5 encC l), (3, int x.2), (4, int x.1)], []⟩)
    (fun x => x.1 ≤ l.length ∧ l.length ≤ x.2 ∧ x.2 < 2 ^ 62 ∧ ∀ i, i < x.1 → (l.getD i default).par.length ≤ x.2 ∧ (l.getD i default).cho.length ≤ x.2) (fun x => l.length - x.1) (0, l.length) mixed (by kernel_rfl) ?_ ?_ ?_
  · simp (config := {maxSteps := 10000000}) only [go_sem, ↓reduceIte, reduceCtorEq, Nat.reduceAdd, Nat.reduceSub, Nat.reduceMul, Nat.reduceEqDiff, Nat.reduceBEq, Nat.reduceLeDiff, Nat.reduceLT, Nat.reducePow, Nat.reduceMod]
    simp
  · exact ⟨by omega, by simp, by simp only; omega, by simp⟩
  intro ⟨i, n⟩ ⟨hi, hn, hn2, hc⟩
  simp only at hi hn hn2 hc
  simp (config := {maxSteps := 10000000}) only [go_sem, ↓reduceIte, reduceCtorEq, Nat.reduceAdd, Nat.reduceSub, Nat.reduceMul, Nat.reduceEqDiff, Nat.reduceBEq, Nat.reduceLeDiff, Nat.reduceLT, Nat.reducePow, Nat.reduceMod]
  have fin : ∃ b, decide (n ≤ 300) = b ∧ (b = true → l.length ≤ 300 ∧ ∀ (c : Clock), c ∈ l → c.par.length ≤ 300 ∧ c.cho.length ≤ 300) ∨ (i < l.length ∧ n < 900) := by
    by_cases h : i < l.length ∧ n < 900
    · exact ⟨true, .inr h⟩
    · refine ⟨_, .inl ⟨rfl, fun h3 => ?_⟩⟩
      simp only [decide_eq_true_eq] at h3
      refine ⟨by omega, fun c hc' => ?_⟩
      obtain ⟨j, hj, rfl⟩ := List.mem_iff_getElem.1 hc'
      have := hc j (by omega)
      rw [List.getD_eq_getElem?_getD, List.getElem?_eq_getElem hj] at this
      simp only [Option.getD_some] at this
      omega
  refine ite_intro (fun h1 => ?_) (fun h1 => ?_)
  · have hlt : i < l.length := by omega
    refine ite_intro (fun h2 => ?_) (fun h2 => ?_)
    · have := hb _ (getD_mem (d := default) hlt)
      refine ⟨by omega, by omega, (i + 1, n + ((l.getD i default).par.length + (l.getD i default).cho.length)), ⟨by simp only; omega, by simp only; omega, by simp only; omega, fun j hj => ?_⟩, by simp only; omega, ?_, ?_⟩
      · simp only at hj ⊢
        by_cases e : j = i
        · subst e; omega
        · have := hc j (by omega); omega
      · rw [w64 (n := (↑(l.getD i default).par.length + ↑(l.getD i default).cho.length : Int)) (by omega) (by omega), w64 (by omega) (by omega)]
      · rw [w64 (by omega) (by omega)]; simp
    · obtain ⟨b, hb | hb⟩ := fin
      · exact ⟨b, hb⟩
      · omega
  · obtain ⟨b, hb | hb⟩ := fin
    · exact ⟨b, hb⟩
    · omega
/-- the chapter's example -/
def four : List Clock := [⟨1, [], [24000000], 0, 0⟩, ⟨3, [0], [10], 0, 0⟩, ⟨2, [1], [2, 3], 0, 0⟩, ⟨5, [2], [0, 1], 0, 0⟩]
theorem four_ok : Ok Tryd.prog G 27 [] [] fun r h => r = sl true 5 encC four ∧ h = [] := by
  refine Ok.weakF (Q := fun r h => (∃ f, r = .fz true true 5 4 f ∧ ∀ i, i < 4 → leR (f i) (encC (four.getD i default))) ∧ h = []) ?_ (fun r h ⟨⟨f, h1, h2⟩, h3⟩ => ⟨_, by rw [h1]; exact Le.fzR (fun h => h) (fun h => by cases h) h2, rfl, h3⟩)
  refine Ok.intro' [] [] [] 13 [.tmp 0] mixed Tryd.func27 (by kernel_rfl) rfl rfl rfl (by kernel_rfl) (by simp) (fun _ _ h => by cases h) (fun _ h => by cases h) ?_
  simp (config := {maxSteps := 10000000}) only [go_sem, ↓reduceIte, reduceCtorEq, Nat.reduceAdd, Nat.reduceSub, Nat.reduceMul, Nat.reduceEqDiff, Nat.reduceBEq, Nat.reduceLeDiff, Nat.reduceLT, Nat.reducePow, Nat.reduceMod]
  refine ⟨_, rfl, fun i hi => ?_⟩
  match i, hi with
  | 0, _ => simp only [litF_zero, litF_succ, four, go_sem, ↓reduceIte, reduceCtorEq, Nat.reduceAdd, Nat.reduceSub, Nat.reduceMul, Nat.reduceEqDiff, Nat.reduceBEq, Nat.reduceLeDiff, Nat.reduceLT, Nat.reducePow, Nat.reduceMod]; exact fun i hi => litF_map encI [24000000] i hi
  | 1, _ => simp only [litF_zero, litF_succ, four, go_sem, ↓reduceIte, reduceCtorEq, Nat.reduceAdd, Nat.reduceSub, Nat.reduceMul, Nat.reduceEqDiff, Nat.reduceBEq, Nat.reduceLeDiff, Nat.reduceLT, Nat.reducePow, Nat.reduceMod]; exact ⟨fun i hi => litF_map encI [0] i hi, fun i hi => litF_map encI [10] i hi⟩
  | 2, _ => simp only [litF_zero, litF_succ, four, go_sem, ↓reduceIte, reduceCtorEq, Nat.reduceAdd, Nat.reduceSub, Nat.reduceMul, Nat.reduceEqDiff, Nat.reduceBEq, Nat.reduceLeDiff, Nat.reduceLT, Nat.reducePow, Nat.reduceMod]; exact ⟨fun i hi => litF_map encI [1] i hi, fun i hi => litF_map encI [2, 3] i hi⟩
  | 3, _ => simp only [litF_zero, litF_succ, four, go_sem, ↓reduceIte, reduceCtorEq, Nat.reduceAdd, Nat.reduceSub, Nat.reduceMul, Nat.reduceEqDiff, Nat.reduceBEq, Nat.reduceLeDiff, Nat.reduceLT, Nat.reducePow, Nat.reduceMod]; exact ⟨fun i hi => litF_map encI [2] i hi, fun i hi => litF_map encI [0, 1] i hi⟩
theorem awake_ok : Ok Tryd.prog GOff 5 [] [] fun r h => r = bool true ∧ h = [] := by
  refine Ok.intro' [] [] [] 45 [.tmp 0] mixed Tryd.func5 (by kernel_rfl) rfl rfl rfl (by kernel_rfl) (by simp) (fun _ _ h => by cases h) (fun _ h => by cases h) ?_
  simp (config := {maxSteps := 10000000}) only [go_sem, ↓reduceIte, reduceCtorEq, Nat.reduceAdd, Nat.reduceSub, Nat.reduceMul, Nat.reduceEqDiff, Nat.reduceBEq, Nat.reduceLeDiff, Nat.reduceLT, Nat.reducePow, Nat.reduceMod]
  (refine CallW'.of [] [] (four_ok) (by simp (config := {maxSteps := 10000000}) only [go_sem, ↓reduceIte, reduceCtorEq, Nat.reduceAdd, Nat.reduceSub, Nat.reduceMul, Nat.reduceEqDiff, Nat.reduceBEq, Nat.reduceLeDiff, Nat.reduceLT, Nat.reducePow, Nat.reduceMod]) ?_; rintro _ _ ⟨rfl, rfl⟩; simp (config := {maxSteps := 10000000}) only [go_sem, ↓reduceIte, reduceCtorEq, Nat.reduceAdd, Nat.reduceSub, Nat.reduceMul, Nat.reduceEqDiff, Nat.reduceBEq, Nat.reduceLeDiff, Nat.reduceLT, Nat.reducePow, Nat.reduceMod])
  (refine CallW'.of [] [] (Rates_ok four [0, 0, 1, 1] (by decide) (by decide)) (by simp (config := {maxSteps := 10000000}) only [go_sem, ↓reduceIte, reduceCtorEq, Nat.reduceAdd, Nat.reduceSub, Nat.reduceMul, Nat.reduceEqDiff, Nat.reduceBEq, Nat.reduceLeDiff, Nat.reduceLT, Nat.reducePow, Nat.reduceMod]; exact fun i hi => litF_map encI [0, 0, 1, 1] i hi) ?_; rintro _ _ ⟨rfl, rfl⟩; simp (config := {maxSteps := 10000000}) only [go_sem, ↓reduceIte, reduceCtorEq, Nat.reduceAdd, Nat.reduceSub, Nat.reduceMul, Nat.reduceEqDiff, Nat.reduceBEq, Nat.reduceLeDiff, Nat.reduceLT, Nat.reducePow, Nat.reduceMod])
  have f1 : ratesE four [0, 0, 1, 1] = 0 := by decide +kernel
  have f2 : ratesV four [0, 0, 1, 1] = [⟨24000000, 1⟩, ⟨240000000, 1⟩, ⟨80000000, 1⟩, ⟨80000000, 1⟩] := by
    have e1 : (ratesV four [0, 0, 1, 1]).map (fun r => (r.num, r.den)) = [(24000000, 1), (240000000, 1), (80000000, 1), (80000000, 1)] := by decide +kernel
    have e2 := congrArg (List.map fun x : Int × Int => (⟨x.1, x.2⟩ : Rate)) e1
    rw [List.map_map] at e2
    have e3 : ((fun x : Int × Int => (⟨x.1, x.2⟩ : Rate)) ∘ fun r => (r.num, r.den)) = id := rfl
    rw [e3, List.map_id] at e2
    exact e2
  rw [if_pos f1, f2]
  refine (if_pos rfl).mpr ?_
  refine ⟨by decide, (if_pos rfl).mpr ⟨by decide, (if_pos rfl).mpr ?_⟩⟩
  (refine CallW'.of [] [] (four_ok) (by simp (config := {maxSteps := 10000000}) only [go_sem, ↓reduceIte, reduceCtorEq, Nat.reduceAdd, Nat.reduceSub, Nat.reduceMul, Nat.reduceEqDiff, Nat.reduceBEq, Nat.reduceLeDiff, Nat.reduceLT, Nat.reducePow, Nat.reduceMod]) ?_; rintro _ _ ⟨rfl, rfl⟩; simp (config := {maxSteps := 10000000}) only [go_sem, ↓reduceIte, reduceCtorEq, Nat.reduceAdd, Nat.reduceSub, Nat.reduceMul, Nat.reduceEqDiff, Nat.reduceBEq, Nat.reduceLeDiff, Nat.reduceLT, Nat.reducePow, Nat.reduceMod])
  (refine CallW'.of [] [] (Meets_ok four [0, 0, 1, 1] [⟨3, 1, 80000000⟩] (by decide) (by decide) (by decide)) (by simp (config := {maxSteps := 10000000}) only [go_sem, ↓reduceIte, reduceCtorEq, Nat.reduceAdd, Nat.reduceSub, Nat.reduceMul, Nat.reduceEqDiff, Nat.reduceBEq, Nat.reduceLeDiff, Nat.reduceLT, Nat.reducePow, Nat.reduceMod]; exact ⟨fun i hi => litF_map encI [0, 0, 1, 1] i hi, fun i hi => litF_map encL [⟨3, 1, 80000000⟩] i hi⟩) ?_; rintro _ _ ⟨rfl, rfl⟩; simp (config := {maxSteps := 10000000}) only [go_sem, ↓reduceIte, reduceCtorEq, Nat.reduceAdd, Nat.reduceSub, Nat.reduceMul, Nat.reduceEqDiff, Nat.reduceBEq, Nat.reduceLeDiff, Nat.reduceLT, Nat.reducePow, Nat.reduceMod])
  have f3 : meetsF four [0, 0, 1, 1] [⟨3, 1, 80000000⟩] = true := by decide +kernel
  have f4 : meetsF four [0, 0, 1, 0] [⟨3, 0, 80000000⟩] = false := by decide +kernel
  refine (if_pos f3).mpr ?_
  (refine CallW'.of [] [] (four_ok) (by simp (config := {maxSteps := 10000000}) only [go_sem, ↓reduceIte, reduceCtorEq, Nat.reduceAdd, Nat.reduceSub, Nat.reduceMul, Nat.reduceEqDiff, Nat.reduceBEq, Nat.reduceLeDiff, Nat.reduceLT, Nat.reducePow, Nat.reduceMod]) ?_; rintro _ _ ⟨rfl, rfl⟩; simp (config := {maxSteps := 10000000}) only [go_sem, ↓reduceIte, reduceCtorEq, Nat.reduceAdd, Nat.reduceSub, Nat.reduceMul, Nat.reduceEqDiff, Nat.reduceBEq, Nat.reduceLeDiff, Nat.reduceLT, Nat.reducePow, Nat.reduceMod])
  (refine CallW'.of [] [] (Meets_ok four [0, 0, 1, 0] [⟨3, 0, 80000000⟩] (by decide) (by decide) (by decide)) (by simp (config := {maxSteps := 10000000}) only [go_sem, ↓reduceIte, reduceCtorEq, Nat.reduceAdd, Nat.reduceSub, Nat.reduceMul, Nat.reduceEqDiff, Nat.reduceBEq, Nat.reduceLeDiff, Nat.reduceLT, Nat.reducePow, Nat.reduceMod]; exact ⟨fun i hi => litF_map encI [0, 0, 1, 0] i hi, fun i hi => litF_map encL [⟨3, 0, 80000000⟩] i hi⟩) ?_; rintro _ _ ⟨rfl, rfl⟩; simp (config := {maxSteps := 10000000}) only [go_sem, ↓reduceIte, reduceCtorEq, Nat.reduceAdd, Nat.reduceSub, Nat.reduceMul, Nat.reduceEqDiff, Nat.reduceBEq, Nat.reduceLeDiff, Nat.reduceLT, Nat.reducePow, Nat.reduceMod])
  rw [f4]
end Go.Am.Cl
