/-
  ClockAnswers, part O: the law.
-/
import Derived.Test.YtjmomolnhplokaaDoorAmClBentN
namespace Go.Am.Cl
open Go Go.Am Go.Proofs
set_option maxRecDepth 100000
set_option linter.unusedSimpArgs false
set_option linter.unusedVariables false
set_option maxHeartbeats 4000000
theorem wayUp_len (l : List Clock) (s : List Int) : ∀ (f : Nat) (x : Int), (wayUp l s f x).length ≤ f
  | 0, x => by simp [wayUp]
  | f + 1, x => by
    unfold wayUp
    split <;> simp [wayUp_len l s f]
theorem wayF_len (l : List Clock) (s : List Int) (k : Int) : (wayF l s k).length ≤ l.length + 2 := by
  unfold wayF
  split
  · have := wayUp_len l s (l.length + 1) k; omega
  · simp
theorem updF_set {α : Type} [Inhabited α] (enc : α → List AV) (l : List α) (j : Nat) (v : α) (row : List AV) (hr : row = enc v) (i : Nat) (hi : i < l.length) : updF (fun i => enc (l.getD i default)) j row i = enc ((l.set j v).getD i default) := by
  unfold updF
  by_cases e : i = j
  · subst e; simp [hr, List.getD_eq_getElem?_getD, hi]
  · simp [e, List.getD_eq_getElem?_getD, List.getElem?_set_ne (Ne.symm e)]
theorem law_ok (t : List Int) (raw : List Clock) (s : List Int) (m : List Limit) (k : Int) (ht : t.length < 2 ^ 60) (hr : raw.length < 2 ^ 60 ∧ ∀ c, c ∈ raw → c.par.length < 2 ^ 60 ∧ c.cho.length < 2 ^ 60) :
    Ok Tryd.prog GOff 3 [ints true t, sl true 5 encC raw, ints true s, sl true 3 encL m, int k] [] fun r h => r = bool true := by
  refine Ok.intro' [] [] [] 168 [.tmp 10] mixed Tryd.func3 (by kernel_rfl) rfl rfl rfl (by kernel_rfl) (by simp) (fun _ _ h => by cases h) (fun _ h => by cases h) ?_
  simp (config := {maxSteps := 10000000}) only [go_sem, ↓reduceIte, reduceCtorEq, Nat.reduceAdd, Nat.reduceSub, Nat.reduceMul, Nat.reduceEqDiff, Nat.reduceBEq, Nat.reduceLeDiff, Nat.reduceLT, Nat.reducePow, Nat.reduceMod]
  refine CallW'.of [] [] (small_ok raw hr.1 hr.2) (by simp (config := {maxSteps := 10000000}) only [go_sem, ↓reduceIte, reduceCtorEq, Nat.reduceAdd, Nat.reduceSub, Nat.reduceMul, Nat.reduceEqDiff, Nat.reduceBEq, Nat.reduceLeDiff, Nat.reduceLT, Nat.reducePow, Nat.reduceMod]) ?_
  rintro _ _ ⟨b, rfl, rfl, hb⟩
  simp (config := {maxSteps := 10000000}) only [go_sem, ↓reduceIte, reduceCtorEq, Nat.reduceAdd, Nat.reduceSub, Nat.reduceMul, Nat.reduceEqDiff, Nat.reduceBEq, Nat.reduceLeDiff, Nat.reduceLT, Nat.reducePow, Nat.reduceMod]
  refine ite_intro (fun hb1 => ?_) (fun hb1 => ?_)
  · (refine CallW'.of [] [] (awake_ok) (by simp (config := {maxSteps := 10000000}) only [go_sem, ↓reduceIte, reduceCtorEq, Nat.reduceAdd, Nat.reduceSub, Nat.reduceMul, Nat.reduceEqDiff, Nat.reduceBEq, Nat.reduceLeDiff, Nat.reduceLT, Nat.reducePow, Nat.reduceMod]) ?_; rintro _ _ ⟨rfl, rfl⟩; simp (config := {maxSteps := 10000000}) only [go_sem, ↓reduceIte, reduceCtorEq, Nat.reduceAdd, Nat.reduceSub, Nat.reduceMul, Nat.reduceEqDiff, Nat.reduceBEq, Nat.reduceLeDiff, Nat.reduceLT, Nat.reducePow, Nat.reduceMod])
  refine ite_intro (fun hs => ?_) (fun hs => ?_)
  · (refine CallW'.of [] [] (awake_ok) (by simp (config := {maxSteps := 10000000}) only [go_sem, ↓reduceIte, reduceCtorEq, Nat.reduceAdd, Nat.reduceSub, Nat.reduceMul, Nat.reduceEqDiff, Nat.reduceBEq, Nat.reduceLeDiff, Nat.reduceLT, Nat.reducePow, Nat.reduceMod]) ?_; rintro _ _ ⟨rfl, rfl⟩; simp (config := {maxSteps := 10000000}) only [go_sem, ↓reduceIte, reduceCtorEq, Nat.reduceAdd, Nat.reduceSub, Nat.reduceMul, Nat.reduceEqDiff, Nat.reduceBEq, Nat.reduceLeDiff, Nat.reduceLT, Nat.reducePow, Nat.reduceMod])
  refine ite_intro (fun hm => ?_) (fun hm => ?_)
  · (refine CallW'.of [] [] (awake_ok) (by simp (config := {maxSteps := 10000000}) only [go_sem, ↓reduceIte, reduceCtorEq, Nat.reduceAdd, Nat.reduceSub, Nat.reduceMul, Nat.reduceEqDiff, Nat.reduceBEq, Nat.reduceLeDiff, Nat.reduceLT, Nat.reducePow, Nat.reduceMod]) ?_; rintro _ _ ⟨rfl, rfl⟩; simp (config := {maxSteps := 10000000}) only [go_sem, ↓reduceIte, reduceCtorEq, Nat.reduceAdd, Nat.reduceSub, Nat.reduceMul, Nat.reduceEqDiff, Nat.reduceBEq, Nat.reduceLeDiff, Nat.reduceLT, Nat.reducePow, Nat.reduceMod])
  have hraw := hb (by simpa using hb1)
  refine CallW'.of [] [1000] (new_ok t ht) (by simp (config := {maxSteps := 10000000}) only [go_sem, ↓reduceIte, reduceCtorEq, Nat.reduceAdd, Nat.reduceSub, Nat.reduceMul, Nat.reduceEqDiff, Nat.reduceBEq, Nat.reduceLeDiff, Nat.reduceLT, Nat.reducePow, Nat.reduceMod]) ?_
  rintro _ _ ⟨rfl, rfl⟩
  simp (config := {maxSteps := 10000000}) only [go_sem, ↓reduceIte, reduceCtorEq, Nat.reduceAdd, Nat.reduceSub, Nat.reduceMul, Nat.reduceEqDiff, Nat.reduceBEq, Nat.reduceLeDiff, Nat.reduceLT, Nat.reducePow, Nat.reduceMod]
  have h1 : ((t.take 500).length : Int) ≤ 500 := by have := List.length_take_le 500 t; omega
  generalize t.take 500 = L at h1
  refine CallW'.of [1000] [] (clocks_ok L 0 10 (by omega) h1 (by omega)) (by simp (config := {maxSteps := 10000000}) only [go_sem, ↓reduceIte, reduceCtorEq, Nat.reduceAdd, Nat.reduceSub, Nat.reduceMul, Nat.reduceEqDiff, Nat.reduceBEq, Nat.reduceLeDiff, Nat.reduceLT, Nat.reducePow, Nat.reduceMod]) ?_
  rintro _ _ ⟨⟨l, rfl, hl, hc⟩, p1, hp1, rfl⟩
  obtain ⟨hl16, hv, hbl⟩ := checkF_zero hc
  simp (config := {maxSteps := 10000000}) only [go_sem, ↓reduceIte, reduceCtorEq, Nat.reduceAdd, Nat.reduceSub, Nat.reduceMul, Nat.reduceEqDiff, Nat.reduceBEq, Nat.reduceLeDiff, Nat.reduceLT, Nat.reducePow, Nat.reduceMod]
  refine CallW'.of [1000] [] (gsetting_ok L p1 l hp1 h1 (by omega) fun i hi => ⟨cho_pos hv hi, by have := (hbl _ (getD_mem (d := default) hi)).2; omega⟩) (by simp (config := {maxSteps := 10000000}) only [go_sem, ↓reduceIte, reduceCtorEq, Nat.reduceAdd, Nat.reduceSub, Nat.reduceMul, Nat.reduceEqDiff, Nat.reduceBEq, Nat.reduceLeDiff, Nat.reduceLT, Nat.reducePow, Nat.reduceMod]) ?_
  rintro _ _ ⟨⟨a, rfl, ha⟩, p2, hp2, rfl⟩
  have hal : a.length = l.length := ha.1
  simp (config := {maxSteps := 10000000}) only [go_sem, ↓reduceIte, reduceCtorEq, Nat.reduceAdd, Nat.reduceSub, Nat.reduceMul, Nat.reduceEqDiff, Nat.reduceBEq, Nat.reduceLeDiff, Nat.reduceLT, Nat.reducePow, Nat.reduceMod]
  refine ⟨by omega, ?_⟩
  refine CallW'.of [1000] [] (n_ok L p2 a.length hp2 h1 (by omega)) (by simp (config := {maxSteps := 10000000}) only [go_sem, ↓reduceIte, reduceCtorEq, Nat.reduceAdd, Nat.reduceSub, Nat.reduceMul, Nat.reduceEqDiff, Nat.reduceBEq, Nat.reduceLeDiff, Nat.reduceLT, Nat.reducePow, Nat.reduceMod]) ?_
  rintro _ _ ⟨⟨j, rfl, j0, j1, _⟩, p3, hp3, rfl⟩
  have hj := j1 (by omega)
  simp (config := {maxSteps := 10000000}) only [go_sem, ↓reduceIte, reduceCtorEq, Nat.reduceAdd, Nat.reduceSub, Nat.reduceMul, Nat.reduceEqDiff, Nat.reduceBEq, Nat.reduceLeDiff, Nat.reduceLT, Nat.reducePow, Nat.reduceMod]
  refine CallW'.of [1000] [] (range_ok L p3 (-1) 8 hp3 h1 (by omega) (by omega)) (by simp (config := {maxSteps := 10000000}) only [go_sem, ↓reduceIte, reduceCtorEq, Nat.reduceAdd, Nat.reduceSub, Nat.reduceMul, Nat.reduceEqDiff, Nat.reduceBEq, Nat.reduceLeDiff, Nat.reduceLT, Nat.reducePow, Nat.reduceMod]) ?_
  rintro _ _ ⟨⟨v, rfl, _⟩, p4, hp4, rfl⟩
  simp (config := {maxSteps := 10000000}) only [go_sem, ↓reduceIte, reduceCtorEq, Nat.reduceAdd, Nat.reduceSub, Nat.reduceMul, Nat.reduceEqDiff, Nat.reduceBEq, Nat.reduceLeDiff, Nat.reduceLT, Nat.reducePow, Nat.reduceMod]
  refine ⟨by omega, by omega, ?_⟩
  refine CallW'.of [1000] [] (glimits_ok L p4 4 l hp4 h1 hl (by omega) hc) (by simp (config := {maxSteps := 10000000}) only [go_sem, ↓reduceIte, reduceCtorEq, Nat.reduceAdd, Nat.reduceSub, Nat.reduceMul, Nat.reduceEqDiff, Nat.reduceBEq, Nat.reduceLeDiff, Nat.reduceLT, Nat.reducePow, Nat.reduceMod]) ?_
  rintro _ _ ⟨⟨n, rfl, hn⟩, p5, hp5, rfl⟩
  simp (config := {maxSteps := 10000000}) only [go_sem, ↓reduceIte, reduceCtorEq, Nat.reduceAdd, Nat.reduceSub, Nat.reduceMul, Nat.reduceEqDiff, Nat.reduceBEq, Nat.reduceLeDiff, Nat.reduceLT, Nat.reducePow, Nat.reduceMod]
  refine CallW'.of [1000] [] (bent_ok L p5 l hp5 h1 hl hc) (by simp (config := {maxSteps := 10000000}) only [go_sem, ↓reduceIte, reduceCtorEq, Nat.reduceAdd, Nat.reduceSub, Nat.reduceMul, Nat.reduceEqDiff, Nat.reduceBEq, Nat.reduceLeDiff, Nat.reduceLT, Nat.reducePow, Nat.reduceMod]) ?_
  rintro _ _ ⟨⟨b', rfl, hb'⟩, p6, hp6, rfl⟩
  simp (config := {maxSteps := 10000000}) only [go_sem, ↓reduceIte, reduceCtorEq, Nat.reduceAdd, Nat.reduceSub, Nat.reduceMul, Nat.reduceEqDiff, Nat.reduceBEq, Nat.reduceLeDiff, Nat.reduceLT, Nat.reducePow, Nat.reduceMod]
  refine TC'.ent (Ent.frz 49 (by simp (config := {maxSteps := 10000000}) only [go_sem, ↓reduceIte, reduceCtorEq, Nat.reduceAdd, Nat.reduceSub, Nat.reduceMul, Nat.reduceEqDiff, Nat.reduceBEq, Nat.reduceLeDiff, Nat.reduceLT, Nat.reducePow, Nat.reduceMod])) ?_
  simp (config := {maxSteps := 10000000}) only [go_sem, ↓reduceIte, reduceCtorEq, Nat.reduceAdd, Nat.reduceSub, Nat.reduceMul, Nat.reduceEqDiff, Nat.reduceBEq, Nat.reduceLeDiff, Nat.reduceLT, Nat.reducePow, Nat.reduceMod]
  let X : List (List Clock) := [raw, l, b']
  let odd : List Int := a.set j.toNat v
  have hX : ∀ i, i < 3 → (X.getD i default).length ≤ 400 ∧ ∀ c, c ∈ X.getD i default → c.par.length ≤ 400 ∧ c.cho.length ≤ 400 := fun i hi => by
    match i, hi with
    | 0, _ => exact ⟨by simp only [X]; have := hraw.1; simp; omega, fun c hc => by have := hraw.2 c hc; omega⟩
    | 1, _ => exact ⟨by simp only [X]; simp; omega, fun c hc => by have := hbl c hc; omega⟩
    | 2, _ => exact hb'
  let Y : List (List Int) := [s, a, odd]
  let M : List (List Limit) := [m, n]
  have hM : ∀ i, i < 2 → (M.getD i default).length ≤ 100 := fun i hi => by
    match i, hi with
    | 0, _ => simp only [M]; simp; omega
    | 1, _ => simp only [M]; simp; omega
  have hY : ∀ i, i < 3 → (Y.getD i default).length ≤ 100 := fun i hi => by
    match i, hi with
    | 0, _ => simp only [Y]; simp; omega
    | 1, _ => simp only [Y]; simp; omega
    | 2, _ => simp only [Y, odd]; simp; omega
  refine TC'.loop [] (fun (x : Nat × Int) => ⟨[(2, ints true s), (3, sl true 3 encL m), (4, int k), (11, .ptr 1000 0), (13, ints true a), (14, ints true odd), (15, sl true 3 encL n), (68, .own 68 1 0 3 true), (69, int 3), (70, int x.1)], [(1000, tapeB L x.2), (68, .arr 1 3 (fun i => [sl true 5 encC (X.getD i default)]) true)]⟩)
    (fun x => x.1 ≤ 3 ∧ 0 ≤ x.2) (fun x => 3 - x.1) (0, p6) mixed (by kernel_rfl) ?_ ?_ ?_
  · simp (config := {maxSteps := 10000000}) only [go_sem, ↓reduceIte, reduceCtorEq, Nat.reduceAdd, Nat.reduceSub, Nat.reduceMul, Nat.reduceEqDiff, Nat.reduceBEq, Nat.reduceLeDiff, Nat.reduceLT, Nat.reducePow, Nat.reduceMod]
    refine ⟨⟨⟨List.length_set.symm, fun i hi => updF_set encI a j.toNat v _ rfl i hi⟩, rfl, rfl⟩, fun i hi => litF_map (fun x => [sl true 5 encC x]) X i hi⟩
  · exact ⟨by simp, hp6⟩
  have hYe : ∀ i, i < 3 → litF [[ints true s], [ints true a], [ints true odd]] i = [ints true (Y.getD i default)] := fun i hi => litF_map (fun x => [ints true x]) Y i hi
  have hMe : ∀ i, i < 2 → litF [[sl true 3 encL m], [sl true 3 encL n]] i = [sl true 3 encL (M.getD i default)] := fun i hi => litF_map (fun x => [sl true 3 encL x]) M i hi
  clear_value X Y M odd
  clear hv hbl ha hraw hb hb' hal hj j1 hl16 hc hl
  intro ⟨i, q⟩ ⟨hi, hq⟩
  simp only at hi hq
  simp (config := {maxSteps := 10000000}) only [go_sem, ↓reduceIte, reduceCtorEq, Nat.reduceAdd, Nat.reduceSub, Nat.reduceMul, Nat.reduceEqDiff, Nat.reduceBEq, Nat.reduceLeDiff, Nat.reduceLT, Nat.reducePow, Nat.reduceMod]
  refine ite_intro (fun hgt => ?_) (fun hgt => ?_)
  · have hX := hX i (by omega)
    generalize X.getD i default = x at hX
    have hx1 := hX.1
    have hx2 := hX.2
    refine ⟨by omega, by omega, ?_⟩
    (refine CallW'.of [] [] (check_ok x (by omega)) (by simp (config := {maxSteps := 10000000}) only [go_sem, ↓reduceIte, reduceCtorEq, Nat.reduceAdd, Nat.reduceSub, Nat.reduceMul, Nat.reduceEqDiff, Nat.reduceBEq, Nat.reduceLeDiff, Nat.reduceLT, Nat.reducePow, Nat.reduceMod]) ?_; rintro _ _ ⟨rfl, rfl⟩; simp (config := {maxSteps := 10000000}) only [go_sem, ↓reduceIte, reduceCtorEq, Nat.reduceAdd, Nat.reduceSub, Nat.reduceMul, Nat.reduceEqDiff, Nat.reduceBEq, Nat.reduceLeDiff, Nat.reduceLT, Nat.reducePow, Nat.reduceMod])
    (refine CallW'.of [] [] (rcheck_ok x (by omega)) (by simp (config := {maxSteps := 10000000}) only [go_sem, ↓reduceIte, reduceCtorEq, Nat.reduceAdd, Nat.reduceSub, Nat.reduceMul, Nat.reduceEqDiff, Nat.reduceBEq, Nat.reduceLeDiff, Nat.reduceLT, Nat.reducePow, Nat.reduceMod]) ?_; rintro _ _ ⟨rfl, rfl⟩; simp (config := {maxSteps := 10000000}) only [go_sem, ↓reduceIte, reduceCtorEq, Nat.reduceAdd, Nat.reduceSub, Nat.reduceMul, Nat.reduceEqDiff, Nat.reduceBEq, Nat.reduceLeDiff, Nat.reduceLT, Nat.reducePow, Nat.reduceMod])
    refine TC'.loop [] (fun (z : Nat × Int) => ⟨[(2, ints true s), (3, sl true 3 encL m), (4, int k), (11, .ptr 1000 0), (13, ints true a), (14, ints true odd), (15, sl true 3 encL n), (17, sl true 5 encC x), (68, .own 68 1 0 3 true), (69, int 3), (70, int i), (82, .own 82 1 0 3 true), (83, int 3), (84, int z.1)],
        [(1000, tapeB L z.2), (68, .arr 1 3 (fun i => [sl true 5 encC (X.getD i default)]) true), (82, .arr 1 3 (fun i => [ints true (Y.getD i default)]) true)]⟩)
      (fun z => z.1 ≤ 3 ∧ 0 ≤ z.2) (fun z => 3 - z.1) (0, q) mixed (by kernel_rfl) ?_ ?_ ?_
    · simp (config := {maxSteps := 10000000}) only [go_sem, ↓reduceIte, reduceCtorEq, Nat.reduceAdd, Nat.reduceSub, Nat.reduceMul, Nat.reduceEqDiff, Nat.reduceBEq, Nat.reduceLeDiff, Nat.reduceLT, Nat.reducePow, Nat.reduceMod]
      exact ⟨⟨rfl, rfl⟩, hYe⟩
    · exact ⟨by simp, hq⟩
    intro ⟨j, q⟩ ⟨hj, hq⟩
    simp only at hj hq
    simp (config := {maxSteps := 10000000}) only [go_sem, ↓reduceIte, reduceCtorEq, Nat.reduceAdd, Nat.reduceSub, Nat.reduceMul, Nat.reduceEqDiff, Nat.reduceBEq, Nat.reduceLeDiff, Nat.reduceLT, Nat.reducePow, Nat.reduceMod]
    refine ite_intro (fun hgt2 => ?_) (fun hgt2 => ?_)
    · have hY := hY j (by omega)
      generalize Y.getD j default = y at hY
      refine ⟨by omega, by omega, ?_⟩
      (refine CallW'.of [] [] (Rates_ok x y (by omega) (fun c hc => by have := hx2 c hc; omega)) (by simp (config := {maxSteps := 10000000}) only [go_sem, ↓reduceIte, reduceCtorEq, Nat.reduceAdd, Nat.reduceSub, Nat.reduceMul, Nat.reduceEqDiff, Nat.reduceBEq, Nat.reduceLeDiff, Nat.reduceLT, Nat.reducePow, Nat.reduceMod]) ?_; rintro _ _ ⟨rfl, rfl⟩; simp (config := {maxSteps := 10000000}) only [go_sem, ↓reduceIte, reduceCtorEq, Nat.reduceAdd, Nat.reduceSub, Nat.reduceMul, Nat.reduceEqDiff, Nat.reduceBEq, Nat.reduceLeDiff, Nat.reduceLT, Nat.reducePow, Nat.reduceMod])
      (refine CallW'.of [] [] (rRates_ok x y (by omega)) (by simp (config := {maxSteps := 10000000}) only [go_sem, ↓reduceIte, reduceCtorEq, Nat.reduceAdd, Nat.reduceSub, Nat.reduceMul, Nat.reduceEqDiff, Nat.reduceBEq, Nat.reduceLeDiff, Nat.reduceLT, Nat.reducePow, Nat.reduceMod]) ?_; rintro _ _ ⟨rfl, rfl⟩; simp (config := {maxSteps := 10000000}) only [go_sem, ↓reduceIte, reduceCtorEq, Nat.reduceAdd, Nat.reduceSub, Nat.reduceMul, Nat.reduceEqDiff, Nat.reduceBEq, Nat.reduceLeDiff, Nat.reduceLT, Nat.reducePow, Nat.reduceMod])
      (refine CallW'.of [] [] (Setting_ok x y (by omega) (fun c hc => by have := hx2 c hc; omega)) (by simp (config := {maxSteps := 10000000}) only [go_sem, ↓reduceIte, reduceCtorEq, Nat.reduceAdd, Nat.reduceSub, Nat.reduceMul, Nat.reduceEqDiff, Nat.reduceBEq, Nat.reduceLeDiff, Nat.reduceLT, Nat.reducePow, Nat.reduceMod]) ?_; rintro _ _ ⟨rfl, rfl⟩; simp (config := {maxSteps := 10000000}) only [go_sem, ↓reduceIte, reduceCtorEq, Nat.reduceAdd, Nat.reduceSub, Nat.reduceMul, Nat.reduceEqDiff, Nat.reduceBEq, Nat.reduceLeDiff, Nat.reduceLT, Nat.reducePow, Nat.reduceMod])
      (refine CallW'.of [] [] (rSetting_ok x y (by omega)) (by simp (config := {maxSteps := 10000000}) only [go_sem, ↓reduceIte, reduceCtorEq, Nat.reduceAdd, Nat.reduceSub, Nat.reduceMul, Nat.reduceEqDiff, Nat.reduceBEq, Nat.reduceLeDiff, Nat.reduceLT, Nat.reducePow, Nat.reduceMod]) ?_; rintro _ _ ⟨rfl, rfl⟩; simp (config := {maxSteps := 10000000}) only [go_sem, ↓reduceIte, reduceCtorEq, Nat.reduceAdd, Nat.reduceSub, Nat.reduceMul, Nat.reduceEqDiff, Nat.reduceBEq, Nat.reduceLeDiff, Nat.reduceLT, Nat.reducePow, Nat.reduceMod])
      rw [if_neg (by simp), if_neg (by simp)]
      have hrv : (ratesV x y).length ≤ x.length := by unfold ratesV; split; rw [ratesUp_len]; exact Nat.le_refl _; simp
      (refine CallW'.of [] [] (sameRates_ok (ratesV x y) (ratesV x y) (by omega)) (by simp (config := {maxSteps := 10000000}) only [go_sem, ↓reduceIte, reduceCtorEq, Nat.reduceAdd, Nat.reduceSub, Nat.reduceMul, Nat.reduceEqDiff, Nat.reduceBEq, Nat.reduceLeDiff, Nat.reduceLT, Nat.reducePow, Nat.reduceMod]) ?_; rintro _ _ ⟨rfl, rfl⟩; simp (config := {maxSteps := 10000000}) only [go_sem, ↓reduceIte, reduceCtorEq, Nat.reduceAdd, Nat.reduceSub, Nat.reduceMul, Nat.reduceEqDiff, Nat.reduceBEq, Nat.reduceLeDiff, Nat.reduceLT, Nat.reducePow, Nat.reduceMod])
      refine TC'.loop [] (fun (z : Nat × Int) => ⟨[(2, ints true s), (3, sl true 3 encL m), (4, int k), (11, .ptr 1000 0), (13, ints true a), (14, ints true odd), (15, sl true 3 encL n), (17, sl true 5 encC x), (19, ints true y), (68, .own 68 1 0 3 true), (69, int 3), (70, int i), (82, .own 82 1 0 3 true), (83, int 3), (84, int j), (120, .own 120 1 0 2 true), (121, int 2), (122, int z.1)],
          [(1000, tapeB L z.2), (68, .arr 1 3 (fun i => [sl true 5 encC (X.getD i default)]) true), (82, .arr 1 3 (fun i => [ints true (Y.getD i default)]) true), (120, .arr 1 2 (fun i => [sl true 3 encL (M.getD i default)]) true)]⟩)
        (fun z => z.1 ≤ 2 ∧ 0 ≤ z.2) (fun z => 2 - z.1) (0, q) mixed (by kernel_rfl) ?_ ?_ ?_
      · simp (config := {maxSteps := 10000000}) only [go_sem, ↓reduceIte, reduceCtorEq, Nat.reduceAdd, Nat.reduceSub, Nat.reduceMul, Nat.reduceEqDiff, Nat.reduceBEq, Nat.reduceLeDiff, Nat.reduceLT, Nat.reducePow, Nat.reduceMod]
        exact ⟨⟨rfl, rfl⟩, hMe⟩
      · exact ⟨by simp, hq⟩
      intro ⟨e, q⟩ ⟨he, hq⟩
      simp only at he hq
      simp (config := {maxSteps := 10000000}) only [go_sem, ↓reduceIte, reduceCtorEq, Nat.reduceAdd, Nat.reduceSub, Nat.reduceMul, Nat.reduceEqDiff, Nat.reduceBEq, Nat.reduceLeDiff, Nat.reduceLT, Nat.reducePow, Nat.reduceMod]
      refine ite_intro (fun hgt3 => ?_) (fun hgt3 => ?_)
      · have hM := hM e (by omega)
        generalize M.getD e default = z at hM
        refine ⟨by omega, by omega, ?_⟩
        (refine CallW'.of [] [] (Limits_ok x z (by omega) (by omega)) (by simp (config := {maxSteps := 10000000}) only [go_sem, ↓reduceIte, reduceCtorEq, Nat.reduceAdd, Nat.reduceSub, Nat.reduceMul, Nat.reduceEqDiff, Nat.reduceBEq, Nat.reduceLeDiff, Nat.reduceLT, Nat.reducePow, Nat.reduceMod]) ?_; rintro _ _ ⟨rfl, rfl⟩; simp (config := {maxSteps := 10000000}) only [go_sem, ↓reduceIte, reduceCtorEq, Nat.reduceAdd, Nat.reduceSub, Nat.reduceMul, Nat.reduceEqDiff, Nat.reduceBEq, Nat.reduceLeDiff, Nat.reduceLT, Nat.reducePow, Nat.reduceMod])
        (refine CallW'.of [] [] (rlimits_ok x z (by omega) (by omega)) (by simp (config := {maxSteps := 10000000}) only [go_sem, ↓reduceIte, reduceCtorEq, Nat.reduceAdd, Nat.reduceSub, Nat.reduceMul, Nat.reduceEqDiff, Nat.reduceBEq, Nat.reduceLeDiff, Nat.reduceLT, Nat.reducePow, Nat.reduceMod]) ?_; rintro _ _ ⟨rfl, rfl⟩; simp (config := {maxSteps := 10000000}) only [go_sem, ↓reduceIte, reduceCtorEq, Nat.reduceAdd, Nat.reduceSub, Nat.reduceMul, Nat.reduceEqDiff, Nat.reduceBEq, Nat.reduceLeDiff, Nat.reduceLT, Nat.reducePow, Nat.reduceMod])
        (refine CallW'.of [] [] (Meets_ok x y z (by omega) (by omega) (fun c hc => by have := hx2 c hc; omega)) (by simp (config := {maxSteps := 10000000}) only [go_sem, ↓reduceIte, reduceCtorEq, Nat.reduceAdd, Nat.reduceSub, Nat.reduceMul, Nat.reduceEqDiff, Nat.reduceBEq, Nat.reduceLeDiff, Nat.reduceLT, Nat.reducePow, Nat.reduceMod]) ?_; rintro _ _ ⟨rfl, rfl⟩; simp (config := {maxSteps := 10000000}) only [go_sem, ↓reduceIte, reduceCtorEq, Nat.reduceAdd, Nat.reduceSub, Nat.reduceMul, Nat.reduceEqDiff, Nat.reduceBEq, Nat.reduceLeDiff, Nat.reduceLT, Nat.reducePow, Nat.reduceMod])
        (refine CallW'.of [] [] (rMeets_ok x y z (by omega) (by omega)) (by simp (config := {maxSteps := 10000000}) only [go_sem, ↓reduceIte, reduceCtorEq, Nat.reduceAdd, Nat.reduceSub, Nat.reduceMul, Nat.reduceEqDiff, Nat.reduceBEq, Nat.reduceLeDiff, Nat.reduceLT, Nat.reducePow, Nat.reduceMod]) ?_; rintro _ _ ⟨rfl, rfl⟩; simp (config := {maxSteps := 10000000}) only [go_sem, ↓reduceIte, reduceCtorEq, Nat.reduceAdd, Nat.reduceSub, Nat.reduceMul, Nat.reduceEqDiff, Nat.reduceBEq, Nat.reduceLeDiff, Nat.reduceLT, Nat.reducePow, Nat.reduceMod])
        rw [if_neg (by simp)]
        exact ⟨(e + 1, q), ⟨by simp only; omega, hq⟩, by simp only; omega, by rw [w64 (by omega) (by omega)]; simp, rfl⟩
      · refine CallW'.of [1000] [] (range_ok L q (-1) 10 hq h1 (by omega) (by omega)) (by simp (config := {maxSteps := 10000000}) only [go_sem, ↓reduceIte, reduceCtorEq, Nat.reduceAdd, Nat.reduceSub, Nat.reduceMul, Nat.reduceEqDiff, Nat.reduceBEq, Nat.reduceLeDiff, Nat.reduceLT, Nat.reducePow, Nat.reduceMod]) ?_
        rintro _ _ ⟨⟨v, rfl, _⟩, q, hq, rfl⟩
        simp (config := {maxSteps := 10000000}) only [go_sem, ↓reduceIte, reduceCtorEq, Nat.reduceAdd, Nat.reduceSub, Nat.reduceMul, Nat.reduceEqDiff, Nat.reduceBEq, Nat.reduceLeDiff, Nat.reduceLT, Nat.reducePow, Nat.reduceMod]
        let W : List Int := [k, v]
        have hWe : ∀ i, i < 2 → litF [[int k], [int v]] i = [int (W.getD i default)] := fun i hi => litF_map encI W i hi
        clear_value W
        refine TC'.loop [] (fun (z : Nat × Int) => ⟨[(2, ints true s), (3, sl true 3 encL m), (4, int k), (11, .ptr 1000 0), (13, ints true a), (14, ints true odd), (15, sl true 3 encL n), (17, sl true 5 encC x), (19, ints true y), (68, .own 68 1 0 3 true), (69, int 3), (70, int i), (82, .own 82 1 0 3 true), (83, int 3), (84, int j), (148, .own 148 1 0 2 true), (149, int 2), (150, int z.1)],
            [(1000, tapeB L z.2), (68, .arr 1 3 (fun i => [sl true 5 encC (X.getD i default)]) true), (82, .arr 1 3 (fun i => [ints true (Y.getD i default)]) true), (148, .arr 1 2 (fun i => [int (W.getD i default)]) true)]⟩)
          (fun z => z.1 ≤ 2 ∧ 0 ≤ z.2) (fun z => 2 - z.1) (0, q) mixed (by kernel_rfl) ?_ ?_ ?_
        · simp (config := {maxSteps := 10000000}) only [go_sem, ↓reduceIte, reduceCtorEq, Nat.reduceAdd, Nat.reduceSub, Nat.reduceMul, Nat.reduceEqDiff, Nat.reduceBEq, Nat.reduceLeDiff, Nat.reduceLT, Nat.reducePow, Nat.reduceMod]
          exact ⟨⟨rfl, rfl⟩, hWe⟩
        · exact ⟨by simp, hq⟩
        intro ⟨e, q⟩ ⟨he, hq⟩
        simp only at he hq
        simp (config := {maxSteps := 10000000}) only [go_sem, ↓reduceIte, reduceCtorEq, Nat.reduceAdd, Nat.reduceSub, Nat.reduceMul, Nat.reduceEqDiff, Nat.reduceBEq, Nat.reduceLeDiff, Nat.reduceLT, Nat.reducePow, Nat.reduceMod]
        refine ite_intro (fun hgt4 => ?_) (fun hgt4 => ?_)
        · generalize W.getD e default = z
          refine ⟨by omega, by omega, ?_⟩
          (refine CallW'.of [] [] (Way_ok x y z (by omega) (fun c hc => by have := hx2 c hc; omega)) (by simp (config := {maxSteps := 10000000}) only [go_sem, ↓reduceIte, reduceCtorEq, Nat.reduceAdd, Nat.reduceSub, Nat.reduceMul, Nat.reduceEqDiff, Nat.reduceBEq, Nat.reduceLeDiff, Nat.reduceLT, Nat.reducePow, Nat.reduceMod]) ?_; rintro _ _ ⟨rfl, rfl⟩; simp (config := {maxSteps := 10000000}) only [go_sem, ↓reduceIte, reduceCtorEq, Nat.reduceAdd, Nat.reduceSub, Nat.reduceMul, Nat.reduceEqDiff, Nat.reduceBEq, Nat.reduceLeDiff, Nat.reduceLT, Nat.reducePow, Nat.reduceMod])
          (refine CallW'.of [] [] (rWay_ok x y z (by omega)) (by simp (config := {maxSteps := 10000000}) only [go_sem, ↓reduceIte, reduceCtorEq, Nat.reduceAdd, Nat.reduceSub, Nat.reduceMul, Nat.reduceEqDiff, Nat.reduceBEq, Nat.reduceLeDiff, Nat.reduceLT, Nat.reducePow, Nat.reduceMod]) ?_; rintro _ _ ⟨rfl, rfl⟩; simp (config := {maxSteps := 10000000}) only [go_sem, ↓reduceIte, reduceCtorEq, Nat.reduceAdd, Nat.reduceSub, Nat.reduceMul, Nat.reduceEqDiff, Nat.reduceBEq, Nat.reduceLeDiff, Nat.reduceLT, Nat.reducePow, Nat.reduceMod])
          (refine CallW'.of [] [] (ints_ok (wayF x y z) (wayF x y z) (by have := wayF_len x y z; omega)) (by simp (config := {maxSteps := 10000000}) only [go_sem, ↓reduceIte, reduceCtorEq, Nat.reduceAdd, Nat.reduceSub, Nat.reduceMul, Nat.reduceEqDiff, Nat.reduceBEq, Nat.reduceLeDiff, Nat.reduceLT, Nat.reducePow, Nat.reduceMod]) ?_; rintro _ _ ⟨rfl, rfl⟩; simp (config := {maxSteps := 10000000}) only [go_sem, ↓reduceIte, reduceCtorEq, Nat.reduceAdd, Nat.reduceSub, Nat.reduceMul, Nat.reduceEqDiff, Nat.reduceBEq, Nat.reduceLeDiff, Nat.reduceLT, Nat.reducePow, Nat.reduceMod])
          exact ⟨(e + 1, q), ⟨by simp only; omega, hq⟩, by simp only; omega, by rw [w64 (by omega) (by omega)]; simp, rfl⟩
        · exact ⟨(j + 1, q), ⟨by simp only; omega, hq⟩, by simp only; omega, by rw [w64 (by omega) (by omega)]; simp, rfl⟩
    · exact ⟨(i + 1, q), ⟨by simp only; omega, hq⟩, by simp only; omega, by rw [w64 (by omega) (by omega)]; simp, rfl⟩
  · (refine CallW'.of [] [] (awake_ok) (by simp (config := {maxSteps := 10000000}) only [go_sem, ↓reduceIte, reduceCtorEq, Nat.reduceAdd, Nat.reduceSub, Nat.reduceMul, Nat.reduceEqDiff, Nat.reduceBEq, Nat.reduceLeDiff, Nat.reduceLT, Nat.reducePow, Nat.reduceMod]) ?_; rintro _ _ ⟨rfl, rfl⟩; simp (config := {maxSteps := 10000000}) only [go_sem, ↓reduceIte, reduceCtorEq, Nat.reduceAdd, Nat.reduceSub, Nat.reduceMul, Nat.reduceEqDiff, Nat.reduceBEq, Nat.reduceLeDiff, Nat.reduceLT, Nat.reducePow, Nat.reduceMod])
end Go.Am.Cl
