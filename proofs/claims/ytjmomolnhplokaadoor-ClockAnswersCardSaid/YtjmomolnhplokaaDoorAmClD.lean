/-
  ClockAnswers, part D: Check.
-/
import Derived.Test.YtjmomolnhplokaaDoorAmClC
namespace Go.Am.Cl
open Go Go.Am Go.Proofs
set_option maxRecDepth 100000
set_option linter.unusedSimpArgs false
set_option linter.unusedVariables false
variable {G : Gl}
def longF (c : Clock) : Bool := decide (8 < c.par.length) || decide (8 < c.cho.length)
theorem check1_ok (c : Clock) : Ok Tryd.prog G 35 [.agg (encC c)] [] fun r h => r = bool (longF c) ∧ h = [] := by
  refine Ok.intro' [] [] [] 13 [.tmp 2] mixed Tryd.func35 (by kernel_rfl) rfl rfl rfl (by kernel_rfl) (by simp) (fun _ _ h => by cases h) (fun _ h => by cases h) ?_
  simp (config := {maxSteps := 10000000}) only [go_sem, ↓reduceIte, reduceCtorEq, Nat.reduceAdd, Nat.reduceSub, Nat.reduceMul, Nat.reduceEqDiff, Nat.reduceBEq, Nat.reduceLeDiff, Nat.reduceLT, Nat.reducePow, Nat.reduceMod]
  unfold longF
  refine ite_intro (fun h => ?_) (fun h => ?_)
  · have : 8 < c.par.length := by omega
    simp [this]
  · have : ¬ 8 < c.par.length := by omega
    simp [this]
    omega
def accP (f : List Int) (ps : List Int) : Int := ps.foldl (fun n p => max n (f.getD p.toNat default)) 0
def facOf (f : List Int) (c : Clock) : Int := accP f c.par + (if c.kind = 2 ∨ c.kind = 3 then 1 else 0)
def updI (F : List Int) (i : Nat) (v : Int) (x : Nat) : Int := if x = i then v else F.getD x default
def facs (l : List Clock) : List Int := l.foldl (fun f c => f ++ [facOf f c]) []
def prod (l : List Clock) : Int := l.foldl (fun n c => n * c.cho.length) 1
def allValid (l : List Clock) : Prop := ∀ i, i < l.length → validF (l.getD i default) i = true
instance (l : List Clock) : Decidable (allValid l) := inferInstanceAs (Decidable (∀ i, i < l.length → _))
def checkF (l : List Clock) : Int :=
  if 16 < l.length ∨ l.any longF = true then 3 else if ¬ allValid l then 1 else if 4096 < prod l ∨ (facs l).any (fun n => decide (4 < n)) = true then 3 else 0
theorem accP_snoc (f ps : List Int) (p : Int) : accP f (ps ++ [p]) = max (accP f ps) (f.getD p.toNat default) := by simp [accP, List.foldl_append]
theorem facs_snoc (l : List Clock) (c : Clock) : facs (l ++ [c]) = facs l ++ [facOf (facs l) c] := by simp [facs, List.foldl_append]
theorem prod_snoc (l : List Clock) (c : Clock) : prod (l ++ [c]) = prod l * c.cho.length := by simp [prod, List.foldl_append]
theorem facs_take {l : List Clock} {i : Nat} (h : i < l.length) : facs (l.take (i + 1)) = facs (l.take i) ++ [facOf (facs (l.take i)) (l.getD i default)] := by rw [take_getD (d := default) h, facs_snoc]
theorem prod_take {l : List Clock} {i : Nat} (h : i < l.length) : prod (l.take (i + 1)) = prod (l.take i) * (l.getD i default).cho.length := by rw [take_getD (d := default) h, prod_snoc]
theorem facs_len_take (l : List Clock) : ∀ i, i ≤ l.length → (facs (l.take i)).length = i
  | 0, _ => by simp [facs]
  | i + 1, h => by rw [facs_take (by omega), List.length_append, facs_len_take l i (by omega)]; rfl
theorem facs_pre (l : List Clock) (i : Nat) : ∀ k, i + k ≤ l.length → ∃ r, facs (l.take (i + k)) = facs (l.take i) ++ r
  | 0, _ => ⟨[], by simp⟩
  | k + 1, h => by
    obtain ⟨r, hr⟩ := facs_pre l i k (by omega)
    exact ⟨_, by rw [← Nat.add_assoc, facs_take (by omega), hr, List.append_assoc]⟩
theorem facs_mem {l : List Clock} {i : Nat} {n : Int} (hi : i ≤ l.length) (h : n ∈ facs (l.take i)) : n ∈ facs l := by
  obtain ⟨r, hr⟩ := facs_pre l i (l.length - i) (by omega)
  rw [take_all (by omega)] at hr
  rw [hr]
  exact List.mem_append_left _ h
theorem prod_le {l : List Clock} (hc : ∀ c, c ∈ l → 1 ≤ c.cho.length) (i : Nat) (h1 : 1 ≤ prod (l.take i)) : ∀ k, i + k ≤ l.length → prod (l.take i) ≤ prod (l.take (i + k))
  | 0, _ => by simp
  | k + 1, h => by
    have ih := prod_le hc i h1 k (by omega)
    have hk := hc _ (getD_mem (d := default) (by omega : i + k < l.length))
    rw [← Nat.add_assoc, prod_take (by omega)]
    have : prod (l.take (i + k)) * 1 ≤ prod (l.take (i + k)) * ((l.getD (i + k) default).cho.length : Int) := Int.mul_le_mul_of_nonneg_left (by omega) (by omega)
    omega
theorem validF_cho {c : Clock} {i : Int} (h : validF c i = true) : 1 ≤ c.cho.length := by
  have h : choF c = true := by simp only [validF, Bool.and_eq_true] at h; exact h.2
  unfold choF at h
  split at h
  · simp at h; omega
  · split at h
    · simp at h; omega
    · split at h
      · simp at h; omega
      · split at h
        · simp at h; rw [h.2]; simp
        · cases h
theorem validF_par {c : Clock} {i : Int} (h : validF c i = true) : ∀ p, p ∈ c.par → 0 ≤ p ∧ p < i := by
  intro p hp
  simp only [validF, Bool.and_eq_true, List.all_eq_true] at h
  have := withinF_true.1 (h.1.1.1 p hp)
  omega
theorem facOf_nonneg (f : List Int) (c : Clock) : accP f c.par ≤ facOf f c := by unfold facOf; split <;> omega
theorem accP_nonneg (f : List Int) : ∀ ps, 0 ≤ accP f ps := by
  suffices ∀ (ps : List Int) (n : Int), 0 ≤ n → 0 ≤ ps.foldl (fun n p => max n (f.getD (Int.toNat p) default)) n from fun ps => this ps 0 (by omega)
  intro ps
  induction ps with
  | nil => intro n h; exact h
  | cons p ps ih => intro n h; exact ih _ (by show 0 ≤ max n (f.getD p.toNat default); omega)
theorem accP_le {f : List Int} {b : Int} (hb : 0 ≤ b) (hf : ∀ n, n ∈ f → n ≤ b) : ∀ ps, accP f ps ≤ b := by
  suffices ∀ (ps : List Int) (n : Int), n ≤ b → ps.foldl (fun n p => max n (f.getD (Int.toNat p) default)) n ≤ b from fun ps => this ps 0 hb
  intro ps
  induction ps with
  | nil => intro n h; exact h
  | cons p ps ih =>
    intro n h
    refine ih _ ?_
    have : f.getD p.toNat default ≤ b := by
      by_cases hlt : p.toNat < f.length
      · exact hf _ (getD_mem hlt)
      · rw [List.getD_eq_getElem?_getD, List.getElem?_eq_none (by omega)]; exact hb
    show max n (f.getD p.toNat default) ≤ b
    omega
theorem upd_step (F : List Int) (i p : Nat) (a : Int) (hp : p ≠ i) (x : Nat) : updF (fun x => [int (updI F i a x)]) i [AV.sc (Value.int IntKind.i64 (if updI F i a p > updI F i a i then updI F i a p else updI F i a i))] x =
    [int (updI F i (max a (F.getD p default)) x)] := by
  unfold updF updI
  simp only [hp, if_false, if_true]
  by_cases h : x = i
  · simp only [h, if_true]
    have : (if F.getD p default > a then F.getD p default else a) = max a (F.getD p default) := by split <;> omega
    rw [this]
  · simp only [h, if_false]
theorem upd_last (F : List Int) (i : Nat) (a b : Int) (hl : F.length = i) (n x : Nat) (hx : x < n) : updF (fun x => [int (updI F i a x)]) i [AV.sc (Value.int IntKind.i64 b)] x = [int ((F ++ [b]).getD x default)] := by
  unfold updF updI
  by_cases h : x = i
  · subst h
    simp [List.getD_eq_getElem?_getD, ← hl]
  · simp only [h, if_false]
    by_cases h2 : x < F.length
    · simp [List.getD_eq_getElem?_getD, List.getElem?_append_left h2]
    · rw [List.getD_eq_getElem?_getD, List.getD_eq_getElem?_getD, List.getElem?_eq_none (by omega), List.getElem?_eq_none (by simp; omega)]
theorem upd_same (F : List Int) (i : Nat) (a : Int) (hl : F.length = i) (x : Nat) : updI F i a x = (F ++ [a]).getD x default := by
  unfold updI
  by_cases h : x = i
  · subst h
    simp [List.getD_eq_getElem?_getD, ← hl]
  · simp only [h, if_false]
    by_cases h2 : x < F.length
    · simp [List.getD_eq_getElem?_getD, List.getElem?_append_left h2]
    · rw [List.getD_eq_getElem?_getD, List.getD_eq_getElem?_getD, List.getElem?_eq_none (by omega), List.getElem?_eq_none (by simp; omega)]
theorem check_ok (l : List Clock) (hl : l.length < 2 ^ 60) : Ok Tryd.prog G 13 [sl false 5 encC l] [] fun r h => r = int (checkF l) ∧ h = [] := by
  refine Ok.intro' [] [] [] 89 [.tmp 2] mixed Tryd.func13 (by kernel_rfl) rfl rfl rfl (by kernel_rfl) (by simp) (fun _ _ h => by cases h) (fun _ h => by cases h) ?_
  simp (config := {maxSteps := 10000000}) only [go_sem, ↓reduceIte, reduceCtorEq, Nat.reduceAdd, Nat.reduceSub, Nat.reduceMul, Nat.reduceEqDiff, Nat.reduceBEq, Nat.reduceLeDiff, Nat.reduceLT, Nat.reducePow, Nat.reduceMod]
  refine ite_intro (fun h1 => ?_) (fun h1 => ?_)
  · unfold checkF
    rw [if_pos (.inl (by omega))]
  (refine CallW'.of [] [] (containsC_ok l 35 longF hl (fun x _ => check1_ok x)) (by simp (config := {maxSteps := 10000000}) only [go_sem, ↓reduceIte, reduceCtorEq, Nat.reduceAdd, Nat.reduceSub, Nat.reduceMul, Nat.reduceEqDiff, Nat.reduceBEq, Nat.reduceLeDiff, Nat.reduceLT, Nat.reducePow, Nat.reduceMod]) ?_; rintro _ _ ⟨rfl, rfl⟩; simp (config := {maxSteps := 10000000}) only [go_sem, ↓reduceIte, reduceCtorEq, Nat.reduceAdd, Nat.reduceSub, Nat.reduceMul, Nat.reduceEqDiff, Nat.reduceBEq, Nat.reduceLeDiff, Nat.reduceLT, Nat.reducePow, Nat.reduceMod])
  refine ite_intro (fun h2 => ?_) (fun h2 => ?_)
  · unfold checkF
    rw [if_pos (.inr h2)]
  have hlong : ∀ c, c ∈ l → c.par.length ≤ 8 ∧ c.cho.length ≤ 8 := fun c hc => by
    rw [Bool.not_eq_true, List.any_eq_false] at h2
    have := h2 c hc
    simp [longF] at this
    omega
  refine TC'.loop [] (fun (i : Nat) => ⟨[(0, sl false 5 encC l), (18, sl false 5 encC l), (19, int l.length), (20, int i)], []⟩) (fun i => i ≤ l.length ∧ ∀ j, j < i → validF (l.getD j default) j = true) (fun i => l.length - i) 0 mixed (by kernel_rfl) ?_ ?_ ?_
  · simp (config := {maxSteps := 10000000}) only [go_sem, ↓reduceIte, reduceCtorEq, Nat.reduceAdd, Nat.reduceSub, Nat.reduceMul, Nat.reduceEqDiff, Nat.reduceBEq, Nat.reduceLeDiff, Nat.reduceLT, Nat.reducePow, Nat.reduceMod]
    simp
  · simp
  intro i ⟨hi, hv⟩
  simp (config := {maxSteps := 10000000}) only [go_sem, ↓reduceIte, reduceCtorEq, Nat.reduceAdd, Nat.reduceSub, Nat.reduceMul, Nat.reduceEqDiff, Nat.reduceBEq, Nat.reduceLeDiff, Nat.reduceLT, Nat.reducePow, Nat.reduceMod]
  refine ite_intro (fun hlt => ?_) (fun hlt => ?_)
  · refine ⟨by omega, ?_⟩
    have hlt : i < l.length := by omega
    have hq := hlong _ (getD_mem (d := default) hlt)
    (refine CallW'.of [] [] (valid_ok (l.getD i default) i (by omega) (by omega)) (by simp (config := {maxSteps := 10000000}) only [go_sem, ↓reduceIte, reduceCtorEq, Nat.reduceAdd, Nat.reduceSub, Nat.reduceMul, Nat.reduceEqDiff, Nat.reduceBEq, Nat.reduceLeDiff, Nat.reduceLT, Nat.reducePow, Nat.reduceMod]) ?_; rintro _ _ ⟨rfl, rfl⟩; simp (config := {maxSteps := 10000000}) only [go_sem, ↓reduceIte, reduceCtorEq, Nat.reduceAdd, Nat.reduceSub, Nat.reduceMul, Nat.reduceEqDiff, Nat.reduceBEq, Nat.reduceLeDiff, Nat.reduceLT, Nat.reducePow, Nat.reduceMod])
    refine ite_intro (fun hb => ?_) (fun hb => ?_)
    · have : ¬ allValid l := fun h => by rw [h i hlt] at hb; cases hb
      unfold checkF
      rw [if_neg (by simp only [not_or]; exact ⟨by omega, h2⟩), if_pos this]
    · refine ⟨i + 1, ⟨by omega, fun j hj => ?_⟩, by omega, by rw [w64 (by omega) (by omega)]; omega⟩
      by_cases e : j = i
      · subst e; simpa using hb
      · exact hv j (by omega)
  refine ⟨by omega, ?_⟩
  have hv : allValid l := fun j hj => hv j (by omega)
  clear hlt hi; rename_i hv0; clear hv0
  refine TC'.loop [] (fun (i : Nat) => ⟨[(0, sl false 5 encC l), (33, sl false 5 encC l), (34, int l.length), (35, int i), (5, int (prod (l.take i))), (6, .own 32 1 0 l.length true)], [(32, .arr 1 l.length (fun x => [int ((facs (l.take i)).getD x default)]) true)]⟩)
    (fun i => i ≤ l.length ∧ 1 ≤ prod (l.take i) ∧ prod (l.take i) ≤ 4096 ∧ ∀ n, n ∈ facs (l.take i) → 0 ≤ n ∧ n ≤ 4) (fun i => l.length - i) 0 mixed (by kernel_rfl) ?_ ?_ ?_
  · simp (config := {maxSteps := 10000000}) only [go_sem, ↓reduceIte, reduceCtorEq, Nat.reduceAdd, Nat.reduceSub, Nat.reduceMul, Nat.reduceEqDiff, Nat.reduceBEq, Nat.reduceLeDiff, Nat.reduceLT, Nat.reducePow, Nat.reduceMod]
    simp [prod, facs]
  · simp [prod, facs]
  clear i; intro i ⟨hi, hs1, hs, hf⟩
  simp (config := {maxSteps := 10000000}) only [go_sem, ↓reduceIte, reduceCtorEq, Nat.reduceAdd, Nat.reduceSub, Nat.reduceMul, Nat.reduceEqDiff, Nat.reduceBEq, Nat.reduceLeDiff, Nat.reduceLT, Nat.reducePow, Nat.reduceMod]
  refine ite_intro (fun hlt => ?_) (fun hlt => ?_)
  · refine ⟨by omega, ?_⟩
    have hlt : i < l.length := by omega
    refine TC'.loop [] (fun (j : Nat) => ⟨[(0, sl false 5 encC l), (33, sl false 5 encC l), (34, int l.length), (35, int i), (5, int (prod (l.take i))), (6, .own 32 1 0 l.length true), (7, int i), (8, .ptr 8 0), (41, ints true (l.getD i default).par), (42, int (l.getD i default).par.length), (43, int j)],
          [(8, .box (encC (l.getD i default))), (32, .arr 1 l.length (fun x => [int (updI (facs (l.take i)) i (accP (facs (l.take i)) ((l.getD i default).par.take j)) x)]) true)]⟩)
        (fun j => j ≤ (l.getD i default).par.length) (fun j => (l.getD i default).par.length - j) 0 mixed (by kernel_rfl) ?_ ?_ ?_
    · simp (config := {maxSteps := 10000000}) only [go_sem, ↓reduceIte, reduceCtorEq, Nat.reduceAdd, Nat.reduceSub, Nat.reduceMul, Nat.reduceEqDiff, Nat.reduceBEq, Nat.reduceLeDiff, Nat.reduceLT, Nat.reducePow, Nat.reduceMod]
      refine ⟨by simp, fun x hx => ?_⟩
      unfold updI
      split
      · rename_i e
        have := facs_len_take l i hi
        rw [e, List.getD_eq_getElem?_getD, List.getElem?_eq_none (by omega)]
        rfl
      · rfl
    · simp
    intro j hj
    have hvi := hv i hlt
    have hpar := validF_par hvi
    have hlen := facs_len_take l i hi
    simp (config := {maxSteps := 10000000}) only [go_sem, ↓reduceIte, reduceCtorEq, Nat.reduceAdd, Nat.reduceSub, Nat.reduceMul, Nat.reduceEqDiff, Nat.reduceBEq, Nat.reduceLeDiff, Nat.reduceLT, Nat.reducePow, Nat.reduceMod]
    refine ite_intro (fun hjl => ?_) (fun hjl => ?_)
    · refine ⟨by omega, ?_⟩
      refine TC'.draw [] (.q 0 (.q 1 (.q 2 (.q 3 (.q 4 (.q 6 (.q 7 (.q 8 (.e [(5, (.e [(9, (.q 10 (.q 11 (.e [(12, .done)]))))])), (9, (.e [(5, (.q 10 (.q 11 (.e [(12, .done)]))))]))]))))))))) mixed (by kernel_rfl) (by kernel_rfl) ?_
      have hjl : j < (l.getD i default).par.length := by omega
      have hpl := (hlong _ (getD_mem (d := default) hlt)).1
      have hp := hpar _ (getD_mem (d := default) hjl)
      have hne : ((l.getD i default).par.getD j default).toNat ≠ i := by omega
      simp (config := {maxSteps := 10000000}) only [go_sem, ↓reduceIte, reduceCtorEq, Nat.reduceAdd, Nat.reduceSub, Nat.reduceMul, Nat.reduceEqDiff, Nat.reduceBEq, Nat.reduceLeDiff, Nat.reduceLT, Nat.reducePow, Nat.reduceMod]
      refine ⟨⟨by omega, by omega⟩, ⟨by omega, by omega⟩, ⟨hlt, by omega, ⟨by omega, by omega⟩, hlt, ?_⟩, by omega, hlt, ⟨by omega, by omega⟩, hlt, ?_⟩
      all_goals
        exact ⟨j + 1, by omega, by omega, by rw [w64 (by omega) (by omega)]; omega, fun x _ => by rw [upd_step _ _ _ _ hne, take_getD (d := default) hjl, accP_snoc]⟩
    · have hfull : (l.getD i default).par.take j = (l.getD i default).par := take_all (by omega)
      rw [hfull]
      have hq := hlong _ (getD_mem (d := default) hlt)
      have hc1 := validF_cho hvi
      have ha0 := accP_nonneg (facs (l.take i)) (l.getD i default).par
      have ha4 := accP_le (f := facs (l.take i)) (by omega : (0 : Int) ≤ 4) (fun n hn => (hf n hn).2) (l.getD i default).par
      have hpt := prod_take hlt
      have hft := facs_take hlt
      have hmul : prod (l.take i) * ((l.getD i default).cho.length : Int) ≤ 4096 * 8 := Int.mul_le_mul hs (by omega) (by omega) (by omega)
      have hmul1 : 1 * 1 ≤ prod (l.take i) * ((l.getD i default).cho.length : Int) := Int.mul_le_mul hs1 (by omega) (by omega) (by omega)
      have hall : ∀ c, c ∈ l → 1 ≤ c.cho.length := fun c hc => by
        obtain ⟨k, hk, rfl⟩ := List.mem_iff_getElem.1 hc
        have := hv k hk
        rw [List.getD_eq_getElem?_getD, List.getElem?_eq_getElem hk] at this
        exact validF_cho this
      have hbad1 : 4096 < prod (l.take (i + 1)) → (3 : Int) = checkF l := fun h => by
        have := prod_le hall (i + 1) (by omega) (l.length - (i + 1)) (by omega)
        rw [take_all (by omega : l.length ≤ i + 1 + (l.length - (i + 1)))] at this
        unfold checkF
        rw [if_neg (by simp only [not_or]; exact ⟨by omega, h2⟩), if_neg (by simp [hv]), if_pos (.inl (by omega))]
      have hbad2 : 4 < facOf (facs (l.take i)) (l.getD i default) → (3 : Int) = checkF l := fun h => by
        have hm : facOf (facs (l.take i)) (l.getD i default) ∈ facs l := facs_mem (i := i + 1) (by omega) (by rw [hft]; simp)
        unfold checkF
        rw [if_neg (by simp only [not_or]; exact ⟨by omega, h2⟩), if_neg (by simp [hv]), if_pos (.inr (by rw [List.any_eq_true]; exact ⟨_, hm, by simpa using h⟩))]
      have hgood : ∀ v, v = facOf (facs (l.take i)) (l.getD i default) → v ≤ 4 → ∀ n, n ∈ facs (l.take (i + 1)) → 0 ≤ n ∧ n ≤ 4 := fun v hv hv4 n hn => by
        rw [hft, List.mem_append, List.mem_singleton] at hn
        rcases hn with hn | rfl
        · exact hf n hn
        · have := facOf_nonneg (facs (l.take i)) (l.getD i default); omega
      have hii : updI (facs (l.take i)) i (accP (facs (l.take i)) (l.getD i default).par) i = accP (facs (l.take i)) (l.getD i default).par := by simp [updI]
      rw [hii, w64 (by omega) (by omega : prod (l.take i) * ((l.getD i default).cho.length : Int) ≤ _), ← hpt]
      have k23 : (l.getD i default).kind = 2 ∨ (l.getD i default).kind = 3 → facOf (facs (l.take i)) (l.getD i default) = accP (facs (l.take i)) (l.getD i default).par + 1 := fun h => by unfold facOf; rw [if_pos h]
      rw [w64 (by omega) (by omega : accP (facs (l.take i)) (l.getD i default).par + 1 ≤ _)]
      refine ite_intro (fun k2 => ?_) (fun k2 => ?_)
      · refine ⟨⟨by omega, by omega⟩, hlt, ⟨by omega, by omega⟩, hlt, ?_⟩
        have hk := k23 (by omega)
        refine ite_intro (fun b1 => ?_) (fun b1 => ?_)
        · exact hbad1 b1
        · refine ⟨⟨by omega, by omega⟩, hlt, ?_⟩
          refine ite_intro (fun b2 => ?_) (fun b2 => ?_)
          · exact hbad2 (by omega)
          · exact ⟨i + 1, ⟨by omega, by omega, by omega, hgood _ rfl (by omega)⟩, by omega, ⟨by rw [w64 (by omega) (by omega)]; omega, rfl⟩, fun x hx => by rw [upd_last _ _ _ _ hlen _ _ hx, hft, hk]⟩
      · refine ite_intro (fun k3 => ?_) (fun k3 => ?_)
        · refine ⟨⟨by omega, by omega⟩, hlt, ⟨by omega, by omega⟩, hlt, ?_⟩
          have hk := k23 (by omega)
          refine ite_intro (fun b1 => ?_) (fun b1 => ?_)
          · exact hbad1 b1
          · refine ⟨⟨by omega, by omega⟩, hlt, ?_⟩
            refine ite_intro (fun b2 => ?_) (fun b2 => ?_)
            · exact hbad2 (by omega)
            · exact ⟨i + 1, ⟨by omega, by omega, by omega, hgood _ rfl (by omega)⟩, by omega, ⟨by rw [w64 (by omega) (by omega)]; omega, rfl⟩, fun x hx => by rw [upd_last _ _ _ _ hlen _ _ hx, hft, hk]⟩
        · have hk : facOf (facs (l.take i)) (l.getD i default) = accP (facs (l.take i)) (l.getD i default).par := by unfold facOf; rw [if_neg (by omega)]; omega
          refine ite_intro (fun b1 => ?_) (fun b1 => ?_)
          · exact hbad1 b1
          · refine ⟨⟨by omega, by omega⟩, hlt, ?_⟩
            refine ite_intro (fun b2 => ?_) (fun b2 => ?_)
            · exact hbad2 (by omega)
            · exact ⟨i + 1, ⟨by omega, by omega, by omega, hgood _ rfl (by omega)⟩, by omega, ⟨by rw [w64 (by omega) (by omega)]; omega, rfl⟩, fun x hx => by rw [upd_same _ _ _ hlen, hft, hk]⟩
  · have he : l.take i = l := take_all (by omega)
    rw [he] at hs hf
    unfold checkF
    rw [if_neg (by simp only [not_or]; exact ⟨by omega, h2⟩), if_neg (by simp [hv]), if_neg]
    simp only [not_or]
    refine ⟨by omega, ?_⟩
    rw [Bool.not_eq_true, List.any_eq_false]
    intro n hn
    have := hf n hn
    simp; omega
end Go.Am.Cl
