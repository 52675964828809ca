/-
  ClockAnswers, part F: settings, rates of clocks.
-/
import Derived.Test.YtjmomolnhplokaaDoorAmClE
namespace Go.Am.Cl
open Go Go.Am Go.Proofs
set_option maxRecDepth 100000
set_option linter.unusedSimpArgs false
set_option linter.unusedVariables false
variable {G : Gl}
abbrev at' (l : List Clock) (i : Nat) : Clock := l.getD i default
def SetP (l : List Clock) (s : List Int) : Prop := s.length = l.length ∧ ∀ i, i < l.length → 0 ≤ s.getD i default ∧ s.getD i default < (l.getD i default).cho.length
instance (l : List Clock) (s : List Int) : Decidable (SetP l s) := inferInstanceAs (Decidable (_ ∧ ∀ i, i < l.length → _))
theorem setting_ok (l : List Clock) (s : List Int) (hl : l.length < 2 ^ 60) (hc : ∀ c, c ∈ l → c.cho.length < 2 ^ 60) : Ok Tryd.prog G 39 [sl false 5 encC l, ints false s] [] fun r h => r = bool (decide (SetP l s)) ∧ h = [] := by
  refine Ok.intro' [] [] [] 30 [.tmp 4] mixed Tryd.func39 (by kernel_rfl) rfl rfl rfl (by kernel_rfl) (by simp) (fun _ _ h => by cases h) (fun _ h => by cases h) ?_
  simp (config := {maxSteps := 10000000}) only [go_sem, ↓reduceIte, reduceCtorEq, Nat.reduceAdd, Nat.reduceSub, Nat.reduceMul, Nat.reduceEqDiff, Nat.reduceBEq, Nat.reduceLeDiff, Nat.reduceLT, Nat.reducePow, Nat.reduceMod]
  refine ite_intro (fun h1 => ?_) (fun h1 => ?_)
  · have : ¬ SetP l s := fun h => h1 (by rw [h.1])
    simp [this]
  refine TC'.loop [] (fun (i : Nat) => ⟨[(0, sl false 5 encC l), (1, ints false s), (12, ints false s), (13, int s.length), (14, int i)], []⟩) (fun i => i ≤ s.length ∧ ∀ j, j < i → 0 ≤ s.getD j default ∧ s.getD j default < (l.getD j default).cho.length) (fun i => s.length - i) 0 mixed (by kernel_rfl) ?_ ?_ ?_
  · simp (config := {maxSteps := 10000000}) only [go_sem, ↓reduceIte, reduceCtorEq, Nat.reduceAdd, Nat.reduceSub, Nat.reduceMul, Nat.reduceEqDiff, Nat.reduceBEq, Nat.reduceLeDiff, Nat.reduceLT, Nat.reducePow, Nat.reduceMod]
    simp
  · simp
  intro i ⟨hi, hv⟩
  simp (config := {maxSteps := 10000000}) only [go_sem, ↓reduceIte, reduceCtorEq, Nat.reduceAdd, Nat.reduceSub, Nat.reduceMul, Nat.reduceEqDiff, Nat.reduceBEq, Nat.reduceLeDiff, Nat.reduceLT, Nat.reducePow, Nat.reduceMod]
  refine ite_intro (fun hlt => ?_) (fun hlt => ?_)
  · have hq := hc _ (getD_mem (d := default) (by omega : i < l.length))
    refine ⟨by omega, by omega, ?_⟩
    (refine CallW'.of [] [] (within_ok (s.getD i default) 0 ((l.getD i default).cho.length - 1)) (by simp (config := {maxSteps := 10000000}) only [go_sem, ↓reduceIte, reduceCtorEq, Nat.reduceAdd, Nat.reduceSub, Nat.reduceMul, Nat.reduceEqDiff, Nat.reduceBEq, Nat.reduceLeDiff, Nat.reduceLT, Nat.reducePow, Nat.reduceMod]; exact (w64 (by omega) (by omega))) ?_; rintro _ _ ⟨rfl, rfl⟩; simp (config := {maxSteps := 10000000}) only [go_sem, ↓reduceIte, reduceCtorEq, Nat.reduceAdd, Nat.reduceSub, Nat.reduceMul, Nat.reduceEqDiff, Nat.reduceBEq, Nat.reduceLeDiff, Nat.reduceLT, Nat.reducePow, Nat.reduceMod])
    refine ite_intro (fun hb => ?_) (fun hb => ?_)
    · have : ¬ SetP l s := fun h => by
        have := h.2 i (by omega)
        exact withinF_false.1 hb (by omega)
      simp [this]
    · refine ⟨i + 1, ⟨by omega, fun j hj => ?_⟩, by omega, by rw [w64 (by omega) (by omega)]; omega⟩
      by_cases e : j = i
      · subst e
        rw [Bool.not_eq_false] at hb
        have := withinF_true.1 hb
        omega
      · exact hv j (by omega)
  · have : SetP l s := ⟨by omega, fun j hj => hv j (by omega)⟩
    simp [this]
def parentF (c : Clock) (k : Int) : Int := if c.kind = 1 then -1 else if c.kind = 4 then c.par.getD (c.cho.getD k.toNat default).toNat default else c.par.getD 0 default
theorem parent_facts {c : Clock} {i k : Int} (h : validF c i = true) (hk : 0 ≤ k ∧ k < c.cho.length) :
    (c.kind = 1 ∨ c.kind = 2 ∨ c.kind = 3 ∨ c.kind = 4 ∨ c.kind = 5) ∧ (c.kind = 4 → 0 ≤ c.cho.getD k.toNat default ∧ c.cho.getD k.toNat default < c.par.length) ∧ (c.kind ≠ 1 → c.kind ≠ 4 → c.par.length = 1) ∧ (c.kind = 1 ∨ 0 ≤ parentF c k ∧ parentF c k < i) ∧
    (c.kind = 1 → 1 ≤ c.cho.getD k.toNat default ∧ c.cho.getD k.toNat default ≤ 4000000000) ∧ (c.kind = 2 ∨ c.kind = 3 → 1 ≤ c.cho.getD k.toNat default ∧ c.cho.getD k.toNat default ≤ 64) := by
  have hp := validF_par h
  have hch : choF c = true := by simp only [validF, Bool.and_eq_true] at h; exact h.2
  have hm : c.cho.getD k.toNat default ∈ c.cho := getD_mem (by omega)
  unfold choF at hch
  split at hch
  · rename_i k1
    simp only [Bool.and_eq_true, decide_eq_true_eq] at hch
    refine ⟨.inl k1, fun h => by omega, fun h => absurd k1 h, .inl k1, fun _ => ?_, fun h => by omega⟩
    have : k.toNat = 0 := by omega
    rw [this]
    exact withinF_true.1 hch.2
  · rename_i k1
    split at hch
    · rename_i k23
      simp only [Bool.and_eq_true, decide_eq_true_eq] at hch
      refine ⟨by omega, fun h => by omega, fun _ _ => hch.1.1, .inr ?_, fun h => absurd h k1, fun _ => hch.2.2 _ hm⟩
      unfold parentF
      rw [if_neg k1, if_neg (by omega)]
      exact hp _ (getD_mem (by omega))
    · rename_i k23
      split at hch
      · rename_i k4
        simp only [Bool.and_eq_true, decide_eq_true_eq] at hch
        have h4 := hch.2.2 _ hm
        refine ⟨by omega, fun _ => by omega, fun _ h => absurd k4 h, .inr ?_, fun h => absurd h k1, fun h => absurd h k23⟩
        unfold parentF
        rw [if_neg k1, if_pos k4]
        exact hp _ (getD_mem (by omega))
      · rename_i k4
        split at hch
        · rename_i k5
          simp only [Bool.and_eq_true, decide_eq_true_eq] at hch
          refine ⟨by omega, fun h => absurd h k4, fun _ _ => hch.1, .inr ?_, fun h => absurd h k1, fun h => absurd h k23⟩
          unfold parentF
          rw [if_neg k1, if_neg k4]
          exact hp _ (getD_mem (by omega))
        · cases hch
theorem parent_ok (l : List Clock) (s : List Int) (i : Int) (hl : l.length < 2 ^ 60) (hi : 0 ≤ i ∧ i < l.length) (hv : allValid l) (hs : SetP l s) : Ok Tryd.prog G 48 [sl false 5 encC l, ints false s, int i] [] fun r h => r = int (parentF (l.getD i.toNat default) (s.getD i.toNat default)) ∧ h = [] := by
  have f := parent_facts (hv i.toNat (by omega)) (hs.2 i.toNat (by omega))
  have hsl := hs.1
  refine Ok.intro' [] [] [7] 34 [.tmp 6] mixed Tryd.func48 (by kernel_rfl) rfl rfl rfl (by kernel_rfl) (by simp) (fun _ _ h => by cases h) (fun _ h => by cases h) ?_
  simp (config := {maxSteps := 10000000}) only [go_sem, ↓reduceIte, reduceCtorEq, Nat.reduceAdd, Nat.reduceSub, Nat.reduceMul, Nat.reduceEqDiff, Nat.reduceBEq, Nat.reduceLeDiff, Nat.reduceLT, Nat.reducePow, Nat.reduceMod]
  refine ⟨by omega, ?_⟩
  unfold parentF
  refine ite_intro (fun k1 => ?_) (fun k1 => ?_)
  · rw [if_pos k1]
  · refine ite_intro (fun k4 => ?_) (fun k4 => ?_)
    · have := f.2.1 k4
      have := hs.2 i.toNat (by omega)
      rw [if_neg k1, if_pos k4]
      exact ⟨by omega, by omega, by omega, rfl⟩
    · rw [if_neg k1, if_neg k4]
      exact ⟨by have := f.2.2.1 k1 k4; omega, rfl⟩
def rstep (out : List Rate) (c : Clock) (k : Int) : Rate :=
  if parentF c k < 0 then ⟨c.cho.getD k.toNat default, 1⟩
  else if out.getD (parentF c k).toNat default = ⟨0, 1⟩ ∨ (c.kind = 5 ∧ c.cho.getD k.toNat default = 0) then ⟨0, 1⟩
  else if c.kind = 2 then (overF (out.getD (parentF c k).toNat default) (c.cho.getD k.toNat default)).1
  else if c.kind = 3 then (timesF (out.getD (parentF c k).toNat default) (c.cho.getD k.toNat default)).1
  else out.getD (parentF c k).toNat default
def ratesUp (l : List Clock) (s : List Int) : Nat → List Rate
  | 0 => []
  | n + 1 => ratesUp l s n ++ [rstep (ratesUp l s n) (l.getD n default) (s.getD n default)]
theorem ratesUp_len (l : List Clock) (s : List Int) : ∀ n, (ratesUp l s n).length = n
  | 0 => rfl
  | n + 1 => by simp [ratesUp, ratesUp_len l s n]
def GOff : Gl := fun g => if g = 0 then some [int 0, int 1] else none
attribute [go_sem] GOff
theorem rates_ok (l : List Clock) (s : List Int) (hl : l.length < 2 ^ 40) (hv : allValid l) (hs : SetP l s) : Ok Tryd.prog GOff 40 [sl false 5 encC l, ints false s] [] fun r h => r = slF true 2 encR (ratesUp l s l.length) ∧ h = [] := by
  refine Ok.intro' [] [] [] 101 [.tmp 4] mixed Tryd.func40 (by kernel_rfl) rfl rfl rfl (by kernel_rfl) (by simp) (fun _ _ h => by cases h) (fun _ h => by cases h) ?_
  simp (config := {maxSteps := 10000000}) only [go_sem, ↓reduceIte, reduceCtorEq, Nat.reduceAdd, Nat.reduceSub, Nat.reduceMul, Nat.reduceEqDiff, Nat.reduceBEq, Nat.reduceLeDiff, Nat.reduceLT, Nat.reducePow, Nat.reduceMod]
  refine ⟨by omega, ?_⟩
  refine TC'.loop [5, 10] (fun (i : Nat) => ⟨[(0, sl false 5 encC l), (1, ints false s), (13, sl false 5 encC l), (14, int l.length), (15, int i), (5, .own 12 2 0 l.length true)], [(12, .arr 2 l.length (fun x => encR ((ratesUp l s i).getD x default)) true)]⟩) (fun i => i ≤ l.length) (fun i => l.length - i) 0 mixed (by kernel_rfl) ?_ ?_ ?_
  · simp (config := {maxSteps := 10000000}) only [go_sem, ↓reduceIte, reduceCtorEq, Nat.reduceAdd, Nat.reduceSub, Nat.reduceMul, Nat.reduceEqDiff, Nat.reduceBEq, Nat.reduceLeDiff, Nat.reduceLT, Nat.reducePow, Nat.reduceMod]
    simp [ratesUp]
    intro i _
    exact ⟨rfl, rfl⟩
  · simp
  intro i hi
  have hlen := ratesUp_len l s i
  simp (config := {maxSteps := 10000000}) only [go_sem, ↓reduceIte, reduceCtorEq, Nat.reduceAdd, Nat.reduceSub, Nat.reduceMul, Nat.reduceEqDiff, Nat.reduceBEq, Nat.reduceLeDiff, Nat.reduceLT, Nat.reducePow, Nat.reduceMod]
  refine ite_intro (fun hlt => ?_) (fun hlt => ?_)
  · refine ⟨by omega, ?_⟩
    have f := parent_facts (hv i (by omega)) (hs.2 i (by omega))
    have hs2 := hs.2 i (by omega)
    have hsl := hs.1
    refine ⟨by omega, by omega, ?_⟩
    (refine CallW'.of [] [] (parent_ok l s i (by omega) (by omega) hv hs) (by simp (config := {maxSteps := 10000000}) only [go_sem, ↓reduceIte, reduceCtorEq, Nat.reduceAdd, Nat.reduceSub, Nat.reduceMul, Nat.reduceEqDiff, Nat.reduceBEq, Nat.reduceLeDiff, Nat.reduceLT, Nat.reducePow, Nat.reduceMod]) ?_; rintro _ _ ⟨rfl, rfl⟩; simp (config := {maxSteps := 10000000}) only [go_sem, ↓reduceIte, reduceCtorEq, Nat.reduceAdd, Nat.reduceSub, Nat.reduceMul, Nat.reduceEqDiff, Nat.reduceBEq, Nat.reduceLeDiff, Nat.reduceLT, Nat.reducePow, Nat.reduceMod])
    have fin : ∀ r : Rate, r = rstep (ratesUp l s i) (l.getD i default) (s.getD i default) → ∃ y, y ≤ l.length ∧ l.length - y < l.length - i ∧ IntKind.i64.wrap (↑i + 1) = ↑y ∧ ∀ x, x < l.length →
        updF (fun x => [int ((ratesUp l s i).getD x default).num, int ((ratesUp l s i).getD x default).den]) i [int r.num, int r.den] x = [int ((ratesUp l s y).getD x default).num, int ((ratesUp l s y).getD x default).den] := fun r hr =>
      ⟨i + 1, by omega, by omega, by rw [w64 (by omega) (by omega)]; omega, fun x hx => by
        unfold updF
        simp only [ratesUp]
        by_cases h : x = i
        · subst h
          rw [if_pos rfl, List.getD_eq_getElem?_getD, List.getElem?_append_right (by omega)]
          simp [hlen, hr]
        · rw [if_neg h]
          by_cases h2 : x < i
          · simp [List.getD_eq_getElem?_getD, List.getElem?_append_left (by omega : x < (ratesUp l s i).length)]
          · rw [List.getD_eq_getElem?_getD, List.getD_eq_getElem?_getD, List.getElem?_eq_none (by omega), List.getElem?_eq_none (by simp; omega)]⟩
    generalize hp : parentF (l.getD i default) (s.getD i default) = p at *
    generalize hc : l.getD i default = c at *
    generalize hch : c.cho.getD (s.getD i default).toNat default = ch at *
    refine ite_intro (fun hp0 => ?_) (fun hp0 => ?_)
    · exact ⟨by omega, by omega, fin ⟨ch, 1⟩ (by unfold rstep; rw [hp, if_pos hp0, hch])⟩
    · have hpi : 0 ≤ p ∧ p < i := by
        rcases f.2.2.2.1 with h | h
        · unfold parentF at hp
          rw [if_pos h] at hp
          omega
        · exact h
      refine ⟨by omega, by omega, ?_⟩
      refine ite_intro (fun he => ?_) (fun he => ?_)
      · have he : (ratesUp l s i).getD p.toNat default = ⟨0, 1⟩ := by
          simp only [Bool.and_eq_true, beq_iff_eq] at he
          cases hr : (ratesUp l s i).getD p.toNat default
          rw [hr] at he
          simp only at he
          rw [he.1, he.2]
        exact ⟨by omega, by omega, fin ⟨0, 1⟩ (by unfold rstep; rw [hp, if_neg hp0, if_pos (.inl he)])⟩
      · have he : ¬ (ratesUp l s i).getD p.toNat default = ⟨0, 1⟩ := fun h => he (by rw [h]; rfl)
        refine ite_intro (fun k5 => ?_) (fun k5 => ?_)
        · refine ite_intro (fun h0 => ?_) (fun h0 => ?_)
          · exact ⟨by omega, by omega, fin ⟨0, 1⟩ (by unfold rstep; rw [hp, hch, if_neg hp0, if_pos (.inr ⟨k5, h0⟩)])⟩
          · have ho : ¬ ((ratesUp l s i).getD p.toNat default = ⟨0, 1⟩ ∨ c.kind = 5 ∧ ch = 0) := fun h => h.elim he fun h => h0 h.2
            rw [if_neg (by omega), if_neg (by omega)]
            exact ⟨by omega, by omega, by omega, by omega, fin _ (by unfold rstep; rw [hp, hch, if_neg hp0, if_neg ho, if_neg (by omega), if_neg (by omega)])⟩
        · have ho : ¬ ((ratesUp l s i).getD p.toNat default = ⟨0, 1⟩ ∨ c.kind = 5 ∧ ch = 0) := fun h => h.elim he fun h => k5 h.1
          refine ite_intro (fun k2 => ?_) (fun k2 => ?_)
          · refine ⟨by omega, by omega, ?_⟩
            (refine CallW'.of [] [] (over_ok ((ratesUp l s i).getD p.toNat default) ch) (by simp (config := {maxSteps := 10000000}) only [go_sem, ↓reduceIte, reduceCtorEq, Nat.reduceAdd, Nat.reduceSub, Nat.reduceMul, Nat.reduceEqDiff, Nat.reduceBEq, Nat.reduceLeDiff, Nat.reduceLT, Nat.reducePow, Nat.reduceMod]) ?_; rintro _ _ ⟨rfl, rfl⟩; simp (config := {maxSteps := 10000000}) only [go_sem, ↓reduceIte, reduceCtorEq, Nat.reduceAdd, Nat.reduceSub, Nat.reduceMul, Nat.reduceEqDiff, Nat.reduceBEq, Nat.reduceLeDiff, Nat.reduceLT, Nat.reducePow, Nat.reduceMod])
            exact ⟨by omega, by omega, fin _ (by unfold rstep; rw [hp, hch, if_neg hp0, if_neg ho, if_pos k2])⟩
          · refine ite_intro (fun k3 => ?_) (fun k3 => ?_)
            · refine ⟨by omega, by omega, ?_⟩
              (refine CallW'.of [] [] (times_ok ((ratesUp l s i).getD p.toNat default) ch) (by simp (config := {maxSteps := 10000000}) only [go_sem, ↓reduceIte, reduceCtorEq, Nat.reduceAdd, Nat.reduceSub, Nat.reduceMul, Nat.reduceEqDiff, Nat.reduceBEq, Nat.reduceLeDiff, Nat.reduceLT, Nat.reducePow, Nat.reduceMod]) ?_; rintro _ _ ⟨rfl, rfl⟩; simp (config := {maxSteps := 10000000}) only [go_sem, ↓reduceIte, reduceCtorEq, Nat.reduceAdd, Nat.reduceSub, Nat.reduceMul, Nat.reduceEqDiff, Nat.reduceBEq, Nat.reduceLeDiff, Nat.reduceLT, Nat.reducePow, Nat.reduceMod])
              exact ⟨by omega, by omega, fin _ (by unfold rstep; rw [hp, hch, if_neg hp0, if_neg ho, if_neg k2, if_pos k3])⟩
            · exact ⟨by omega, by omega, by omega, by omega, fin _ (by unfold rstep; rw [hp, hch, if_neg hp0, if_neg ho, if_neg k2, if_neg k3])⟩
  · have : i = l.length := by omega
    subst this
    rw [hlen]
def ratesV (l : List Clock) (s : List Int) : List Rate := if checkF l = 0 ∧ SetP l s then ratesUp l s l.length else []
def ratesE (l : List Clock) (s : List Int) : Int := if checkF l = 0 then (if SetP l s then 0 else 1) else checkF l
theorem checkF_zero {l : List Clock} (h : checkF l = 0) : l.length ≤ 16 ∧ allValid l ∧ ∀ c, c ∈ l → c.par.length ≤ 8 ∧ c.cho.length ≤ 8 := by
  unfold checkF at h
  split at h
  · cases h
  · rename_i h1
    split at h
    · cases h
    · rename_i h2
      simp only [not_or, Nat.not_lt] at h1
      refine ⟨h1.1, Decidable.not_not.1 h2, fun c hc => ?_⟩
      have h3 := h1.2
      rw [Bool.not_eq_true, List.any_eq_false] at h3
      have := h3 c hc
      simp [longF] at this
      omega
theorem Rates_ok (l : List Clock) (s : List Int) (hl : l.length < 2 ^ 40) (hc : ∀ c, c ∈ l → c.cho.length < 2 ^ 60) : Ok Tryd.prog GOff 15 [sl false 5 encC l, ints false s] []
    fun r h => r = .tup [sl true 2 encR (ratesV l s), int (ratesE l s)] ∧ h = [] := by
  refine Ok.weak (Q := fun r h => (∃ x, r = .tup [x, int (ratesE l s)] ∧ leP x (sl true 2 encR (ratesV l s))) ∧ h = []) ?_ ?_
  · refine Ok.intro' [] [] [] 19 [.tmp 4, .tmp 5] mixed Tryd.func15 (by kernel_rfl) rfl rfl rfl (by kernel_rfl) (by simp) (fun _ _ h => by cases h) (fun _ h => by cases h) ?_
    simp (config := {maxSteps := 10000000}) only [go_sem, ↓reduceIte, reduceCtorEq, Nat.reduceAdd, Nat.reduceSub, Nat.reduceMul, Nat.reduceEqDiff, Nat.reduceBEq, Nat.reduceLeDiff, Nat.reduceLT, Nat.reducePow, Nat.reduceMod]
    (refine CallW'.of [] [] (check_ok l (by omega)) (by simp (config := {maxSteps := 10000000}) only [go_sem, ↓reduceIte, reduceCtorEq, Nat.reduceAdd, Nat.reduceSub, Nat.reduceMul, Nat.reduceEqDiff, Nat.reduceBEq, Nat.reduceLeDiff, Nat.reduceLT, Nat.reducePow, Nat.reduceMod]) ?_; rintro _ _ ⟨rfl, rfl⟩; simp (config := {maxSteps := 10000000}) only [go_sem, ↓reduceIte, reduceCtorEq, Nat.reduceAdd, Nat.reduceSub, Nat.reduceMul, Nat.reduceEqDiff, Nat.reduceBEq, Nat.reduceLeDiff, Nat.reduceLT, Nat.reducePow, Nat.reduceMod])
    unfold ratesE ratesV
    refine ite_intro (fun h1 => ?_) (fun h1 => ?_)
    · refine ⟨_, ⟨rfl, by rw [if_neg h1]⟩, ?_⟩
      rw [if_neg (fun h => h1 h.1)]
      simp (config := {maxSteps := 10000000}) only [go_sem, ↓reduceIte, reduceCtorEq, Nat.reduceAdd, Nat.reduceSub, Nat.reduceMul, Nat.reduceEqDiff, Nat.reduceBEq, Nat.reduceLeDiff, Nat.reduceLT, Nat.reducePow, Nat.reduceMod]
    · simp only [Decidable.not_not] at h1
      (refine CallW'.of [] [] (setting_ok l s (by omega) hc) (by simp (config := {maxSteps := 10000000}) only [go_sem, ↓reduceIte, reduceCtorEq, Nat.reduceAdd, Nat.reduceSub, Nat.reduceMul, Nat.reduceEqDiff, Nat.reduceBEq, Nat.reduceLeDiff, Nat.reduceLT, Nat.reducePow, Nat.reduceMod]) ?_; rintro _ _ ⟨rfl, rfl⟩; simp (config := {maxSteps := 10000000}) only [go_sem, ↓reduceIte, reduceCtorEq, Nat.reduceAdd, Nat.reduceSub, Nat.reduceMul, Nat.reduceEqDiff, Nat.reduceBEq, Nat.reduceLeDiff, Nat.reduceLT, Nat.reducePow, Nat.reduceMod])
      refine ite_intro (fun h2 => ?_) (fun h2 => ?_)
      · refine ⟨_, ⟨rfl, by rw [if_pos h1, if_neg h2]⟩, ?_⟩
        rw [if_neg (fun h => h2 h.2)]
        simp (config := {maxSteps := 10000000}) only [go_sem, ↓reduceIte, reduceCtorEq, Nat.reduceAdd, Nat.reduceSub, Nat.reduceMul, Nat.reduceEqDiff, Nat.reduceBEq, Nat.reduceLeDiff, Nat.reduceLT, Nat.reducePow, Nat.reduceMod]
      · simp only [Decidable.not_not] at h2
        (refine CallW'.of [] [] (rates_ok l s hl (checkF_zero h1).2.1 h2) (by simp (config := {maxSteps := 10000000}) only [go_sem, ↓reduceIte, reduceCtorEq, Nat.reduceAdd, Nat.reduceSub, Nat.reduceMul, Nat.reduceEqDiff, Nat.reduceBEq, Nat.reduceLeDiff, Nat.reduceLT, Nat.reducePow, Nat.reduceMod]) ?_; rintro _ _ ⟨rfl, rfl⟩; simp (config := {maxSteps := 10000000}) only [go_sem, ↓reduceIte, reduceCtorEq, Nat.reduceAdd, Nat.reduceSub, Nat.reduceMul, Nat.reduceEqDiff, Nat.reduceBEq, Nat.reduceLeDiff, Nat.reduceLT, Nat.reducePow, Nat.reduceMod])
        refine ⟨_, ⟨rfl, by rw [if_pos h1, if_pos h2]⟩, ?_⟩
        rw [if_pos ⟨h1, h2⟩]
        simp (config := {maxSteps := 10000000}) only [go_sem, ↓reduceIte, reduceCtorEq, Nat.reduceAdd, Nat.reduceSub, Nat.reduceMul, Nat.reduceEqDiff, Nat.reduceBEq, Nat.reduceLeDiff, Nat.reduceLT, Nat.reducePow, Nat.reduceMod]
  · rintro r h ⟨⟨x, rfl, hx⟩, rfl⟩
    exact ⟨_, by simp (config := {maxSteps := 10000000}) only [go_sem, ↓reduceIte, reduceCtorEq, Nat.reduceAdd, Nat.reduceSub, Nat.reduceMul, Nat.reduceEqDiff, Nat.reduceBEq, Nat.reduceLeDiff, Nat.reduceLT, Nat.reducePow, Nat.reduceMod]; exact hx, rfl, rfl⟩
def withinR (r : Rate) (lo hi : Int) : Bool := validR r && (decide (lo ≤ r.num / r.den) && (decide (r.num / r.den < hi) || (decide (r.num / r.den = hi) && decide (r.num % r.den = 0))))
theorem withinR_ok (r : Rate) (lo hi : Int) : Ok Tryd.prog G 44 [.agg (encR r), int lo, int hi] [] fun v h => v = bool (withinR r lo hi) ∧ h = [] := by
  refine Ok.intro' [] [] [3] 39 [.tmp 6] mixed Tryd.func44 (by kernel_rfl) rfl rfl rfl (by kernel_rfl) (by simp) (fun _ _ h => by cases h) (fun _ h => by cases h) ?_
  simp (config := {maxSteps := 10000000}) only [go_sem, ↓reduceIte, reduceCtorEq, Nat.reduceAdd, Nat.reduceSub, Nat.reduceMul, Nat.reduceEqDiff, Nat.reduceBEq, Nat.reduceLeDiff, Nat.reduceLT, Nat.reducePow, Nat.reduceMod]
  (refine CallW'.of [] [] (validR_ok r) (by simp (config := {maxSteps := 10000000}) only [go_sem, ↓reduceIte, reduceCtorEq, Nat.reduceAdd, Nat.reduceSub, Nat.reduceMul, Nat.reduceEqDiff, Nat.reduceBEq, Nat.reduceLeDiff, Nat.reduceLT, Nat.reducePow, Nat.reduceMod]) ?_; rintro _ _ ⟨rfl, rfl⟩; simp (config := {maxSteps := 10000000}) only [go_sem, ↓reduceIte, reduceCtorEq, Nat.reduceAdd, Nat.reduceSub, Nat.reduceMul, Nat.reduceEqDiff, Nat.reduceBEq, Nat.reduceLeDiff, Nat.reduceLT, Nat.reducePow, Nat.reduceMod])
  unfold withinR
  refine ite_intro (fun h1 => ?_) (fun h1 => ?_)
  · simp [h1]
  · simp only [Bool.not_eq_false] at h1
    have ⟨b1, b2, b3, b4, b5⟩ := validR_bd h1
    have d1 := div_bd b1 b3
    rw [h1, Int.tdiv_eq_ediv_of_nonneg b1, w64 (by omega) (by omega), Int.tmod_eq_emod_of_nonneg b1]
    refine ⟨by omega, by omega, ?_⟩
    refine ite_intro (fun c1 => ?_) (fun c1 => ?_)
    · refine ite_intro (fun c2 => ?_) (fun c2 => ?_)
      · simp [c1, c2]
      · refine ite_intro (fun c3 => ?_) (fun c3 => ?_)
        · rw [decide_eq_true c1, decide_eq_true c3]
          simp [c2]
          rfl
        · simp [c1, c2, c3]
    · simp [c1]
theorem Setting_ok (l : List Clock) (s : List Int) (hl : l.length < 2 ^ 40) (hc : ∀ c, c ∈ l → c.cho.length < 2 ^ 60) : Ok Tryd.prog G 17 [sl false 5 encC l, ints false s] [] fun r h => r = bool (decide (checkF l = 0 ∧ SetP l s)) ∧ h = [] := by
  refine Ok.intro' [] [] [] 13 [.tmp 4] mixed Tryd.func17 (by kernel_rfl) rfl rfl rfl (by kernel_rfl) (by simp) (fun _ _ h => by cases h) (fun _ h => by cases h) ?_
  simp (config := {maxSteps := 10000000}) only [go_sem, ↓reduceIte, reduceCtorEq, Nat.reduceAdd, Nat.reduceSub, Nat.reduceMul, Nat.reduceEqDiff, Nat.reduceBEq, Nat.reduceLeDiff, Nat.reduceLT, Nat.reducePow, Nat.reduceMod]
  (refine CallW'.of [] [] (check_ok l (by omega)) (by simp (config := {maxSteps := 10000000}) only [go_sem, ↓reduceIte, reduceCtorEq, Nat.reduceAdd, Nat.reduceSub, Nat.reduceMul, Nat.reduceEqDiff, Nat.reduceBEq, Nat.reduceLeDiff, Nat.reduceLT, Nat.reducePow, Nat.reduceMod]) ?_; rintro _ _ ⟨rfl, rfl⟩; simp (config := {maxSteps := 10000000}) only [go_sem, ↓reduceIte, reduceCtorEq, Nat.reduceAdd, Nat.reduceSub, Nat.reduceMul, Nat.reduceEqDiff, Nat.reduceBEq, Nat.reduceLeDiff, Nat.reduceLT, Nat.reducePow, Nat.reduceMod])
  refine ite_intro (fun h1 => ?_) (fun h1 => ?_)
  · (refine CallW'.of [] [] (setting_ok l s (by omega) hc) (by simp (config := {maxSteps := 10000000}) only [go_sem, ↓reduceIte, reduceCtorEq, Nat.reduceAdd, Nat.reduceSub, Nat.reduceMul, Nat.reduceEqDiff, Nat.reduceBEq, Nat.reduceLeDiff, Nat.reduceLT, Nat.reducePow, Nat.reduceMod]) ?_; rintro _ _ ⟨rfl, rfl⟩; simp (config := {maxSteps := 10000000}) only [go_sem, ↓reduceIte, reduceCtorEq, Nat.reduceAdd, Nat.reduceSub, Nat.reduceMul, Nat.reduceEqDiff, Nat.reduceBEq, Nat.reduceLeDiff, Nat.reduceLT, Nat.reducePow, Nat.reduceMod])
    simp [h1]
  · simp [h1]
end Go.Am.Cl
