/-
  ClockAnswers, part J: the reference's states.
-/
import Derived.Test.YtjmomolnhplokaaDoorAmClI
namespace Go.Am.Cl
open Go Go.Am Go.Proofs
set_option maxRecDepth 100000
set_option linter.unusedSimpArgs false
set_option linter.unusedVariables false
variable {G : Gl}
def PosR (r : Rate) : Prop := r = ⟨0, 0⟩ ∨ r = ⟨0, 1⟩ ∨ 1 ≤ r.num
theorem newF_pos {n d : Int} (hn : 1 ≤ n) : (newF n d).1 = ⟨0, 0⟩ ∨ 1 ≤ (newF n d).1.num := by
  unfold newF
  split
  · exact .inl rfl
  · split
    · right
      rename_i h1 h2
      have := gcd_div_pos hn (by omega : 1 ≤ d)
      simp only
      omega
    · exact .inl rfl
theorem valid00 : validR ⟨0, 0⟩ = false := by decide
theorem valid01 : validR ⟨0, 1⟩ = true := by decide
theorem gcd0 (k : Int) (h : 1 ≤ k) : gcdI 0 k = k := by unfold gcdI; rw [Int.gcd_zero_left]; omega
theorem over_off {k : Int} (h : 1 ≤ k ∧ k ≤ 64) : (overF ⟨0, 1⟩ k).1 = ⟨0, 1⟩ := by
  rw [overF_eq, valid01, if_neg (by simp), if_neg (by omega)]
  unfold newF
  simp only [Int.one_mul]
  rw [if_neg (by omega), gcd0 k h.1, Int.zero_ediv, Int.ediv_self (by omega), if_pos valid01]
theorem times_off {k : Int} (h : 1 ≤ k ∧ k ≤ 64) : (timesF ⟨0, 1⟩ k).1 = ⟨0, 1⟩ := by
  have hg : gcdI k 1 = 1 := by unfold gcdI; simp
  rw [timesF_eq, valid01, if_neg (by simp), if_neg (by omega)]
  simp only [hg, Int.ediv_one, Int.zero_mul]
  rw [if_neg (by have := Int.ediv_nonneg (by omega : (0 : Int) ≤ 144115188075855872) (by omega : 0 ≤ k); omega)]
  unfold newF
  rw [if_neg (by omega), gcd0 1 (by omega)]
  simp [valid01]
theorem over_pos {r : Rate} {k : Int} (hr : PosR r) (h : 1 ≤ k ∧ k ≤ 64) : PosR (overF r k).1 ∧ ((overF r k).1 = ⟨0, 1⟩ ↔ r = ⟨0, 1⟩) := by
  rcases hr with rfl | rfl | hr
  · rw [overF_eq, valid00, if_pos rfl]
    exact ⟨.inl rfl, by simp⟩
  · rw [over_off h]
    exact ⟨.inr (.inl rfl), by simp⟩
  · rw [overF_eq]
    have hne : r ≠ ⟨0, 1⟩ := fun e => by rw [e] at hr; simp at hr
    split
    · exact ⟨.inl rfl, by simp [hne]⟩
    · rw [if_neg (by omega)]
      rcases newF_pos (d := r.den * k) hr with e | e
      · rw [e]; exact ⟨.inl rfl, by simp [hne]⟩
      · exact ⟨.inr (.inr e), by simp only [hne, iff_false]; intro e'; rw [e'] at e; simp at e⟩
theorem times_pos {r : Rate} {k : Int} (hr : PosR r) (h : 1 ≤ k ∧ k ≤ 64) : PosR (timesF r k).1 ∧ ((timesF r k).1 = ⟨0, 1⟩ ↔ r = ⟨0, 1⟩) := by
  rcases hr with rfl | rfl | hr
  · rw [timesF_eq, valid00, if_pos rfl]
    exact ⟨.inl rfl, by simp⟩
  · rw [times_off h]
    exact ⟨.inr (.inl rfl), by simp⟩
  · rw [timesF_eq]
    have hne : r ≠ ⟨0, 1⟩ := fun e => by rw [e] at hr; simp at hr
    split
    · exact ⟨.inl rfl, by simp [hne]⟩
    · rename_i hv
      have ⟨b1, b2, b3, b4, b5⟩ := validR_bd (r := r) (by simpa using hv)
      have hp := gcd_div_pos h.1 b3
      rw [if_neg (by omega)]
      split
      · exact ⟨.inl rfl, by simp [hne]⟩
      · have hm : 1 * 1 ≤ r.num * (k / gcdI k r.den) := Int.mul_le_mul hr hp (by omega) (by omega)
        rcases newF_pos (n := r.num * (k / gcdI k r.den)) (d := r.den / gcdI k r.den) (by omega) with e | e
        · rw [e]; exact ⟨.inl rfl, by simp [hne]⟩
        · exact ⟨.inr (.inr e), by simp only [hne, iff_false]; intro e'; rw [e'] at e; simp at e⟩
def offB (r : Rate) : Bool := decide (r ≠ ⟨0, 1⟩)
/-- a step in the reference's words -/
theorem rstep_facts {out : List Rate} {c : Clock} {i : Nat} {k p ch : Int} (hlen : out.length = i) (hv : validF c i = true) (hk : 0 ≤ k ∧ k < c.cho.length) (hP : ∀ r, r ∈ out → PosR r) (hp : parentF c k = p) (hch : c.cho.getD k.toNat default = ch) :
    PosR (rstep out c k) ∧ (c.kind = 1 → p = -1 ∧ rstep out c k = ⟨ch, 1⟩ ∧ offB (rstep out c k) = true) ∧ (c.kind ≠ 1 → 0 ≤ p ∧ p < i) ∧
    (c.kind = 2 → rstep out c k = (overF (out.getD p.toNat default) ch).1 ∧ offB (rstep out c k) = offB (out.getD p.toNat default)) ∧
    (c.kind = 3 → rstep out c k = (timesF (out.getD p.toNat default) ch).1 ∧ offB (rstep out c k) = offB (out.getD p.toNat default)) ∧
    (c.kind = 5 → ch = 0 → rstep out c k = ⟨0, 1⟩) ∧ (c.kind = 5 → ch ≠ 0 → rstep out c k = out.getD p.toNat default) ∧ (c.kind = 4 → rstep out c k = out.getD p.toNat default) := by
  have f := parent_facts hv hk
  rw [hp, hch] at f
  unfold rstep
  rw [hp, hch]
  by_cases k1 : c.kind = 1
  · have hp1 : p = -1 := by rw [← hp]; unfold parentF; rw [if_pos k1]
    have hc := f.2.2.2.2.1 k1
    rw [if_pos (by omega)]
    refine ⟨.inr (.inr hc.1), fun _ => ⟨hp1, rfl, ?_⟩, fun h => absurd k1 h, fun h => by omega, fun h => by omega, fun h => by omega, fun h => by omega, fun h => by omega⟩
    unfold offB
    rw [decide_eq_true]
    intro e
    have := congrArg Rate.num e
    simp at this
    omega
  · have hpi : 0 ≤ p ∧ p < i := by rcases f.2.2.2.1 with h | h; exact absurd h k1; exact h
    have hPr := hP _ (getD_mem (d := default) (by omega : p.toNat < out.length))
    rw [if_neg (by omega)]
    refine ⟨?_, fun h => absurd h k1, fun _ => hpi, fun k2 => ?_, fun k3 => ?_, fun k5 h0 => ?_, fun k5 h0 => ?_, fun k4 => ?_⟩
    · split
      · exact .inr (.inl rfl)
      · split
        · rename_i h; exact (over_pos hPr (f.2.2.2.2.2 (.inl h))).1
        · split
          · rename_i h; exact (times_pos hPr (f.2.2.2.2.2 (.inr h))).1
          · exact hPr
    · have hc := f.2.2.2.2.2 (.inl k2)
      have ho := over_pos hPr hc
      by_cases e : out.getD p.toNat default = ⟨0, 1⟩
      · rw [if_pos (.inl e), e, over_off hc]
        exact ⟨rfl, rfl⟩
      · rw [if_neg (fun h => h.elim e fun h => by omega), if_pos k2]
        refine ⟨rfl, ?_⟩
        unfold offB
        simp only [ne_eq, ho.2]
    · have hc := f.2.2.2.2.2 (.inr k3)
      have ho := times_pos hPr hc
      by_cases e : out.getD p.toNat default = ⟨0, 1⟩
      · rw [if_pos (.inl e), e, times_off hc]
        exact ⟨rfl, rfl⟩
      · rw [if_neg (fun h => h.elim e fun h => by omega), if_neg (by omega), if_pos k3]
        refine ⟨rfl, ?_⟩
        unfold offB
        simp only [ne_eq, ho.2]
    · rw [if_pos (.inr ⟨k5, h0⟩)]
    · by_cases e : out.getD p.toNat default = ⟨0, 1⟩
      · rw [if_pos (.inl e), e]
      · rw [if_neg (fun h => h.elim e fun h => h0 h.2), if_neg (by omega), if_neg (by omega)]
    · by_cases e : out.getD p.toNat default = ⟨0, 1⟩
      · rw [if_pos (.inl e), e]
      · rw [if_neg (fun h => h.elim e fun h => by omega), if_neg (by omega), if_neg (by omega)]
theorem rates_pos {l : List Clock} {s : List Int} (hv : allValid l) (hs : SetP l s) : ∀ n, n ≤ l.length → ∀ r, r ∈ ratesUp l s n → PosR r
  | 0, _, r, h => by simp [ratesUp] at h
  | n + 1, hn, r, h => by
    have ih := rates_pos hv hs n (by omega)
    simp only [ratesUp, List.mem_append, List.mem_singleton] at h
    rcases h with h | rfl
    · exact ih r h
    · exact (rstep_facts (ratesUp_len l s n) (hv n (by omega)) (hs.2 n (by omega)) ih rfl rfl).1
def encB (b : Bool) : List AV := [bool b]
attribute [go_sem] encB
def onUp (l : List Clock) (s : List Int) (n : Nat) : List Bool := (ratesUp l s n).map offB
theorem onUp_get {l : List Clock} {s : List Int} {n i : Nat} (h : i < (ratesUp l s n).length) : (onUp l s n).getD i default = offB ((ratesUp l s n).getD i default) := by
  unfold onUp
  rw [List.getD_eq_getElem?_getD, List.getD_eq_getElem?_getD, List.getElem?_map, List.getElem?_eq_getElem h]; rfl
theorem states_ok (l : List Clock) (s : List Int) (hl : l.length < 2 ^ 30) (hv : allValid l) (hs : SetP l s) : Ok Tryd.prog G 32 [sl false 5 encC l, ints false s] []
    fun r h => r = .tup [sl true 2 encR (ratesUp l s l.length), sl true 1 encB (onUp l s l.length)] ∧ h = [] := by
  refine Ok.weak (Q := fun r h => leP r (.tup [sl true 2 encR (ratesUp l s l.length), sl true 1 encB (onUp l s l.length)]) ∧ h = []) ?_ (fun r h ⟨h1, h2⟩ => ⟨_, h1, rfl, h2⟩)
  refine Ok.intro' [] [] [] 84 [.tmp 4, .tmp 5] mixed Tryd.func32 (by kernel_rfl) rfl rfl rfl (by kernel_rfl) (by simp) (fun _ _ h => by cases h) (fun _ h => by cases h) ?_
  simp (config := {maxSteps := 10000000}) only [go_sem, ↓reduceIte, reduceCtorEq, Nat.reduceAdd, Nat.reduceSub, Nat.reduceMul, Nat.reduceEqDiff, Nat.reduceBEq, Nat.reduceLeDiff, Nat.reduceLT, Nat.reducePow, Nat.reduceMod]
  refine TC'.ent ((Ent.virt 6 76 2 (by simp (config := {maxSteps := 10000000}) only [go_sem, ↓reduceIte, reduceCtorEq, Nat.reduceAdd, Nat.reduceSub, Nat.reduceMul, Nat.reduceEqDiff, Nat.reduceBEq, Nat.reduceLeDiff, Nat.reduceLT, Nat.reducePow, Nat.reduceMod]) (by simp (config := {maxSteps := 10000000}) only [go_sem, ↓reduceIte, reduceCtorEq, Nat.reduceAdd, Nat.reduceSub, Nat.reduceMul, Nat.reduceEqDiff, Nat.reduceBEq, Nat.reduceLeDiff, Nat.reduceLT, Nat.reducePow, Nat.reduceMod])).trans (Ent.virt 7 80 1 (by simp (config := {maxSteps := 10000000}) only [go_sem, ↓reduceIte, reduceCtorEq, Nat.reduceAdd, Nat.reduceSub, Nat.reduceMul, Nat.reduceEqDiff, Nat.reduceBEq, Nat.reduceLeDiff, Nat.reduceLT, Nat.reducePow, Nat.reduceMod]) (by simp (config := {maxSteps := 10000000}) only [go_sem, ↓reduceIte, reduceCtorEq, Nat.reduceAdd, Nat.reduceSub, Nat.reduceMul, Nat.reduceEqDiff, Nat.reduceBEq, Nat.reduceLeDiff, Nat.reduceLT, Nat.reducePow, Nat.reduceMod]))) ?_
  refine TC'.loop [10] (fun (i : Nat) => ⟨[(1, ints false s), (6, .own 76 2 0 i false), (7, .own 80 1 0 i false), (14, sl false 5 encC l), (15, int l.length), (16, int i)], [(76, .arr 2 i (fun x => encR ((ratesUp l s i).getD x default)) false), (80, .arr 1 i (fun x => encB ((onUp l s i).getD x default)) false)]⟩) (fun i => i ≤ l.length) (fun i => l.length - i) 0 mixed (by kernel_rfl) ?_ ?_ ?_
  · simp (config := {maxSteps := 10000000}) only [go_sem, ↓reduceIte, reduceCtorEq, Nat.reduceAdd, Nat.reduceSub, Nat.reduceMul, Nat.reduceEqDiff, Nat.reduceBEq, Nat.reduceLeDiff, Nat.reduceLT, Nat.reducePow, Nat.reduceMod]
    simp
  · simp
  intro i hi
  have hlen := ratesUp_len l s i
  simp (config := {maxSteps := 10000000}) only [go_sem, ↓reduceIte, reduceCtorEq, Nat.reduceAdd, Nat.reduceSub, Nat.reduceMul, Nat.reduceEqDiff, Nat.reduceBEq, Nat.reduceLeDiff, Nat.reduceLT, Nat.reducePow, Nat.reduceMod]
  refine ite_intro (fun hlt => ?_) (fun hlt => ?_)
  · have hlt : i < l.length := by omega
    have hs2 := hs.2 i hlt
    have hsl := hs.1
    refine ⟨by omega, ?_⟩
    refine TC'.draw [9] (.q 0 (.q 1 (.q 2 (.q 3 (.q 4 (.e [(5, (.q 6 .done))])))))) mixed (by kernel_rfl) (by kernel_rfl) ?_
    simp (config := {maxSteps := 10000000}) only [go_sem, ↓reduceIte, reduceCtorEq, Nat.reduceAdd, Nat.reduceSub, Nat.reduceMul, Nat.reduceEqDiff, Nat.reduceBEq, Nat.reduceLeDiff, Nat.reduceLT, Nat.reducePow, Nat.reduceMod]
    refine ⟨by omega, ?_⟩
    have f := rstep_facts hlen (hv i hlt) hs2 (rates_pos hv hs i hi) rfl rfl
    refine CallW'.of [] [] (rparent_ok (l.getD i default) (s.getD i default) i (hv i hlt) hs2) (by simp (config := {maxSteps := 10000000}) only [go_sem, ↓reduceIte, reduceCtorEq, Nat.reduceAdd, Nat.reduceSub, Nat.reduceMul, Nat.reduceEqDiff, Nat.reduceBEq, Nat.reduceLeDiff, Nat.reduceLT, Nat.reducePow, Nat.reduceMod]) ?_
    rintro _ _ ⟨rfl, rfl⟩
    generalize hst : rstep (ratesUp l s i) (l.getD i default) (s.getD i default) = st at f
    have fin : ∀ (r : Rate) (b : Bool), r = st → b = offB st → ∃ y, y ≤ l.length ∧ l.length - y < l.length - i ∧ (i + 1 = y ∧ i + 1 = y ∧ IntKind.i64.wrap (↑i + 1) = ↑y) ∧
        (i + 1 = y ∧ ∀ x, x < i + 1 → appF i (fun x => [int ((ratesUp l s i).getD x default).num, int ((ratesUp l s i).getD x default).den]) (fun q => litF [[int r.num, int r.den]] q) x = [int ((ratesUp l s y).getD x default).num, int ((ratesUp l s y).getD x default).den]) ∧
        (i + 1 = y ∧ ∀ x, x < i + 1 → appF i (fun x => [bool ((onUp l s i).getD x default)]) (fun q => litF [[bool b]] q) x = [bool ((onUp l s y).getD x default)]) := fun r b hr hb =>
      ⟨i + 1, by omega, by omega, ⟨rfl, rfl, by rw [w64 (by omega) (by omega)]; omega⟩, ⟨rfl, fun x hx => by
        have := appF_snoc encR (ratesUp l s i) r _ rfl x (by omega)
        rw [hlen] at this
        simp only [ratesUp]
        rw [hst, ← hr]
        exact this⟩, ⟨rfl, fun x hx => by
        have h1 : (onUp l s i).length = i := by simp [onUp, hlen]
        have := appF_snoc encB (onUp l s i) b _ rfl x (by omega)
        rw [h1] at this
        have e : onUp l s (i + 1) = onUp l s i ++ [b] := by simp only [onUp, ratesUp, List.map_append, List.map_cons, List.map_nil, hst, hb]
        rw [e]
        exact this⟩⟩
    have hon : ∀ p : Int, 0 ≤ p ∧ p < i → (onUp l s i).getD p.toNat default = offB ((ratesUp l s i).getD p.toNat default) := fun p hp => onUp_get (by omega)
    generalize hp : parentF (l.getD i default) (s.getD i default) = p at *
    generalize hc : l.getD i default = c at *
    generalize hch : c.cho.getD (s.getD i default).toNat default = ch at *
    simp (config := {maxSteps := 10000000}) only [go_sem, ↓reduceIte, reduceCtorEq, Nat.reduceAdd, Nat.reduceSub, Nat.reduceMul, Nat.reduceEqDiff, Nat.reduceBEq, Nat.reduceLeDiff, Nat.reduceLT, Nat.reducePow, Nat.reduceMod]
    refine ite_intro (fun hp0 => ?_) (fun hp0 => ?_)
    · have k1 : c.kind ≠ 1 := fun h => by have := (f.2.1 h).1; omega
      have hpi := f.2.2.1 k1
      refine TC'.draw [76, 80] (.q 0 (.q 1 (.q 2 (.q 3 (.q 4 (.q 5 (.q 6 (.q 7 (.e [(8, (.q 9 .done))]))))))))) mixed (by kernel_rfl) (by kernel_rfl) ?_
      simp (config := {maxSteps := 10000000}) only [go_sem, ↓reduceIte, reduceCtorEq, Nat.reduceAdd, Nat.reduceSub, Nat.reduceMul, Nat.reduceEqDiff, Nat.reduceBEq, Nat.reduceLeDiff, Nat.reduceLT, Nat.reducePow, Nat.reduceMod]
      rw [hon p hpi]
      refine ⟨hpi, by omega, hpi, by omega, by omega, hs2, ?_⟩
      rw [if_neg k1, hch]
      refine ite_intro (fun k2 => ?_) (fun k2 => ?_)
      · have hf := f.2.2.2.1 k2
        (refine CallW'.of [] [] (rover_ok ((ratesUp l s i).getD p.toNat default) ch) (by simp (config := {maxSteps := 10000000}) only [go_sem, ↓reduceIte, reduceCtorEq, Nat.reduceAdd, Nat.reduceSub, Nat.reduceMul, Nat.reduceEqDiff, Nat.reduceBEq, Nat.reduceLeDiff, Nat.reduceLT, Nat.reducePow, Nat.reduceMod]) ?_; rintro _ _ ⟨rfl, rfl⟩; simp (config := {maxSteps := 10000000}) only [go_sem, ↓reduceIte, reduceCtorEq, Nat.reduceAdd, Nat.reduceSub, Nat.reduceMul, Nat.reduceEqDiff, Nat.reduceBEq, Nat.reduceLeDiff, Nat.reduceLT, Nat.reducePow, Nat.reduceMod])
        exact ⟨by omega, by omega, fin _ _ hf.1.symm hf.2.symm⟩
      · refine ite_intro (fun k3 => ?_) (fun k3 => ?_)
        · have hf := f.2.2.2.2.1 k3
          (refine CallW'.of [] [] (rtimes_ok ((ratesUp l s i).getD p.toNat default) ch) (by simp (config := {maxSteps := 10000000}) only [go_sem, ↓reduceIte, reduceCtorEq, Nat.reduceAdd, Nat.reduceSub, Nat.reduceMul, Nat.reduceEqDiff, Nat.reduceBEq, Nat.reduceLeDiff, Nat.reduceLT, Nat.reducePow, Nat.reduceMod]) ?_; rintro _ _ ⟨rfl, rfl⟩; simp (config := {maxSteps := 10000000}) only [go_sem, ↓reduceIte, reduceCtorEq, Nat.reduceAdd, Nat.reduceSub, Nat.reduceMul, Nat.reduceEqDiff, Nat.reduceBEq, Nat.reduceLeDiff, Nat.reduceLT, Nat.reducePow, Nat.reduceMod])
          exact ⟨by omega, by omega, fin _ _ hf.1.symm hf.2.symm⟩
        · refine ite_intro (fun k5 => ?_) (fun k5 => ?_)
          · refine ite_intro (fun h0 => ?_) (fun h0 => ?_)
            · have hf := f.2.2.2.2.2.1 k5 h0
              exact ⟨by omega, by omega, fin ⟨0, 1⟩ false hf.symm (by rw [hf]; rfl)⟩
            · have hf := f.2.2.2.2.2.2.1 k5 h0
              exact ⟨by omega, by omega, fin _ _ hf.symm (by rw [hf])⟩
          · have k4 : c.kind = 4 := by
              have := (parent_facts (hv i hlt) (by rw [hc]; exact hs2)).1
              rw [hc] at this
              omega
            have hf := f.2.2.2.2.2.2.2 k4
            exact ⟨by omega, by omega, fin _ _ hf.symm (by rw [hf])⟩
    · have k1 : c.kind = 1 := Decidable.byContradiction fun h => by have := f.2.2.1 h; omega
      refine ⟨by omega, hs2, ?_⟩
      rw [if_pos k1]
      have hf := f.2.1 k1
      rw [hch]
      exact ⟨by omega, by omega, fin ⟨ch, 1⟩ true hf.2.1.symm hf.2.2.symm⟩
  · have : i = l.length := by omega
    subst this
    have h1 : (onUp l s l.length).length = l.length := by simp [onUp, hlen]
    rw [hlen, h1]
    exact ⟨⟨rfl, fun _ _ => ⟨rfl, rfl⟩⟩, rfl, fun _ _ => rfl⟩
theorem rSetting_ok (l : List Clock) (s : List Int) (hl : l.length < 2 ^ 40) : Ok Tryd.prog G 18 [sl false 5 encC l, ints false s] [] fun r h => r = bool (decide (checkF l = 0 ∧ SetP l s)) ∧ h = [] := by
  refine Ok.intro' [] [] [] 40 [.tmp 4] mixed Tryd.func18 (by kernel_rfl) rfl rfl rfl (by kernel_rfl) (by simp) (fun _ _ h => by cases h) (fun _ h => by cases h) ?_
  simp (config := {maxSteps := 10000000}) only [go_sem, ↓reduceIte, reduceCtorEq, Nat.reduceAdd, Nat.reduceSub, Nat.reduceMul, Nat.reduceEqDiff, Nat.reduceBEq, Nat.reduceLeDiff, Nat.reduceLT, Nat.reducePow, Nat.reduceMod]
  (refine CallW'.of [] [] (rcheck_ok l (by omega)) (by simp (config := {maxSteps := 10000000}) only [go_sem, ↓reduceIte, reduceCtorEq, Nat.reduceAdd, Nat.reduceSub, Nat.reduceMul, Nat.reduceEqDiff, Nat.reduceBEq, Nat.reduceLeDiff, Nat.reduceLT, Nat.reducePow, Nat.reduceMod]) ?_; rintro _ _ ⟨rfl, rfl⟩; simp (config := {maxSteps := 10000000}) only [go_sem, ↓reduceIte, reduceCtorEq, Nat.reduceAdd, Nat.reduceSub, Nat.reduceMul, Nat.reduceEqDiff, Nat.reduceBEq, Nat.reduceLeDiff, Nat.reduceLT, Nat.reducePow, Nat.reduceMod])
  refine ite_intro (fun h1 => ?_) (fun h1 => ?_)
  · simp [h1]
  · simp only [Decidable.not_not] at h1
    refine ite_intro (fun h2 => ?_) (fun h2 => ?_)
    · have : ¬ SetP l s := fun h => h2 (by rw [h.1])
      simp [this]
    · have h2 : s.length = l.length := by omega
      refine TC'.loop [6] (fun (i : Nat) => ⟨[(1, ints false s), (17, sl false 5 encC l), (18, int l.length), (19, int i)], []⟩) (fun i => i ≤ l.length ∧ ∀ j, j < i → 0 ≤ s.getD j default ∧ s.getD j default < (l.getD j default).cho.length) (fun i => l.length - i) 0 mixed (by kernel_rfl) ?_ ?_ ?_
      · simp (config := {maxSteps := 10000000}) only [go_sem, ↓reduceIte, reduceCtorEq, Nat.reduceAdd, Nat.reduceSub, Nat.reduceMul, Nat.reduceEqDiff, Nat.reduceBEq, Nat.reduceLeDiff, Nat.reduceLT, Nat.reducePow, Nat.reduceMod]
        simp
      · simp
      intro i ⟨hi, hv⟩
      simp (config := {maxSteps := 10000000}) only [go_sem, ↓reduceIte, reduceCtorEq, Nat.reduceAdd, Nat.reduceSub, Nat.reduceMul, Nat.reduceEqDiff, Nat.reduceBEq, Nat.reduceLeDiff, Nat.reduceLT, Nat.reducePow, Nat.reduceMod]
      refine ite_intro (fun hlt => ?_) (fun hlt => ?_)
      · have hlt : i < l.length := by omega
        have bad : ¬ (0 ≤ s.getD i default ∧ s.getD i default < (l.getD i default).cho.length) → false = decide (checkF l = 0 ∧ SetP l s) := fun h => by
          have : ¬ SetP l s := fun h' => h (h'.2 i hlt)
          simp [this]
        refine ⟨by omega, by omega, ?_⟩
        refine ite_intro (fun b1 => ?_) (fun b1 => ?_)
        · exact bad (by omega)
        · refine ⟨by omega, ?_⟩
          refine ite_intro (fun b2 => ?_) (fun b2 => ?_)
          · exact bad (by omega)
          · refine ⟨i + 1, ⟨by omega, fun j hj => ?_⟩, by omega, by rw [w64 (by omega) (by omega)]; omega⟩
            by_cases e : j = i
            · rw [e]; omega
            · exact hv j (by omega)
      · have : SetP l s := ⟨h2, fun j hj => hv j (by omega)⟩
        simp [this, h1]
theorem rRates_ok (l : List Clock) (s : List Int) (hl : l.length < 2 ^ 30) : Ok Tryd.prog G 16 [sl false 5 encC l, ints false s] []
    fun r h => r = .tup [sl true 2 encR (ratesV l s), int (ratesE l s)] ∧ h = [] := by
  refine Ok.weak (Q := fun r h => (∃ x, r = .tup [x, int (ratesE l s)] ∧ leP x (sl true 2 encR (ratesV l s))) ∧ h = []) ?_ ?_
  · refine Ok.intro' [] [] [] 25 [.tmp 4, .tmp 5] mixed Tryd.func16 (by kernel_rfl) rfl rfl rfl (by kernel_rfl) (by simp) (fun _ _ h => by cases h) (fun _ h => by cases h) ?_
    simp (config := {maxSteps := 10000000}) only [go_sem, ↓reduceIte, reduceCtorEq, Nat.reduceAdd, Nat.reduceSub, Nat.reduceMul, Nat.reduceEqDiff, Nat.reduceBEq, Nat.reduceLeDiff, Nat.reduceLT, Nat.reducePow, Nat.reduceMod]
    (refine CallW'.of [] [] (rcheck_ok l (by omega)) (by simp (config := {maxSteps := 10000000}) only [go_sem, ↓reduceIte, reduceCtorEq, Nat.reduceAdd, Nat.reduceSub, Nat.reduceMul, Nat.reduceEqDiff, Nat.reduceBEq, Nat.reduceLeDiff, Nat.reduceLT, Nat.reducePow, Nat.reduceMod]) ?_; rintro _ _ ⟨rfl, rfl⟩; simp (config := {maxSteps := 10000000}) only [go_sem, ↓reduceIte, reduceCtorEq, Nat.reduceAdd, Nat.reduceSub, Nat.reduceMul, Nat.reduceEqDiff, Nat.reduceBEq, Nat.reduceLeDiff, Nat.reduceLT, Nat.reducePow, Nat.reduceMod])
    unfold ratesE ratesV
    refine ite_intro (fun h1 => ?_) (fun h1 => ?_)
    · refine ⟨_, ⟨rfl, by rw [if_neg h1]⟩, ?_⟩
      rw [if_neg (fun h => h1 h.1)]
      simp (config := {maxSteps := 10000000}) only [go_sem, ↓reduceIte, reduceCtorEq, Nat.reduceAdd, Nat.reduceSub, Nat.reduceMul, Nat.reduceEqDiff, Nat.reduceBEq, Nat.reduceLeDiff, Nat.reduceLT, Nat.reducePow, Nat.reduceMod]
    · simp only [Decidable.not_not] at h1
      (refine CallW'.of [] [] (rSetting_ok l s (by omega)) (by simp (config := {maxSteps := 10000000}) only [go_sem, ↓reduceIte, reduceCtorEq, Nat.reduceAdd, Nat.reduceSub, Nat.reduceMul, Nat.reduceEqDiff, Nat.reduceBEq, Nat.reduceLeDiff, Nat.reduceLT, Nat.reducePow, Nat.reduceMod]) ?_; rintro _ _ ⟨rfl, rfl⟩; simp (config := {maxSteps := 10000000}) only [go_sem, ↓reduceIte, reduceCtorEq, Nat.reduceAdd, Nat.reduceSub, Nat.reduceMul, Nat.reduceEqDiff, Nat.reduceBEq, Nat.reduceLeDiff, Nat.reduceLT, Nat.reducePow, Nat.reduceMod])
      refine ite_intro (fun h2 => ?_) (fun h2 => ?_)
      · refine ⟨_, ⟨rfl, by rw [if_pos h1, if_neg (fun h => h2 ⟨h1, h⟩)]⟩, ?_⟩
        rw [if_neg h2]
        simp (config := {maxSteps := 10000000}) only [go_sem, ↓reduceIte, reduceCtorEq, Nat.reduceAdd, Nat.reduceSub, Nat.reduceMul, Nat.reduceEqDiff, Nat.reduceBEq, Nat.reduceLeDiff, Nat.reduceLT, Nat.reducePow, Nat.reduceMod]
      · simp only [Decidable.not_not] at h2
        (refine CallW'.of [] [] (states_ok l s hl (checkF_zero h1).2.1 h2.2) (by simp (config := {maxSteps := 10000000}) only [go_sem, ↓reduceIte, reduceCtorEq, Nat.reduceAdd, Nat.reduceSub, Nat.reduceMul, Nat.reduceEqDiff, Nat.reduceBEq, Nat.reduceLeDiff, Nat.reduceLT, Nat.reducePow, Nat.reduceMod]) ?_; rintro _ _ ⟨rfl, rfl⟩; simp (config := {maxSteps := 10000000}) only [go_sem, ↓reduceIte, reduceCtorEq, Nat.reduceAdd, Nat.reduceSub, Nat.reduceMul, Nat.reduceEqDiff, Nat.reduceBEq, Nat.reduceLeDiff, Nat.reduceLT, Nat.reducePow, Nat.reduceMod])
        refine ⟨_, ⟨rfl, by rw [if_pos h1, if_pos h2.2]⟩, ?_⟩
        rw [if_pos h2]
        simp (config := {maxSteps := 10000000}) only [go_sem, ↓reduceIte, reduceCtorEq, Nat.reduceAdd, Nat.reduceSub, Nat.reduceMul, Nat.reduceEqDiff, Nat.reduceBEq, Nat.reduceLeDiff, Nat.reduceLT, Nat.reducePow, Nat.reduceMod]
  · rintro r h ⟨⟨x, rfl, hx⟩, rfl⟩
    exact ⟨_, by simp (config := {maxSteps := 10000000}) only [go_sem, ↓reduceIte, reduceCtorEq, Nat.reduceAdd, Nat.reduceSub, Nat.reduceMul, Nat.reduceEqDiff, Nat.reduceBEq, Nat.reduceLeDiff, Nat.reduceLT, Nat.reducePow, Nat.reduceMod]; exact hx, rfl, rfl⟩
theorem sameRates_ok (a b : List Rate) (hl : a.length < 2 ^ 60) : Ok Tryd.prog G 19 [sl false 2 encR a, sl false 2 encR b] [] fun r h => r = bool (decide (a = b)) ∧ h = [] := by
  refine Ok.intro' [] [] [] 26 [.tmp 4] mixed Tryd.func19 (by kernel_rfl) rfl rfl rfl (by kernel_rfl) (by simp) (fun _ _ h => by cases h) (fun _ h => by cases h) ?_
  simp (config := {maxSteps := 10000000}) only [go_sem, ↓reduceIte, reduceCtorEq, Nat.reduceAdd, Nat.reduceSub, Nat.reduceMul, Nat.reduceEqDiff, Nat.reduceBEq, Nat.reduceLeDiff, Nat.reduceLT, Nat.reducePow, Nat.reduceMod]
  refine ite_intro (fun hne => ?_) (fun hne => ?_)
  · have : a ≠ b := fun h => hne (by rw [h])
    simp [this]
  have hne : a.length = b.length := by omega
  refine TC'.loop [6] (fun (i : Nat) => ⟨[(0, sl false 2 encR a), (1, sl false 2 encR b), (12, int a.length), (13, int i)], []⟩) (fun i => i ≤ a.length ∧ a.take i = b.take i) (fun i => a.length - i) 0 mixed (by kernel_rfl) ?_ ?_ ?_
  · simp (config := {maxSteps := 10000000}) only [go_sem, ↓reduceIte, reduceCtorEq, Nat.reduceAdd, Nat.reduceSub, Nat.reduceMul, Nat.reduceEqDiff, Nat.reduceBEq, Nat.reduceLeDiff, Nat.reduceLT, Nat.reducePow, Nat.reduceMod]
    simp
  · simp
  intro i ⟨hi, hv⟩
  simp (config := {maxSteps := 10000000}) only [go_sem, ↓reduceIte, reduceCtorEq, Nat.reduceAdd, Nat.reduceSub, Nat.reduceMul, Nat.reduceEqDiff, Nat.reduceBEq, Nat.reduceLeDiff, Nat.reduceLT, Nat.reducePow, Nat.reduceMod]
  refine ite_intro (fun hlt => ?_) (fun hlt => ?_)
  · have hlt : i < a.length := by omega
    refine ⟨by omega, by omega, ?_⟩
    refine ite_intro (fun hw => ?_) (fun hw => ?_)
    · have : a ≠ b := fun h => by rw [h] at hw; simp at hw
      simp [this]
    · refine ⟨i + 1, ⟨by omega, ?_⟩, by omega, by rw [w64 (by omega) (by omega)]; omega⟩
      rw [take_getD (d := default) hlt, take_getD (d := default) (by omega : i < b.length), hv]
      have : a.getD i default = b.getD i default := by
        generalize a.getD i default = x at hw
        generalize b.getD i default = y at hw
        obtain ⟨x1, x2⟩ := x
        obtain ⟨y1, y2⟩ := y
        simp at hw
        rw [hw.1, hw.2]
      rw [this]
  · rw [take_all (by omega), take_all (by omega)] at hv
    simp [hv]
theorem limBad_iff (n : Nat) (x : Limit) : limBad n x = false ↔ 0 ≤ x.clock ∧ x.clock < n ∧ 0 ≤ x.low ∧ x.low ≤ x.high ∧ x.high ≤ 4000000000 := by
  simp only [limBad, Bool.or_eq_false_iff, Bool.not_eq_false', withinF_true]
  omega
theorem rlimits_ok (l : List Clock) (m : List Limit) (hl : l.length < 2 ^ 40) (hm : m.length < 2 ^ 40) : Ok Tryd.prog G 21 [sl false 5 encC l, sl false 3 encL m] [] fun r h => r = bool (limitsF l m) ∧ h = [] := by
  refine Ok.intro' [] [] [] 49 [.tmp 4] mixed Tryd.func21 (by kernel_rfl) rfl rfl rfl (by kernel_rfl) (by simp) (fun _ _ h => by cases h) (fun _ h => by cases h) ?_
  simp (config := {maxSteps := 10000000}) only [go_sem, ↓reduceIte, reduceCtorEq, Nat.reduceAdd, Nat.reduceSub, Nat.reduceMul, Nat.reduceEqDiff, Nat.reduceBEq, Nat.reduceLeDiff, Nat.reduceLT, Nat.reducePow, Nat.reduceMod]
  (refine CallW'.of [] [] (rcheck_ok l (by omega)) (by simp (config := {maxSteps := 10000000}) only [go_sem, ↓reduceIte, reduceCtorEq, Nat.reduceAdd, Nat.reduceSub, Nat.reduceMul, Nat.reduceEqDiff, Nat.reduceBEq, Nat.reduceLeDiff, Nat.reduceLT, Nat.reducePow, Nat.reduceMod]) ?_; rintro _ _ ⟨rfl, rfl⟩; simp (config := {maxSteps := 10000000}) only [go_sem, ↓reduceIte, reduceCtorEq, Nat.reduceAdd, Nat.reduceSub, Nat.reduceMul, Nat.reduceEqDiff, Nat.reduceBEq, Nat.reduceLeDiff, Nat.reduceLT, Nat.reducePow, Nat.reduceMod])
  unfold limitsF
  refine ite_intro (fun h1 => ?_) (fun h1 => ?_)
  · simp [h1]
  · simp only [Decidable.not_not] at h1
    refine ite_intro (fun h2 => ?_) (fun h2 => ?_)
    · have : ¬ m.length ≤ 32 := by omega
      simp [this]
    · have h2 : m.length ≤ 32 := by omega
      refine TC'.loop [] (fun (i : Nat) => ⟨[(0, sl false 5 encC l), (15, sl false 3 encL m), (16, int m.length), (17, int i)], []⟩) (fun i => i ≤ m.length ∧ (m.take i).any (limBad l.length) = false) (fun i => m.length - i) 0 mixed (by kernel_rfl) ?_ ?_ ?_
      · simp (config := {maxSteps := 10000000}) only [go_sem, ↓reduceIte, reduceCtorEq, Nat.reduceAdd, Nat.reduceSub, Nat.reduceMul, Nat.reduceEqDiff, Nat.reduceBEq, Nat.reduceLeDiff, Nat.reduceLT, Nat.reducePow, Nat.reduceMod]
        simp
      · simp
      intro i ⟨hi, hv⟩
      simp (config := {maxSteps := 10000000}) only [go_sem, ↓reduceIte, reduceCtorEq, Nat.reduceAdd, Nat.reduceSub, Nat.reduceMul, Nat.reduceEqDiff, Nat.reduceBEq, Nat.reduceLeDiff, Nat.reduceLT, Nat.reducePow, Nat.reduceMod]
      refine ite_intro (fun hlt => ?_) (fun hlt => ?_)
      · have hlt : i < m.length := by omega
        refine ⟨by omega, ?_⟩
        have hb := limBad_iff l.length (m.getD i default)
        have bad : limBad l.length (m.getD i default) ≠ false → false = (decide (checkF l = 0) && decide (m.length ≤ 32) && !m.any (limBad l.length)) := fun h => by
          rw [List.any_eq_true.2 ⟨_, getD_mem hlt, by simpa using h⟩]
          simp
        refine ite_intro (fun b1 => ?_) (fun b1 => ?_)
        · exact bad fun h => by have := hb.1 h; omega
        · refine ite_intro (fun b2 => ?_) (fun b2 => ?_)
          · exact bad fun h => by have := hb.1 h; omega
          · refine ite_intro (fun b3 => ?_) (fun b3 => ?_)
            · exact bad fun h => by have := hb.1 h; omega
            · refine ite_intro (fun b4 => ?_) (fun b4 => ?_)
              · exact bad fun h => by have := hb.1 h; omega
              · refine ite_intro (fun b5 => ?_) (fun b5 => ?_)
                · exact bad fun h => by have := hb.1 h; omega
                · refine ⟨i + 1, ⟨by omega, ?_⟩, by omega, by rw [w64 (by omega) (by omega)]; omega⟩
                  rw [take_getD (d := default) hlt, List.any_append, hv]
                  simp only [List.any_cons, List.any_nil, Bool.or_false, Bool.false_or]
                  exact hb.2 (by omega)
      · rw [take_all (by omega)] at hv
        simp [h1, h2, hv]
theorem rwithinR_ok (r : Rate) (lo hi : Int) : Ok Tryd.prog G 46 [.agg (encR r), int lo, int hi] [] fun v h => v = bool (withinR r lo hi) ∧ h = [] := by
  refine Ok.intro' [] [] [] 37 [.tmp 6] mixed Tryd.func46 (by kernel_rfl) rfl rfl rfl (by kernel_rfl) (by simp) (fun _ _ h => by cases h) (fun _ h => by cases h) ?_
  simp (config := {maxSteps := 10000000}) only [go_sem, ↓reduceIte, reduceCtorEq, Nat.reduceAdd, Nat.reduceSub, Nat.reduceMul, Nat.reduceEqDiff, Nat.reduceBEq, Nat.reduceLeDiff, Nat.reduceLT, Nat.reducePow, Nat.reduceMod]
  (refine CallW'.of [] [] (rvalidR_ok r) (by simp (config := {maxSteps := 10000000}) only [go_sem, ↓reduceIte, reduceCtorEq, Nat.reduceAdd, Nat.reduceSub, Nat.reduceMul, Nat.reduceEqDiff, Nat.reduceBEq, Nat.reduceLeDiff, Nat.reduceLT, Nat.reducePow, Nat.reduceMod]) ?_; rintro _ _ ⟨rfl, rfl⟩; simp (config := {maxSteps := 10000000}) only [go_sem, ↓reduceIte, reduceCtorEq, Nat.reduceAdd, Nat.reduceSub, Nat.reduceMul, Nat.reduceEqDiff, Nat.reduceBEq, Nat.reduceLeDiff, Nat.reduceLT, Nat.reducePow, Nat.reduceMod])
  unfold withinR
  refine ite_intro (fun h1 => ?_) (fun h1 => ?_)
  · simp [h1]
  · simp only [Bool.not_eq_false] at h1
    have ⟨b1, b2, b3, b4, b5⟩ := validR_bd h1
    have d1 := div_bd b1 b3
    rw [h1, Int.tdiv_eq_ediv_of_nonneg b1, w64 (by omega) (by omega)]
    refine ⟨by omega, ?_⟩
    refine ite_intro (fun c1 => ?_) (fun c1 => ?_)
    · refine ite_intro (fun c2 => ?_) (fun c2 => ?_)
      · simp [c1, c2]
      · refine ite_intro (fun c3 => ?_) (fun c3 => ?_)
        · rw [decide_eq_true c1, decide_eq_true c3, Int.tmod_eq_emod_of_nonneg b1]
          refine ⟨by omega, ?_⟩
          simp [c2]
          rfl
        · simp [c1, c2, c3]
    · simp [c1]
theorem own_ok (l : List Clock) (r : List Rate) (hl : l.length < 2 ^ 30) (hr : r.length = l.length) : Ok Tryd.prog G 47 [sl false 5 encC l, sl false 2 encR r, sl false 1 encB (r.map offB)] [] fun v h => v = bool (decide (OwnP l r)) ∧ h = [] := by
  refine Ok.intro' [] [] [] 38 [.tmp 6] mixed Tryd.func47 (by kernel_rfl) rfl rfl rfl (by kernel_rfl) (by simp) (fun _ _ h => by cases h) (fun _ h => by cases h) ?_
  simp (config := {maxSteps := 10000000}) only [go_sem, ↓reduceIte, reduceCtorEq, Nat.reduceAdd, Nat.reduceSub, Nat.reduceMul, Nat.reduceEqDiff, Nat.reduceBEq, Nat.reduceLeDiff, Nat.reduceLT, Nat.reducePow, Nat.reduceMod]
  refine TC'.loop [] (fun (i : Nat) => ⟨[(1, sl false 2 encR r), (2, sl false 1 encB (r.map offB)), (9, sl false 5 encC l), (10, int l.length), (11, int i)], []⟩) (fun i => i ≤ l.length ∧ ∀ j, j < i → ownBad (l.getD j default) (r.getD j default) = false) (fun i => l.length - i) 0 mixed (by kernel_rfl) ?_ ?_ ?_
  · simp (config := {maxSteps := 10000000}) only [go_sem, ↓reduceIte, reduceCtorEq, Nat.reduceAdd, Nat.reduceSub, Nat.reduceMul, Nat.reduceEqDiff, Nat.reduceBEq, Nat.reduceLeDiff, Nat.reduceLT, Nat.reducePow, Nat.reduceMod]
    simp
  · simp
  intro i ⟨hi, hv⟩
  simp (config := {maxSteps := 10000000}) only [go_sem, ↓reduceIte, reduceCtorEq, Nat.reduceAdd, Nat.reduceSub, Nat.reduceMul, Nat.reduceEqDiff, Nat.reduceBEq, Nat.reduceLeDiff, Nat.reduceLT, Nat.reducePow, Nat.reduceMod]
  refine ite_intro (fun hlt => ?_) (fun hlt => ?_)
  · have hlt : i < l.length := by omega
    refine ⟨by omega, ?_⟩
    refine TC'.draw [8] (.q 0 (.q 1 (.q 2 (.q 3 (.q 4 (.q 5 (.q 6 (.q 7 (.q 8 (.q 9 (.q 10 (.q 11 (.q 12 (.q 13 (.q 14 (.q 15 (.q 16 (.q 17 (.e [(18, (.q 19 (.q 20 .done)))]))))))))))))))))))) mixed (by kernel_rfl) (by kernel_rfl) ?_
    have hon : (r.map offB).getD i default = offB (r.getD i default) := by
      rw [List.getD_eq_getElem?_getD, List.getD_eq_getElem?_getD, List.getElem?_map, List.getElem?_eq_getElem (by omega)]; rfl
    simp (config := {maxSteps := 10000000}) only [go_sem, ↓reduceIte, reduceCtorEq, Nat.reduceAdd, Nat.reduceSub, Nat.reduceMul, Nat.reduceEqDiff, Nat.reduceBEq, Nat.reduceLeDiff, Nat.reduceLT, Nat.reducePow, Nat.reduceMod]
    rw [hon]
    have good : ownBad (l.getD i default) (r.getD i default) = false → ∃ y, (y ≤ l.length ∧ ∀ j, j < y → ownBad (l.getD j default) (r.getD j default) = false) ∧ l.length - y < l.length - i ∧ IntKind.i64.wrap (↑i + 1) = ↑y := fun h =>
      ⟨i + 1, ⟨by omega, fun j hj => by
        by_cases e : j = i
        · rw [e]; exact h
        · exact hv j (by omega)⟩, by omega, by rw [w64 (by omega) (by omega)]; omega⟩
    refine ⟨by simp; omega, ?_⟩
    refine ite_intro (fun h1 => ?_) (fun h1 => ?_)
    · refine ite_intro (fun h2 => ?_) (fun h2 => ?_)
      · refine ⟨by omega, ?_⟩
        refine CallW'.of [] [] (rwithinR_ok (r.getD i default) (l.getD i default).low (l.getD i default).high) (by simp (config := {maxSteps := 10000000}) only [go_sem, ↓reduceIte, reduceCtorEq, Nat.reduceAdd, Nat.reduceSub, Nat.reduceMul, Nat.reduceEqDiff, Nat.reduceBEq, Nat.reduceLeDiff, Nat.reduceLT, Nat.reducePow, Nat.reduceMod]) ?_
        rintro _ _ ⟨rfl, rfl⟩
        simp (config := {maxSteps := 10000000}) only [go_sem, ↓reduceIte, reduceCtorEq, Nat.reduceAdd, Nat.reduceSub, Nat.reduceMul, Nat.reduceEqDiff, Nat.reduceBEq, Nat.reduceLeDiff, Nat.reduceLT, Nat.reducePow, Nat.reduceMod]
        refine ite_intro (fun h3 => ?_) (fun h3 => ?_)
        · have : ¬ OwnP l r := fun h => by
            have := h i hlt
            unfold ownBad at this
            unfold offB at h1
            rw [h3, h1, decide_eq_true h2] at this
            cases this
          simp [this]
        · rw [Bool.not_eq_false] at h3
          exact good (by unfold ownBad; rw [h3]; simp)
      · exact good (by unfold ownBad; rw [decide_eq_false h2]; simp)
    · rw [Bool.not_eq_true] at h1
      exact good (by unfold ownBad; unfold offB at h1; rw [h1]; simp)
  · have : OwnP l r := fun j hj => hv j (by omega)
    simp [this]
theorem rMeets_ok (l : List Clock) (s : List Int) (m : List Limit) (hl : l.length < 2 ^ 30) (hm : m.length < 2 ^ 30) :
    Ok Tryd.prog G 23 [sl false 5 encC l, ints false s, sl false 3 encL m] [] fun v h => v = bool (meetsF l s m) ∧ h = [] := by
  refine Ok.intro' [] [] [] 57 [.tmp 6] mixed Tryd.func23 (by kernel_rfl) rfl rfl rfl (by kernel_rfl) (by simp) (fun _ _ h => by cases h) (fun _ h => by cases h) ?_
  simp (config := {maxSteps := 10000000}) only [go_sem, ↓reduceIte, reduceCtorEq, Nat.reduceAdd, Nat.reduceSub, Nat.reduceMul, Nat.reduceEqDiff, Nat.reduceBEq, Nat.reduceLeDiff, Nat.reduceLT, Nat.reducePow, Nat.reduceMod]
  (refine CallW'.of [] [] (rSetting_ok l s (by omega)) (by simp (config := {maxSteps := 10000000}) only [go_sem, ↓reduceIte, reduceCtorEq, Nat.reduceAdd, Nat.reduceSub, Nat.reduceMul, Nat.reduceEqDiff, Nat.reduceBEq, Nat.reduceLeDiff, Nat.reduceLT, Nat.reducePow, Nat.reduceMod]) ?_; rintro _ _ ⟨rfl, rfl⟩; simp (config := {maxSteps := 10000000}) only [go_sem, ↓reduceIte, reduceCtorEq, Nat.reduceAdd, Nat.reduceSub, Nat.reduceMul, Nat.reduceEqDiff, Nat.reduceBEq, Nat.reduceLeDiff, Nat.reduceLT, Nat.reducePow, Nat.reduceMod])
  unfold meetsF
  refine ite_intro (fun h1 => ?_) (fun h1 => ?_)
  · by_cases hz : checkF l = 0
    · have : ¬ SetP l s := fun h => h1 ⟨hz, h⟩
      simp [this]
    · simp [limitsF, hz]
  simp only [Decidable.not_not] at h1
  (refine CallW'.of [] [] (rlimits_ok l m (by omega) (by omega)) (by simp (config := {maxSteps := 10000000}) only [go_sem, ↓reduceIte, reduceCtorEq, Nat.reduceAdd, Nat.reduceSub, Nat.reduceMul, Nat.reduceEqDiff, Nat.reduceBEq, Nat.reduceLeDiff, Nat.reduceLT, Nat.reducePow, Nat.reduceMod]) ?_; rintro _ _ ⟨rfl, rfl⟩; simp (config := {maxSteps := 10000000}) only [go_sem, ↓reduceIte, reduceCtorEq, Nat.reduceAdd, Nat.reduceSub, Nat.reduceMul, Nat.reduceEqDiff, Nat.reduceBEq, Nat.reduceLeDiff, Nat.reduceLT, Nat.reducePow, Nat.reduceMod])
  refine ite_intro (fun h2 => ?_) (fun h2 => ?_)
  · simp [h2]
  rw [Bool.not_eq_false] at h2
  have h2' := h2
  simp only [limitsF, Bool.and_eq_true, decide_eq_true_eq, Bool.not_eq_true', List.any_eq_false] at h2
  have hlen := ratesUp_len l s l.length
  (refine CallW'.of [] [] (states_ok l s hl (checkF_zero h1.1).2.1 h1.2) (by simp (config := {maxSteps := 10000000}) only [go_sem, ↓reduceIte, reduceCtorEq, Nat.reduceAdd, Nat.reduceSub, Nat.reduceMul, Nat.reduceEqDiff, Nat.reduceBEq, Nat.reduceLeDiff, Nat.reduceLT, Nat.reducePow, Nat.reduceMod]) ?_; rintro _ _ ⟨rfl, rfl⟩; simp (config := {maxSteps := 10000000}) only [go_sem, ↓reduceIte, reduceCtorEq, Nat.reduceAdd, Nat.reduceSub, Nat.reduceMul, Nat.reduceEqDiff, Nat.reduceBEq, Nat.reduceLeDiff, Nat.reduceLT, Nat.reducePow, Nat.reduceMod])
  refine TC'.loop [] (fun (i : Nat) => ⟨[(0, sl false 5 encC l), (7, sl true 2 encR (ratesUp l s l.length)), (8, sl true 1 encB (onUp l s l.length)), (27, sl false 3 encL m), (28, int m.length), (29, int i)], []⟩) (fun i => i ≤ m.length ∧ (m.take i).any (meetBad (ratesUp l s l.length)) = false) (fun i => m.length - i) 0 mixed (by kernel_rfl) ?_ ?_ ?_
  · simp (config := {maxSteps := 10000000}) only [go_sem, ↓reduceIte, reduceCtorEq, Nat.reduceAdd, Nat.reduceSub, Nat.reduceMul, Nat.reduceEqDiff, Nat.reduceBEq, Nat.reduceLeDiff, Nat.reduceLT, Nat.reducePow, Nat.reduceMod]
    simp
  · simp
  intro i ⟨hi, hv⟩
  simp (config := {maxSteps := 10000000}) only [go_sem, ↓reduceIte, reduceCtorEq, Nat.reduceAdd, Nat.reduceSub, Nat.reduceMul, Nat.reduceEqDiff, Nat.reduceBEq, Nat.reduceLeDiff, Nat.reduceLT, Nat.reducePow, Nat.reduceMod]
  refine ite_intro (fun hlt => ?_) (fun hlt => ?_)
  · have hlt : i < m.length := by omega
    have hlb := (limBad_iff l.length (m.getD i default)).1 (by have := h2.2 _ (getD_mem (d := default) hlt); simpa using this)
    have hon := onUp_get (l := l) (s := s) (n := l.length) (i := (m.getD i default).clock.toNat) (by omega)
    have hol : (onUp l s l.length).length = l.length := by simp [onUp, hlen]
    have bad : meetBad (ratesUp l s l.length) (m.getD i default) = true → false = (limitsF l m && decide (SetP l s) && decide (OwnP l (ratesUp l s l.length)) && !m.any (meetBad (ratesUp l s l.length))) := fun h => by
      rw [List.any_eq_true.2 ⟨_, getD_mem hlt, h⟩]; simp
    refine ⟨by omega, ?_⟩
    refine TC'.draw [10] (.q 0 (.q 1 (.q 2 (.q 3 (.q 4 (.q 5 (.q 6 (.q 7 (.q 8 (.q 9 (.q 10 (.q 11 (.q 12 (.q 13 (.q 14 (.q 15 (.e [(16, (.q 17 (.q 18 .done)))]))))))))))))))))) mixed (by kernel_rfl) (by kernel_rfl) ?_
    simp (config := {maxSteps := 10000000}) only [go_sem, ↓reduceIte, reduceCtorEq, Nat.reduceAdd, Nat.reduceSub, Nat.reduceMul, Nat.reduceEqDiff, Nat.reduceBEq, Nat.reduceLeDiff, Nat.reduceLT, Nat.reducePow, Nat.reduceMod]
    rw [hon]
    refine ⟨by omega, ?_⟩
    refine ite_intro (fun c1 => ?_) (fun c1 => ?_)
    · exact bad (by unfold meetBad; unfold offB at c1; simp at c1; simp [c1])
    · refine ⟨by omega, ?_⟩
      refine CallW'.of [] [] (rwithinR_ok ((ratesUp l s l.length).getD (m.getD i default).clock.toNat default) (m.getD i default).low (m.getD i default).high) (by simp (config := {maxSteps := 10000000}) only [go_sem, ↓reduceIte, reduceCtorEq, Nat.reduceAdd, Nat.reduceSub, Nat.reduceMul, Nat.reduceEqDiff, Nat.reduceBEq, Nat.reduceLeDiff, Nat.reduceLT, Nat.reducePow, Nat.reduceMod]) ?_
      rintro _ _ ⟨rfl, rfl⟩
      simp (config := {maxSteps := 10000000}) only [go_sem, ↓reduceIte, reduceCtorEq, Nat.reduceAdd, Nat.reduceSub, Nat.reduceMul, Nat.reduceEqDiff, Nat.reduceBEq, Nat.reduceLeDiff, Nat.reduceLT, Nat.reducePow, Nat.reduceMod]
      refine ite_intro (fun c2 => ?_) (fun c2 => ?_)
      · exact bad (by unfold meetBad; rw [c2]; simp)
      · refine ⟨i + 1, ⟨by omega, ?_⟩, by omega, by rw [w64 (by omega) (by omega)]; omega⟩
        rw [take_getD (d := default) hlt, List.any_append, hv]
        unfold offB at c1
        rw [Bool.not_eq_false] at c2
        simp only [ne_eq, decide_eq_false_iff_not, Decidable.not_not] at c1
        simp only [List.any_cons, List.any_nil, Bool.or_false, Bool.false_or, meetBad, c2, decide_eq_false c1]
        rfl
  · rw [take_all (by omega)] at hv
    (refine CallW'.of [] [] (own_ok l (ratesUp l s l.length) hl hlen) (by simp (config := {maxSteps := 10000000}) only [go_sem, ↓reduceIte, reduceCtorEq, Nat.reduceAdd, Nat.reduceSub, Nat.reduceMul, Nat.reduceEqDiff, Nat.reduceBEq, Nat.reduceLeDiff, Nat.reduceLT, Nat.reducePow, Nat.reduceMod]; exact ⟨by simp [onUp], fun _ _ => by rfl⟩) ?_; rintro _ _ ⟨rfl, rfl⟩; simp (config := {maxSteps := 10000000}) only [go_sem, ↓reduceIte, reduceCtorEq, Nat.reduceAdd, Nat.reduceSub, Nat.reduceMul, Nat.reduceEqDiff, Nat.reduceBEq, Nat.reduceLeDiff, Nat.reduceLT, Nat.reducePow, Nat.reduceMod])
    simp [h2', hv, h1.2]
theorem rWay_ok (l : List Clock) (s : List Int) (k : Int) (hl : l.length < 2 ^ 30) : Ok Tryd.prog G 26 [sl false 5 encC l, ints false s, int k] [] fun v h => v = ints true (wayF l s k) ∧ h = [] := by
  refine Ok.weak (Q := fun r h => leP r (ints true (wayF l s k)) ∧ h = []) ?_ (fun r h ⟨h1, h2⟩ => ⟨_, h1, rfl, h2⟩)
  refine Ok.intro' [] [] [] 40 [.tmp 6] mixed Tryd.func26 (by kernel_rfl) rfl rfl rfl (by kernel_rfl) (by simp) (fun _ _ h => by cases h) (fun _ h => by cases h) ?_
  simp (config := {maxSteps := 10000000}) only [go_sem, ↓reduceIte, reduceCtorEq, Nat.reduceAdd, Nat.reduceSub, Nat.reduceMul, Nat.reduceEqDiff, Nat.reduceBEq, Nat.reduceLeDiff, Nat.reduceLT, Nat.reducePow, Nat.reduceMod]
  (refine CallW'.of [] [] (rSetting_ok l s (by omega)) (by simp (config := {maxSteps := 10000000}) only [go_sem, ↓reduceIte, reduceCtorEq, Nat.reduceAdd, Nat.reduceSub, Nat.reduceMul, Nat.reduceEqDiff, Nat.reduceBEq, Nat.reduceLeDiff, Nat.reduceLT, Nat.reducePow, Nat.reduceMod]) ?_; rintro _ _ ⟨rfl, rfl⟩; simp (config := {maxSteps := 10000000}) only [go_sem, ↓reduceIte, reduceCtorEq, Nat.reduceAdd, Nat.reduceSub, Nat.reduceMul, Nat.reduceEqDiff, Nat.reduceBEq, Nat.reduceLeDiff, Nat.reduceLT, Nat.reducePow, Nat.reduceMod])
  unfold wayF
  refine ite_intro (fun h1 => ?_) (fun h1 => ?_)
  · rw [if_neg (fun h => h1 ⟨h.1, h.2.1⟩)]
    simp (config := {maxSteps := 10000000}) only [go_sem, ↓reduceIte, reduceCtorEq, Nat.reduceAdd, Nat.reduceSub, Nat.reduceMul, Nat.reduceEqDiff, Nat.reduceBEq, Nat.reduceLeDiff, Nat.reduceLT, Nat.reducePow, Nat.reduceMod]
  simp only [Decidable.not_not] at h1
  have hz := checkF_zero h1.1
  refine ite_intro (fun h2 => ?_) (fun h2 => ?_)
  · rw [if_neg (fun h => by omega)]
    rfl
  refine ite_intro (fun h3 => ?_) (fun h3 => ?_)
  · rw [if_neg (fun h => by omega)]
    rfl
  rw [if_pos ⟨h1.1, h1.2, by omega, by omega⟩]
  refine TC'.ent (Ent.virt 7 38 1 (by simp (config := {maxSteps := 10000000}) only [go_sem, ↓reduceIte, reduceCtorEq, Nat.reduceAdd, Nat.reduceSub, Nat.reduceMul, Nat.reduceEqDiff, Nat.reduceBEq, Nat.reduceLeDiff, Nat.reduceLT, Nat.reducePow, Nat.reduceMod]) (by simp (config := {maxSteps := 10000000}) only [go_sem, ↓reduceIte, reduceCtorEq, Nat.reduceAdd, Nat.reduceSub, Nat.reduceMul, Nat.reduceEqDiff, Nat.reduceBEq, Nat.reduceLeDiff, Nat.reduceLT, Nat.reducePow, Nat.reduceMod])) ?_
  refine TC'.loop [] (fun (x : Int × List Int) => ⟨[(0, sl false 5 encC l), (1, ints false s), (7, .own 38 1 0 x.2.length false), (8, int x.1)], [(38, .arr 1 x.2.length (fun i => [int (x.2.getD i default)]) false)]⟩)
    (fun x => x.1 < l.length ∧ -1 ≤ x.1 ∧ (x.2.length : Int) + x.1 < l.length ∧ wayUp l s (l.length + 1) k = x.2 ++ wayUp l s (x.1 + 2).toNat x.1) (fun x => (x.1 + 1).toNat) (k, []) mixed (by kernel_rfl) ?_ ?_ ?_
  · simp (config := {maxSteps := 10000000}) only [go_sem, ↓reduceIte, reduceCtorEq, Nat.reduceAdd, Nat.reduceSub, Nat.reduceMul, Nat.reduceEqDiff, Nat.reduceBEq, Nat.reduceLeDiff, Nat.reduceLT, Nat.reducePow, Nat.reduceMod]
    simp
  · exact ⟨by simp only; omega, by simp only; omega, by simp; omega, by simp only [List.nil_append]; exact wayUp_fuel hz.2.1 h1.2 _ _ k (by omega) (by omega) (by omega) (by omega)⟩
  intro ⟨x, out⟩ ⟨hx1, hx2, hx3, hx4⟩
  simp only at hx1 hx2 hx3 hx4
  simp (config := {maxSteps := 10000000}) only [go_sem, ↓reduceIte, reduceCtorEq, Nat.reduceAdd, Nat.reduceSub, Nat.reduceMul, Nat.reduceEqDiff, Nat.reduceBEq, Nat.reduceLeDiff, Nat.reduceLT, Nat.reducePow, Nat.reduceMod]
  refine ite_intro (fun hge => ?_) (fun hge => ?_)
  · refine ⟨by omega, ?_⟩
    have hp := parent_next hz.2.1 h1.2 hge hx1
    have hsx := h1.2.2 x.toNat (by omega)
    have hsl := h1.2.1
    refine TC'.draw [] (.q 0 (.q 1 (.q 2 (.q 3 (.q 4 (.q 5 (.q 6 (.q 7 (.e [(8, (.q 9 .done))]))))))))) mixed (by kernel_rfl) (by kernel_rfl) ?_
    simp (config := {maxSteps := 10000000}) only [go_sem, ↓reduceIte, reduceCtorEq, Nat.reduceAdd, Nat.reduceSub, Nat.reduceMul, Nat.reduceEqDiff, Nat.reduceBEq, Nat.reduceLeDiff, Nat.reduceLT, Nat.reducePow, Nat.reduceMod]
    refine ⟨by omega, by omega, ?_⟩
    refine CallW'.of [] [] (rparent_ok (l.getD x.toNat default) (s.getD x.toNat default) x.toNat (hz.2.1 x.toNat (by omega)) hsx) (by simp (config := {maxSteps := 10000000}) only [go_sem, ↓reduceIte, reduceCtorEq, Nat.reduceAdd, Nat.reduceSub, Nat.reduceMul, Nat.reduceEqDiff, Nat.reduceBEq, Nat.reduceLeDiff, Nat.reduceLT, Nat.reducePow, Nat.reduceMod]) ?_
    rintro _ _ ⟨rfl, rfl⟩
    simp (config := {maxSteps := 10000000}) only [go_sem, ↓reduceIte, reduceCtorEq, Nat.reduceAdd, Nat.reduceSub, Nat.reduceMul, Nat.reduceEqDiff, Nat.reduceBEq, Nat.reduceLeDiff, Nat.reduceLT, Nat.reducePow, Nat.reduceMod]
    refine ⟨(parentF (l.getD x.toNat default) (s.getD x.toNat default), out ++ [x]), ⟨by simp only; omega, hp.1, by simp only [List.length_append, List.length_singleton]; omega, ?_⟩, by simp only; omega, ⟨by simp, rfl⟩, by simp, fun i hi => appF_snoc encI out x _ rfl i hi⟩
    rw [hx4]
    simp only [List.append_assoc, List.singleton_append]
    congr 1
    obtain ⟨f, hf⟩ : ∃ f, (x + 2).toNat = f + 1 := ⟨(x + 1).toNat, by omega⟩
    rw [hf, wayUp, if_neg (by omega), wayUp_fuel hz.2.1 h1.2 f (parentF (l.getD x.toNat default) (s.getD x.toNat default) + 2).toNat _ (by omega) (by omega) (by omega) hp.1]
  · have : wayUp l s (l.length + 1) k = out := by
      rw [hx4]
      obtain ⟨f, hf⟩ : ∃ f, (x + 2).toNat = f + 1 := ⟨(x + 1).toNat, by omega⟩
      rw [hf, wayUp, if_pos (by omega), List.append_nil]
    rw [this]
    exact ⟨rfl, fun _ _ => rfl⟩
end Go.Am.Cl
