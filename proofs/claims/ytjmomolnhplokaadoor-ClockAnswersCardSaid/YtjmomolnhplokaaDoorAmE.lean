/-
  THE ABSTRACT MACHINE, part E: slicing, building, and 'evQ' as a whole.
-/
import Derived.Test.YtjmomolnhplokaaDoorAmD
namespace Go.Am
set_option linter.unusedVariables false
set_option linter.unusedSimpArgs false
section
variable {P : Program} {G : Gl} {η : Eta} {Z : ZP} {w : World}

def OptV (v : Option Value) (r : Option Int) : Prop := (v = none ∧ r = none) ∨ ∃ k i, v = some (.int k i) ∧ r = some i
theorem optI_rep {st : St} {a : Act} (ht : TRep η Z w st.t a) (hg : GRep G Z w) {x : Option Operand} {r : Option Int} (h : optI G st x = some r) : OptV (x.map a.eval) r := by
  cases x with
  | none => simp only [optI, Option.some.injEq] at h; exact .inl ⟨rfl, h.symm⟩
  | some x =>
    simp only [optI, Option.map_eq_some_iff] at h
    obtain ⟨i, hi, rfl⟩ := h
    obtain ⟨k, hk⟩ := Rep.asI_inv hi (ev_rep ht hg x)
    exact .inr ⟨k, i, by simp [hk], rfl⟩

theorem run_bounds {s : Bool} {len cap : Nat} {low high mx : Option Value} {lo hi : Option Int} (h1 : OptV low lo) (h2 : OptV high hi) (h3 : OptV mx none)
    (hc : 0 ≤ lo.getD 0 ∧ lo.getD 0 ≤ hi.getD len ∧ hi.getD len ≤ cap) (w' : World) :
    (Instr.sliceBounds s len cap low high mx).run P w' = .ok ((lo.getD 0).toNat, (hi.getD len).toNat, cap) w' := by
  rcases h3 with ⟨rfl, _⟩ | ⟨_, _, _, h⟩
  case inr => cases h
  obtain ⟨c1, c2, c3⟩ := hc
  rcases h1 with ⟨rfl, rfl⟩ | ⟨k1, i1, rfl, rfl⟩ <;> rcases h2 with ⟨rfl, rfl⟩ | ⟨k2, i2, rfl, rfl⟩ <;> simp only [Option.getD_none, Option.getD_some] at c1 c2 c3
  · simp [Instr.sliceBounds]
  · have : 0 ≤ i2 ∧ i2 ≤ (cap : Int) := ⟨by omega, c3⟩
    simp [Instr.sliceBounds, Instr.sliceBound, asIntOf, this]
  · have : 0 ≤ i1 ∧ i1 ≤ (len : Int) := ⟨c1, c2⟩
    simp [Instr.sliceBounds, Instr.sliceBound, asIntOf, this]
  · have q1 : 0 ≤ i2 ∧ i2 ≤ (cap : Int) := ⟨by omega, c3⟩
    have q2 : 0 ≤ i1 ∧ i1 ≤ ((i2.toNat : Nat) : Int) := ⟨c1, by omega⟩
    have q3 : 0 ≤ i2 := q1.1
    have q4 : i1 ≤ max i2 0 := by omega
    simp [Instr.sliceBounds, Instr.sliceBound, asIntOf, q1, q2, q3, c1, q4]
theorem run_bounds3 {s : Bool} {len cap : Nat} {low high mx : Option Value} {lo : Option Int} {h m : Int} (h1 : OptV low lo) (h2 : OptV high (some h)) (h3 : OptV mx (some m))
    (hc : 0 ≤ lo.getD 0 ∧ lo.getD 0 ≤ h ∧ h ≤ m ∧ m ≤ cap) (w' : World) :
    (Instr.sliceBounds s len cap low high mx).run P w' = .ok ((lo.getD 0).toNat, h.toNat, m.toNat) w' := by
  rcases h3 with ⟨_, h⟩ | ⟨k3, i3, rfl, h⟩
  case inl => cases h
  cases h
  rcases h2 with ⟨_, h⟩ | ⟨k2, i2, rfl, h⟩
  case inl => cases h
  cases h
  obtain ⟨c1, c2, c3, c4⟩ := hc
  have q1 : 0 ≤ m ∧ m ≤ (cap : Int) := ⟨by omega, c4⟩
  have q2 : 0 ≤ h ∧ h ≤ ((m.toNat : Nat) : Int) := ⟨by omega, by omega⟩
  have q5 : h ≤ max m 0 := by omega
  rcases h1 with ⟨rfl, rfl⟩ | ⟨k1, i1, rfl, rfl⟩ <;> simp only [Option.getD_none, Option.getD_some] at c1 c2
  · simp [Instr.sliceBounds, Instr.sliceBound, asIntOf, q1, q2, q2.1, q5]
  · have q3 : 0 ≤ i1 ∧ i1 ≤ ((h.toNat : Nat) : Int) := ⟨c1, by omega⟩
    have q6 : i1 ≤ max h 0 := by omega
    simp [Instr.sliceBounds, Instr.sliceBound, asIntOf, q1, q2, q3, q2.1, c1, q5, q6]

/-- rows from the l-th on: the address moves, or nothing is there -/
theorem fz_shift {k n c l h m : Nat} {f : Nat → List AV} {z full : Bool} {A : Option Addr} (hu : RepZ Z w (.fz z full k n f) (.slice A n c)) (hlh : l ≤ h) (hhn : h ≤ n) (hhm : h ≤ m) (es : Nat) (hes : k = es ∨ n = 0) (fl : Bool)
    (hfl : fl = true → m - l = h - l) :
    RepZ Z w (.fz z fl k (h - l) fun r => f (l + r)) (.slice (if m = l then A else A.map (·.add (l * es))) (h - l) (m - l)) := by
  cases hu with | fz us hc hf hn hq hr =>
  refine .fz (fun i j => us (l + i) j) (by omega) hfl (fun h0 => ?_) (fun i hi j c hj => hq (l + i) (by omega) j c hj) (fun i hi j c hj => hr (l + i) (by omega) j c hj)
  obtain ⟨b, o, hA, hZ, hZ2, hcell⟩ := hn (by omega)
  have hk : k = es := by omega
  subst hk
  refine ⟨b, o + l * k, ?_, hZ, hZ2, fun i hi => ⟨(hcell (l + i) (by omega)).1, fun j hj => ?_⟩⟩
  · rw [if_neg (by omega), hA]; simp [add_eq]
  · have := (hcell (l + i) (by omega)).2 j hj
    rw [Nat.add_mul, ← Nat.add_assoc] at this
    exact this
theorem own_shift {id k i n c l h m : Nat} {full : Bool} {A : Option Addr} (hu : Rep η Z w (.own id k i n full) (.slice A n c)) (hlh : l ≤ h) (hhn : h ≤ n) (hhm : h ≤ m) (hmc : m ≤ c) (fl : Bool)
    (hfl : fl = true → m - l = h - l) : Rep η Z w (.own id k (i + l) (h - l) fl) (.slice (if m = l then A else A.map (·.add (l * k))) (h - l) (m - l)) := by
  cases hu with
  | z hz => cases hz
  | @own _ _ _ _ _ b o cs e _ _ hη hb hA hfit hc hf =>
    refine .own hη hb (fun h0 => ?_) ?_ (by omega) hfl
    · rw [if_neg (by omega), hA (by omega)]; simp [add_eq, Nat.add_mul, Nat.add_assoc]
    · have : (i + l + (m - l)) * k ≤ (i + c) * k := Nat.mul_le_mul_right k (by omega)
      omega
  | ownNil hη =>
    obtain rfl : l = 0 := by omega
    obtain rfl : h = 0 := by omega
    obtain rfl : m = 0 := by omega
    exact .ownNil hη

theorem sliceV_run {t e : TypeId} {ty : Ty} {x v : AV} {c : Prop} {ux : Value} {low high mxv : Option Value} {lo hi mx : Option Int} (hk : tkOf P t = .slice e) (hty : tyOf P e = some ty)
    (h : sliceV ty.size x lo hi mx = some (c, v)) (hc : c) (hx : Rep η Z w x ux) (h1 : OptV low lo) (h2 : OptV high hi) (h3 : OptV mxv mx) (hns : ∀ s, x ≠ .sc (.string s)) :
    ∃ u, Rep η Z w v u ∧ ∀ w', (Instr.sliceAt t ux low high mxv).run P w' = .ok u w' := by
  unfold sliceV at h
  split at h
  · rename_i z full k n f
    split at h
    · rename_i hks
      cases hx with | z hz =>
      have hz' := hz
      cases hz with | @fz _ _ _ _ _ A cap us hcc hf hn hq hr =>
      split at h
      · rename_i h' m'
        simp only [Option.some.injEq, Prod.mk.injEq] at h
        obtain ⟨rfl, rfl⟩ := h
        obtain ⟨⟨c1, c2, c3⟩, c4, c5⟩ := hc
        simp only [Option.getD_some] at c1 c2 c3 c4 c5
        refine ⟨_, .z (fz_shift (l := (lo.getD 0).toNat) (h := h'.toNat) (m := m'.toNat) hz' (by omega) (by omega) (by omega) ty.size hks _ (fun hd => by
          have : m' = h' := by simpa using hd
          rw [this])), fun w' => ?_⟩
        have hb := run_bounds3 (P := P) (s := true) (len := n) (cap := cap) h1 h2 h3 ⟨c1, c2, c4, by omega⟩
        simp only [Instr.sliceAt, Sem.run_bind, run_underlying (und_slice hk), Result.andThen_ok, Instr.slice, hb, run_sizeOf' hty, Sem.run_pure]
      · simp only [Option.some.injEq, Prod.mk.injEq] at h
        obtain ⟨rfl, rfl⟩ := h
        obtain ⟨c1, c2, c3⟩ := hc
        refine ⟨_, .z (fz_shift (l := (lo.getD 0).toNat) (h := (hi.getD n).toNat) (m := cap) hz' (by omega) (by omega) (by omega) ty.size hks _ (fun hd => by
          simp only [Bool.and_eq_true, decide_eq_true_eq] at hd
          have := hf hd.1
          omega)), fun w' => ?_⟩
        have hb := run_bounds (P := P) (s := true) (len := n) (cap := cap) h1 h2 h3 ⟨c1, c2, by omega⟩
        simp only [Instr.sliceAt, Sem.run_bind, run_underlying (und_slice hk), Result.andThen_ok, Instr.slice, hb, run_sizeOf' hty, Sem.run_pure]
      · cases h
    · cases h
  · rename_i id k i0 n full
    split at h
    · rename_i hks
      have hA : ∃ A cap, ux = .slice A n cap ∧ n ≤ cap ∧ (full = true → cap = n) := by
        cases hx with
        | z hz => cases hz
        | own hη hb hA hfit hc hf => exact ⟨_, _, rfl, hc, hf⟩
        | ownNil => exact ⟨_, _, rfl, Nat.le_refl _, fun _ => rfl⟩
      obtain ⟨A, cap, rfl, hcap, hfull⟩ := hA
      split at h
      · rename_i h' m'
        simp only [Option.some.injEq, Prod.mk.injEq] at h
        obtain ⟨rfl, rfl⟩ := h
        obtain ⟨⟨c1, c2, c3⟩, c4, c5⟩ := hc
        simp only [Option.getD_some] at c1 c2 c3 c4 c5
        refine ⟨_, own_shift (l := (lo.getD 0).toNat) (h := h'.toNat) (m := m'.toNat) hx (by omega) (by omega) (by omega) (by omega) _ (fun hd => by
          have : m' = h' := by simpa using hd
          rw [this]), fun w' => ?_⟩
        have hb := run_bounds3 (P := P) (s := true) (len := n) (cap := cap) h1 h2 h3 ⟨c1, c2, c4, by omega⟩
        simp only [Instr.sliceAt, Sem.run_bind, run_underlying (und_slice hk), Result.andThen_ok, Instr.slice, hb, run_sizeOf' hty, Sem.run_pure, hks]
      · simp only [Option.some.injEq, Prod.mk.injEq] at h
        obtain ⟨rfl, rfl⟩ := h
        obtain ⟨c1, c2, c3⟩ := hc
        refine ⟨_, own_shift (l := (lo.getD 0).toNat) (h := (hi.getD n).toNat) (m := cap) hx (by omega) (by omega) (by omega) (Nat.le_refl _) _ (fun hd => by
          simp only [Bool.and_eq_true, decide_eq_true_eq] at hd
          have := hfull hd.1
          omega), fun w' => ?_⟩
        have hb := run_bounds (P := P) (s := true) (len := n) (cap := cap) h1 h2 h3 ⟨c1, c2, by omega⟩
        simp only [Instr.sliceAt, Sem.run_bind, run_underlying (und_slice hk), Result.andThen_ok, Instr.slice, hb, run_sizeOf' hty, Sem.run_pure, hks]
      · cases h
    · cases h
  · rename_i s; exact absurd rfl (hns s)
  · cases h
theorem sliceS_run {t : TypeId} {s : ByteArray} {v : AV} {c : Prop} {low high mxv : Option Value} {lo hi mx : Option Int} (hk : tkOf P t = .str)
    (h : sliceV 0 (.sc (.string s)) lo hi mx = some (c, v)) (hc : c) (h1 : OptV low lo) (h2 : OptV high hi) (h3 : OptV mxv mx) :
    ∃ u, Rep η Z w v u ∧ ∀ w', (Instr.sliceAt t (.string s) low high mxv).run P w' = .ok u w' := by
  simp only [sliceV] at h
  split at h
  · simp only [Option.some.injEq, Prod.mk.injEq] at h
    obtain ⟨rfl, rfl⟩ := h
    refine ⟨_, .z (.sc _), fun w' => ?_⟩
    have hm : mxv = none := by
      rcases h3 with ⟨h, _⟩ | ⟨_, _, _, h⟩
      · exact h
      · cases h
    subst hm
    simp [Instr.sliceAt, run_underlying (und_str hk), Instr.slice, run_bounds (P := P) h1 h2 (.inl ⟨rfl, rfl⟩) hc]
  · cases h

/-! ### parts laid into cells -/
def Cells (η : Eta) (Z : ZP) (w : World) (cs : List AV) (us : Array Value) : Prop :=
  us.size = cs.length ∧ ∀ (i : Nat) (c : AV) (u : Value), cs[i]? = some c → us[i]? = some u → Rep η Z w c u
theorem Cells.set {cs : List AV} {us : Array Value} (h : Cells η Z w cs us) (i : Nat) {c : AV} {u : Value} (hr : Rep η Z w c u) : Cells η Z w (cs.set i c) (us.setIfInBounds i u) := by
  refine ⟨by simpa using h.1, fun j c' u' h1 h2 => ?_⟩
  by_cases hij : i = j
  · subst hij
    rw [List.getElem?_set, if_pos rfl] at h1
    rw [Array.getElem?_setIfInBounds, if_pos rfl] at h2
    split at h1
    · cases h1
      split at h2
      · cases h2; exact hr
      · cases h2
    · cases h1
  · rw [List.getElem?_set_ne hij] at h1
    rw [Array.getElem?_setIfInBounds_ne hij] at h2
    exact h.2 j c' u' h1 h2
theorem Cells.setAt {us : Array Value} : ∀ (vs : List AV) (cs : List AV) (ws : Array Value) (us : Array Value) (off : Nat), Cells η Z w cs us → Cells η Z w vs ws →
    Cells η Z w (Am.setAt cs off vs) (ws.zipIdx.foldl (fun cs (c, j) => cs.setIfInBounds (off + j) c) us) := by
  have key : ∀ (vs : List AV) (l : List Value) (cs : List AV) (us : Array Value) (off k : Nat), Cells η Z w cs us → vs.length = l.length →
      (∀ (i : Nat) (c : AV) (u : Value), vs[i]? = some c → l[i]? = some u → Rep η Z w c u) →
      Cells η Z w (Am.setAt cs (off + k) vs) ((l.zipIdx k).foldl (fun cs (c, j) => cs.setIfInBounds (off + j) c) us) := by
    intro vs
    induction vs with
    | nil =>
      intro l cs us off k h hl _
      have : l = [] := by simpa using hl.symm
      subst this
      simpa [Am.setAt] using h
    | cons v vs ih =>
      intro l cs us off k h hl hr
      cases l with
      | nil => simp at hl
      | cons u l =>
        simp only [List.zipIdx_cons, List.foldl_cons, Am.setAt]
        have := ih l (cs.set (off + k) v) (us.setIfInBounds (off + k) u) off (k + 1) (h.set (off + k) (hr 0 v u rfl rfl)) (by simpa using hl) (fun i c u h1 h2 => hr (i + 1) c u (by simpa using h1) (by simpa using h2))
        rw [← Nat.add_assoc] at this
        exact this
  intro vs cs ws us off h hv
  have := key vs ws.toList cs us off 0 h (by simpa using hv.1.symm) (fun i c u h1 h2 => hv.2 i c u h1 (by simpa using h2))
  rw [Nat.add_zero] at this
  rw [← Array.foldl_toList]
  simpa [Array.toList_zipIdx] using this
theorem cellsV_rep {v : AV} {u : Value} (hl : layable v = true) (h : Rep η Z w v u) : Cells η Z w (cellsV v) u.cells := by
  have single : ∀ {c : AV} {u : Value}, Rep η Z w c u → (∀ cs, u ≠ .agg cs) → Cells η Z w [c] u.cells := by
    intro c u h hu
    have : u.cells = #[u] := by cases u <;> simp_all [Value.cells]
    rw [this]
    refine ⟨rfl, fun i c' u' h1 h2 => ?_⟩
    cases i with
    | zero => simp at h1 h2; subst h1 h2; exact h
    | succ i => simp at h1
  cases v with
  | agg cs =>
    obtain ⟨us, rfl, hs, hr⟩ := h.agg_inv
    exact ⟨hs, hr⟩
  | sc v =>
    have e := h.sc_inv
    subst e
    refine single h (fun cs hcs => ?_)
    subst hcs
    simp [layable] at hl
  | unk => simp [layable] at hl
  | tup cs => simp [layable] at hl
  | fz z full k n f => exact single h (by cases h with | z hz => cases hz; simp)
  | own id k i n full => exact single h (by cases h with | z hz => cases hz | own => simp | ownNil => simp)
  | ptr id j => exact single h (by cases h with | z hz => cases hz | ptr => simp)
  | elp id k i j => exact single h (by cases h with | z hz => cases hz | elp => simp)
  | rowp r j => exact single h (by cases h with | z hz => cases hz; simp)
  | clo fn x y => exact single h (by cases h with | z hz => cases hz; simp | clo => simp)
theorem fillA_run {place : Nat → Option (Nat × Nat)} {a : Act} {g : Operand → AV} (hg : ∀ x, Rep η Z w (g x) (a.eval x)) : ∀ (parts : List (Nat × Operand)) (cs : List AV) (us : Array Value) (r : List AV), fillA place cs (parts.map fun (i, x) => (i, g x)) = some r → Cells η Z w cs us →
    ∃ vs, Instr.fill place us (parts.map fun (i, x) => (i, a.eval x)) = some vs ∧ Cells η Z w r vs := by
  intro parts
  induction parts with
  | nil =>
    intro cs us r h hc
    simp only [List.map_nil, fillA, Option.some.injEq] at h
    subst h
    exact ⟨us, rfl, hc⟩
  | cons p parts ih =>
    intro cs us r h hc
    obtain ⟨i, x⟩ := p
    simp only [List.map_cons, fillA] at h
    split at h
    · cases h
    · rename_i off size hp
      split at h
      · rename_i hcond
        simp only [Bool.and_eq_true, beq_iff_eq, decide_eq_true_eq] at hcond
        obtain ⟨⟨hl, hsz⟩, hfit⟩ := hcond
        have hcells := cellsV_rep hl (hg x)
        have hset := Cells.setAt (us := us) (cellsV (g x)) cs (a.eval x).cells us off hc hcells
        obtain ⟨vs, h1, h2⟩ := ih _ _ _ h hset
        refine ⟨vs, ?_, h2⟩
        simp only [List.map_cons, Instr.fill, hp]
        rw [if_neg (by have := hcells.1; have := hc.1; simp; omega)]
        exact h1
      · cases h
theorem zero_cells (l : List Value) : Cells η Z w (l.map constAV) l.toArray := by
  refine ⟨by simp, fun i c u h1 h2 => ?_⟩
  simp only [List.getElem?_map, Option.map_eq_some_iff] at h1
  obtain ⟨v, hv, rfl⟩ := h1
  simp only [List.getElem?_toArray] at h2
  rw [hv] at h2
  cases h2
  exact constAV_rep _
theorem run_places (fs : List Field) : ∀ pl, placesOf P (fs.map fun f => (f.offset, f.type)) = some pl → ∀ w', ((fs.mapM fun f => do pure (f.offset, ← sizeOf f.type)) : Sem (List (Nat × Nat))).run P w' = .ok pl w' := by
  induction fs with
  | nil => intro pl h w'; simp only [List.map_nil, placesOf, Option.some.injEq] at h; subst h; simp
  | cons f fs ih =>
    intro pl h w'
    simp only [List.map_cons, placesOf] at h
    split at h
    · rename_i i r hi hr
      cases h
      simp only [List.mapM_cons, Sem.run_bind, run_sizeOf_info hi, Result.andThen_ok, Sem.run_pure, ih r hr]
    · cases h
end
end Go.Am
