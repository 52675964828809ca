/-
  THE ABSTRACT MACHINE, part G: worlds that are written: cells put into a block of one's own, a new block; what the state says behind it.
-/
import Derived.Test.YtjmomolnhplokaaDoorAmF
namespace Go.Am
set_option linter.unusedVariables false
set_option linter.unusedSimpArgs false

/-! ### the frame -/
structure Fr (B : Nat → Prop) (w w' : World) : Prop where
  os : w'.os = w.os
  out : w'.output = w.output
  old : ∀ b, b < w.heap.size → ¬ B b → w'.heap[b]? = w.heap[b]?
  fro : ∀ a, w'.frozen? a = w.frozen? a
  size : w.heap.size ≤ w'.heap.size
  shape : ∀ b, Shape w w' b
theorem Fr.refl (B : Nat → Prop) (w : World) : Fr B w w := ⟨rfl, rfl, fun _ _ _ => rfl, fun _ => rfl, Nat.le_refl _, fun _ => Shape.of_eq rfl⟩
theorem Fr.trans {B B' : Nat → Prop} {w w1 w2 : World} (h : Fr B w w1) (h' : Fr B' w1 w2) (hb : ∀ b, b < w.heap.size → B' b → B b) : Fr B w w2 :=
  ⟨h'.os.trans h.os, h'.out.trans h.out, fun b hlt hn => (h'.old b (Nat.lt_of_lt_of_le hlt h.size) fun x => hn (hb b hlt x)).trans (h.old b hlt hn), fun a => (h'.fro a).trans (h.fro a), Nat.le_trans h.size h'.size, fun b => (h.shape b).trans (h'.shape b)⟩
theorem Fr.weaken {B B' : Nat → Prop} {w w' : World} (h : Fr B w w') (hb : ∀ b, B b → B' b) : Fr B' w w' := ⟨h.os, h.out, fun b hl hn => h.old b hl fun x => hn (hb b x), h.fro, h.size, h.shape⟩

/-- a block's cells put in place -/
def putB (w : World) (b : Nat) (cs : Array Value) (e : TypeId) : World := { w with heap := w.heap.setIfInBounds b (.cells cs e (0, 0)) }
theorem putB_same {w : World} {b : Nat} {cs cs' : Array Value} {e : TypeId} (h : w.heap[b]? = some (.cells cs e (0, 0))) : (putB w b cs' e).heap[b]? = some (.cells cs' e (0, 0)) := by
  have hlt := (Array.getElem?_eq_some_iff.1 h).1
  simp [putB, hlt]
theorem putB_other {w : World} {b b' : Nat} {cs : Array Value} {e : TypeId} (h : b' ≠ b) : (putB w b cs e).heap[b']? = w.heap[b']? := by
  simp [putB, Array.getElem?_setIfInBounds_ne (Ne.symm h)]
theorem putB_size (w : World) (b : Nat) (cs : Array Value) (e : TypeId) : (putB w b cs e).heap.size = w.heap.size := by simp [putB]
theorem putB_put (w : World) (b : Nat) (cs cs' : Array Value) (e : TypeId) : putB (putB w b cs e) b cs' e = putB w b cs' e := by
  simp [putB]
theorem putB_shape {w : World} {b : Nat} {cs cs' : Array Value} {e : TypeId} (h : w.heap[b]? = some (.cells cs e (0, 0))) (hs : cs'.size = cs.size) (b' : Nat) : Shape w (putB w b cs' e) b' := by
  by_cases hb : b' = b
  · subst hb
    intro c1 e1 h1
    rw [h] at h1
    cases h1
    exact ⟨cs', putB_same h, hs⟩
  · exact Shape.of_eq (putB_other hb)
theorem putB_fr {w : World} {b : Nat} {cs cs' : Array Value} {e : TypeId} (h : w.heap[b]? = some (.cells cs e (0, 0))) (hs : cs'.size = cs.size) : Fr (· = b) w (putB w b cs' e) := by
  refine ⟨rfl, rfl, fun b' _ hn => putB_other hn, fun a => ?_, by simp [putB_size], putB_shape h hs⟩
  by_cases ha : a.block = b
  · subst ha
    simp [World.frozen?, putB_same h, h]
  · simp [World.frozen?, putB_other ha]
theorem setCell_eq {w : World} {b x : Nat} {cs : Array Value} {e : TypeId} (h : w.heap[b]? = some (.cells cs e (0, 0))) (v : Value) : w.setCell ⟨b, x, none⟩ v = putB w b (cs.setIfInBounds x v) e := by
  have hlt := (Array.getElem?_eq_some_iff.1 h).1
  have he := (Array.getElem?_eq_some_iff.1 h).2
  unfold World.setCell putB
  congr 1
  apply Array.ext_getElem?
  intro i
  rw [Array.getElem?_modify, Array.getElem?_setIfInBounds]
  by_cases hi : b = i
  · subst hi
    rw [if_pos rfl, h, if_pos rfl, if_pos hlt]
    simp
  · simp [hi]

/-- the cells behind a run of stores -/
def putAt : List Value → Array Value → Nat → Array Value
  | [], cs, _ => cs
  | v :: vs, cs, x => putAt vs (cs.setIfInBounds x v) (x + 1)
theorem putAt_size : ∀ (vs : List Value) (cs : Array Value) (x : Nat), (putAt vs cs x).size = cs.size
  | [], cs, x => rfl
  | v :: vs, cs, x => by simp [putAt, putAt_size vs]
theorem putAt_get : ∀ (vs : List Value) (cs : Array Value) (x i : Nat), x + vs.length ≤ cs.size → (putAt vs cs x)[i]? = if x ≤ i ∧ i < x + vs.length then vs[i - x]? else cs[i]?
  | [], cs, x, i, h => by
    simp only [putAt, List.length_nil]
    rw [if_neg (by omega)]
  | v :: vs, cs, x, i, h => by
    simp only [List.length_cons] at h
    rw [putAt, putAt_get vs _ (x + 1) i (by simp; omega)]
    simp only [List.length_cons]
    by_cases h1 : x + 1 ≤ i ∧ i < x + 1 + vs.length
    · rw [if_pos h1, if_pos (by omega)]
      have : i - x = (i - (x + 1)) + 1 := by omega
      rw [this, List.getElem?_cons_succ]
    · rw [if_neg h1]
      by_cases h2 : x = i
      · subst h2
        rw [if_pos (by omega), Array.getElem?_setIfInBounds, if_pos rfl, if_pos (by omega)]
        simp
      · rw [Array.getElem?_setIfInBounds_ne h2]
        by_cases h3 : x ≤ i ∧ i < x + (vs.length + 1)
        · omega
        · rw [if_neg h3]
theorem run_storeCells {P : Program} {b x e : Nat} : ∀ (vs : List Value) (i : Nat) (w : World) (cs : Array Value), w.heap[b]? = some (.cells cs e (0, 0)) → x + i + vs.length ≤ cs.size → (∀ v ∈ vs, isCell v = true) →
    (storeCells ⟨b, x, none⟩ vs i).run P w = .ok () (putB w b (putAt vs cs (x + i)) e) := by
  intro vs
  induction vs with
  | nil =>
    intro i w cs hb hle hv
    simp only [storeCells, putAt, Sem.run_pure]
    congr 1
    have hlt := (Array.getElem?_eq_some_iff.1 hb).1
    have he := (Array.getElem?_eq_some_iff.1 hb).2
    have hs : w.heap.setIfInBounds b (.cells cs e (0, 0)) = w.heap := by
      apply Array.ext_getElem?
      intro j
      rw [Array.getElem?_setIfInBounds]
      by_cases hj : b = j
      · subst hj
        rw [if_pos rfl, if_pos hlt, hb]
      · rw [if_neg hj]
    unfold putB
    rw [hs]
  | cons v vs ih =>
    intro i w cs hb hle hv
    simp only [List.length_cons] at hle
    have hcell : w.cell? ⟨b, x + i, none⟩ = some (cs[x + i]'(by omega)) := by
      have hlt : x + i < cs.size := by omega
      simp [World.cell?, hb, hlt]
    have hst : (store (⟨b, x + i, none⟩ : Addr) v).run P w = .ok () (putB w b (cs.setIfInBounds (x + i) v) e) := by
      have hvc := hv v (by simp)
      have hfr : w.frozen? ⟨b, x + i, none⟩ = false := by simp [World.frozen?, hb]
      rw [← setCell_eq hb]
      cases v <;> simp [isCell] at hvc <;> simp [store, Sem.run, hcell, hfr]
    simp only [storeCells, Sem.run_bind, add_eq, hst, Result.andThen_ok]
    rw [ih (i + 1) _ (cs.setIfInBounds (x + i) v) (putB_same hb) (by simp; omega) (fun u hu => hv u (by simp [hu]))]
    simp only [putB_put, putAt, Nat.add_assoc]

section
variable {P : Program} {G : Gl} {η : Eta} {Z : ZP} {w w' : World}

/-! ### states carried on -/
theorem TRep.mono {t : List (Nat × AV)} {a : Act} (hz : ∀ z b, Z z b → w'.heap[b]? = w.heap[b]?) (hs : ∀ d b o, η d = some (b, o) → Shape w w' b) (h : TRep η Z w t a) : TRep η Z w' t a :=
  fun i c hc => (h i c hc).mono (fun z b hb => ⟨hb, hz z b hb⟩) hs
theorem GRep.mono {Z' : ZP} (hz : ∀ z b, Z z b → Z' z b ∧ w'.heap[b]? = w.heap[b]?) (h : GRep G Z w) : GRep G Z' w' := fun g row hg => (h g row hg).mono hz
theorem BRep.mono {Z' : ZP} {bo : Option (Nat × Nat)} {blk : Blk} (hz : ∀ z b, Z z b → Z' z b ∧ w'.heap[b]? = w.heap[b]?) (hs : ∀ d b o, η d = some (b, o) → Shape w w' b) (he : ∀ b o, bo = some (b, o) → w'.heap[b]? = w.heap[b]?)
    (h : BRep η Z w bo blk) : BRep η Z' w' bo blk := by
  cases bo with
  | none => cases blk with
    | box cells => exact h
    | arr k n f ex => exact h
    | lnk v c => exact Rep.mono hz hs h
  | some p =>
    obtain ⟨b, o⟩ := p
    cases blk with
    | box cells =>
      obtain ⟨cs, e, hb, hl, hc⟩ := h
      refine ⟨cs, e, by rw [he b o rfl]; exact hb, hl, fun j c hj => ?_⟩
      obtain ⟨u, hu, hr⟩ := hc j c hj
      exact ⟨u, hu, hr.mono hz hs⟩
    | arr k n f ex =>
      obtain ⟨cs, e, hb, hl, hx, hc⟩ := h
      refine ⟨cs, e, by rw [he b o rfl]; exact hb, hl, hx, fun i hi => ⟨(hc i hi).1, fun j c hj => ?_⟩⟩
      obtain ⟨hq, u, hu, hcl, hr⟩ := (hc i hi).2 j c hj
      exact ⟨hq, u, hu, hcl, hr.mono hz⟩
    | lnk v c => exact h.elim

theorem Owned.up {h : Hp} {id : Nat} {blk blk' : Blk} (hl : lk h id = some blk) {b : Nat} (ho : Owned η (up h id blk') b) : Owned η h b := by
  obtain ⟨d, bk, o, h1, h2⟩ := ho
  rw [lk_up] at h1
  split at h1
  · rename_i hd; subst hd; exact ⟨id, blk, o, hl, h2⟩
  · exact ⟨d, bk, o, h1, h2⟩

/-- one block of one's own is written -/
theorem HRep.put {h : Hp} {id b o : Nat} {blk blk' : Blk} (hh : HRep η Z w h) (hl : lk h id = some blk) (hη : η id = some (b, o)) (hoth : ∀ b', b' ≠ b → w'.heap[b']? = w.heap[b']?) (hsh : Shape w w' b)
    (hsz : w.heap.size ≤ w'.heap.size) (hb : BRep η Z w' (some (b, o)) blk') : HRep η Z w' (up h id blk') := by
  have hz : ∀ z b', Z z b' → w'.heap[b']? = w.heap[b']? := fun z b' hb' => hoth b' fun e => by subst e; exact hh.zno z b' hb' ⟨id, blk, o, hl, hη⟩
  have hs : ∀ (d b' o' : Nat), η d = some (b', o') → Shape w w' b' := fun d b' o' _ => by
    by_cases he : b' = b
    · subst he; exact hsh
    · exact Shape.of_eq (hoth b' he)
  refine ⟨fun d bk hd => ?_, fun d d' bk bk' b1 o1 o2 h1 h2 => ?_, fun z b' hb' => Nat.lt_of_lt_of_le (hh.zlt z b' hb') hsz, fun z b' hb' ho => hh.zno z b' hb' (ho.up hl)⟩
  · rw [lk_up] at hd
    split at hd
    · rename_i he; subst he; cases hd; rw [hη]; exact hb
    · rename_i he
      refine (hh.rep d bk hd).mono (fun z b' hb' => ⟨hb', hz z b' hb'⟩) hs (fun b' o' hd' => hoth b' fun e => ?_)
      subst e
      exact he (hh.inj id d blk bk b' o o' hl hd hη hd')
  · rw [lk_up] at h1 h2
    intro e1 e2
    have g : ∀ x, (∃ bk, (if id = x then some blk' else lk h x) = some bk) → ∃ bk, lk h x = some bk := fun x ⟨bk, hx⟩ => by
      split at hx
      · rename_i he; subst he; exact ⟨_, hl⟩
      · exact ⟨_, hx⟩
    obtain ⟨k1, g1⟩ := g d ⟨_, h1⟩
    obtain ⟨k2, g2⟩ := g d' ⟨_, h2⟩
    exact hh.inj d d' k1 k2 b1 o1 o2 g1 g2 e1 e2
end
end Go.Am
