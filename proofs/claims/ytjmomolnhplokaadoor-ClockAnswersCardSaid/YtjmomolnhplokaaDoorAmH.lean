/-
  THE ABSTRACT MACHINE, part H: a state in a run ('Sat'); a block made anew or written.
-/
import Derived.Test.YtjmomolnhplokaaDoorAmG
namespace Go.Am
set_option linter.unusedVariables false
set_option linter.unusedSimpArgs false

def Blk.kill (id : Nat) : Blk → Blk
  | .box cs => .box (killL id cs)
  | .arr k n f ex => .arr k n f ex
  | .lnk v c => .lnk v (c.kill id)
def St.kill (id : Nat) (st : St) : St := { t := mp (AV.kill id) st.t, h := mp (Blk.kill id) (rmv st.h id) }
/-- block 'd' made anew, its name's value in slot 't' -/
def newSt (st : St) (t d : Nat) (blk : Blk) (v : AV) : St := { t := up (st.kill d).t t v, h := up (st.kill d).h d blk }
def St.set (st : St) (d : Option Nat) (v : AV) : St := match d with | some d => { st with t := up st.t d v } | none => st

structure Base where
  w0 : World
  Z0 : ZP
  B0 : Nat → Nat → Prop
  pids : List Nat
  η0 : Eta
  hp : ∀ id b, B0 id b → id ∈ pids
  zs : ∀ b, Z0 true b → Z0 false b
def Base.B (bs : Base) (b : Nat) : Prop := ∃ id, bs.B0 id b

structure SatH (G : Gl) (bs : Base) (η : Eta) (Z : ZP) (st : St) (a : Act) (w : World) : Prop where
  t : TRep η Z w st.t a
  h : HRep η Z w st.h
  g : GRep G Z w
  fr : Fr bs.B bs.w0 w
  zs : ∀ b, Z true b → Z false b
  z0 : ∀ z b, bs.Z0 z b → Z z b
  z1 : ∀ z b, Z z b → bs.Z0 z b ∨ bs.w0.heap.size ≤ b
  own : ∀ id blk b o, lk st.h id = some blk → η id = some (b, o) → bs.B0 id b ∨ bs.w0.heap.size ≤ b
  fix : ∀ id, id ∈ bs.pids → η id = bs.η0 id
def Sat (G : Gl) (bs : Base) (nt : Nat) (st : St) (a : Act) (w : World) : Prop := a.defers = [] ∧ a.tmps.size = nt ∧ ∃ η Z, SatH G bs η Z st a w

section
variable {P : Program} {G : Gl} {η η' : Eta} {Z Z' : ZP} {w w' : World} {bs : Base}

theorem TRep.set {t : List (Nat × AV)} {a : Act} {d : Nat} {v : AV} {u : Value} (h : TRep η Z w t a) (hd : d < a.tmps.size) (hv : Rep η Z w v u) : TRep η Z w (up t d v) (a.put (some d) u) := by
  intro i c hc
  rw [lk_up] at hc
  simp only [Act.put]
  split at hc
  · rename_i he
    subst he
    cases hc
    have : (a.tmps.setIfInBounds d u).getD d undef = u := by simp [Array.getD_eq_getD_getElem?, hd]
    rw [this]; exact hv
  · rename_i he
    have : (a.tmps.setIfInBounds d u).getD i undef = a.tmps.getD i undef := by simp [Array.getD_eq_getD_getElem?, Array.getElem?_setIfInBounds_ne he]
    rw [this]; exact h i c hc
theorem Act.put_size (a : Act) (d : Option Nat) (u : Value) : (a.put d u).tmps.size = a.tmps.size := by
  cases d <;> simp [Act.put]
theorem Act.put_def (a : Act) (d : Option Nat) (u : Value) : (a.put d u).defers = a.defers := by
  cases d <;> rfl

theorem TRep.kill {t : List (Nat × AV)} {a : Act} (id : Nat) (hz : ∀ z b, Z z b → Z' z b ∧ w'.heap[b]? = w.heap[b]?) (hη : ∀ d, d ≠ id → η' d = η d) (hs : ∀ b, Shape w w' b) (h : TRep η Z w t a) :
    TRep η' Z' w' (mp (AV.kill id) t) a := by
  intro i c hc
  rw [lk_mp, Option.map_eq_some_iff] at hc
  obtain ⟨c', hc', rfl⟩ := hc
  exact (h i c' hc').kill id hz hη fun d b o _ _ => hs b
theorem lk_killH {h : Hp} {id d : Nat} {blk : Blk} (hl : lk (mp (Blk.kill id) (rmv h id)) d = some blk) : d ≠ id ∧ ∃ b', lk h d = some b' ∧ blk = b'.kill id := by
  rw [lk_mp, Option.map_eq_some_iff] at hl
  obtain ⟨b', hb', rfl⟩ := hl
  rw [lk_rmv] at hb'
  split at hb'
  · cases hb'
  · rename_i hne; exact ⟨fun e => hne e.symm, b', hb', rfl⟩
theorem HRep.kill {h : Hp} (id : Nat) (hz : ∀ z b, Z z b → w'.heap[b]? = w.heap[b]?) (hη : ∀ d, d ≠ id → η' d = η d) (hs : ∀ b, Shape w w' b) (hsz : w.heap.size ≤ w'.heap.size)
    (ho : ∀ d blk b o, d ≠ id → lk h d = some blk → η d = some (b, o) → w'.heap[b]? = w.heap[b]?) (hh : HRep η Z w h) : HRep η' Z w' (mp (Blk.kill id) (rmv h id)) := by
  refine ⟨fun d blk hd => ?_, fun d d' bk bk' b1 o1 o2 h1 h2 e1 e2 => ?_, fun z b hb => Nat.lt_of_lt_of_le (hh.zlt z b hb) hsz, fun z b hb hown => ?_⟩
  · obtain ⟨hne, b', hb', rfl⟩ := lk_killH hd
    have := hh.rep d b' hb'
    rw [hη d hne]
    cases hbo : η d with
    | none =>
      rw [hbo] at this
      cases b' with
      | box cells => exact this
      | arr k n f ex => exact this
      | lnk v c => exact Rep.kill id (fun z b hb => ⟨hb, hz z b hb⟩) hη (fun d b o _ _ => hs b) this
    | some p =>
      obtain ⟨b, o⟩ := p
      rw [hbo] at this
      have hsame := ho d b' b o hne hb' hbo
      cases b' with
      | box cells =>
        obtain ⟨cs, e, hb, hl, hc⟩ := this
        refine ⟨cs, e, by rw [hsame]; exact hb, by simpa [killL_eq] using hl, fun j c hj => ?_⟩
        rw [killL_eq, List.getElem?_map, Option.map_eq_some_iff] at hj
        obtain ⟨c', hc', rfl⟩ := hj
        obtain ⟨u, hu, hr⟩ := hc j c' hc'
        exact ⟨u, hu, hr.kill id (fun z b hb => ⟨hb, hz z b hb⟩) hη fun d b o _ _ => hs b⟩
      | arr k n f ex =>
        obtain ⟨cs, e, hb, hl, hx, hc⟩ := this
        refine ⟨cs, e, by rw [hsame]; exact hb, hl, hx, fun i hi => ⟨(hc i hi).1, fun j c hj => ?_⟩⟩
        obtain ⟨hq, u, hu, hcl, hr⟩ := (hc i hi).2 j c hj
        exact ⟨hq, u, hu, hcl, hr.mono fun z b hb => ⟨hb, hz z b hb⟩⟩
      | lnk v c => exact this.elim
  · obtain ⟨n1, k1, g1, _⟩ := lk_killH h1
    obtain ⟨n2, k2, g2, _⟩ := lk_killH h2
    rw [hη d n1] at e1
    rw [hη d' n2] at e2
    exact hh.inj d d' k1 k2 b1 o1 o2 g1 g2 e1 e2
  · obtain ⟨d, bk, o, h1, h2⟩ := hown
    obtain ⟨n1, k1, g1, _⟩ := lk_killH h1
    rw [hη d n1] at h2
    exact hh.zno z b hb ⟨d, k1, o, g1, h2⟩
theorem HRep.add {h : Hp} {id : Nat} {blk : Blk} (hh : HRep η Z w h) (hn : lk h id = none) (hb : BRep η Z w (η id) blk)
    (hf : ∀ b o, η id = some (b, o) → (∀ z, ¬ Z z b) ∧ ∀ d bk o', lk h d = some bk → η d = some (b, o') → False) : HRep η Z w (up h id blk) := by
  refine ⟨fun d bk hd => ?_, fun d d' bk bk' b1 o1 o2 h1 h2 e1 e2 => ?_, hh.zlt, fun z b hb' hown => ?_⟩
  · rw [lk_up] at hd
    split at hd
    · rename_i he; subst he; cases hd; exact hb
    · exact hh.rep d bk hd
  · rw [lk_up] at h1 h2
    split at h1
    · rename_i he
      split at h2
      · rename_i he'; exact he.symm.trans he'
      · subst he; exact ((hf b1 o1 e1).2 d' bk' o2 h2 e2).elim
    · split at h2
      · rename_i he'; subst he'; exact ((hf b1 o2 e2).2 d bk o1 h1 e1).elim
      · exact hh.inj d d' bk bk' b1 o1 o2 h1 h2 e1 e2
  · obtain ⟨d, bk, o, h1, h2⟩ := hown
    rw [lk_up] at h1
    split at h1
    · rename_i he; subst he; exact (hf b o h2).1 z hb'
    · exact hh.zno z b hb' ⟨d, bk, o, h1, h2⟩

/-- block 'd' made anew (or written in place, or given up): all the rest is as it was -/
theorem SatH.renew {st : St} {a : Act} (H : SatH G bs η Z st a w) {t d : Nat} {blk : Blk} {v : AV} {u : Value} {B : Nat → Prop} (ht : t < a.tmps.size) (hdp : d ∉ bs.pids)
    (hη : ∀ x, x ≠ d → η' x = η x) (hF : Fr B w w') (hB : ∀ b, b < bs.w0.heap.size → B b → bs.B b) (hz : ∀ z b, Z z b → w'.heap[b]? = w.heap[b]?)
    (ho : ∀ x bk b o, x ≠ d → lk st.h x = some bk → η x = some (b, o) → w'.heap[b]? = w.heap[b]?)
    (hb : BRep η' Z w' (η' d) blk) (hf : ∀ b o, η' d = some (b, o) → (∀ z, ¬ Z z b) ∧ (bs.B0 d b ∨ bs.w0.heap.size ≤ b) ∧ ∀ x bk o', x ≠ d → lk st.h x = some bk → η x = some (b, o') → False)
    (hv : Rep η' Z w' v u) : SatH G bs η' Z (newSt st t d blk v) (a.put (some t) u) w' := by
  have hk : HRep η' Z w' (mp (Blk.kill d) (rmv st.h d)) := H.h.kill d hz hη hF.shape hF.size ho
  have hkn : lk (mp (Blk.kill d) (rmv st.h d)) d = none := by rw [lk_mp, lk_rmv, if_pos rfl]; rfl
  refine ⟨(H.t.kill d (fun z b hb => ⟨hb, hz z b hb⟩) hη hF.shape).set ht hv, hk.add hkn hb (fun b o e => ⟨(hf b o e).1, fun x bk o' h1 h2 => ?_⟩), H.g.mono fun z b hb => ⟨hb, hz z b hb⟩, H.fr.trans hF hB, H.zs, H.z0, H.z1, fun id bk b o h1 h2 => ?_, fun id hid => (hη id fun e => by subst e; exact hdp hid).trans (H.fix id hid)⟩
  · obtain ⟨n1, k1, g1, _⟩ := lk_killH h1
    rw [hη x n1] at h2
    exact (hf b o e).2.2 x k1 o' n1 g1 h2
  · simp only [newSt] at h1
    rw [lk_up] at h1
    split at h1
    · rename_i he; subst he; exact (hf b o h2).2.1
    · obtain ⟨n1, k1, g1, _⟩ := lk_killH h1
      rw [hη id n1] at h2
      exact H.own id k1 b o g1 h2

/-! ### a new block -/
theorem alloc_new (w : World) (cs : Array Value) (e : TypeId) : (w.alloc (.cells cs e)).heap[w.heap.size]? = some (.cells cs e (0, 0)) := by
  show (w.heap.push _)[w.heap.size]? = _
  simp
theorem alloc_old (w : World) (o : Obj) {b : Nat} (h : b < w.heap.size) : (w.alloc o).heap[b]? = w.heap[b]? := by
  show (w.heap.push _)[b]? = _
  simp [Array.getElem?_push, Nat.ne_of_lt h]
theorem alloc_fr (w : World) (cs : Array Value) (e : TypeId) : Fr (fun _ => False) w (w.alloc (.cells cs e)) := by
  refine ⟨rfl, rfl, fun b hb _ => alloc_old w _ hb, fun a => ?_, by simp, fun b => ?_⟩
  · by_cases h : a.block < w.heap.size
    · simp [World.frozen?, alloc_old w _ h]
    · by_cases h' : a.block = w.heap.size
      · have e1 : w.heap[a.block]? = none := by simp [h']
        have e2 := alloc_new w cs e
        rw [← h'] at e2
        simp [World.frozen?, e1, e2]
      · have e1 : w.heap[a.block]? = none := by simp; omega
        have e2 : (w.alloc (.cells cs e)).heap[a.block]? = none := by
          show (w.heap.push _)[a.block]? = _
          simp; omega
        simp [World.frozen?, e1, e2]
  · intro c1 e1 h1
    have hlt := (Array.getElem?_eq_some_iff.1 h1).1
    exact ⟨c1, by rw [alloc_old w _ hlt]; exact h1, rfl⟩
theorem drew_fr (w : World) : Fr (fun _ => False) w w.drew := ⟨rfl, rfl, fun _ _ _ => rfl, fun _ => rfl, Nat.le_refl _, fun _ => Shape.of_eq rfl⟩

/-- a block newly laid -/
theorem SatH.fresh {st : St} {a : Act} (H : SatH G bs η Z st a w) {t d : Nat} {blk : Blk} {v : AV} {u : Value} {cs : Array Value} {e : TypeId} {w1 : World} (hw1 : w1.heap = w.heap) (ho1 : w1.os = w.os) (ho2 : w1.output = w.output) (ht : t < a.tmps.size) (hdp : d ∉ bs.pids)
    (hη : η' = fun x => if x = d then some (w.heap.size, 0) else η x)
    (hb : BRep η' Z (w1.alloc (.cells cs e)) (some (w.heap.size, 0)) blk) (hv : Rep η' Z (w1.alloc (.cells cs e)) v u) :
    SatH G bs η' Z (newSt st t d blk v) (a.put (some t) u) (w1.alloc (.cells cs e)) := by
  have hd : η' d = some (w.heap.size, 0) := by rw [hη]; simp
  have hFr : Fr (fun _ => False) w (w1.alloc (.cells cs e)) := by
    have h1 : Fr (fun _ => False) w w1 := ⟨ho1, ho2, fun b _ _ => by rw [hw1], fun a => by simp [World.frozen?, hw1], by rw [hw1]; exact Nat.le_refl _, fun b => Shape.of_eq (by rw [hw1])⟩
    exact h1.trans (alloc_fr w1 cs e) fun _ _ h => h
  have hlt : ∀ x bk b o, lk st.h x = some bk → η x = some (b, o) → b < w.heap.size := fun x bk b o h1 h2 => by
    have := H.h.rep x bk h1
    rw [h2] at this
    exact this.lt
  refine H.renew (B := fun _ => False) ht hdp (fun x hx => by rw [hη]; simp [hx]) hFr (fun _ _ h => h.elim) (fun z b hb' => hFr.old b (H.h.zlt z b hb') (fun h => h)) (fun x bk b o _ h1 h2 => hFr.old b (hlt x bk b o h1 h2) fun h => h) (by rw [hd]; exact hb) (fun b o e1 => ?_) hv
  rw [hd] at e1
  simp only [Option.some.injEq, Prod.mk.injEq] at e1
  obtain ⟨rfl, rfl⟩ := e1
  exact ⟨fun z h => Nat.lt_irrefl _ (H.h.zlt z _ h), .inr H.fr.size, fun x bk o' _ h1 h2 => Nat.lt_irrefl _ (hlt x bk _ o' h1 h2)⟩
/-- what is kept is as it was -/
structure Kp (keep : List Nat) (h : Hp) (η : Eta) (Z : ZP) (w : World) (η' : Eta) (Z' : ZP) (w' : World) : Prop where
  z : ∀ z b, Z z b → Z' z b ∧ w'.heap[b]? = w.heap[b]?
  k : ∀ id, id ∈ keep → η' id = η id ∧ ∀ blk b o, lk h id = some blk → η id = some (b, o) → w'.heap[b]? = w.heap[b]?
theorem Kp.refl (keep : List Nat) (h : Hp) (η : Eta) (Z : ZP) (w : World) : Kp keep h η Z w η Z w := ⟨fun _ _ hb => ⟨hb, rfl⟩, fun _ _ => ⟨rfl, fun _ _ _ _ _ => rfl⟩⟩
theorem SatH.renewK {keep : List Nat} {st : St} {a : Act} (H : SatH G bs η Z st a w) {t d : Nat} {blk : Blk} {v : AV} {u : Value} {B : Nat → Prop} (hdk : d ∉ keep) (ht : t < a.tmps.size) (hdp : d ∉ bs.pids)
    (hη : ∀ x, x ≠ d → η' x = η x) (hF : Fr B w w') (hB : ∀ b, b < bs.w0.heap.size → B b → bs.B b) (hz : ∀ z b, Z z b → w'.heap[b]? = w.heap[b]?)
    (ho : ∀ x bk b o, x ≠ d → lk st.h x = some bk → η x = some (b, o) → w'.heap[b]? = w.heap[b]?)
    (hb : BRep η' Z w' (η' d) blk) (hf : ∀ b o, η' d = some (b, o) → (∀ z, ¬ Z z b) ∧ (bs.B0 d b ∨ bs.w0.heap.size ≤ b) ∧ ∀ x bk o', x ≠ d → lk st.h x = some bk → η x = some (b, o') → False)
    (hv : Rep η' Z w' v u) : SatH G bs η' Z (newSt st t d blk v) (a.put (some t) u) w' ∧ Kp keep st.h η Z w η' Z w' :=
  ⟨H.renew ht hdp hη hF hB hz ho hb hf hv, fun z b hb => ⟨hb, hz z b hb⟩, fun id hid => ⟨hη id fun e => hdk (e ▸ hid), fun bk b o h1 h2 => ho id bk b o (fun e => hdk (e ▸ hid)) h1 h2⟩⟩
theorem SatH.freshK {keep : List Nat} {st : St} {a : Act} (H : SatH G bs η Z st a w) {t d : Nat} {blk : Blk} {v : AV} {u : Value} {cs : Array Value} {e : TypeId} {w1 : World} (hdk : d ∉ keep) (hw1 : w1.heap = w.heap) (ho1 : w1.os = w.os) (ho2 : w1.output = w.output) (ht : t < a.tmps.size) (hdp : d ∉ bs.pids)
    (hη : η' = fun x => if x = d then some (w.heap.size, 0) else η x)
    (hb : BRep η' Z (w1.alloc (.cells cs e)) (some (w.heap.size, 0)) blk) (hv : Rep η' Z (w1.alloc (.cells cs e)) v u) :
    SatH G bs η' Z (newSt st t d blk v) (a.put (some t) u) (w1.alloc (.cells cs e)) ∧ Kp keep st.h η Z w η' Z (w1.alloc (.cells cs e)) := by
  refine ⟨H.fresh hw1 ho1 ho2 ht hdp hη hb hv, fun z b hb => ⟨hb, ?_⟩, fun id hid => ⟨?_, fun bk b o h1 h2 => ?_⟩⟩
  · have := H.h.zlt z b hb
    rw [alloc_old w1 _ (by rw [hw1]; exact this), hw1]
  · have : id ≠ d := fun e => hdk (e ▸ hid)
    rw [hη]; simp [this]
  · have := H.h.rep id bk h1
    rw [h2] at this
    rw [alloc_old w1 _ (by rw [hw1]; exact this.lt), hw1]
end
end Go.Am
