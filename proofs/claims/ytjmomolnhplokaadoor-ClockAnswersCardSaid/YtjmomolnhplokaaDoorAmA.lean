/-
  THE ABSTRACT MACHINE, part A: abstract values, abstract states, what they say of a world ('RepZ', 'Rep', 'HRep'), and how that is carried on. Generic: no program in it.
-/
import Derived.Tactics
import Derived.Laws.World
import Derived.Laws.Append
namespace Go.Am
set_option linter.unusedVariables false

/-- abstract values: a datum, nothing known, a slice whose memory is never written again (length and rows), a slice into a row of one's own, a pointer into a box, into a row's element, into memory never written again, a struct, a tuple, a function value -/
inductive AV where
  | sc (v : Value)
  | unk
  | fz (z full : Bool) (k n : Nat) (f : Nat → List AV)
  | own (id k i n : Nat) (full : Bool)
  | ptr (id j : Nat)
  | elp (id k i j : Nat)
  | rowp (row : List AV) (j : Nat)
  | agg (cs : List AV)
  | tup (cs : List AV)
  | clo (fn : Fn) (first cap : List AV)

inductive Blk where
  | box (cells : List AV)
  | arr (k n : Nat) (f : Nat → List AV) (exact : Bool)
  | lnk (v : Value) (c : AV)

abbrev Hp := List (Nat × Blk)
structure St where
  t : List (Nat × AV)
  h : Hp

def lk {α : Type} : List (Nat × α) → Nat → Option α
  | [], _ => none
  | (a, x) :: l, b => if a = b then some x else lk l b
def up {α : Type} : List (Nat × α) → Nat → α → List (Nat × α)
  | [], b, y => [(b, y)]
  | (a, x) :: l, b, y => if a = b then (a, y) :: l else (a, x) :: up l b y
def rmv {α : Type} : List (Nat × α) → Nat → List (Nat × α)
  | [], _ => []
  | (a, x) :: l, b => if a = b then rmv l b else (a, x) :: rmv l b
theorem lk_up {α : Type} (l : List (Nat × α)) (a b : Nat) (y : α) : lk (up l a y) b = if a = b then some y else lk l b := by
  induction l with
  | nil => simp [up, lk]
  | cons p l ih =>
    obtain ⟨c, x⟩ := p
    simp only [up]
    by_cases h : c = a
    · subst h
      simp only [if_true, lk]
      by_cases h2 : c = b <;> simp [h2]
    · simp only [h, if_false, lk, ih]
      by_cases h2 : c = b
      · subst h2
        simp [Ne.symm h]
      · simp [h2]
theorem lk_rmv {α : Type} (l : List (Nat × α)) (a b : Nat) : lk (rmv l a) b = if a = b then none else lk l b := by
  induction l with
  | nil => simp [rmv, lk]
  | cons p l ih =>
    obtain ⟨c, x⟩ := p
    simp only [rmv]
    by_cases h : c = a
    · subst h
      simp only [if_true, ih, lk]
      by_cases h2 : c = b <;> simp [h2]
    · simp only [h, if_false, lk, ih]
      by_cases h2 : c = b
      · subst h2
        simp [Ne.symm h]
      · simp [h2]
/-- a map over the values of such a list -/
def mp {α : Type} (g : α → α) : List (Nat × α) → List (Nat × α)
  | [] => []
  | (a, x) :: l => (a, g x) :: mp g l
theorem lk_mp {α : Type} (g : α → α) (l : List (Nat × α)) (b : Nat) : lk (mp g l) b = (lk l b).map g := by
  induction l with
  | nil => rfl
  | cons p l ih =>
    obtain ⟨c, x⟩ := p
    simp only [mp, lk, ih]
    by_cases h : c = b <;> simp [h]

/-- a value that one cell holds -/
def isCell : Value → Bool
  | .agg _ | .tuple _ => false
  | _ => true
mutual
/-- may it be kept, or handed back? (no memory lent for a call alone; 'z' of what is below is asked of in turn) -/
def AV.ret : AV → Bool
  | .fz z _ _ _ _ => z
  | .rowp .. => false
  | .agg cs => retL cs
  | .tup cs => retL cs
  | .clo _ x y => retL x && retL y
  | _ => true
def retL : List AV → Bool
  | [] => true
  | c :: cs => c.ret && retL cs
end
theorem retL_mem {l : List AV} (h : retL l = true) : ∀ (i : Nat) (c : AV), l[i]? = some c → c.ret = true := by
  induction l with
  | nil => intro i c hc; simp at hc
  | cons x l ih =>
    simp only [retL, Bool.and_eq_true] at h
    intro i c hc
    cases i with
    | zero => simp at hc; subst hc; exact h.1
    | succ i => exact ih h.2 i c (by simpa using hc)
/-- memory that is not written: for ever ('true'), or for as long as the call runs -/
abbrev ZP := Bool → Nat → Prop
/-! ### what an abstract value says of a value in a world -/
inductive RepZ (Z : ZP) (w : World) : AV → Value → Prop
  | sc (v : Value) : RepZ Z w (.sc v) v
  | unk (v : Value) : RepZ Z w .unk v
  | fz {z full : Bool} {k n : Nat} {f : Nat → List AV} {A : Option Addr} {c : Nat} (us : Nat → Nat → Value) (hc : n ≤ c) (hf : full = true → c = n)
      (hn : n ≠ 0 → ∃ b o, A = some ⟨b, o, none⟩ ∧ Z z b ∧ Z false b ∧ ∀ i, i < n → (f i).length = k ∧ ∀ j, j < k → w.cell? ⟨b, o + i * k + j, none⟩ = some (us i j) ∧ isCell (us i j) = true)
      (hq : ∀ i, i < n → ∀ (j : Nat) (c : AV), (f i)[j]? = some c → c.ret = true)
      (hr : ∀ i, i < n → ∀ (j : Nat) (c : AV), (f i)[j]? = some c → RepZ Z w c (us i j)) : RepZ Z w (.fz z full k n f) (.slice A n c)
  | rowp {row : List AV} {j b o : Nat} (us : Nat → Value) (hZ : Z false b) (hc : ∀ i, i < row.length → w.cell? ⟨b, o + i, none⟩ = some (us i))
      (hr : ∀ (i : Nat) (c : AV), row[i]? = some c → RepZ Z w c (us i)) : RepZ Z w (.rowp row j) (.pointer (some ⟨b, o + j, none⟩))
  | agg {cs : List AV} {us : Array Value} (hl : us.size = cs.length) (hr : ∀ (i : Nat) (c : AV) (u : Value), cs[i]? = some c → us[i]? = some u → RepZ Z w c u) : RepZ Z w (.agg cs) (.agg us)
  | tup {cs : List AV} {us : Array Value} (hl : us.size = cs.length) (hr : ∀ (i : Nat) (c : AV) (u : Value), cs[i]? = some c → us[i]? = some u → RepZ Z w c u) : RepZ Z w (.tup cs) (.tuple us)
  | clo {fn : Fn} {first cap : List AV} {us vs : Array Value} (hl : us.size = first.length) (hr : ∀ (i : Nat) (c : AV) (u : Value), first[i]? = some c → us[i]? = some u → RepZ Z w c u)
      (hl' : vs.size = cap.length) (hr' : ∀ (i : Nat) (c : AV) (u : Value), cap[i]? = some c → vs[i]? = some u → RepZ Z w c u) : RepZ Z w (.clo fn first cap) (.func fn us vs)

theorem cell?_congr {w w' : World} {a : Addr} (h : w'.heap[a.block]? = w.heap[a.block]?) : w'.cell? a = w.cell? a := by
  unfold World.cell?; rw [h]

theorem RepZ.mono {Z Z' : ZP} {w w' : World} (h : ∀ z b, Z z b → Z' z b ∧ w'.heap[b]? = w.heap[b]?) {c : AV} {u : Value} (r : RepZ Z w c u) : RepZ Z' w' c u := by
  induction r with
  | sc v => exact .sc v
  | unk v => exact .unk v
  | fz us hc hf hn hq hr ih =>
    refine .fz us hc hf (fun h0 => ?_) hq ih
    obtain ⟨b, o, hA, hZ, hZ2, hcell⟩ := hn h0
    exact ⟨b, o, hA, (h _ b hZ).1, (h _ b hZ2).1, fun i hi => ⟨(hcell i hi).1, fun j hj => by rw [cell?_congr (h _ b hZ2).2]; exact (hcell i hi).2 j hj⟩⟩
  | rowp us hZ hc hr ih => exact .rowp us (h _ _ hZ).1 (fun i hi => by rw [cell?_congr (h _ _ hZ).2]; exact hc i hi) ih
  | agg hl hr ih => exact .agg hl ih
  | tup hl hr ih => exact .tup hl ih
  | clo hl hr hl' hr' ih ih' => exact .clo hl ih hl' ih'

theorem RepZ.strict {Z : ZP} {w : World} {c : AV} {u : Value} (r : RepZ Z w c u) : c.ret = true → RepZ (fun _ => Z true) w c u := by
  induction r with
  | sc v => intro _; exact .sc v
  | unk v => intro _; exact .unk v
  | @fz z full k n f A c us hc hf hn hq hr ih =>
    intro hz
    simp only [AV.ret] at hz
    subst hz
    exact .fz us hc hf (fun h0 => by
      obtain ⟨b, o, hA, h1, h2, h3⟩ := hn h0
      exact ⟨b, o, hA, h1, h1, h3⟩) hq fun i hi j c hj => ih i hi j c hj (hq i hi j c hj)
  | rowp us hZ hc hr ih => intro hz; cases hz
  | agg hl hr ih =>
    intro hz
    simp only [AV.ret] at hz
    exact .agg hl fun i c u h1 h2 => ih i c u h1 h2 (retL_mem hz i c h1)
  | tup hl hr ih =>
    intro hz
    simp only [AV.ret] at hz
    exact .tup hl fun i c u h1 h2 => ih i c u h1 h2 (retL_mem hz i c h1)
  | clo hl hr hl' hr' ih ih' =>
    intro hz
    simp only [AV.ret, Bool.and_eq_true] at hz
    exact .clo hl (fun i c u h1 h2 => ih i c u h1 h2 (retL_mem hz.1 i c h1)) hl' fun i c u h1 h2 => ih' i c u h1 h2 (retL_mem hz.2 i c h1)
abbrev Eta := Nat → Option (Nat × Nat)
/-- with references to what is one's own -/
inductive Rep (η : Eta) (Z : ZP) (w : World) : AV → Value → Prop
  | z {c : AV} {u : Value} (h : RepZ Z w c u) : Rep η Z w c u
  | own {id k i n : Nat} {full : Bool} {b o : Nat} {cs : Array Value} {e c : Nat} {A : Option Addr} (hη : η id = some (b, o)) (hb : w.heap[b]? = some (.cells cs e (0, 0)))
      (hA : c ≠ 0 → A = some ⟨b, o + i * k, none⟩) (hfit : o + (i + c) * k ≤ cs.size) (hc : n ≤ c) (hf : full = true → c = n) : Rep η Z w (.own id k i n full) (.slice A n c)
  | ownNil {id k : Nat} {full : Bool} (hη : η id = none) : Rep η Z w (.own id k 0 0 full) (.slice none 0 0)
  | ptr {id j b o : Nat} (hη : η id = some (b, o)) : Rep η Z w (.ptr id j) (.pointer (some ⟨b, o + j, none⟩))
  | elp {id k i j b o : Nat} (hη : η id = some (b, o)) : Rep η Z w (.elp id k i j) (.pointer (some ⟨b, o + i * k + j, none⟩))
  | agg {cs : List AV} {us : Array Value} (hl : us.size = cs.length) (hr : ∀ (i : Nat) (c : AV) (u : Value), cs[i]? = some c → us[i]? = some u → Rep η Z w c u) : Rep η Z w (.agg cs) (.agg us)
  | tup {cs : List AV} {us : Array Value} (hl : us.size = cs.length) (hr : ∀ (i : Nat) (c : AV) (u : Value), cs[i]? = some c → us[i]? = some u → Rep η Z w c u) : Rep η Z w (.tup cs) (.tuple us)
  | clo {fn : Fn} {first cap : List AV} {us vs : Array Value} (hl : us.size = first.length) (hr : ∀ (i : Nat) (c : AV) (u : Value), first[i]? = some c → us[i]? = some u → Rep η Z w c u)
      (hl' : vs.size = cap.length) (hr' : ∀ (i : Nat) (c : AV) (u : Value), cap[i]? = some c → vs[i]? = some u → Rep η Z w c u) : Rep η Z w (.clo fn first cap) (.func fn us vs)

mutual
/-- no reference to 'id' is left -/
def AV.kill (id : Nat) : AV → AV
  | .own d k i n full => if d = id then .unk else .own d k i n full
  | .ptr d j => if d = id then .unk else .ptr d j
  | .elp d k i j => if d = id then .unk else .elp d k i j
  | .agg cs => .agg (killL id cs)
  | .tup cs => .tup (killL id cs)
  | .clo fn x y => .clo fn (killL id x) (killL id y)
  | .sc v => .sc v
  | .unk => .unk
  | .fz z full k n f => .fz z full k n f
  | .rowp r j => .rowp r j
def killL (id : Nat) : List AV → List AV
  | [] => []
  | c :: cs => c.kill id :: killL id cs
end
theorem killL_eq (id : Nat) (l : List AV) : killL id l = l.map (AV.kill id) := by
  induction l with
  | nil => simp [killL]
  | cons c l ih => simp [killL, ih]
/-- a block's shape stays -/
def Shape (w w' : World) (b : Nat) : Prop := ∀ cs e, w.heap[b]? = some (.cells cs e (0, 0)) → ∃ cs', w'.heap[b]? = some (.cells cs' e (0, 0)) ∧ cs'.size = cs.size
theorem Shape.of_eq {w w' : World} {b : Nat} (h : w'.heap[b]? = w.heap[b]?) : Shape w w' b := fun cs e hb => ⟨cs, by rw [h]; exact hb, rfl⟩
theorem Shape.trans {w w1 w2 : World} {b : Nat} (h : Shape w w1 b) (h' : Shape w1 w2 b) : Shape w w2 b := fun cs e hb => by
  obtain ⟨c1, h1, s1⟩ := h cs e hb
  obtain ⟨c2, h2, s2⟩ := h' c1 e h1
  exact ⟨c2, h2, s2.trans s1⟩

theorem RepZ.kill {Z : ZP} {w : World} {c : AV} {u : Value} (id : Nat) (r : RepZ Z w c u) : RepZ Z w (c.kill id) u := by
  induction r with
  | sc v => simp only [AV.kill]; exact .sc v
  | unk v => simp only [AV.kill]; exact .unk v
  | fz us hc hf hn hq hr ih => simp only [AV.kill]; exact .fz us hc hf hn hq hr
  | rowp us hZ hc hr ih => simp only [AV.kill]; exact .rowp us hZ hc hr
  | agg hl hr ih =>
    simp only [AV.kill, killL_eq]
    refine .agg (by simpa using hl) fun i c u hc hu => ?_
    simp only [List.getElem?_map, Option.map_eq_some_iff] at hc
    obtain ⟨c', hc', rfl⟩ := hc
    exact ih i c' u hc' hu
  | tup hl hr ih =>
    simp only [AV.kill, killL_eq]
    refine .tup (by simpa using hl) fun i c u hc hu => ?_
    simp only [List.getElem?_map, Option.map_eq_some_iff] at hc
    obtain ⟨c', hc', rfl⟩ := hc
    exact ih i c' u hc' hu
  | clo hl hr hl' hr' ih ih' =>
    simp only [AV.kill, killL_eq]
    refine .clo (by simpa using hl) (fun i c u hc hu => ?_) (by simpa using hl') (fun i c u hc hu => ?_)
    · simp only [List.getElem?_map, Option.map_eq_some_iff] at hc
      obtain ⟨c', hc', rfl⟩ := hc
      exact ih i c' u hc' hu
    · simp only [List.getElem?_map, Option.map_eq_some_iff] at hc
      obtain ⟨c', hc', rfl⟩ := hc
      exact ih' i c' u hc' hu

/-- carried on: what is not of 'id' is as it was in shape -/
theorem Rep.kill {η η' : Eta} {Z Z' : ZP} {w w' : World} (id : Nat) (hz : ∀ z b, Z z b → Z' z b ∧ w'.heap[b]? = w.heap[b]?)
    (hη : ∀ d, d ≠ id → η' d = η d) (hs : ∀ d b o, d ≠ id → η d = some (b, o) → Shape w w' b) {c : AV} {u : Value} (r : Rep η Z w c u) : Rep η' Z' w' (c.kill id) u := by
  induction r with
  | z h => exact .z (h.mono hz |>.kill id)
  | @own d k i n full b o cs e c A hη1 hb hA hfit hc hf =>
    simp only [AV.kill]
    split
    · exact .z (.unk _)
    · rename_i hd
      obtain ⟨cs', hb', hsz⟩ := hs d b o hd hη1 cs e hb
      exact .own (by rw [hη d hd]; exact hη1) hb' hA (by rw [hsz]; exact hfit) hc hf
  | @ownNil d k full hη1 =>
    simp only [AV.kill]
    split
    · exact .z (.unk _)
    · rename_i hd; exact .ownNil (by rw [hη d hd]; exact hη1)
  | @ptr d j b o hη1 =>
    simp only [AV.kill]
    split
    · exact .z (.unk _)
    · rename_i hd; exact .ptr (by rw [hη d hd]; exact hη1)
  | @elp d k i j b o hη1 =>
    simp only [AV.kill]
    split
    · exact .z (.unk _)
    · rename_i hd; exact .elp (by rw [hη d hd]; exact hη1)
  | agg hl hr ih =>
    simp only [AV.kill, killL_eq]
    refine .agg (by simpa using hl) fun i c u hc hu => ?_
    simp only [List.getElem?_map, Option.map_eq_some_iff] at hc
    obtain ⟨c', hc', rfl⟩ := hc
    exact ih i c' u hc' hu
  | tup hl hr ih =>
    simp only [AV.kill, killL_eq]
    refine .tup (by simpa using hl) fun i c u hc hu => ?_
    simp only [List.getElem?_map, Option.map_eq_some_iff] at hc
    obtain ⟨c', hc', rfl⟩ := hc
    exact ih i c' u hc' hu
  | clo hl hr hl' hr' ih ih' =>
    simp only [AV.kill, killL_eq]
    refine .clo (by simpa using hl) (fun i c u hc hu => ?_) (by simpa using hl') (fun i c u hc hu => ?_)
    · simp only [List.getElem?_map, Option.map_eq_some_iff] at hc
      obtain ⟨c', hc', rfl⟩ := hc
      exact ih i c' u hc' hu
    · simp only [List.getElem?_map, Option.map_eq_some_iff] at hc
      obtain ⟨c', hc', rfl⟩ := hc
      exact ih' i c' u hc' hu
theorem Rep.mono {η : Eta} {Z Z' : ZP} {w w' : World} (hz : ∀ z b, Z z b → Z' z b ∧ w'.heap[b]? = w.heap[b]?)
    (hs : ∀ d b o, η d = some (b, o) → Shape w w' b) {c : AV} {u : Value} (r : Rep η Z w c u) : Rep η Z' w' c u := by
  induction r with
  | z h => exact .z (h.mono hz)
  | @own d k i n full b o cs e c A hη1 hb hA hfit hc hf =>
    obtain ⟨cs', hb', hsz⟩ := hs d b o hη1 cs e hb
    exact .own hη1 hb' hA (by rw [hsz]; exact hfit) hc hf
  | ownNil hη1 => exact .ownNil hη1
  | ptr hη1 => exact .ptr hη1
  | elp hη1 => exact .elp hη1
  | agg hl hr ih => exact .agg hl ih
  | tup hl hr ih => exact .tup hl ih
  | clo hl hr hl' hr' ih ih' => exact .clo hl ih hl' ih'

/-! ### blocks and heaps of one's own -/
def BRep (η : Eta) (Z : ZP) (w : World) : Option (Nat × Nat) → Blk → Prop
  | some (b, o), .box cells => ∃ cs e, w.heap[b]? = some (.cells cs e (0, 0)) ∧ o + cells.length ≤ cs.size ∧ ∀ (j : Nat) (c : AV), cells[j]? = some c → ∃ u, cs[o + j]? = some u ∧ Rep η Z w c u
  | some (b, o), .arr k n f exact => ∃ cs e, w.heap[b]? = some (.cells cs e (0, 0)) ∧ o + n * k ≤ cs.size ∧ (exact = true → o + n * k = cs.size) ∧
      ∀ i, i < n → (f i).length = k ∧ ∀ (j : Nat) (c : AV), (f i)[j]? = some c → c.ret = true ∧ ∃ u, cs[o + i * k + j]? = some u ∧ isCell u = true ∧ RepZ Z w c u
  | none, .arr _ n _ _ => n = 0
  | none, .box _ => False
  | none, .lnk v c => Rep η Z w c v
  | some _, .lnk _ _ => False

/-- block b is one's own -/
def Owned (η : Eta) (h : Hp) (b : Nat) : Prop := ∃ id blk o, lk h id = some blk ∧ η id = some (b, o)

structure HRep (η : Eta) (Z : ZP) (w : World) (h : Hp) : Prop where
  rep : ∀ id blk, lk h id = some blk → BRep η Z w (η id) blk
  inj : ∀ id id' blk blk' b o o', lk h id = some blk → lk h id' = some blk' → η id = some (b, o) → η id' = some (b, o') → id = id'
  zlt : ∀ z b, Z z b → b < w.heap.size
  zno : ∀ z b, Z z b → ¬ Owned η h b

theorem BRep.lt {η : Eta} {Z : ZP} {w : World} {b o : Nat} {blk : Blk} (h : BRep η Z w (some (b, o)) blk) : b < w.heap.size := by
  cases blk with
  | box cells => obtain ⟨cs, e, hb, _⟩ := h; exact (Array.getElem?_eq_some_iff.1 hb).1
  | arr k n f ex => obtain ⟨cs, e, hb, _⟩ := h; exact (Array.getElem?_eq_some_iff.1 hb).1
  | lnk v c => exact h.elim

end Go.Am
