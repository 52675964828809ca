/-
  THE ABSTRACT MACHINE, part N: what is said of a function ('Ok'), and a call of it.
-/
import Derived.Test.YtjmomolnhplokaaDoorAmM
namespace Go.Am
set_option linter.unusedVariables false
set_option linter.unusedSimpArgs false

theorem Rep.strict {η : Eta} {Z : ZP} {w : World} {c : AV} {u : Value} (r : Rep η Z w c u) : c.ret = true → Rep η (fun _ => Z true) w c u := by
  induction r with
  | z h => intro hc; exact .z (h.strict hc)
  | own hη hb hA hfit hc hf => intro _; exact .own hη hb hA hfit hc hf
  | ownNil hη => intro _; exact .ownNil hη
  | ptr hη => intro _; exact .ptr hη
  | elp hη => intro _; exact .elp hη
  | agg hl hr ih =>
    intro hz
    simp only [AV.ret] at hz
    exact .agg hl fun i c u h1 h2 => ih i c u h1 h2 (retL_mem hz i c h1)
  | tup hl hr ih =>
    intro hz
    simp only [AV.ret] at hz
    exact .tup hl fun i c u h1 h2 => ih i c u h1 h2 (retL_mem hz i c h1)
  | clo hl hr hl' hr' ih ih' =>
    intro hz
    simp only [AV.ret, Bool.and_eq_true] at hz
    exact .clo hl (fun i c u h1 h2 => ih i c u h1 h2 (retL_mem hz.1 i c h1)) hl' fun i c u h1 h2 => ih' i c u h1 h2 (retL_mem hz.2 i c h1)

/-- a function with a body of its own -/
def isGo (P : Program) (g : FuncId) : Bool := match P.funcs[g]? with | some fn => !(fn.name == "runtime.NumGoroutine") && fn.body.isSome | none => false
/-- WHAT A FUNCTION DOES: called with such arguments, where such blocks are handed over, it returns, with a result and blocks that meet Q; nothing else that was there is written -/
def Ok (P : Program) (G : Gl) (g : FuncId) (args : List AV) (hin : Hp) (Q : AV → Hp → Prop) : Prop :=
  isGo P g = true ∧ ∀ (w : World) (η : Eta) (Z : ZP) (us : Array Value), Cells η Z w args us → HRep η Z w hin → GRep G Z w → (∀ b, Z true b → Z false b) →
    Calls P g us w fun e w' => ∃ r v hout η' T', e = .returned v ∧ Q r hout ∧ HRep η' (fun _ => T') w' hout ∧ Rep η' (fun _ => T') w' r v ∧ (∀ b, Z true b → T' b) ∧ (∀ b, T' b → Z true b ∨ w.heap.size ≤ b) ∧
      (∀ id cells blk, lk hin id = some (.box cells) → lk hout id = some blk → η' id = η id) ∧
      (∀ id blk b o, lk hout id = some blk → η' id = some (b, o) → (∃ blk' o', lk hin id = some blk' ∧ η id = some (b, o')) ∨ w.heap.size ≤ b) ∧ Fr (Owned η hin) w w'

theorem Ok.mono {P : Program} {G : Gl} {g : FuncId} {args : List AV} {hin : Hp} {Q Q' : AV → Hp → Prop} (h : Ok P G g args hin Q) (hq : ∀ r h, Q r h → Q' r h) : Ok P G g args hin Q' := by
  refine ⟨h.1, ?_⟩
  intro w η Z us h1 h2 h3 h4
  refine (h.2 w η Z us h1 h2 h3 h4).mono fun e w' ⟨r, v, hout, η', T', he, hQ, rest⟩ => ⟨r, v, hout, η', T', he, hq _ _ hQ, rest⟩

/-! ### several names killed at once -/
mutual
def AV.killS (ks : List Nat) : AV → AV
  | .own d k i n full => if ks.contains d then .unk else .own d k i n full
  | .ptr d j => if ks.contains d then .unk else .ptr d j
  | .elp d k i j => if ks.contains d then .unk else .elp d k i j
  | .agg cs => .agg (killSL ks cs)
  | .tup cs => .tup (killSL ks cs)
  | .clo fn x y => .clo fn (killSL ks x) (killSL ks y)
  | .sc v => .sc v
  | .unk => .unk
  | .fz z full k n f => .fz z full k n f
  | .rowp r j => .rowp r j
def killSL (ks : List Nat) : List AV → List AV
  | [] => []
  | c :: cs => c.killS ks :: killSL ks cs
end
theorem killSL_eq (ks : List Nat) (l : List AV) : killSL ks l = l.map (AV.killS ks) := by
  induction l with
  | nil => simp [killSL]
  | cons c l ih => simp [killSL, ih]
def Blk.killS (ks : List Nat) : Blk → Blk
  | .box cs => .box (killSL ks cs)
  | .arr k n f ex => .arr k n f ex
  | .lnk v c => .lnk v (c.killS ks)
def killT (ks : List Nat) (t : List (Nat × AV)) : List (Nat × AV) := match ks with | [] => t | _ :: _ => mp (AV.killS ks) t
def killH (ks : List Nat) (h : Hp) : Hp := match ks with | [] => h | _ :: _ => mp (Blk.killS ks) h
def rmvs {α : Type} (l : List (Nat × α)) : List Nat → List (Nat × α)
  | [] => l
  | i :: is => rmvs (rmv l i) is
theorem lk_rmvs {α : Type} (is : List Nat) : ∀ (l : List (Nat × α)) (b : Nat), lk (rmvs l is) b = if b ∈ is then none else lk l b := by
  induction is with
  | nil => intro l b; simp [rmvs]
  | cons i is ih =>
    intro l b
    simp only [rmvs, ih, lk_rmv, List.mem_cons]
    by_cases h1 : b ∈ is
    · simp [h1]
    · by_cases h2 : i = b
      · simp [h2]
      · simp [h1, h2, Ne.symm h2]
theorem lk_append {α : Type} (l l' : List (Nat × α)) (b : Nat) : lk (l ++ l') b = (lk l b).or (lk l' b) := by
  induction l with
  | nil => simp [lk]
  | cons p l ih =>
    obtain ⟨c, x⟩ := p
    simp only [List.cons_append, lk, ih]
    by_cases h : c = b <;> simp [h]
section
variable {P : Program} {G : Gl} {η η' : Eta} {Z Z' : ZP} {w w' : World} {bs : Base}

theorem RepZ.killS {c : AV} {u : Value} (ks : List Nat) (r : RepZ Z w c u) : RepZ Z w (c.killS ks) u := by
  induction r with
  | sc v => simp only [AV.killS]; exact .sc v
  | unk v => simp only [AV.killS]; exact .unk v
  | fz us hc hf hn hq hr ih => simp only [AV.killS]; exact .fz us hc hf hn hq hr
  | rowp us hZ hc hr ih => simp only [AV.killS]; exact .rowp us hZ hc hr
  | agg hl hr ih =>
    simp only [AV.killS, killSL_eq]
    refine .agg (by simpa using hl) fun i c u hc hu => ?_
    simp only [List.getElem?_map, Option.map_eq_some_iff] at hc
    obtain ⟨c', hc', rfl⟩ := hc
    exact ih i c' u hc' hu
  | tup hl hr ih =>
    simp only [AV.killS, killSL_eq]
    refine .tup (by simpa using hl) fun i c u hc hu => ?_
    simp only [List.getElem?_map, Option.map_eq_some_iff] at hc
    obtain ⟨c', hc', rfl⟩ := hc
    exact ih i c' u hc' hu
  | clo hl hr hl' hr' ih ih' =>
    simp only [AV.killS, killSL_eq]
    refine .clo (by simpa using hl) (fun i c u hc hu => ?_) (by simpa using hl') (fun i c u hc hu => ?_)
    · simp only [List.getElem?_map, Option.map_eq_some_iff] at hc
      obtain ⟨c', hc', rfl⟩ := hc
      exact ih i c' u hc' hu
    · simp only [List.getElem?_map, Option.map_eq_some_iff] at hc
      obtain ⟨c', hc', rfl⟩ := hc
      exact ih' i c' u hc' hu
theorem Rep.killS (ks : List Nat) (hz : ∀ z b, Z z b → Z' z b ∧ w'.heap[b]? = w.heap[b]?) (hη : ∀ d, d ∉ ks → η' d = η d) (hs : ∀ b, Shape w w' b) {c : AV} {u : Value} (r : Rep η Z w c u) : Rep η' Z' w' (c.killS ks) u := by
  induction r with
  | z h => exact .z (h.mono hz |>.killS ks)
  | @own d k i n full b o cs e c A hη1 hb hA hfit hc hf =>
    simp only [AV.killS]
    split
    · exact .z (.unk _)
    · rename_i hd
      have hd' : d ∉ ks := by simpa using hd
      obtain ⟨cs', hb', hsz⟩ := hs b cs e hb
      exact .own (by rw [hη d hd']; exact hη1) hb' hA (by rw [hsz]; exact hfit) hc hf
  | @ownNil d k full hη1 =>
    simp only [AV.killS]
    split
    · exact .z (.unk _)
    · rename_i hd; exact .ownNil (by rw [hη d (by simpa using hd)]; exact hη1)
  | @ptr d j b o hη1 =>
    simp only [AV.killS]
    split
    · exact .z (.unk _)
    · rename_i hd; exact .ptr (by rw [hη d (by simpa using hd)]; exact hη1)
  | @elp d k i j b o hη1 =>
    simp only [AV.killS]
    split
    · exact .z (.unk _)
    · rename_i hd; exact .elp (by rw [hη d (by simpa using hd)]; exact hη1)
  | agg hl hr ih =>
    simp only [AV.killS, killSL_eq]
    refine .agg (by simpa using hl) fun i c u hc hu => ?_
    simp only [List.getElem?_map, Option.map_eq_some_iff] at hc
    obtain ⟨c', hc', rfl⟩ := hc
    exact ih i c' u hc' hu
  | tup hl hr ih =>
    simp only [AV.killS, killSL_eq]
    refine .tup (by simpa using hl) fun i c u hc hu => ?_
    simp only [List.getElem?_map, Option.map_eq_some_iff] at hc
    obtain ⟨c', hc', rfl⟩ := hc
    exact ih i c' u hc' hu
  | clo hl hr hl' hr' ih ih' =>
    simp only [AV.killS, killSL_eq]
    refine .clo (by simpa using hl) (fun i c u hc hu => ?_) (by simpa using hl') (fun i c u hc hu => ?_)
    · simp only [List.getElem?_map, Option.map_eq_some_iff] at hc
      obtain ⟨c', hc', rfl⟩ := hc
      exact ih i c' u hc' hu
    · simp only [List.getElem?_map, Option.map_eq_some_iff] at hc
      obtain ⟨c', hc', rfl⟩ := hc
      exact ih' i c' u hc' hu
theorem TRep.killT {t : List (Nat × AV)} {a : Act} (ks : List Nat) (hz : ∀ z b, Z z b → Z' z b ∧ w'.heap[b]? = w.heap[b]?) (hη : ∀ d, d ∉ ks → η' d = η d) (hs : ∀ b, Shape w w' b) (h : TRep η Z w t a) :
    TRep η' Z' w' (killT ks t) a := by
  intro i c hc
  cases ks with
  | nil =>
    have : η' = η := funext fun d => hη d (by simp)
    subst this
    exact (h i c hc).mono hz fun d b o _ => hs b
  | cons k ks =>
    change lk (mp (AV.killS (k :: ks)) t) i = some c at hc
    rw [lk_mp, Option.map_eq_some_iff] at hc
    obtain ⟨c', hc', rfl⟩ := hc
    exact (h i c' hc').killS _ hz hη hs
theorem BRep.killS {bo : Option (Nat × Nat)} {blk : Blk} (ks : List Nat) (hz : ∀ z b, Z z b → Z' z b ∧ w'.heap[b]? = w.heap[b]?) (hη : ∀ d, d ∉ ks → η' d = η d) (hs : ∀ b, Shape w w' b) (he : ∀ b o, bo = some (b, o) → w'.heap[b]? = w.heap[b]?)
    (h : BRep η Z w bo blk) : BRep η' Z' w' bo (blk.killS ks) := by
  cases bo with
  | none => cases blk with
    | box cells => exact h
    | arr k n f ex => exact h
    | lnk v c => exact Rep.killS ks hz hη hs h
  | some p =>
    obtain ⟨b, o⟩ := p
    cases blk with
    | box cells =>
      obtain ⟨cs, e, hb, hl, hc⟩ := h
      refine ⟨cs, e, by rw [he b o rfl]; exact hb, by simpa [killSL_eq] using hl, fun j c hj => ?_⟩
      rw [killSL_eq, List.getElem?_map, Option.map_eq_some_iff] at hj
      obtain ⟨c', hc', rfl⟩ := hj
      obtain ⟨u, hu, hr⟩ := hc j c' hc'
      exact ⟨u, hu, hr.killS ks hz hη hs⟩
    | arr k n f ex =>
      obtain ⟨cs, e, hb, hl, hx, hc⟩ := h
      refine ⟨cs, e, by rw [he b o rfl]; exact hb, hl, hx, fun i hi => ⟨(hc i hi).1, fun j c hj => ?_⟩⟩
      obtain ⟨hq, u, hu, hcl, hr⟩ := (hc i hi).2 j c hj
      exact ⟨hq, u, hu, hcl, hr.mono hz⟩
    | lnk v c => exact h.elim
theorem lk_killH' {ks : List Nat} {h : Hp} {d : Nat} {blk : Blk} (hl : lk (killH ks h) d = some blk) : ∃ b', lk h d = some b' ∧ (blk = b'.killS ks ∨ (ks = [] ∧ blk = b')) := by
  cases ks with
  | nil => exact ⟨blk, hl, .inr ⟨rfl, rfl⟩⟩
  | cons k ks =>
    change lk (mp (Blk.killS (k :: ks)) h) d = some blk at hl
    rw [lk_mp, Option.map_eq_some_iff] at hl
    obtain ⟨b', hb', rfl⟩ := hl
    exact ⟨b', hb', .inl rfl⟩
theorem BRep.killH {bo : Option (Nat × Nat)} {blk blk' : Blk} (ks : List Nat) (hz : ∀ z b, Z z b → Z' z b ∧ w'.heap[b]? = w.heap[b]?) (hη : ∀ d, d ∉ ks → η' d = η d) (hs : ∀ b, Shape w w' b) (he : ∀ b o, bo = some (b, o) → w'.heap[b]? = w.heap[b]?)
    (h : BRep η Z w bo blk) (hk : blk' = blk.killS ks ∨ (ks = [] ∧ blk' = blk)) : BRep η' Z' w' bo blk' := by
  rcases hk with rfl | ⟨rfl, rfl⟩
  · exact h.killS ks hz hη hs he
  · have : η' = η := funext fun d => hη d (by simp)
    subst this
    exact h.mono hz (fun d b o _ => hs b) he

/-! ### the call -/
def sel (h : Hp) : List Nat → Hp
  | [] => []
  | i :: is => match lk h i with | some b => (i, b) :: sel h is | none => sel h is
theorem lk_sel (h : Hp) (is : List Nat) (b : Nat) : lk (sel h is) b = if b ∈ is then lk h b else none := by
  induction is with
  | nil => simp [sel, lk]
  | cons i is ih =>
    simp only [sel]
    cases hi : lk h i with
    | none =>
      simp only [ih, List.mem_cons]
      by_cases h1 : b ∈ is
      · simp [h1]
      · by_cases h2 : b = i
        · subst h2; simp [h1, hi]
        · simp [h1, h2]
    | some x =>
      simp only [lk, ih, List.mem_cons]
      by_cases h2 : i = b
      · subst h2; simp [hi]
      · by_cases h1 : b ∈ is
        · simp [h1, h2]
        · simp [h1, h2, Ne.symm h2]
/-- what a callee may read in a box that is the caller's own -/
def AV.pur (h : Hp) (is : List Nat) : AV → AV
  | .sc v => .sc v
  | .fz z full k n f => .fz z full k n f
  | .rowp r j => .rowp r j
  | .own d k i n full => if is.contains d then .unk else (match lk h d with
    | some (.arr k2 n2 f2 _) => if k2 = k ∧ i + n ≤ n2 then .fz false full k n (fun r => f2 (i + r)) else .unk
    | _ => .unk)
  | _ => .unk
def purL (h : Hp) (is : List Nat) : List AV → List AV
  | [] => []
  | c :: cs => c.pur h is :: purL h is cs
theorem purL_eq (h : Hp) (is : List Nat) (l : List AV) : purL h is l = l.map (AV.pur h is) := by
  induction l with
  | nil => simp [purL]
  | cons c l ih => simp [purL, ih]
mutual
/-- what a callee sees of what is the caller's own and is not handed over -/
def AV.lend (h : Hp) (is : List Nat) : AV → AV
  | .own d k i n full => if is.contains d then .own d k i n full else (match lk h d with
    | some (.arr k2 n2 f2 _) => if k2 = k ∧ i + n ≤ n2 then .fz false full k n (fun r => f2 (i + r)) else .unk
    | _ => .unk)
  | .ptr d j => if is.contains d then .ptr d j else (match lk h d with
    | some (.box cs) => .rowp (purL h is cs) j
    | _ => .unk)
  | .elp d k i j => if is.contains d then .elp d k i j else .unk
  | .agg cs => .agg (lendL h is cs)
  | .tup cs => .tup (lendL h is cs)
  | .clo fn x y => .clo fn (lendL h is x) (lendL h is y)
  | .sc v => .sc v
  | .unk => .unk
  | .fz z full k n f => .fz z full k n f
  | .rowp r j => .rowp r j
def lendL (h : Hp) (is : List Nat) : List AV → List AV
  | [] => []
  | c :: cs => c.lend h is :: lendL h is cs
end
theorem lendL_eq (h : Hp) (is : List Nat) (l : List AV) : lendL h is l = l.map (AV.lend h is) := by
  induction l with
  | nil => simp [lendL]
  | cons c l ih => simp [lendL, ih]
theorem RepZ.lend {h : Hp} {is : List Nat} {c : AV} {u : Value} (r : RepZ Z w c u) : RepZ Z w (c.lend h is) u := by
  induction r with
  | sc v => simp only [AV.lend]; exact .sc v
  | unk v => simp only [AV.lend]; exact .unk v
  | fz us hc hf hn hq hr ih => simp only [AV.lend]; exact .fz us hc hf hn hq hr
  | rowp us hZ hc hr ih => simp only [AV.lend]; exact .rowp us hZ hc hr
  | agg hl hr ih =>
    simp only [AV.lend, lendL_eq]
    refine .agg (by simpa using hl) fun i c u hc hu => ?_
    simp only [List.getElem?_map, Option.map_eq_some_iff] at hc
    obtain ⟨c', hc', rfl⟩ := hc
    exact ih i c' u hc' hu
  | tup hl hr ih =>
    simp only [AV.lend, lendL_eq]
    refine .tup (by simpa using hl) fun i c u hc hu => ?_
    simp only [List.getElem?_map, Option.map_eq_some_iff] at hc
    obtain ⟨c', hc', rfl⟩ := hc
    exact ih i c' u hc' hu
  | clo hl hr hl' hr' ih ih' =>
    simp only [AV.lend, lendL_eq]
    refine .clo (by simpa using hl) (fun i c u hc hu => ?_) (by simpa using hl') (fun i c u hc hu => ?_)
    · simp only [List.getElem?_map, Option.map_eq_some_iff] at hc
      obtain ⟨c', hc', rfl⟩ := hc
      exact ih i c' u hc' hu
    · simp only [List.getElem?_map, Option.map_eq_some_iff] at hc
      obtain ⟨c', hc', rfl⟩ := hc
      exact ih' i c' u hc' hu
theorem Rep.pur {h : Hp} {is : List Nat} (hz : ∀ z b, Z z b → Z' z b) (hh : HRep η Z w h) (hZ : ∀ d blk b o, d ∉ is → lk h d = some blk → η d = some (b, o) → Z' false b) {c : AV} {u : Value} (r : Rep η Z w c u) : RepZ Z' w (c.pur h is) u := by
  cases r with
  | z hr =>
    have hr' := hr.mono (Z' := Z') (w' := w) fun z b hb => ⟨hz z b hb, rfl⟩
    cases hr' with
    | sc => exact .sc _
    | unk => exact .unk _
    | fz us hc hf hn hq hr2 => exact .fz us hc hf hn hq hr2
    | rowp us h1 h2 h3 => exact .rowp us h1 h2 h3
    | agg => exact .unk _
    | tup => exact .unk _
    | clo => exact .unk _
  | @own d k i n full b o cs e c A hη1 hb hA hfit hc hf =>
    simp only [AV.pur]
    split
    · exact .unk _
    · rename_i hd
      split
      · rename_i k2 n2 f2 ex hl
        split
        · rename_i hk
          obtain ⟨rfl, hin⟩ := hk
          exact own_fz hz hh hl hin false (fun b o he => ⟨hZ d _ b o (by simpa using hd) hl he, hZ d _ b o (by simpa using hd) hl he⟩) (.own hη1 hb hA hfit hc hf)
        · exact .unk _
      · exact .unk _
  | @ownNil d k full hη1 =>
    simp only [AV.pur]
    split
    · exact .unk _
    · rename_i hd
      split
      · rename_i k2 n2 f2 ex hl
        split
        · rename_i hk
          obtain ⟨rfl, hin⟩ := hk
          exact own_fz hz hh hl hin false (fun b o he => ⟨hZ d _ b o (by simpa using hd) hl he, hZ d _ b o (by simpa using hd) hl he⟩) (.ownNil hη1)
        · exact .unk _
      · exact .unk _
  | ptr => exact .unk _
  | elp => exact .unk _
  | agg => exact .unk _
  | tup => exact .unk _
  | clo => exact .unk _
theorem Rep.lend {h : Hp} {is : List Nat} (hz : ∀ z b, Z z b → Z' z b) (hh : HRep η Z w h) (hZ : ∀ d blk b o, d ∉ is → lk h d = some blk → η d = some (b, o) → Z' false b) {c : AV} {u : Value} (r : Rep η Z w c u) : Rep η Z' w (c.lend h is) u := by
  induction r with
  | z hr => exact .z (hr.mono fun z b hb => ⟨hz z b hb, rfl⟩).lend
  | @own d k i n full b o cs e c A hη1 hb hA hfit hc hf =>
    simp only [AV.lend]
    split
    · exact .own hη1 hb hA hfit hc hf
    · rename_i hd
      split
      · rename_i k2 n2 f2 ex hl
        split
        · rename_i hk
          obtain ⟨rfl, hin⟩ := hk
          exact .z (own_fz hz hh hl hin false (fun b o he => ⟨hZ d _ b o (by simpa using hd) hl he, hZ d _ b o (by simpa using hd) hl he⟩) (.own hη1 hb hA hfit hc hf))
        · exact .z (.unk _)
      · exact .z (.unk _)
  | @ownNil d k full hη1 =>
    simp only [AV.lend]
    split
    · exact .ownNil hη1
    · rename_i hd
      split
      · rename_i k2 n2 f2 ex hl
        split
        · rename_i hk
          obtain ⟨rfl, hin⟩ := hk
          exact .z (own_fz hz hh hl hin false (fun b o he => ⟨hZ d _ b o (by simpa using hd) hl he, hZ d _ b o (by simpa using hd) hl he⟩) (.ownNil hη1))
        · exact .z (.unk _)
      · exact .z (.unk _)
  | @ptr d j b o hη1 =>
    simp only [AV.lend]
    split
    · exact .ptr hη1
    · rename_i hd
      split
      · rename_i cells hl
        have hb := hh.rep d _ hl
        rw [hη1] at hb
        obtain ⟨cs, e, hb1, hlen, hc⟩ := hb
        have hx : ∀ (i : Nat) (c : AV), cells[i]? = some c → RepZ Z' w (c.pur h is) (cs.getD (o + i) undef) := fun i c hi => by
          obtain ⟨u, hu, hr⟩ := hc i c hi
          rw [show cs.getD (o + i) undef = u by rw [Array.getD_eq_getD_getElem?, hu]; rfl]
          exact hr.pur hz hh hZ
        refine .z (.rowp (fun i => cs.getD (o + i) undef) (hZ d _ b o (by simpa using hd) hl hη1) (fun i hi => ?_) fun i c hi => ?_)
        · rw [purL_eq, List.length_map] at hi
          obtain ⟨u, hu, _⟩ := hc i _ (List.getElem?_eq_getElem hi)
          rw [show cs.getD (o + i) undef = u by rw [Array.getD_eq_getD_getElem?, hu]; rfl]
          simp [World.cell?, hb1, hu]
        · rw [purL_eq, List.getElem?_map, Option.map_eq_some_iff] at hi
          obtain ⟨c', hc', rfl⟩ := hi
          exact hx i c' hc'
      · exact .z (.unk _)
  | @elp d k i j b o hη1 =>
    simp only [AV.lend]
    split
    · exact .elp hη1
    · exact .z (.unk _)
  | agg hl hr ih =>
    simp only [AV.lend, lendL_eq]
    refine .agg (by simpa using hl) fun i c u hc hu => ?_
    simp only [List.getElem?_map, Option.map_eq_some_iff] at hc
    obtain ⟨c', hc', rfl⟩ := hc
    exact ih i c' u hc' hu
  | tup hl hr ih =>
    simp only [AV.lend, lendL_eq]
    refine .tup (by simpa using hl) fun i c u hc hu => ?_
    simp only [List.getElem?_map, Option.map_eq_some_iff] at hc
    obtain ⟨c', hc', rfl⟩ := hc
    exact ih i c' u hc' hu
  | clo hl hr hl' hr' ih ih' =>
    simp only [AV.lend, lendL_eq]
    refine .clo (by simpa using hl) (fun i c u hc hu => ?_) (by simpa using hl') (fun i c u hc hu => ?_)
    · simp only [List.getElem?_map, Option.map_eq_some_iff] at hc
      obtain ⟨c', hc', rfl⟩ := hc
      exact ih i c' u hc' hu
    · simp only [List.getElem?_map, Option.map_eq_some_iff] at hc
      obtain ⟨c', hc', rfl⟩ := hc
      exact ih' i c' u hc' hu
end
end Go.Am
