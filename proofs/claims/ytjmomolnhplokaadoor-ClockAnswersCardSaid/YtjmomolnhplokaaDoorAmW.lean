/-
  THE ABSTRACT MACHINE, part W: two names exchanged; loops by computation; how data are written.
-/
import Derived.Test.YtjmomolnhplokaaDoorAmV
namespace Go.Am
set_option linter.unusedVariables false
set_option linter.unusedSimpArgs false

/-! ### two names exchanged -/
def sw (a b x : Nat) : Nat := if x = a then b else if x = b then a else x
theorem sw_sw (a b x : Nat) : sw a b (sw a b x) = x := by
  unfold sw
  by_cases h1 : x = a <;> by_cases h2 : x = b <;> by_cases h3 : b = a <;> simp_all
theorem sw_inj {a b x y : Nat} (h : sw a b x = sw a b y) : x = y := by rw [← sw_sw a b x, h, sw_sw]
mutual
def AV.sw (a b : Nat) : AV → AV
  | .own d k i n full => .own (Go.Am.sw a b d) k i n full
  | .ptr d j => .ptr (Go.Am.sw a b d) j
  | .elp d k i j => .elp (Go.Am.sw a b d) k i j
  | .agg cs => .agg (swL a b cs)
  | .tup cs => .tup (swL a b cs)
  | .clo fn x y => .clo fn (swL a b x) (swL a b y)
  | .sc v => .sc v
  | .unk => .unk
  | .fz z full k n f => .fz z full k n f
  | .rowp r j => .rowp r j
def swL (a b : Nat) : List AV → List AV
  | [] => []
  | c :: cs => c.sw a b :: swL a b cs
end
def Blk.sw (a b : Nat) : Blk → Blk
  | .box cs => .box (swL a b cs)
  | .arr k n f ex => .arr k n f ex
  | .lnk v c => .lnk v (c.sw a b)
def swH (a b : Nat) : Hp → Hp
  | [] => []
  | (i, blk) :: h => (Go.Am.sw a b i, blk.sw a b) :: swH a b h
theorem swL_eq (a b : Nat) (l : List AV) : swL a b l = l.map (AV.sw a b) := by
  induction l with
  | nil => simp [swL]
  | cons c l ih => simp [swL, ih]
mutual
theorem AV.sw_sw (a b : Nat) : ∀ (c : AV), (c.sw a b).sw a b = c
  | .own d k i n full => by simp only [AV.sw, Go.Am.sw_sw]
  | .ptr d j => by simp only [AV.sw, Go.Am.sw_sw]
  | .elp d k i j => by simp only [AV.sw, Go.Am.sw_sw]
  | .agg cs => by simp only [AV.sw, swL_swL a b cs]
  | .tup cs => by simp only [AV.sw, swL_swL a b cs]
  | .clo fn x y => by simp only [AV.sw, swL_swL a b x, swL_swL a b y]
  | .sc v => by simp only [AV.sw]
  | .unk => by simp only [AV.sw]
  | .fz z full k n f => by simp only [AV.sw]
  | .rowp r j => by simp only [AV.sw]
theorem swL_swL (a b : Nat) : ∀ (l : List AV), swL a b (swL a b l) = l
  | [] => by simp only [swL]
  | c :: cs => by simp only [swL, AV.sw_sw a b c, swL_swL a b cs]
end
theorem Blk.sw_sw (a b : Nat) (blk : Blk) : (blk.sw a b).sw a b = blk := by cases blk <;> simp [Blk.sw, swL_swL, AV.sw_sw]
theorem swH_swH (a b : Nat) (h : Hp) : swH a b (swH a b h) = h := by
  induction h with
  | nil => rfl
  | cons p h ih => obtain ⟨i, blk⟩ := p; simp [swH, ih, Go.Am.sw_sw, Blk.sw_sw]
theorem lk_swH (a b : Nat) (h : Hp) (i : Nat) : lk (swH a b h) i = (lk h (Go.Am.sw a b i)).map (Blk.sw a b) := by
  induction h with
  | nil => rfl
  | cons p h ih =>
    obtain ⟨j, blk⟩ := p
    simp only [swH, lk, ih]
    by_cases e : Go.Am.sw a b j = i
    · subst e; simp [Go.Am.sw_sw]
    · have : ¬ j = Go.Am.sw a b i := fun e' => e (by rw [e', Go.Am.sw_sw])
      simp [e, this]
section
variable {P : Program} {G : Gl} {η η' : Eta} {Z Z' : ZP} {w w' : World} {bs : Base} {pids : List Nat} {nt : Nat}
theorem RepZ.sw (a b : Nat) {c : AV} {u : Value} (r : RepZ Z w c u) : RepZ Z w (c.sw a b) u := by
  induction r with
  | sc v => simp only [AV.sw]; exact .sc v
  | unk v => simp only [AV.sw]; exact .unk v
  | fz us hc hf hn hq hr ih => simp only [AV.sw]; exact .fz us hc hf hn hq hr
  | rowp us hZ hc hr ih => simp only [AV.sw]; exact .rowp us hZ hc hr
  | agg hl hr ih =>
    simp only [AV.sw, swL_eq]
    refine .agg (by simpa using hl) fun i c u hc hu => ?_
    simp only [List.getElem?_map, Option.map_eq_some_iff] at hc
    obtain ⟨c', hc', rfl⟩ := hc
    exact ih i c' u hc' hu
  | tup hl hr ih =>
    simp only [AV.sw, swL_eq]
    refine .tup (by simpa using hl) fun i c u hc hu => ?_
    simp only [List.getElem?_map, Option.map_eq_some_iff] at hc
    obtain ⟨c', hc', rfl⟩ := hc
    exact ih i c' u hc' hu
  | clo hl hr hl' hr' ih ih' =>
    simp only [AV.sw, swL_eq]
    refine .clo (by simpa using hl) (fun i c u hc hu => ?_) (by simpa using hl') (fun i c u hc hu => ?_)
    · simp only [List.getElem?_map, Option.map_eq_some_iff] at hc
      obtain ⟨c', hc', rfl⟩ := hc
      exact ih i c' u hc' hu
    · simp only [List.getElem?_map, Option.map_eq_some_iff] at hc
      obtain ⟨c', hc', rfl⟩ := hc
      exact ih' i c' u hc' hu
theorem Rep.sw (a b : Nat) (hη : ∀ d, η' (Go.Am.sw a b d) = η d) {c : AV} {u : Value} (r : Rep η Z w c u) : Rep η' Z w (c.sw a b) u := by
  induction r with
  | z h => exact .z (h.sw a b)
  | own h1 hb hA hfit hc hf => simp only [AV.sw]; exact .own ((hη _).trans h1) hb hA hfit hc hf
  | ownNil h1 => simp only [AV.sw]; exact .ownNil ((hη _).trans h1)
  | ptr h1 => simp only [AV.sw]; exact .ptr ((hη _).trans h1)
  | elp h1 => simp only [AV.sw]; exact .elp ((hη _).trans h1)
  | agg hl hr ih =>
    simp only [AV.sw, swL_eq]
    refine .agg (by simpa using hl) fun i c u hc hu => ?_
    simp only [List.getElem?_map, Option.map_eq_some_iff] at hc
    obtain ⟨c', hc', rfl⟩ := hc
    exact ih i c' u hc' hu
  | tup hl hr ih =>
    simp only [AV.sw, swL_eq]
    refine .tup (by simpa using hl) fun i c u hc hu => ?_
    simp only [List.getElem?_map, Option.map_eq_some_iff] at hc
    obtain ⟨c', hc', rfl⟩ := hc
    exact ih i c' u hc' hu
  | clo hl hr hl' hr' ih ih' =>
    simp only [AV.sw, swL_eq]
    refine .clo (by simpa using hl) (fun i c u hc hu => ?_) (by simpa using hl') (fun i c u hc hu => ?_)
    · simp only [List.getElem?_map, Option.map_eq_some_iff] at hc
      obtain ⟨c', hc', rfl⟩ := hc
      exact ih i c' u hc' hu
    · simp only [List.getElem?_map, Option.map_eq_some_iff] at hc
      obtain ⟨c', hc', rfl⟩ := hc
      exact ih' i c' u hc' hu
theorem BRep.sw (a b : Nat) (hη : ∀ d, η' (Go.Am.sw a b d) = η d) {bo : Option (Nat × Nat)} {blk : Blk} (h : BRep η Z w bo blk) : BRep η' Z w bo (blk.sw a b) := by
  cases bo with
  | none => cases blk with
    | box cells => exact h
    | arr k n f ex => exact h
    | lnk v c => exact Rep.sw a b hη h
  | some p =>
    obtain ⟨x, o⟩ := p
    cases blk with
    | box cells =>
      obtain ⟨cs, e, hb, hl, hc⟩ := h
      refine ⟨cs, e, hb, by simpa [swL_eq] using hl, fun j c hj => ?_⟩
      rw [swL_eq, List.getElem?_map, Option.map_eq_some_iff] at hj
      obtain ⟨c', hc', rfl⟩ := hj
      obtain ⟨u, hu, hr⟩ := hc j c' hc'
      exact ⟨u, hu, hr.sw a b hη⟩
    | arr k n f ex => exact h
    | lnk v c => exact h.elim
theorem Owned.sw {a b : Nat} (hη : ∀ d, η' (Go.Am.sw a b d) = η d) {h : Hp} {x : Nat} (ho : Owned η' (swH a b h) x) : Owned η h x := by
  obtain ⟨id, blk, o, h1, h2⟩ := ho
  rw [lk_swH, Option.map_eq_some_iff] at h1
  obtain ⟨b', hb', rfl⟩ := h1
  exact ⟨_, b', o, hb', by rw [← hη, Go.Am.sw_sw]; exact h2⟩
theorem HRep.sw (a b : Nat) (hη : ∀ d, η' (Go.Am.sw a b d) = η d) {h : Hp} (H : HRep η Z w h) : HRep η' Z w (swH a b h) := by
  have hη' : ∀ d, η' d = η (Go.Am.sw a b d) := fun d => by rw [← hη, Go.Am.sw_sw]
  refine ⟨fun id blk hl => ?_, fun x y bx bk c o o' h1 h2 h3 h4 => ?_, H.zlt, fun z c hc ho => H.zno z c hc (Owned.sw hη ho)⟩
  · rw [lk_swH, Option.map_eq_some_iff] at hl
    obtain ⟨b', hb', rfl⟩ := hl
    rw [hη']
    exact (H.rep _ b' hb').sw a b hη
  · rw [lk_swH, Option.map_eq_some_iff] at h1 h2
    obtain ⟨b1, g1, rfl⟩ := h1
    obtain ⟨b2, g2, rfl⟩ := h2
    rw [hη'] at h3 h4
    exact sw_inj (H.inj _ _ b1 b2 c o o' g1 g2 h3 h4)
theorem Cells.sw (a b : Nat) (hη : ∀ d, η' (Go.Am.sw a b d) = η d) {cs : List AV} {us : Array Value} (h : Cells η Z w cs us) : Cells η' Z w (swL a b cs) us := by
  refine ⟨by simpa [swL_eq] using h.1, fun i c u h1 h2 => ?_⟩
  rw [swL_eq, List.getElem?_map, Option.map_eq_some_iff] at h1
  obtain ⟨c', hc', rfl⟩ := h1
  exact (h.2 i c' u hc' h2).sw a b hη
/-- A CONTRACT UNDER OTHER NAMES -/
theorem Ok.sw (a b : Nat) {g : FuncId} {args : List AV} {hin : Hp} {Q : AV → Hp → Prop} (h : Ok P G g args hin Q) : Ok P G g (swL a b args) (swH a b hin) fun r h => ∃ r' h', Q r' h' ∧ r = r'.sw a b ∧ h = swH a b h' := by
  refine ⟨h.1, fun w η Z us hus hH hg hz => ?_⟩
  let η1 : Eta := fun d => η (Go.Am.sw a b d)
  have hη1 : ∀ d, η1 (Go.Am.sw a b d) = η d := fun d => by simp only [η1, Go.Am.sw_sw]
  have e1 := hus.sw a b hη1
  rw [swL_swL] at e1
  have e2 := hH.sw a b hη1
  rw [swH_swH] at e2
  refine (h.2 w η1 Z us e1 e2 hg hz).mono fun e w' ⟨r, v, hout, η', T', he, hQ, hH', hR, h1, h2, h3, h4, hF⟩ => ?_
  let η2 : Eta := fun d => η' (Go.Am.sw a b d)
  have hη2 : ∀ d, η2 (Go.Am.sw a b d) = η' d := fun d => by simp only [η2, Go.Am.sw_sw]
  refine ⟨r.sw a b, v, swH a b hout, η2, T', he, ⟨r, hout, hQ, rfl, rfl⟩, hH'.sw a b hη2, hR.sw a b hη2, h1, h2, fun id cells blk q1 q2 => ?_, fun id blk x o q1 q2 => ?_, hF.weaken fun x ⟨id, blk, o, q1, q2⟩ => ?_⟩
  · rw [lk_swH, Option.map_eq_some_iff] at q1 q2
    obtain ⟨b1, g1, g2⟩ := q1
    obtain ⟨b2, g3, rfl⟩ := q2
    cases b1 with
    | box cs =>
      have := h3 _ cs b2 g1 g3
      simp only [η2, η1, Go.Am.sw_sw] at this ⊢
      exact this
    | arr => cases g2
    | lnk => cases g2
  · rw [lk_swH, Option.map_eq_some_iff] at q1
    obtain ⟨b1, g1, rfl⟩ := q1
    rcases h4 _ b1 x o g1 q2 with ⟨blk', o', g2, g3⟩ | g2
    · simp only [η1, Go.Am.sw_sw] at g3
      exact .inl ⟨blk'.sw a b, o', by rw [lk_swH, g2]; rfl, g3⟩
    · exact .inr g2
  · simp only [η1] at q2
    exact ⟨_, blk.sw a b, o, by rw [lk_swH, Go.Am.sw_sw, q1]; rfl, q2⟩
/-- a loop; what it starts from and what a round leaves is compared by computation -/
theorem TC.loopE {α : Type} {qs : List Nat} {c : Code} {st : St} {K : Ex → St → Prop} (I : α → St) (R : α → Prop) (μ : α → Nat) (x0 : α) (hm : P.follows .mixedOrders = true) (hok : codeOK nt qs c = true) (h0 : entT st.t (I x0).t ∧ entH st.h (I x0).h) (hR : R x0)
    (round : ∀ x, R x → wp P G pids nt qs c (I x) fun e st' => match e with | .normal => ∃ y, R y ∧ μ y < μ x ∧ entT st'.t (I y).t ∧ entH st'.h (I y).h | e => K e st') : TC P G pids nt (.loop c) st K := by
  intro bs a w Q hp hpn hS hQ
  refine wp_loop_ghost (fun n a w => ∃ x, R x ∧ μ x = n ∧ Sat G bs nt (I x) a w) (μ x0) ⟨x0, hR, rfl, (Ent.of h0.1 h0.2).sat hp hS⟩ ?_
  intro n a w ⟨x, hx, hn, hSx⟩
  refine wp_sound hm c (I x) _ hok (round x hx) bs a w _ hp hpn hSx fun e st' a' w' h1 h2 => ?_
  cases e with
  | normal =>
    obtain ⟨y, hy, hlt, he1, he2⟩ := h1
    exact ⟨μ y, by omega, y, hy, rfl, (Ent.of he1 he2).sat hp h2⟩
  | exit id => exact hQ _ st' a' w' h1 h2
  | ret => exact hQ _ st' a' w' h1 h2
end
attribute [go_sem] AV.sw swL Blk.sw swH Go.Am.sw

/-! ### data -/
abbrev int (x : Int) : AV := .sc (.int .i64 x)
abbrev bool (b : Bool) : AV := .sc (.bool b)
/-- a slice of data -/
def sl {α : Type} [Inhabited α] (z : Bool) (k : Nat) (enc : α → List AV) (l : List α) : AV := .fz z false k l.length fun i => enc (l.getD i default)
/-- a slice of data without room behind it -/
def slF {α : Type} [Inhabited α] (z : Bool) (k : Nat) (enc : α → List AV) (l : List α) : AV := .fz z true k l.length fun i => enc (l.getD i default)
def encI (x : Int) : List AV := [int x]
abbrev ints (z : Bool) (l : List Int) : AV := sl z 1 encI l
attribute [go_sem] sl slF encI
theorem w64 {n : Int} (h1 : -9223372036854775808 ≤ n) (h2 : n ≤ 9223372036854775807) : IntKind.i64.wrap n = n := IntWalk.i64_in n ⟨by omega, by omega⟩
def zeroGo (z : List Value) : Nat → Nat → List AV
  | 0, _ => []
  | n + 1, j => .sc (z.getD (j % z.length) undef) :: zeroGo z n (j + 1)
theorem zeroGo_eq (z : List Value) : ∀ (n j : Nat), zeroGo z n j = (List.range' j n).map fun j => .sc (z.getD (j % z.length) undef)
  | 0, j => rfl
  | n + 1, j => by simp [zeroGo, zeroGo_eq z n (j + 1), List.range'_succ]
theorem zeroRow_eq (z : List Value) (n : Nat) : zeroRow z n = zeroGo z n 0 := by rw [zeroGo_eq, zeroRow, List.range_eq_range']
theorem getD_c0 {α : Type} (a d : α) (l : List α) : (a :: l).getD 0 d = a := rfl
theorem getD_cS {α : Type} (a d : α) (l : List α) (n : Nat) : (a :: l).getD (n + 1) d = l.getD n d := rfl
attribute [go_sem] zeroRow_eq zeroGo getD_c0 getD_cS
theorem take_getD {α : Type} {l : List α} {i : Nat} {d : α} (h : i < l.length) : l.take (i + 1) = l.take i ++ [l.getD i d] := by
  rw [List.take_succ_eq_append_getElem h, List.getD_eq_getElem?_getD, List.getElem?_eq_getElem h]; rfl
theorem getD_take {α : Type} {l : List α} {i r : Nat} {d : α} (h : r < i) : (l.take i).getD r d = l.getD r d := by
  simp [List.getD_eq_getElem?_getD, List.getElem?_take, h]
theorem getD_drop {α : Type} {l : List α} {i r : Nat} {d : α} : (l.drop i).getD r d = l.getD (i + r) d := by
  simp [List.getD_eq_getElem?_getD, List.getElem?_drop]
theorem getD_mem {α : Type} {l : List α} {i : Nat} {d : α} (h : i < l.length) : l.getD i d ∈ l := by
  rw [List.getD_eq_getElem?_getD, List.getElem?_eq_getElem h]; exact List.getElem_mem h
theorem take_all {α : Type} {l : List α} {i : Nat} (h : l.length ≤ i) : l.take i = l := List.take_of_length_le h
theorem appF_snoc {α : Type} [Inhabited α] (enc : α → List AV) (l : List α) (x : α) (row : List AV) (hr : row = enc x) (i : Nat) (hi : i < l.length + 1) : appF l.length (fun i => enc (l.getD i default)) (fun r => litF [row] r) i = enc ((l ++ [x]).getD i default) := by
  unfold appF
  by_cases h : i < l.length
  · simp only [h, if_true]
    rw [List.getD_eq_getElem?_getD, List.getD_eq_getElem?_getD, List.getElem?_append_left h]
  · simp only [h, if_false]
    have : i = l.length := by omega
    subst this
    simp [litF, hr]
theorem litF_map {α : Type} [Inhabited α] (enc : α → List AV) (l : List α) (i : Nat) (hi : i < l.length) : litF (l.map enc) i = enc (l.getD i default) := by
  unfold litF
  rw [List.getD_eq_getElem?_getD, List.getD_eq_getElem?_getD, List.getElem?_map, List.getElem?_eq_getElem hi]; rfl
attribute [go_sem] implies_true false_implies true_implies Bool.false_eq_true Bool.true_eq_false decide_eq_true_eq decide_eq_false_iff_not Bool.not_eq_true' Bool.not_eq_false' Value.int.injEq Value.bool.injEq AV.sc.injEq AV.tup.injEq AV.agg.injEq List.cons.injEq Prod.mk.injEq eq_self Nat.le_refl Int.toNat_zero Nat.sub_zero Nat.zero_add beq_iff_eq beq_eq_false_iff_ne ne_eq Int.toNat_natCast
end Go.Am
