/-
  THE ABSTRACT MACHINE, part M: what is one's own is given up: nobody writes it any more.
-/
import Derived.Test.YtjmomolnhplokaaDoorAmL
namespace Go.Am
set_option linter.unusedVariables false
set_option linter.unusedSimpArgs false
mutual
def AV.frz (h : Hp) (id : Nat) : AV → AV
  | .own d k i n full => if d = id then (match lk h id with
    | some (.arr k2 n2 f2 _) => if k2 = k ∧ i + n ≤ n2 then .fz true full k n (fun r => f2 (i + r)) else .unk
    | _ => .unk) else .own d k i n full
  | .ptr d j => if d = id then .unk else .ptr d j
  | .elp d k i j => if d = id then .unk else .elp d k i j
  | .agg cs => .agg (frzL h id cs)
  | .tup cs => .tup (frzL h id cs)
  | .clo fn x y => .clo fn (frzL h id x) (frzL h id y)
  | .sc v => .sc v
  | .unk => .unk
  | .fz z full k n f => .fz z full k n f
  | .rowp r j => .rowp r j
def frzL (h : Hp) (id : Nat) : List AV → List AV
  | [] => []
  | c :: cs => c.frz h id :: frzL h id cs
end
theorem frzL_eq (h : Hp) (id : Nat) (l : List AV) : frzL h id l = l.map (AV.frz h id) := by
  induction l with
  | nil => simp [frzL]
  | cons c l ih => simp [frzL, ih]
def Blk.frz (h : Hp) (id : Nat) : Blk → Blk
  | .box cs => .box (frzL h id cs)
  | .arr k n f ex => .arr k n f ex
  | .lnk v c => .lnk v (c.frz h id)
def St.frz (id : Nat) (st : St) : St := { t := mp (AV.frz st.h id) st.t, h := mp (Blk.frz st.h id) (rmv st.h id) }
section
variable {P : Program} {G : Gl} {η η' : Eta} {Z Z' : ZP} {w w' : World} {bs : Base}

theorem RepZ.frz {h : Hp} {c : AV} {u : Value} (id : Nat) (r : RepZ Z w c u) : RepZ Z w (c.frz h id) u := by
  induction r with
  | sc v => simp only [AV.frz]; exact .sc v
  | unk v => simp only [AV.frz]; exact .unk v
  | fz us hc hf hn hq hr ih => simp only [AV.frz]; exact .fz us hc hf hn hq hr
  | rowp us hZ hc hr ih => simp only [AV.frz]; exact .rowp us hZ hc hr
  | agg hl hr ih =>
    simp only [AV.frz, frzL_eq]
    refine .agg (by simpa using hl) fun i c u hc hu => ?_
    simp only [List.getElem?_map, Option.map_eq_some_iff] at hc
    obtain ⟨c', hc', rfl⟩ := hc
    exact ih i c' u hc' hu
  | tup hl hr ih =>
    simp only [AV.frz, frzL_eq]
    refine .tup (by simpa using hl) fun i c u hc hu => ?_
    simp only [List.getElem?_map, Option.map_eq_some_iff] at hc
    obtain ⟨c', hc', rfl⟩ := hc
    exact ih i c' u hc' hu
  | clo hl hr hl' hr' ih ih' =>
    simp only [AV.frz, frzL_eq]
    refine .clo (by simpa using hl) (fun i c u hc hu => ?_) (by simpa using hl') (fun i c u hc hu => ?_)
    · simp only [List.getElem?_map, Option.map_eq_some_iff] at hc
      obtain ⟨c', hc', rfl⟩ := hc
      exact ih i c' u hc' hu
    · simp only [List.getElem?_map, Option.map_eq_some_iff] at hc
      obtain ⟨c', hc', rfl⟩ := hc
      exact ih' i c' u hc' hu

/-- a slice into a row of one's own, seen as one that is never written -/
theorem own_fz {h : Hp} {id k i n n2 : Nat} {f2 : Nat → List AV} {full ex : Bool} {u : Value} (hz : ∀ z b, Z z b → Z' z b) (hh : HRep η Z w h) (hl : lk h id = some (.arr k n2 f2 ex)) (hin : i + n ≤ n2) (zz : Bool) (hZ : ∀ b o, η id = some (b, o) → Z' zz b ∧ Z' false b)
    (hu : Rep η Z w (.own id k i n full) u) : RepZ Z' w (.fz zz full k n fun r => f2 (i + r)) u := by
  have hb := hh.rep id _ hl
  cases hu with
  | z hz => cases hz
  | @own _ _ _ _ _ b o cs e cap A hη hb1 hA hfit hcap hfull =>
    rw [hη] at hb
    obtain ⟨cs', e', hb', hlen, _, hc⟩ := hb
    rw [hb1] at hb'
    cases hb'
    refine .fz (fun x j => cs.getD (o + (i + x) * k + j) undef) hcap hfull (fun h0 => ⟨b, o + i * k, hA (by omega), (hZ b o hη).1, (hZ b o hη).2, fun x hx => ⟨(hc (i + x) (by omega)).1, fun j hj => ?_⟩⟩) (fun x hx j c hj => ((hc (i + x) (by omega)).2 j c hj).1) (fun x hx j c hj => ?_)
    · have hq := hc (i + x) (by omega)
      have hlt : j < (f2 (i + x)).length := by rw [hq.1]; exact hj
      obtain ⟨_, u, hu, hcl, _⟩ := hq.2 j _ (List.getElem?_eq_getElem hlt)
      have hg : cs.getD (o + (i + x) * k + j) undef = u := by rw [Array.getD_eq_getD_getElem?, hu]; rfl
      rw [hg]
      refine ⟨?_, hcl⟩
      have he : o + i * k + x * k + j = o + (i + x) * k + j := by rw [Nat.add_mul]; omega
      rw [he]
      simp [World.cell?, hb1, hu]
    · obtain ⟨_, u, hu, hcl, hr⟩ := (hc (i + x) (by omega)).2 j c hj
      have hg : cs.getD (o + (i + x) * k + j) undef = u := by rw [Array.getD_eq_getD_getElem?, hu]; rfl
      rw [hg]
      exact hr.mono fun z b hb => ⟨hz z b hb, rfl⟩
  | ownNil hη =>
    exact .fz (fun _ _ => undef) (Nat.le_refl _) (fun _ => rfl) (fun h => absurd rfl h) (fun x hx => by omega) (fun x hx => by omega)

theorem Rep.frz {h : Hp} {id : Nat} (hz : ∀ z b, Z z b → Z' z b) (hh : HRep η Z w h) (hZ : ∀ k n f ex b o, lk h id = some (.arr k n f ex) → η id = some (b, o) → ∀ z, Z' z b) {c : AV} {u : Value} (r : Rep η Z w c u) : Rep η Z' w (c.frz h id) u := by
  induction r with
  | z hr => exact .z ((hr.mono fun z b hb => ⟨hz z b hb, rfl⟩).frz id)
  | @own d k i n full b o cs e c A hη1 hb hA hfit hc hf =>
    simp only [AV.frz]
    split
    · rename_i hd
      subst hd
      split
      · rename_i k2 n2 f2 ex hl
        split
        · rename_i hk
          obtain ⟨rfl, hin⟩ := hk
          exact .z (own_fz hz hh hl hin true (fun b o he => ⟨hZ _ _ _ _ b o hl he true, hZ _ _ _ _ b o hl he false⟩) (.own hη1 hb hA hfit hc hf))
        · exact .z (.unk _)
      · exact .z (.unk _)
    · exact .own hη1 hb hA hfit hc hf
  | @ownNil d k full hη1 =>
    simp only [AV.frz]
    split
    · rename_i hd
      subst hd
      split
      · rename_i k2 n2 f2 ex hl
        split
        · rename_i hk
          obtain ⟨rfl, hin⟩ := hk
          exact .z (own_fz hz hh hl hin true (fun b o he => ⟨hZ _ _ _ _ b o hl he true, hZ _ _ _ _ b o hl he false⟩) (.ownNil hη1))
        · exact .z (.unk _)
      · exact .z (.unk _)
    · exact .ownNil hη1
  | @ptr d j b o hη1 =>
    simp only [AV.frz]
    split
    · exact .z (.unk _)
    · exact .ptr hη1
  | @elp d k i j b o hη1 =>
    simp only [AV.frz]
    split
    · exact .z (.unk _)
    · exact .elp hη1
  | agg hl hr ih =>
    simp only [AV.frz, frzL_eq]
    refine .agg (by simpa using hl) fun i c u hc hu => ?_
    simp only [List.getElem?_map, Option.map_eq_some_iff] at hc
    obtain ⟨c', hc', rfl⟩ := hc
    exact ih i c' u hc' hu
  | tup hl hr ih =>
    simp only [AV.frz, frzL_eq]
    refine .tup (by simpa using hl) fun i c u hc hu => ?_
    simp only [List.getElem?_map, Option.map_eq_some_iff] at hc
    obtain ⟨c', hc', rfl⟩ := hc
    exact ih i c' u hc' hu
  | clo hl hr hl' hr' ih ih' =>
    simp only [AV.frz, frzL_eq]
    refine .clo (by simpa using hl) (fun i c u hc hu => ?_) (by simpa using hl') (fun i c u hc hu => ?_)
    · simp only [List.getElem?_map, Option.map_eq_some_iff] at hc
      obtain ⟨c', hc', rfl⟩ := hc
      exact ih i c' u hc' hu
    · simp only [List.getElem?_map, Option.map_eq_some_iff] at hc
      obtain ⟨c', hc', rfl⟩ := hc
      exact ih' i c' u hc' hu

theorem lk_frzH {h g : Hp} {id d : Nat} {blk : Blk} (hl : lk (mp (Blk.frz g id) (rmv h id)) d = some blk) : d ≠ id ∧ ∃ b', lk h d = some b' ∧ blk = b'.frz g id := by
  rw [lk_mp, Option.map_eq_some_iff] at hl
  obtain ⟨b', hb', rfl⟩ := hl
  rw [lk_rmv] at hb'
  split at hb'
  · cases hb'
  · rename_i hne; exact ⟨fun e => hne e.symm, b', hb', rfl⟩

theorem SatH.frz {st : St} {a : Act} (id' : Nat) (hp : id' ∉ bs.pids) (H : SatH G bs η Z st a w) : ∃ Z', SatH G bs η Z' (st.frz id') a w ∧ ∀ z b, Z z b → Z' z b := by
  let Z' : ZP := fun z b => Z z b ∨ ∃ blk o, lk st.h id' = some blk ∧ η id' = some (b, o)
  have hz : ∀ z b, Z z b → Z' z b := fun z b hb => .inl hb
  have hZ : ∀ k n f ex b o, lk st.h id' = some (.arr k n f ex) → η id' = some (b, o) → ∀ z, Z' z b := fun k n f ex b o h1 h2 z => .inr ⟨_, o, h1, h2⟩
  refine ⟨Z', ⟨fun i c hc => ?_, ⟨fun d blk hd => ?_, fun d d' bk bk' b1 o1 o2 h1 h2 e1 e2 => ?_, fun z b hb => ?_, fun z b hb hown => ?_⟩, H.g.mono fun z b hb => ⟨hz z b hb, rfl⟩, H.fr, fun b hb => hb.imp (H.zs b) id, fun z b hb => hz z b (H.z0 z b hb), fun z b hb => ?_, fun d bk b o h1 h2 => ?_, H.fix⟩, hz⟩
  · simp only [St.frz] at hc
    rw [lk_mp, Option.map_eq_some_iff] at hc
    obtain ⟨c', hc', rfl⟩ := hc
    exact (H.t i c' hc').frz hz H.h hZ
  · obtain ⟨hne, b', hb', rfl⟩ := lk_frzH hd
    have := H.h.rep d b' hb'
    cases hbo : η d with
    | none =>
      rw [hbo] at this
      cases b' with
      | box cells => exact this
      | arr k n f ex => exact this
      | lnk v c => exact Rep.frz hz H.h hZ this
    | some p =>
      obtain ⟨b, o⟩ := p
      rw [hbo] at this
      cases b' with
      | box cells =>
        obtain ⟨cs, e, hb, hl, hc⟩ := this
        refine ⟨cs, e, hb, by simpa [frzL_eq] using hl, fun j c hj => ?_⟩
        rw [frzL_eq, List.getElem?_map, Option.map_eq_some_iff] at hj
        obtain ⟨c', hc', rfl⟩ := hj
        obtain ⟨u, hu, hr⟩ := hc j c' hc'
        exact ⟨u, hu, hr.frz hz H.h hZ⟩
      | arr k n f ex =>
        obtain ⟨cs, e, hb, hl, hx, hc⟩ := this
        refine ⟨cs, e, hb, hl, hx, fun i hi => ⟨(hc i hi).1, fun j c hj => ?_⟩⟩
        obtain ⟨hq, u, hu, hcl, hr⟩ := (hc i hi).2 j c hj
        exact ⟨hq, u, hu, hcl, hr.mono fun z b hb => ⟨hz z b hb, rfl⟩⟩
      | lnk v c => exact this.elim
  · obtain ⟨n1, k1, g1, _⟩ := lk_frzH h1
    obtain ⟨n2, k2, g2, _⟩ := lk_frzH h2
    exact H.h.inj d d' k1 k2 b1 o1 o2 g1 g2 e1 e2
  · rcases hb with hb | ⟨blk, o, h1, h2⟩
    · exact H.h.zlt z b hb
    · have := H.h.rep id' blk h1
      rw [h2] at this
      exact this.lt
  · obtain ⟨d, bk, o, h1, h2⟩ := hown
    obtain ⟨n1, k1, g1, _⟩ := lk_frzH h1
    rcases hb with hb | ⟨blk, o', h3, h4⟩
    · exact H.h.zno z b hb ⟨d, k1, o, g1, h2⟩
    · exact n1 (H.h.inj d id' k1 blk b o o' g1 h3 h2 h4)
  · rcases hb with hb | ⟨blk, o', h3, h4⟩
    · exact H.z1 z b hb
    · rcases H.own id' blk b o' h3 h4 with h | h
      · exact absurd (bs.hp _ _ h) hp
      · exact .inr h
  · obtain ⟨n1, k1, g1, _⟩ := lk_frzH h1
    exact H.own d k1 b o g1 h2
end
end Go.Am
