/-
  THE ABSTRACT MACHINE, part O: a call is right.
-/
import Derived.Test.YtjmomolnhplokaaDoorAmN
namespace Go.Am
set_option linter.unusedVariables false
set_option linter.unusedSimpArgs false
mutual
/-- no other names than these -/
def AV.within (s : List Nat) : AV → Bool
  | .own d _ _ _ _ => s.contains d
  | .ptr d _ => s.contains d
  | .elp d _ _ _ => s.contains d
  | .agg cs => withinL s cs
  | .tup cs => withinL s cs
  | .clo _ x y => withinL s x && withinL s y
  | _ => true
def withinL (s : List Nat) : List AV → Bool
  | [] => true
  | c :: cs => c.within s && withinL s cs
end
theorem withinL_mem {s : List Nat} {l : List AV} (h : withinL s l = true) : ∀ (i : Nat) (c : AV), l[i]? = some c → c.within s = true := by
  induction l with
  | nil => intro i c hc; simp at hc
  | cons x l ih =>
    simp only [withinL, Bool.and_eq_true] at h
    intro i c hc
    cases i with
    | zero => simp at hc; subst hc; exact h.1
    | succ i => exact ih h.2 i c (by simpa using hc)
def Blk.within (s : List Nat) : Blk → Bool
  | .box cs => withinL s cs
  | .arr .. => true
  | .lnk _ c => c.within s
def hpWithin (s : List Nat) : Hp → Bool
  | [] => true
  | (i, b) :: h => s.contains i && b.within s && hpWithin s h
theorem hpWithin_lk {s : List Nat} {h : Hp} (hw : hpWithin s h = true) {x : Nat} {blk : Blk} (hl : lk h x = some blk) : x ∈ s ∧ blk.within s = true := by
  induction h with
  | nil => cases hl
  | cons p h ih =>
    obtain ⟨i, b⟩ := p
    simp only [hpWithin, Bool.and_eq_true] at hw
    simp only [lk] at hl
    split at hl
    · rename_i he; subst he; cases hl; exact ⟨by simpa using hw.1.1, hw.1.2⟩
    · exact ih hw.2 hl
def allIn (ks : List Nat) (hout : Hp) : List Nat → Bool
  | [] => true
  | i :: is => (ks.contains i || (lk hout i).isSome) && allIn ks hout is
theorem allIn_mem {ks : List Nat} {hout : Hp} {is : List Nat} (h : allIn ks hout is = true) {i : Nat} (hi : i ∈ is) : i ∈ ks ∨ ∃ blk, lk hout i = some blk := by
  induction is with
  | nil => cases hi
  | cons x is ih =>
    simp only [allIn, Bool.and_eq_true, Bool.or_eq_true] at h
    rcases List.mem_cons.1 hi with rfl | hi
    · exact h.1.imp (by simp) (fun hs => Option.isSome_iff_exists.1 hs)
    · exact ih h.2 hi
def okOut (is ks : List Nat) (r : AV) (hout : Hp) : Bool := r.within (is ++ ks) && (hpWithin (is ++ ks) hout && allIn ks hout is)
def callSt (st : St) (is ks : List Nat) (hout : Hp) (d : Option Nat) (r : AV) : St :=
  match d with
  | some d => { t := up (killT ks st.t) d r, h := hout ++ killH ks (rmvs (rmvs st.h is) ks) }
  | none => { t := killT ks st.t, h := hout ++ killH ks (rmvs (rmvs st.h is) ks) }
section
variable {P : Program} {G : Gl} {η η' : Eta} {Z Z' : ZP} {w w' : World} {bs : Base}

theorem Rep.within {s : List Nat} (hz : ∀ z b, Z z b → Z' z b) (hη : ∀ d, d ∈ s → η' d = η d) {c : AV} {u : Value} (r : Rep η Z w c u) : c.within s = true → Rep η' Z' w c u := by
  induction r with
  | z h => intro _; exact .z (h.mono fun z b hb => ⟨hz z b hb, rfl⟩)
  | own hη1 hb hA hfit hc hf => intro hs; exact .own (by rw [hη _ (by simpa [AV.within] using hs)]; exact hη1) hb hA hfit hc hf
  | ownNil hη1 => intro hs; exact .ownNil (by rw [hη _ (by simpa [AV.within] using hs)]; exact hη1)
  | ptr hη1 => intro hs; exact .ptr (by rw [hη _ (by simpa [AV.within] using hs)]; exact hη1)
  | elp hη1 => intro hs; exact .elp (by rw [hη _ (by simpa [AV.within] using hs)]; exact hη1)
  | agg hl hr ih =>
    intro hs
    simp only [AV.within] at hs
    exact .agg hl fun i c u h1 h2 => ih i c u h1 h2 (withinL_mem hs i c h1)
  | tup hl hr ih =>
    intro hs
    simp only [AV.within] at hs
    exact .tup hl fun i c u h1 h2 => ih i c u h1 h2 (withinL_mem hs i c h1)
  | clo hl hr hl' hr' ih ih' =>
    intro hs
    simp only [AV.within, Bool.and_eq_true] at hs
    exact .clo hl (fun i c u h1 h2 => ih i c u h1 h2 (withinL_mem hs.1 i c h1)) hl' fun i c u h1 h2 => ih' i c u h1 h2 (withinL_mem hs.2 i c h1)
theorem BRep.within {s : List Nat} (hz : ∀ z b, Z z b → Z' z b) (hη : ∀ d, d ∈ s → η' d = η d) {bo : Option (Nat × Nat)} {blk : Blk} (h : BRep η Z w bo blk) (hs : blk.within s = true) : BRep η' Z' w bo blk := by
  cases bo with
  | none => cases blk with
    | box cells => exact h
    | arr k n f ex => exact h
    | lnk v c => exact Rep.within hz hη h hs
  | some p =>
    obtain ⟨b, o⟩ := p
    cases blk with
    | box cells =>
      obtain ⟨cs, e, hb, hl, hc⟩ := h
      refine ⟨cs, e, hb, hl, fun j c hj => ?_⟩
      obtain ⟨u, hu, hr⟩ := hc j c hj
      exact ⟨u, hu, hr.within hz hη (withinL_mem hs j c hj)⟩
    | arr k n f ex =>
      obtain ⟨cs, e, hb, hl, hx, hc⟩ := h
      refine ⟨cs, e, hb, hl, hx, fun i hi => ⟨(hc i hi).1, fun j c hj => ?_⟩⟩
      obtain ⟨hq, u, hu, hcl, hr⟩ := (hc i hi).2 j c hj
      exact ⟨hq, u, hu, hcl, hr.mono fun z b hb => ⟨hz z b hb, rfl⟩⟩
    | lnk v c => exact h.elim

theorem isGo_some {g : FuncId} (h : isGo P g = true) : ∃ fn, P.funcs[g]? = some fn ∧ (fn.name == "runtime.NumGoroutine") = false ∧ fn.body.isNone = false := by
  unfold isGo at h
  split at h
  · rename_i fn hf
    simp only [Bool.and_eq_true, Bool.not_eq_true'] at h
    refine ⟨fn, hf, h.1, ?_⟩
    cases hb : fn.body <;> simp_all
  · cases h
theorem run_callFunc {g : FuncId} (h : isGo P g = true) (args : Array Value) (w : World) : (callFunc g args).run P w = .ok (.enter g args) w := by
  obtain ⟨fn, hf, hn, hb⟩ := isGo_some h
  have hn' : ¬ (fn.name = "runtime.NumGoroutine") := by simpa using hn
  have hb' : ¬ (fn.body = none) := by intro h; rw [h] at hb; cases hb
  simp [callFunc, hf, hn', hb']

/-- THE CALL -/
theorem call_sound {st : St} {a : Act} (H : SatH G bs η Z st a w) {g : FuncId} {is ks : List Nat} {args : List AV} {us : Array Value} {Q : AV → Hp → Prop} (hOk : Ok P G g (lendL st.h is args) (sel st.h is) Q)
    (hus : Cells η Z w args us) (hbox : ∀ i, i ∈ is → i ∉ ks → ∃ cells, lk st.h i = some (.box cells)) (hout : ∀ r h, Q r h → okOut is ks r h = true) (hks : ∀ i, i ∈ bs.pids → i ∉ ks) {keep : List Nat} (hkp : ∀ i, i ∈ keep → i ∉ is ++ ks) (d : Option Nat) (hd : ∀ x, d = some x → x < a.tmps.size) :
    Calls P g us w fun e w' => ∃ r v h, e = .returned v ∧ Q r h ∧ ∃ η'' Z'', SatH G bs η'' Z'' (callSt st is ks h d r) (a.put d v) w' ∧ Kp keep st.h η Z w η'' Z'' w' := by
  -- what the callee sees
  let Zc : ZP := fun z b => Z z b ∨ (z = false ∧ ∃ x blk o, x ∉ is ∧ lk st.h x = some blk ∧ η x = some (b, o))
  have hzc : ∀ z b, Z z b → Zc z b := fun z b hb => .inl hb
  have hlt : ∀ x bk b o, lk st.h x = some bk → η x = some (b, o) → b < w.heap.size := fun x bk b o h1 h2 => by
    have := H.h.rep x bk h1
    rw [h2] at this
    exact this.lt
  have hsel : ∀ x blk, lk (sel st.h is) x = some blk → x ∈ is ∧ lk st.h x = some blk := fun x blk hx => by
    rw [lk_sel] at hx
    split at hx
    · exact ⟨‹_›, hx⟩
    · cases hx
  have hargs : Cells η Zc w (lendL st.h is args) us := by
    refine ⟨by rw [lendL_eq]; simpa using hus.1, fun i c u h1 h2 => ?_⟩
    rw [lendL_eq, List.getElem?_map, Option.map_eq_some_iff] at h1
    obtain ⟨c', hc', rfl⟩ := h1
    exact (hus.2 i c' u hc' h2).lend hzc H.h fun x blk b o hx h1 h2 => .inr ⟨rfl, x, blk, o, hx, h1, h2⟩
  have hin : HRep η Zc w (sel st.h is) := by
    refine ⟨fun x blk hx => ?_, fun x x' bk bk' b o o' h1 h2 e1 e2 => H.h.inj x x' bk bk' b o o' (hsel x bk h1).2 (hsel x' bk' h2).2 e1 e2, fun z b hb => ?_, fun z b hb ho => ?_⟩
    · exact (H.h.rep x blk (hsel x blk hx).2).mono (fun z b hb => ⟨hzc z b hb, rfl⟩) (fun _ b _ _ => Shape.of_eq rfl) (fun _ _ _ => rfl)
    · rcases hb with hb | ⟨_, x, blk, o, hx, h1, h2⟩
      · exact H.h.zlt z b hb
      · exact hlt x blk b o h1 h2
    · obtain ⟨y, bk, o', h3, h4⟩ := ho
      obtain ⟨hy, h3⟩ := hsel y bk h3
      rcases hb with hb | ⟨_, x, blk, o, hx, h1, h2⟩
      · exact H.h.zno z b hb ⟨y, bk, o', h3, h4⟩
      · have := H.h.inj x y blk bk b o o' h1 h3 h2 h4
        subst this
        exact hx hy
  refine (hOk.2 w η Zc us hargs hin (H.g.mono fun z b hb => ⟨hzc z b hb, rfl⟩) fun b hb => ?_).mono fun e w' ⟨r, v, h, η', T', he, hQ, hH, hR, hT1, hT2, hbx, how, hF⟩ => ?_
  · rcases hb with hb | ⟨h, _⟩
    · exact .inl (H.zs b hb)
    · cases h
  · have hok := hout r h hQ
    simp only [okOut, Bool.and_eq_true] at hok
    obtain ⟨hok1, hok2, hok3⟩ := hok
    have hT1' : ∀ b, Z true b → T' b := fun b hb => hT1 b (hzc _ b hb)
    have hT2' : ∀ b, T' b → Z true b ∨ w.heap.size ≤ b := fun b hb => by
      rcases hT2 b hb with (h | ⟨h, _⟩) | h
      · exact .inl h
      · cases h
      · exact .inr h
    let S := is ++ ks
    let η'' : Eta := fun x => if x ∈ S then η' x else η x
    let Z'' : ZP := fun z b => Z z b ∨ T' b
    have hS : ∀ x, x ∈ S → η'' x = η' x := fun x hx => by simp only [η'']; rw [if_pos hx]
    have hnS : ∀ x, x ∉ S → η'' x = η x := fun x hx => by simp only [η'']; rw [if_neg hx]
    -- what stays is as it was
    have hkeep : ∀ x, x ∉ ks → η'' x = η x := fun x hx => by
      by_cases hxi : x ∈ is
      · rw [hS x (by simp [S, hxi])]
        obtain ⟨cells, hcl⟩ := hbox x hxi hx
        rcases allIn_mem hok3 hxi with h1 | ⟨blk, h1⟩
        · exact absurd h1 hx
        · exact hbx x cells blk (by rw [lk_sel, if_pos hxi]; exact hcl) h1
      · exact hnS x (by simp [S, hxi, hx])
    have hzold : ∀ z b, Z z b → w'.heap[b]? = w.heap[b]? := fun z b hb => hF.old b (H.h.zlt z b hb) fun ho => hin.zno z b (hzc z b hb) ho
    have hz : ∀ z b, Z z b → Z'' z b ∧ w'.heap[b]? = w.heap[b]? := fun z b hb => ⟨.inl hb, hzold z b hb⟩
    have hTz : ∀ z b, (fun _ => T' : ZP) z b → Z'' z b := fun z b hb => .inr hb
    -- the heap of one's own behind the call
    have hlkn : ∀ x blk, lk (h ++ killH ks (rmvs (rmvs st.h is) ks)) x = some blk → (lk h x = some blk) ∨ (lk h x = none ∧ x ∉ S ∧ ∃ b', lk st.h x = some b' ∧ (blk = b'.killS ks ∨ (ks = [] ∧ blk = b'))) := fun x blk hx => by
      rw [lk_append] at hx
      cases hq : lk h x with
      | some y => rw [hq] at hx; exact .inl hx
      | none =>
        rw [hq] at hx
        simp only [Option.none_or] at hx
        obtain ⟨b', hb', hk⟩ := lk_killH' hx
        rw [lk_rmvs] at hb'
        split at hb'
        · cases hb'
        · rename_i hnk
          rw [lk_rmvs] at hb'
          split at hb'
          · cases hb'
          · rename_i hni
            exact .inr ⟨rfl, by simp [S, hni, hnk], b', hb', hk⟩
    have hown : ∀ x blk b o, lk h x = some blk → η'' x = some (b, o) → (x ∈ is ∧ (∃ blk' o', lk st.h x = some blk' ∧ η x = some (b, o'))) ∨ w.heap.size ≤ b := fun x blk b o h1 h2 => by
      rw [hS x (hpWithin_lk hok2 h1).1] at h2
      rcases how x blk b o h1 h2 with ⟨blk', o', h3, h4⟩ | h3
      · exact .inl ⟨(hsel x blk' h3).1, blk', o', (hsel x blk' h3).2, h4⟩
      · exact .inr h3
    have hHn : HRep η'' Z'' w' (h ++ killH ks (rmvs (rmvs st.h is) ks)) := by
      refine ⟨fun x blk hx => ?_, fun x y bk bk' b o o' h1 h2 e1 e2 => ?_, fun z b hb => ?_, fun z b hb ho => ?_⟩
      · rcases hlkn x blk hx with h1 | ⟨_, h2, b', h3, h4⟩
        · obtain ⟨q1, q2⟩ := hpWithin_lk hok2 h1
          rw [hS x q1]
          exact (hH.rep x blk h1).within hTz (fun y hy => hS y hy) q2
        · have := H.h.rep x b' h3
          rw [hnS x h2]
          refine this.killH ks hz hkeep hF.shape (fun b o he => hF.old b (hlt x b' b o h3 he) fun ho => ?_) h4
          obtain ⟨y, bk, o', h5, h6⟩ := ho
          obtain ⟨hy, h5⟩ := hsel y bk h5
          have := H.h.inj x y b' bk b o o' h3 h5 he h6
          subst this
          exact h2 (by simp [S, hy])
      · rcases hlkn x bk h1 with g1 | ⟨_, n1, b1, g1, _⟩ <;> rcases hlkn y bk' h2 with g2 | ⟨_, n2, b2, g2, _⟩
        · rw [hS x (hpWithin_lk hok2 g1).1] at e1
          rw [hS y (hpWithin_lk hok2 g2).1] at e2
          exact hH.inj x y bk bk' b o o' g1 g2 e1 e2
        · rw [hnS y n2] at e2
          rcases hown x bk b o g1 e1 with ⟨hxi, blk', o1, h3, h4⟩ | h3
          · exact H.h.inj x y blk' b2 b o1 o' h3 g2 h4 e2
          · exact absurd (hlt y b2 b o' g2 e2) (by omega)
        · rw [hnS x n1] at e1
          rcases hown y bk' b o' g2 e2 with ⟨hxi, blk', o1, h3, h4⟩ | h3
          · exact H.h.inj x y b1 blk' b o o1 g1 h3 e1 h4
          · exact absurd (hlt x b1 b o g1 e1) (by omega)
        · rw [hnS x n1] at e1
          rw [hnS y n2] at e2
          exact H.h.inj x y b1 b2 b o o' g1 g2 e1 e2
      · rcases hb with hb | hb
        · exact Nat.lt_of_lt_of_le (H.h.zlt z b hb) hF.size
        · exact hH.zlt true b hb
      · obtain ⟨x, bk, o, h1, h2⟩ := ho
        rcases hlkn x bk h1 with g1 | ⟨_, n1, b1, g1, _⟩
        · rcases hb with hb | hb
          · rcases hown x bk b o g1 h2 with ⟨hxi, blk', o1, h3, h4⟩ | h3
            · exact H.h.zno z b hb ⟨x, blk', o1, h3, h4⟩
            · have := H.h.zlt z b hb; omega
          · rw [hS x (hpWithin_lk hok2 g1).1] at h2
            exact hH.zno true b hb ⟨x, bk, o, g1, h2⟩
        · rw [hnS x n1] at h2
          rcases hb with hb | hb
          · exact H.h.zno z b hb ⟨x, b1, o, g1, h2⟩
          · rcases hT2' b hb with hb | hb
            · exact H.h.zno true b hb ⟨x, b1, o, g1, h2⟩
            · have := hlt x b1 b o g1 h2; omega
    have hRn : Rep η'' Z'' w' r v := hR.within hTz (fun y hy => hS y hy) hok1
    have hTn : TRep η'' Z'' w' (killT ks st.t) a := H.t.killT ks hz hkeep hF.shape
    have hFn : Fr bs.B bs.w0 w' := H.fr.trans hF fun b hlt' ho => by
      obtain ⟨y, bk, o', h5, h6⟩ := ho
      obtain ⟨hy, h5⟩ := hsel y bk h5
      rcases H.own y bk b o' h5 h6 with h | h
      · exact ⟨y, h⟩
      · omega
    have hz1 : ∀ z b, Z'' z b → bs.Z0 z b ∨ bs.w0.heap.size ≤ b := fun z b hb => by
      rcases hb with hb | hb
      · exact H.z1 z b hb
      · rcases hT2' b hb with hb | hb
        · rcases H.z1 true b hb with h1 | h1
          · cases z
            · exact .inl (bs.zs b h1)
            · exact .inl h1
          · exact .inr h1
        · have := H.fr.size; exact .inr (by omega)
    have hownn : ∀ id blk b o, lk (h ++ killH ks (rmvs (rmvs st.h is) ks)) id = some blk → η'' id = some (b, o) → bs.B0 id b ∨ bs.w0.heap.size ≤ b := fun id blk b o h1 h2 => by
      rcases hlkn id blk h1 with g1 | ⟨_, n1, b1, g1, _⟩
      · rcases hown id blk b o g1 h2 with ⟨_, blk', o1, h3, h4⟩ | h3
        · exact H.own id blk' b o1 h3 h4
        · have := H.fr.size; exact .inr (by omega)
      · rw [hnS id n1] at h2
        exact H.own id b1 b o g1 h2
    have hKp : Kp keep st.h η Z w η'' Z'' w' := ⟨hz, fun id hid => ⟨hnS id (hkp id hid), fun bk b o h1 h2 => hF.old b (hlt id bk b o h1 h2) fun ho => by
      obtain ⟨y, bk', o', h5, h6⟩ := ho
      obtain ⟨hy, h5⟩ := hsel y bk' h5
      have := H.h.inj id y bk bk' b o o' h1 h5 h2 h6
      subst this
      exact hkp id hid (by simp [hy])⟩⟩
    refine ⟨r, v, h, he, hQ, η'', Z'', ?_, hKp⟩
    cases d with
    | none => exact ⟨hTn, hHn, H.g.mono hz, hFn, fun b hb => hb.imp (H.zs b) id, fun z b hb => .inl (H.z0 z b hb), hz1, hownn, fun id hid => (hkeep id (hks id hid)).trans (H.fix id hid)⟩
    | some d => exact ⟨hTn.set (hd d rfl) hRn, hHn, H.g.mono hz, hFn, fun b hb => hb.imp (H.zs b) id, fun z b hb => .inl (H.z0 z b hb), hz1, hownn, fun id hid => (hkeep id (hks id hid)).trans (H.fix id hid)⟩
end
end Go.Am
