/-
  THE ABSTRACT MACHINE, part V: regions that draw their order, whatever is in them: by a plan.
-/
import Derived.Test.YtjmomolnhplokaaDoorAmU
import Derived.OrdersHeld
import Derived.Deep.RegionHeld3
namespace Go.Am
set_option linter.unusedVariables false
set_option linter.unusedSimpArgs false

/-- a plan: what may be taken first ('q': it only computes and reads), or whatever may come up ('e': all that may, each with its plan) -/
inductive Pl where
  | done
  | q (i : Nat) (r : Pl)
  | e (l : List (Nat × Pl))
mutual
def Pl.ok (ops : Array Oper) (listed : Array Bool) : Pl → Bool
  | .done => (Region.ready .any ops listed).isEmpty
  | .q i r => (Region.ready .any ops listed).contains i && (Region.free .any ops listed i && Pl.ok ops (listed.setIfInBounds i true) r)
  | .e l => (plFst l == Region.ready .any ops listed) && (!l.isEmpty && plOks ops listed l)
def plOks (ops : Array Oper) (listed : Array Bool) : List (Nat × Pl) → Bool
  | [] => true
  | (i, r) :: l => Pl.ok ops (listed.setIfInBounds i true) r && plOks ops listed l
def plFst : List (Nat × Pl) → List Nat
  | [] => []
  | (i, _) :: l => i :: plFst l
end
mutual
def Pl.depth : Pl → Nat
  | .done => 0
  | .q _ r => r.depth + 1
  | .e l => plDepths l + 1
def plDepths : List (Nat × Pl) → Nat
  | [] => 0
  | (_, r) :: l => max r.depth (plDepths l)
end
def planOK (ops : Array Oper) (pl : Pl) : Bool := Region.noSelect ops && (decide (pl.depth ≤ ops.size) && pl.ok ops (Array.replicate ops.size false))
def allKeys (h : Hp) : List Nat → Bool
  | [] => true
  | i :: is => (lk h i).isSome && allKeys h is
theorem allKeys_mem {h : Hp} : ∀ {is : List Nat}, allKeys h is = true → ∀ i, i ∈ is → ∃ blk, lk h i = some blk
  | [], _, i, hi => by cases hi
  | x :: is, hk, i, hi => by
    simp only [allKeys, Bool.and_eq_true] at hk
    rcases List.mem_cons.1 hi with rfl | hi
    · exact Option.isSome_iff_exists.1 hk.1
    · exact allKeys_mem hk.2 i hi
/-- may this load be taken first? -/
def qLoad (G : Gl) (keep : List Nat) (fr : Bool) (st : St) (o : Oper) : Bool :=
  match o.op with
  | .load _ x => match (ev G st x).idOf with
    | some id => keep.contains id
    | none => fr
  | _ => true
def qStep (P : Program) (G : Gl) (keep : List Nat) (fr : Bool) (ops : Array Oper) (o : Oper) (st : St) (K : St → Prop) : Prop :=
  match evQ P G st o with
  | some (c, v) => c ∧ qLoad G keep fr st o = true ∧ K (st.set o.dst v)
  | none => False
mutual
def wpD (P : Program) (G : Gl) (pids keep : List Nat) (ops : Array Oper) (fr : Bool) : Pl → St → (St → Prop) → Prop
  | .done, st, K => K st
  | .q i r, st, K => match ops[i]? with
    | none => False
    | some o => match o.guard with
      | none => qStep P G keep fr ops o st fun st' => wpD P G pids keep ops fr r st' K
      | some (j, want) => gBr ops st j want fun st1 b => if b = want then qStep P G keep fr ops o st1 fun st' => wpD P G pids keep ops fr r st' K else wpD P G pids keep ops fr r (st1.set o.dst (.sc (.tuple #[]))) K
  | .e l, st, K => wpDL P G pids keep ops l st K
def wpDL (P : Program) (G : Gl) (pids keep : List Nat) (ops : Array Oper) : List (Nat × Pl) → St → (St → Prop) → Prop
  | [], st, K => True
  | (i, r) :: l, st, K => (match ops[i]? with
    | none => False
    | some o => match o.guard with
      | none => opStep P G pids keep o st fun st' => allKeys st'.h keep = true ∧ wpD P G pids keep ops false r st' K
      | some (j, want) => gBr ops st j want fun st1 b => if b = want then opStep P G pids keep o st1 fun st' => allKeys st'.h keep = true ∧ wpD P G pids keep ops false r st' K else wpD P G pids keep ops false r (st1.set o.dst (.sc (.tuple #[]))) K) ∧ wpDL P G pids keep ops l st K
end
section
variable {P : Program} {G : Gl} {w0 : World} {bs : Base} {pids keep : List Nat} {nt : Nat} {η0 : Eta} {Z0 : ZP} {h0 : Hp}

/-- what every operation of the region leaves as it was -/
def SK (keep : List Nat) (h0 : Hp) (η0 : Eta) (Z0 : ZP) (w0 w' : World) : Prop :=
  (∀ z b, Z0 z b → w'.heap[b]? = w0.heap[b]?) ∧ ∀ id, id ∈ keep → ∀ blk b o, lk h0 id = some blk → η0 id = some (b, o) → w'.heap[b]? = w0.heap[b]?
/-- the state in the region -/
structure InR (bs : Base) (G : Gl) (nt : Nat) (keep : List Nat) (h0 : Hp) (η0 : Eta) (Z0 : ZP) (w0 : World) (fr : Bool) (η : Eta) (Z : ZP) (st : St) (a : Act) (w : World) : Prop where
  s : SatH G bs η Z st a w
  d : a.defers = []
  n : a.tmps.size = nt
  kp : Kp keep h0 η0 Z0 w0 η Z w
  keys : ∀ id, id ∈ keep → ∃ blk, lk st.h id = some blk
  keys0 : ∀ id, id ∈ keep → ∃ blk, lk h0 id = some blk
  fr : fr = true → Z = Z0 ∧ w = w0
theorem InR.sk {fr : Bool} {η : Eta} {Z : ZP} {st : St} {a : Act} {w : World} (h : InR bs G nt keep h0 η0 Z0 w0 fr η Z st a w) : SK keep h0 η0 Z0 w0 w :=
  ⟨fun z b hb => (h.kp.z z b hb).2, fun id hid blk b o h1 h2 => (h.kp.k id hid).2 blk b o h1 h2⟩
theorem InR.put {fr : Bool} {η : Eta} {Z : ZP} {st : St} {a : Act} {w : World} (h : InR bs G nt keep h0 η0 Z0 w0 fr η Z st a w) {o : Oper} {v : AV} {u : Value} (hv : Rep η Z w v u) (ho : opOK nt o = true) :
    InR bs G nt keep h0 η0 Z0 w0 fr η Z (st.set o.dst v) (a.put o.dst u) w := by
  obtain ⟨h1, h2, h3⟩ := SatH.put h.d h.n h.s hv (by rw [h.n]; exact ho)
  refine ⟨h3, h1, h2, h.kp, fun id hid => ?_, h.keys0, h.fr⟩
  obtain ⟨blk, hb⟩ := h.keys id hid
  refine ⟨blk, ?_⟩
  cases hd : o.dst <;> exact hb
theorem InR.drop {fr : Bool} {η : Eta} {Z : ZP} {st : St} {a : Act} {w : World} (h : InR bs G nt keep h0 η0 Z0 w0 fr η Z st a w) : InR bs G nt keep h0 η0 Z0 w0 false η Z st a w :=
  ⟨h.s, h.d, h.n, h.kp, h.keys, h.keys0, fun e => by cases e⟩

theorem InR.same {fr : Bool} {η : Eta} {Z : ZP} {st st1 : St} {a : Act} {w : World} (h : InR bs G nt keep h0 η0 Z0 w0 fr η Z st a w) (e1 : ∀ i, lk st1.t i = lk st.t i) (e2 : st1.h = st.h) : InR bs G nt keep h0 η0 Z0 w0 fr η Z st1 a w :=
  ⟨h.s.same e1 e2, h.d, h.n, h.kp, by rw [e2]; exact h.keys, h.keys0, h.fr⟩
theorem qStep_yields {ops : Array Oper} {fr : Bool} {η : Eta} {Z : ZP} {st : St} {a : Act} {w : World} {o : Oper} {K : St → Prop} (h : InR bs G nt keep h0 η0 Z0 w0 fr η Z st a w) (hq : qStep P G keep fr ops o st K) :
    ∃ c v u, evQ P G st o = some (c, v) ∧ Rep η Z w v u ∧ (∀ w', SK keep h0 η0 Z0 w0 w' → (execOp a.eval o).run P w' = .ok (.value u) w') ∧ K (st.set o.dst v) := by
  unfold qStep at hq
  split at hq
  · rename_i c v hv
    obtain ⟨hc, hl, hK⟩ := hq
    obtain ⟨u, hu, hr | ⟨t, x, b, hop, hb, hr⟩⟩ := evQ_sound2 hv hc h.s.t h.s.h h.s.g
    · exact ⟨c, v, u, hv, hu, fun w' _ => hr w', hK⟩
    · refine ⟨c, v, u, hv, hu, fun w' hw' => hr w' ?_, hK⟩
      simp only [qLoad, hop] at hl
      rcases hb with ⟨hid, hZ⟩ | ⟨id, o', hid, hlk, hη⟩
      · rw [hid] at hl
        obtain ⟨e1, e2⟩ := h.fr hl
        subst e1 e2
        exact hw'.1 _ b hZ
      · rw [hid] at hl
        have hidk : id ∈ keep := by simpa using hl
        obtain ⟨blk0, hb0⟩ := h.keys0 id hidk
        have e1 := (h.kp.k id hidk).1
        rw [e1] at hη
        rw [hw'.2 id hidk blk0 b o' hb0 hη, (h.kp.k id hidk).2 blk0 b o' hb0 hη]
  · exact hq.elim

mutual
theorem wpD_sound {ops : Array Oper} {Q : Exit → Act → World → Prop} (hp : bs.pids = pids) (hpn : ∀ i, i ∈ pids → nt ≤ i) (hok : ops.toList.all (opOK nt) = true) (hns : Region.noSelect ops = true) {K : St → Prop}
    (hQ : ∀ st' a' w', K st' → Sat G bs nt st' a' w' → Q .normal a' w') (hnp : ∀ c a w, ¬ Q (.panic c) a w) : ∀ (pl : Pl) (fuel : Nat) (listed : Array Bool) (fr : Bool) (η : Eta) (Z : ZP) (st : St) (a : Act) (w : World),
    pl.depth ≤ fuel → pl.ok ops listed = true → wpD P G pids keep ops fr pl st K → InR bs G nt keep h0 η0 Z0 w0 fr η Z st a w → wpAnyH P .any ops Q (SK keep h0 η0 Z0 w0) fuel listed a w
  | .done, fuel, listed, fr, η, Z, st, a, w, hd, hpl, h, hI => by
    simp only [Pl.ok, List.isEmpty_iff] at hpl
    exact wpAnyH_done hpl (hQ st a w h ⟨hI.d, hI.n, η, Z, hI.s⟩) fuel
  | .q i r, fuel, listed, fr, η, Z, st, a, w, hd, hpl, h, hI => by
    simp only [Pl.ok, Bool.and_eq_true] at hpl
    obtain ⟨hr, hf, hpl⟩ := hpl
    simp only [Pl.depth] at hd
    obtain ⟨f, rfl⟩ : ∃ f, fuel = f + 1 := ⟨fuel - 1, by omega⟩
    simp only [wpD] at h
    split at h
    · exact h.elim
    · rename_i o ho
      have hoo : opOK nt o = true := List.all_eq_true.1 hok o (by rw [Array.mem_toList_iff]; exact Array.mem_of_getElem? ho)
      have go : ∀ {st : St}, InR bs G nt keep h0 η0 Z0 w0 fr η Z st a w → ∀ (h : qStep P G keep fr ops o st fun st' => wpD P G pids keep ops fr r st' K), Region.wanted o (yielded ops a.tmps) = true → wpAnyH P .any ops Q (SK keep h0 η0 Z0 w0) (f + 1) listed a w := fun {st} hI h hw => by
        obtain ⟨c, v, u, hv, hu, hrun, hK⟩ := qStep_yields hI h
        exact wpAnyH_take ho hns hf hr (fun c a w hq => (hnp c _ w hq).elim) (.inl ⟨hw, hrun⟩) hI.sk (wpD_sound hp hpn hok hns hQ hnp r f _ fr η Z _ _ w (by omega) hpl hK (hI.put hu hoo))
      split at h
      · rename_i hg
        exact go hI h (by simp [Region.wanted, hg])
      · rename_i j want hg
        obtain ⟨t, st1, hv, h, e1, e2⟩ := gBr_elim h
        have hy := wanted_of hg hI.s.t hv
        have hI1 := hI.same e1 e2
        by_cases htw : t = want
        · rw [if_pos htw] at h
          exact go hI1 h (by simp [hy, htw])
        · rw [if_neg htw] at h
          exact wpAnyH_take ho hns hf hr (fun c a w hq => (hnp c _ w hq).elim) (.inr ⟨by simp [hy, htw], rfl⟩) hI.sk
              (wpD_sound hp hpn hok hns hQ hnp r f _ fr η Z _ _ w (by omega) hpl h (hI1.put (v := .sc (.tuple #[])) (u := undef) (.z (.sc _)) hoo))
  | .e l, fuel, listed, fr, η, Z, st, a, w, hd, hpl, h, hI => by
    simp only [Pl.ok, Bool.and_eq_true, beq_iff_eq, Bool.not_eq_true', List.isEmpty_eq_false_iff] at hpl
    obtain ⟨hr, hne, hpl⟩ := hpl
    simp only [Pl.depth] at hd
    obtain ⟨f, rfl⟩ : ∃ f, fuel = f + 1 := ⟨fuel - 1, by omega⟩
    simp only [wpD] at h
    refine wpAnyH_all hr.symm (by cases l with | nil => exact absurd rfl hne | cons p l => obtain ⟨i, r⟩ := p; simp [plFst]) fun i hi => ?_
    exact wpDL_sound hp hpn hok hns hQ hnp l f listed η Z st a w (by omega) hpl h hI.drop i hi
theorem wpDL_sound {ops : Array Oper} {Q : Exit → Act → World → Prop} (hp : bs.pids = pids) (hpn : ∀ i, i ∈ pids → nt ≤ i) (hok : ops.toList.all (opOK nt) = true) (hns : Region.noSelect ops = true) {K : St → Prop}
    (hQ : ∀ st' a' w', K st' → Sat G bs nt st' a' w' → Q .normal a' w') (hnp : ∀ c a w, ¬ Q (.panic c) a w) : ∀ (l : List (Nat × Pl)) (f : Nat) (listed : Array Bool) (η : Eta) (Z : ZP) (st : St) (a : Act) (w : World),
    plDepths l ≤ f → plOks ops listed l = true → wpDL P G pids keep ops l st K → InR bs G nt keep h0 η0 Z0 w0 false η Z st a w → ∀ i, i ∈ plFst l →
    wpOp P ops Q i (fun a' w' => SK keep h0 η0 Z0 w0 w' ∧ wpAnyH P .any ops Q (SK keep h0 η0 Z0 w0) f (listed.setIfInBounds i true) a' w') a w
  | [], f, listed, η, Z, st, a, w, hd, hpl, h, hI, i, hi => by cases hi
  | (j, r) :: l, f, listed, η, Z, st, a, w, hd, hpl, h, hI, i, hi => by
    simp only [plOks, Bool.and_eq_true] at hpl
    simp only [plDepths] at hd
    simp only [wpDL] at h
    simp only [plFst, List.mem_cons] at hi
    by_cases hij : i = j
    · subst hij
      have h1 := h.1
      split at h1
      · exact h1.elim
      · rename_i o ho
        have hoo : opOK nt o = true := List.all_eq_true.1 hok o (by rw [Array.mem_toList_iff]; exact Array.mem_of_getElem? ho)
        have go : ∀ {st : St}, InR bs G nt keep h0 η0 Z0 w0 false η Z st a w → ∀ (h : opStep P G pids keep o st fun st' => allKeys st'.h keep = true ∧ wpD P G pids keep ops false r st' K), Region.wanted o (yielded ops a.tmps) = true →
            wpOp P ops Q i (fun a' w' => SK keep h0 η0 Z0 w0 w' ∧ wpAnyH P .any ops Q (SK keep h0 η0 Z0 w0) f (listed.setIfInBounds i true) a' w') a w := fun {st} hI h hw => by
          unfold wpOp
          rw [ho]
          simp only [hw, if_true]
          refine .inl (opStep_sound hp hpn h hI.d hI.n hI.s hoo fun st' a' w' η' Z' hh q1 q2 q3 q4 => ?_)
          have hkp : Kp keep h0 η0 Z0 w0 η' Z' w' := ⟨fun z b hb => ⟨(q4.z z b (hI.kp.z z b hb).1).1, ((q4.z z b (hI.kp.z z b hb).1).2).trans (hI.kp.z z b hb).2⟩, fun id hid => ⟨(q4.k id hid).1.trans (hI.kp.k id hid).1, fun blk b o h1 h2 => by
            obtain ⟨blk', hb'⟩ := hI.keys id hid
            exact ((q4.k id hid).2 blk' b o hb' (by rw [(hI.kp.k id hid).1]; exact h2)).trans ((hI.kp.k id hid).2 blk b o h1 h2)⟩⟩
          have hI' : InR bs G nt keep h0 η0 Z0 w0 false η' Z' st' a' w' := ⟨q3, q1, q2, hkp, allKeys_mem hh.1, hI.keys0, fun e => by cases e⟩
          exact ⟨hI'.sk, wpD_sound hp hpn hok hns hQ hnp r f _ false η' Z' st' a' w' (by omega) hpl.1 hh.2 hI'⟩
        split at h1
        · rename_i hg
          exact go hI h1 (by simp [Region.wanted, hg])
        · rename_i j' want hg
          obtain ⟨t, st1, hv, h1, e1, e2⟩ := gBr_elim h1
          have hy := wanted_of hg hI.s.t hv
          have hI1 := hI.same e1 e2
          by_cases htw : t = want
          · rw [if_pos htw] at h1
            exact go hI1 h1 (by simp [hy, htw])
          · rw [if_neg htw] at h1
            have hI' := hI1.put (o := o) (v := .sc (.tuple #[])) (u := undef) (.z (.sc _)) hoo
            unfold wpOp
            rw [ho]
            simp only [show Region.wanted o (yielded ops a.tmps) = false by simp [hy, htw], Bool.false_eq_true, if_false]
            exact ⟨hI'.sk, wpD_sound hp hpn hok hns hQ hnp r f _ false η Z _ _ w (by omega) hpl.1 h1 hI'⟩
    · exact wpDL_sound hp hpn hok hns hQ hnp l f listed η Z st a w (by omega) hpl.2 h.2 hI i (hi.resolve_left hij)
end

/-- A REGION THAT DRAWS ITS ORDER -/
theorem TC.draw {id : Nat} {ops : Array Oper} {st : St} {K : Ex → St → Prop} (keep : List Nat) (pl : Pl) (hm : P.follows .mixedOrders = true) (hok : ops.toList.all (opOK nt) = true) (hpl : planOK ops pl = true)
    (h : allKeys st.h keep = true ∧ wpD P G pids keep ops true pl st (K .normal)) : TC P G pids nt (.region id ops true) st K := by
  intro bs a w Q hp hpn hS hQ
  simp only [planOK, Bool.and_eq_true, decide_eq_true_eq] at hpl
  obtain ⟨hn, hs, η, Z, H⟩ := hS
  refine wp_region_noPanic (wp_region_held (S := SK keep st.h η Z { w with drawn := w.drawn + 1 }) hm ?_)
  have H' : SatH G bs η Z st a { w with drawn := w.drawn + 1 } := H.heap rfl rfl rfl
  refine wpD_sound (w0 := { w with drawn := w.drawn + 1 }) (η0 := η) (Z0 := Z) (h0 := st.h) hp hpn hok hpl.1 (K := K .normal) (fun st' a' w' h1 h2 => ?_) (fun c a w hq => ?_) pl ops.size _ true η Z st a _ hpl.2.1 hpl.2.2 h.2
    ⟨H', hn, hs, Kp.refl _ _ _ _ _, allKeys_mem h.1, allKeys_mem h.1, fun _ => ⟨rfl, rfl⟩⟩
  · exact hQ .normal st' a' w' h1 h2
  · exact hq
end
theorem qStep_cong {P : Program} {G : Gl} {keep : List Nat} {fr : Bool} {ops : Array Oper} {o : Oper} {st st' : St} {K : St → Prop} (h : st = st') : qStep P G keep fr ops o st K = qStep P G keep fr ops o st' K := by rw [h]
theorem wpD_cong {P : Program} {G : Gl} {pids keep : List Nat} {ops : Array Oper} {fr : Bool} {pl : Pl} {st st' : St} {K : St → Prop} (h : st = st') : wpD P G pids keep ops fr pl st K = wpD P G pids keep ops fr pl st' K := by rw [h]
theorem wpDL_cong {P : Program} {G : Gl} {pids keep : List Nat} {ops : Array Oper} {l : List (Nat × Pl)} {st st' : St} {K : St → Prop} (h : st = st') : wpDL P G pids keep ops l st K = wpDL P G pids keep ops l st' K := by rw [h]
attribute [congr] qStep_cong wpD_cong wpDL_cong
attribute [go_sem] wpD wpDL qStep qLoad allKeys AV.idOf tchE appId Option.toList_some Option.toList_none
end Go.Am
