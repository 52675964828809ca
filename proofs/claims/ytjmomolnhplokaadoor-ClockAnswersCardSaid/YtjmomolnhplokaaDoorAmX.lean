/-
  THE ABSTRACT MACHINE, part X: the same, with what follows kept aside ('fixed') until its state is known; loops, calls and contracts in these words.
-/
import Derived.Test.YtjmomolnhplokaaDoorAmW
namespace Go.Am
set_option linter.unusedVariables false
set_option linter.unusedSimpArgs false

class KO where
  k : St → Prop
class KE where
  k : Ex → St → Prop
class KG where
  k : St → Bool → Prop
theorem KO.k_mk (f : St → Prop) (s : St) : @KO.k ⟨f⟩ s = f s := rfl
theorem KE.k_mk (f : Ex → St → Prop) (e : Ex) (s : St) : @KE.k ⟨f⟩ e s = f e s := rfl
theorem KG.k_mk (f : St → Bool → Prop) (s : St) (b : Bool) : @KG.k ⟨f⟩ s b = f s b := rfl
section
variable (P : Program) (G : Gl) (pids : List Nat)
def TC' (nt : Nat) (c : Code) (st : St) [K : KE] : Prop := TC P G pids nt c st K.k
def CallW' (keep : List Nat) (g : FuncId) (args : List AV) (st : St) (d : Option Nat) [K : KO] : Prop := CallW P G pids keep g args st d K.k
def gBr' (ops : Array Oper) (st : St) (j : Nat) (want : Bool) [F : KG] : Prop := gBr ops st j want F.k
def plain' (keep : List Nat) (o : Oper) (st : St) [K : KO] : Prop := match evQ P G st o with
  | some (c, v) => c ∧ K.k (st.set o.dst v)
  | none => match evE P G pids st o with
    | some (c, st') => c ∧ noneIn keep (tchE G st o) = true ∧ K.k st'
    | none => False
def opStep' (keep : List Nat) (o : Oper) (st : St) [K : KO] : Prop := opStep P G pids keep o st K.k
def wpOps' (ops : Array Oper) (l : List Oper) (st : St) [K : KO] : Prop := wpOps P G pids ops l st K.k
def qPlain' (o : Oper) (st : St) [K : KO] : Prop := match evQ P G st o with
  | some (c, v) => c ∧ K.k (st.set o.dst v)
  | none => False
def wpQ' (ops : Array Oper) (l : List Oper) (st : St) [K : KO] : Prop := wpQ P G ops l st K.k
def wp' (nt : Nat) (qs : List Nat) (c : Code) (st : St) [K : KE] : Prop := wp P G pids nt qs c st K.k
def qStep' (keep : List Nat) (fr : Bool) (ops : Array Oper) (o : Oper) (st : St) [K : KO] : Prop := qStep P G keep fr ops o st K.k
def wpD' (keep : List Nat) (ops : Array Oper) (fr : Bool) (pl : Pl) (st : St) [K : KO] : Prop := wpD P G pids keep ops fr pl st K.k
def wpDL' (keep : List Nat) (ops : Array Oper) (l : List (Nat × Pl)) (st : St) [K : KO] : Prop := wpDL P G pids keep ops l st K.k
variable {P G pids} {nt : Nat} {qs keep : List Nat} {st : St} {ops : Array Oper} {K : KO} {KK : KE}
theorem gBr'_eq {j : Nat} {want : Bool} {F : KG} : @gBr' ops st j want F = match gVal ops st j with
  | .sc (.bool t) => if t = true then F.k (gSt ops st j true) true else F.k (gSt ops st j false) false
  | .sc (.tuple _) => F.k st (!want)
  | _ => False := rfl
theorem opStep'_eq {o : Oper} : @opStep' P G pids keep o st K = match o.op with
  | .call c => match c.callee with
    | .value f => match ev G st f with
      | .clo (.func g) first cap => CallW' P G pids keep g (first ++ c.args.toList.map (ev G st) ++ cap) st o.dst
      | _ => False
    | _ => plain' P G pids keep o st
  | _ => plain' P G pids keep o st := rfl
theorem wpOps'_nil : @wpOps' P G pids ops [] st K = K.k st := rfl
theorem wpOps'_cons {o : Oper} {l : List Oper} : @wpOps' P G pids ops (o :: l) st K = match o.guard with
    | none => @opStep' P G pids [] o st ⟨fun st' => wpOps' P G pids ops l st'⟩
    | some (j, want) => @gBr' ops st j want ⟨fun st1 b => if b = want then @opStep' P G pids [] o st1 ⟨fun st' => wpOps' P G pids ops l st'⟩ else wpOps' P G pids ops l (st1.set o.dst (.sc (.tuple #[])))⟩ := rfl
theorem wpQ'_nil : @wpQ' P G ops [] st K = K.k st := rfl
theorem wpQ'_cons {o : Oper} {l : List Oper} : @wpQ' P G ops (o :: l) st K = match o.guard with
    | none => @qPlain' P G o st ⟨fun st' => wpQ' P G ops l st'⟩
    | some (j, want) => @gBr' ops st j want ⟨fun st1 b => if b = want then @qPlain' P G o st1 ⟨fun st' => wpQ' P G ops l st'⟩ else wpQ' P G ops l (st1.set o.dst (.sc (.tuple #[])))⟩ := rfl
theorem wp'_skip : @wp' P G pids nt qs .skip st KK = KK.k .normal st := rfl
theorem wp'_region {id : Nat} {draw : Bool} : @wp' P G pids nt qs (.region id ops draw) st KK = match draw with
    | false => @wpOps' P G pids ops ops.toList st ⟨fun st' => KK.k .normal st'⟩
    | true => if id ∈ qs then @wpQ' P G ops ops.toList st ⟨fun st' => KK.k .normal st'⟩ else TC' P G pids nt (.region id ops true) st := rfl
theorem wp'_seq {a b : Code} : @wp' P G pids nt qs (.seq a b) st KK = @wp' P G pids nt qs a st ⟨fun e st' => match e with | .normal => wp' P G pids nt qs b st' | e => KK.k e st'⟩ := rfl
theorem wp'_cond {c : Operand} {x y : Code} : @wp' P G pids nt qs (.cond c x y) st KK = match ev G st c with
    | .sc (.bool t) => if t = true then wp' P G pids nt qs x st else wp' P G pids nt qs y st
    | _ => False := rfl
theorem wp'_block {id : Nat} {c : Code} : @wp' P G pids nt qs (.block id c) st KK = @wp' P G pids nt qs c st ⟨fun e st' => match e with | .exit id' => if id' = id then KK.k .normal st' else KK.k (.exit id') st' | e => KK.k e st'⟩ := rfl
theorem wp'_exit {id : Nat} : @wp' P G pids nt qs (.exit id) st KK = KK.k (.exit id) st := rfl
theorem wp'_ret : @wp' P G pids nt qs .ret st KK = KK.k .ret st := rfl
theorem wp'_loop {c : Code} : @wp' P G pids nt qs (.loop c) st KK = TC' P G pids nt (.loop c) st := rfl
theorem qStep'_eq {fr : Bool} {o : Oper} : @qStep' P G keep fr ops o st K = match evQ P G st o with
  | some (c, v) => c ∧ qLoad G keep fr st o = true ∧ K.k (st.set o.dst v)
  | none => False := rfl
theorem wpD'_done {fr : Bool} : @wpD' P G pids keep ops fr .done st K = K.k st := rfl
theorem wpD'_q {fr : Bool} {i : Nat} {r : Pl} : @wpD' P G pids keep ops fr (.q i r) st K = match ops[i]? with
    | none => False
    | some o => match o.guard with
      | none => @qStep' P G keep fr ops o st ⟨fun st' => wpD' P G pids keep ops fr r st'⟩
      | some (j, want) => @gBr' ops st j want ⟨fun st1 b => if b = want then @qStep' P G keep fr ops o st1 ⟨fun st' => wpD' P G pids keep ops fr r st'⟩ else wpD' P G pids keep ops fr r (st1.set o.dst (.sc (.tuple #[])))⟩ := rfl
theorem wpD'_e {fr : Bool} {l : List (Nat × Pl)} : @wpD' P G pids keep ops fr (.e l) st K = wpDL' P G pids keep ops l st := rfl
theorem wpDL'_nil : @wpDL' P G pids keep ops [] st K = True := rfl
theorem wpDL'_cons {i : Nat} {r : Pl} {l : List (Nat × Pl)} : @wpDL' P G pids keep ops ((i, r) :: l) st K = ((match ops[i]? with
    | none => False
    | some o => match o.guard with
      | none => @opStep' P G pids keep o st ⟨fun st' => allKeys st'.h keep = true ∧ wpD' P G pids keep ops false r st'⟩
      | some (j, want) => @gBr' ops st j want ⟨fun st1 b => if b = want then @opStep' P G pids keep o st1 ⟨fun st' => allKeys st'.h keep = true ∧ wpD' P G pids keep ops false r st'⟩ else wpD' P G pids keep ops false r (st1.set o.dst (.sc (.tuple #[])))⟩) ∧ wpDL' P G pids keep ops l st) := rfl
end
section
variable {P : Program} {G : Gl} {pids keep : List Nat} {nt : Nat}
/-- A CALL -/
theorem CallW'.of {g : FuncId} {args args' : List AV} {st : St} {d : Option Nat} {K : KO} {hin' : Hp} {Q : AV → Hp → Prop} (is ks : List Nat) (hOk : Ok P G g args' hin' Q)
    (hpre : lePL (lendL st.h is args) args' ∧ entH (sel st.h is) hin' ∧ (keysIn hin' (sel st.h is) && (noneIn pids ks && (noneIn keep (is ++ ks) && allBox st.h ks is))) = true)
    (hK : ∀ r h, Q r h → okOut is ks r h = true ∧ K.k (callSt st is ks h d r)) : CallW' P G pids keep g args st d := CallW.of is ks hOk hpre hK
/-- A LOOP -/
theorem TC'.loop {α : Type} (qs : List Nat) {c : Code} {st : St} {K : KE} (I : α → St) (R : α → Prop) (μ : α → Nat) (x0 : α) (hm : P.follows .mixedOrders = true) (hok : codeOK nt qs c = true) (h0 : entT st.t (I x0).t ∧ entH st.h (I x0).h) (hR : R x0)
    (round : ∀ x, R x → @wp' P G pids nt qs c (I x) ⟨fun e st' => match e with | .normal => ∃ y, R y ∧ μ y < μ x ∧ entT st'.t (I y).t ∧ entH st'.h (I y).h | e => K.k e st'⟩) : TC' P G pids nt (.loop c) st :=
  TC.loopE I R μ x0 hm hok h0 hR round
/-- A LOOP, what it leaves is compared by entailment -/
theorem TC'.loopEnt {α : Type} (qs : List Nat) {c : Code} {st : St} {K : KE} (I : α → St) (R : α → Prop) (μ : α → Nat) (x0 : α) (hm : P.follows .mixedOrders = true) (hok : codeOK nt qs c = true) (h0 : Ent G pids st (I x0)) (hR : R x0)
    (round : ∀ x, R x → @wp' P G pids nt qs c (I x) ⟨fun e st' => match e with | .normal => ∃ y, R y ∧ μ y < μ x ∧ Ent G pids st' (I y) | e => K.k e st'⟩) : TC' P G pids nt (.loop c) st :=
  TC.loop I R μ x0 hm hok h0 hR round
theorem TC'.draw {id : Nat} {ops : Array Oper} {st : St} {K : KE} (keep : List Nat) (pl : Pl) (hm : P.follows .mixedOrders = true) (hok : ops.toList.all (opOK nt) = true) (hpl : planOK ops pl = true)
    (h : allKeys st.h keep = true ∧ @wpD' P G pids keep ops true pl st ⟨fun st' => K.k .normal st'⟩) : TC' P G pids nt (.region id ops true) st := TC.draw keep pl hm hok hpl h
theorem TC'.ent {c : Code} {st st' : St} {K : KE} (he : Ent G pids st st') (h : TC' P G pids nt c st') : TC' P G pids nt c st := TC.ent he h
/-- A CONTRACT -/
theorem Ok.intro' {g : FuncId} {fn : Func} {c : Code} {args : List AV} {hin : Hp} {Q : AV → Hp → Prop} (pids news qs : List Nat) (nt : Nat) (rs : List ResultVar) (hm : P.follows .mixedOrders = true) (hf : P.funcs[g]? = some fn) (hgo : isGo P g = true) (hb : fn.body = some c) (hnt : fn.ntmps = nt) (hrs : fn.results.toList = rs) (hok : codeOK nt qs c = true)
    (hlen : args.length ≤ nt) (hids : ∀ id blk, lk hin id = some blk → id ∈ pids) (hpn : ∀ i, i ∈ pids → nt ≤ i)
    (h : @wp' P G pids nt qs c ⟨initT 0 args, hin⟩ ⟨fun e st => match e with | .exit _ => False | _ => RetW P pids news rs st Q⟩) : Ok P G g args hin Q :=
  Ok.intro pids news qs nt rs hm hf hgo hb hnt hrs hok hlen hids hpn h
end
theorem HRep.upBox {η : Eta} {Z : ZP} {w : World} {h : Hp} {b : Nat} {cs cs' : List AV} (H : HRep η Z w h) (hb : lk h b = some (.box cs)) (hl : cs'.length = cs.length) (hc : ∀ (j : Nat) (c' : AV), cs'[j]? = some c' → ∀ c u, cs[j]? = some c → Rep η Z w c u → Rep η Z w c' u) : HRep η Z w (up h b (.box cs')) := by
  have key : ∀ id blk, lk (up h b (.box cs')) id = some blk → ∃ b0, lk h id = some b0 := fun id blk hq => by
    rw [lk_up] at hq
    split at hq
    · rename_i e; subst e; exact ⟨_, hb⟩
    · exact ⟨_, hq⟩
  refine ⟨fun id blk hq => ?_, fun x y bx bk c o o' h1 h2 => ?_, H.zlt, fun z c hz ⟨x, bk, o, h1, h2⟩ => ?_⟩
  · rw [lk_up] at hq
    split at hq
    · rename_i e
      subst e
      cases hq
      have := H.rep _ _ hb
      cases he : η b with
      | none => rw [he] at this; exact this
      | some p =>
        obtain ⟨p, o⟩ := p
        rw [he] at this
        obtain ⟨us, e, g1, g2, g3⟩ := this
        refine ⟨us, e, g1, by omega, fun j c' hj => ?_⟩
        have hlt := (List.getElem?_eq_some_iff.1 hj).1
        obtain ⟨u, hu, hr⟩ := g3 j _ (List.getElem?_eq_getElem (by omega))
        exact ⟨u, hu, hc j c' hj _ u (List.getElem?_eq_getElem (by omega)) hr⟩
    · exact H.rep id blk hq
  · obtain ⟨b1, g1⟩ := key _ _ h1
    obtain ⟨b2, g2⟩ := key _ _ h2
    exact H.inj x y b1 b2 c o o' g1 g2
  · obtain ⟨b1, g1⟩ := key _ _ h1
    exact H.zno z c hz ⟨x, b1, o, g1, h2⟩
/-- a nil slice in a box, as a row of one's own -/
def St.virtB (st : St) (b j id k : Nat) : St := match lk (mp (Blk.kill id) (rmv st.h id)) b with
  | some (.box cs) => ⟨mp (AV.kill id) st.t, up (up (mp (Blk.kill id) (rmv st.h id)) id (.arr k 0 (fun _ => []) false)) b (.box (cs.set j (.own id k 0 0 false)))⟩
  | _ => st
theorem Ent.virtB {G : Gl} {pids : List Nat} {st : St} (b j id k : Nat) (hb : ∃ cs, lk (mp (Blk.kill id) (rmv st.h id)) b = some (.box cs) ∧ cs[j]? = some (.sc (.slice none 0 0))) (hid : pids.contains id = false) (hne : b ≠ id) : Ent G pids st (st.virtB b j id k) := by
  obtain ⟨cs, hb, hj⟩ := hb
  intro bs η Z a w hp H
  have hidp : id ∉ bs.pids := by rw [hp]; simpa using hid
  let η' : Eta := fun x => if x = id then none else η x
  have hη : ∀ x, x ≠ id → η' x = η x := fun x hx => by simp [η', hx]
  have hd : η' id = none := by simp [η']
  have hk : HRep η' Z w (mp (Blk.kill id) (rmv st.h id)) := H.h.kill id (fun _ _ _ => rfl) hη (fun b => Shape.of_eq rfl) (Nat.le_refl _) (fun _ _ _ _ _ _ _ => rfl)
  have hkn : lk (mp (Blk.kill id) (rmv st.h id)) id = none := by rw [lk_mp, lk_rmv, if_pos rfl]; rfl
  have ht : TRep η' Z w (mp (AV.kill id) st.t) a := H.t.kill id (fun z b hb => ⟨hb, rfl⟩) hη fun b => Shape.of_eq rfl
  have h1 := hk.add (blk := .arr k 0 (fun _ => []) false) hkn (by rw [hd]; rfl) (fun b o e => by rw [hd] at e; cases e)
  have h2 := h1.upBox (b := b) (cs := cs) (cs' := cs.set j (.own id k 0 0 false)) (by rw [lk_up, if_neg (Ne.symm hne)]; exact hb) (by simp) (fun i c' hi c u hc hr => by
    rw [List.getElem?_set] at hi
    split at hi
    · rename_i e
      subst e
      rw [hj] at hc
      cases hc
      split at hi
      · cases hi
        rw [hr.sc_inv]
        exact .ownNil hd
      · cases hi
    · rw [hi] at hc; cases hc; exact hr)
  have e : st.virtB b j id k = ⟨mp (AV.kill id) st.t, up (up (mp (Blk.kill id) (rmv st.h id)) id (.arr k 0 (fun _ => []) false)) b (.box (cs.set j (.own id k 0 0 false)))⟩ := by
    simp only [St.virtB, hb]
  rw [e]
  refine ⟨η', Z, ht, h2, H.g, H.fr, H.zs, H.z0, H.z1, fun x blk c o g1 g2 => ?_, fun x hx => (hη x fun e => by subst e; exact hidp hx).trans (H.fix x hx)⟩
  rw [lk_up] at g1
  by_cases hx : id = x
  · subst hx; rw [hd] at g2; cases g2
  · have : ∃ b1, lk (mp (Blk.kill id) (rmv st.h id)) x = some b1 := by
      split at g1
      · rename_i e; subst e; exact ⟨_, hb⟩
      · rw [lk_up, if_neg hx] at g1; exact ⟨_, g1⟩
    obtain ⟨b1, g3⟩ := this
    obtain ⟨n1, k1, g4, _⟩ := lk_killH g3
    rw [hη x n1] at g2
    exact H.own x k1 c o g4 g2
theorem Ok.weakH {P : Program} {G : Gl} {g : FuncId} {args : List AV} {hin : Hp} {Q Q' : AV → Hp → Prop} (h : Ok P G g args hin Q) (hq : ∀ r h, Q r h → ∃ r' h', leP r r' ∧ entH h h' ∧ Q' r' h') : Ok P G g args hin Q' := by
  refine ⟨h.1, fun w η Z us h1 h2 h3 h4 => ?_⟩
  refine (h.2 w η Z us h1 h2 h3 h4).mono fun e w' ⟨r, v, hout, η', T', he, hQ, a1, a2, a3, a4, a5, a6, a7⟩ => ?_
  obtain ⟨r', h', hr, hh, hQ'⟩ := hq r hout hQ
  refine ⟨r', v, h', η', T', he, hQ', a1.le hh, leP_le _ _ hr _ _ _ _ a2, a3, a4, fun id cells blk q1 q2 => ?_, fun id blk b o q1 q2 => ?_, a7⟩
  · obtain ⟨b0, g0, _⟩ := entH_lk hh q2
    exact a5 id cells b0 q1 g0
  · obtain ⟨b0, g0, _⟩ := entH_lk hh q1
    exact a6 id b0 b o g0 q2
theorem ite_intro {c : Prop} [Decidable c] {A B : Prop} (h1 : c → A) (h2 : ¬ c → B) : if c then A else B := by
  split
  · exact h1 (by assumption)
  · exact h2 (by assumption)
theorem Ok.weak {P : Program} {G : Gl} {g : FuncId} {args : List AV} {hin : Hp} {Q Q' : AV → Hp → Prop} (h : Ok P G g args hin Q) (hq : ∀ r h, Q r h → ∃ r', leP r r' ∧ Q' r' h) : Ok P G g args hin Q' := by
  refine ⟨h.1, fun w η Z us h1 h2 h3 h4 => ?_⟩
  refine (h.2 w η Z us h1 h2 h3 h4).mono fun e w' ⟨r, v, hout, η', T', he, hQ, a1, a2, rest⟩ => ?_
  obtain ⟨r', hr, hQ'⟩ := hq r hout hQ
  exact ⟨r', v, hout, η', T', he, hQ', a1, leP_le _ _ hr _ _ _ _ a2, rest⟩
attribute [go_sem] St.virtB
attribute [go_sem] KO.k_mk KE.k_mk KG.k_mk gBr'_eq opStep'_eq plain' wpOps'_nil wpOps'_cons qPlain' wpQ'_nil wpQ'_cons wp'_skip wp'_region wp'_seq wp'_cond wp'_block wp'_exit wp'_ret wp'_loop qStep'_eq wpD'_done wpD'_q wpD'_e wpDL'_nil wpDL'_cons
end Go.Am
