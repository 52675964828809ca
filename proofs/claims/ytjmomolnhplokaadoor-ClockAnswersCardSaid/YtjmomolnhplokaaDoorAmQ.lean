/-
  THE ABSTRACT MACHINE, part Q: from a body to what is said of its function.
-/
import Derived.Test.YtjmomolnhplokaaDoorAmP
namespace Go.Am
set_option linter.unusedVariables false
set_option linter.unusedSimpArgs false

def resList (P : Program) (st : St) : List ResultVar → Option (Prop × List AV)
  | [] => some (True, [])
  | .tmp t :: l => (resList P st l).map fun (c, vs) => (c, st.get t :: vs)
  | .cell a t :: l => (tyOf P t).bind fun ty => (rowOf st.h (st.get a)).bind fun (c1, r, j) => (partV ty r j).bind fun v => (resList P st l).map fun (c, vs) => (c1 ∧ c, v :: vs)
def packR : List AV → AV
  | [v] => v
  | vs => .tup vs
def outIds (pids : List Nat) : List Nat → List Nat
  | [] => []
  | i :: is => bif pids.contains i then outIds pids is else i :: outIds pids is
def hpRet : Hp → Bool
  | [] => true
  | (_, .box cs) :: h => retL cs && hpRet h
  | (_, .arr ..) :: h => hpRet h
  | (_, .lnk ..) :: h => false
/-- what a return gives -/
def RetW (P : Program) (pids news : List Nat) (rs : List ResultVar) (st : St) (Q : AV → Hp → Prop) : Prop :=
  match resList P st rs with
  | none => False
  | some (c, vs) => c ∧ noneIn pids (outIds pids (ownIdsL vs)) = true ∧ match resList P (frzAll (outIds pids (ownIdsL vs)) st) rs with
    | none => False
    | some (c1, vs1) => c1 ∧ ((packR vs1).ret && ((packR vs1).within (pids ++ news) && (hpWithin (pids ++ news) (sel (frzAll (outIds pids (ownIdsL vs)) st).h (pids ++ news)) && hpRet (sel (frzAll (outIds pids (ownIdsL vs)) st).h (pids ++ news))))) = true ∧
        Q (packR vs1) (sel (frzAll (outIds pids (ownIdsL vs)) st).h (pids ++ news))
def initT : Nat → List AV → List (Nat × AV)
  | _, [] => []
  | k, c :: cs => (k, c) :: initT (k + 1) cs
theorem lk_initT : ∀ (cs : List AV) (k i : Nat) (c : AV), lk (initT k cs) i = some c → k ≤ i ∧ cs[i - k]? = some c
  | [], k, i, c, h => by cases h
  | x :: cs, k, i, c, h => by
    simp only [initT, lk] at h
    split at h
    · rename_i he; subst he; cases h; simp
    · rename_i he
      obtain ⟨h1, h2⟩ := lk_initT cs (k + 1) i c h
      refine ⟨by omega, ?_⟩
      rw [show i - k = (i - (k + 1)) + 1 from by omega, List.getElem?_cons_succ]
      exact h2
section
variable {P : Program} {G : Gl} {η η' : Eta} {Z Z' : ZP} {w w' : World} {bs : Base} {pids : List Nat} {nt : Nat}

theorem resList_run {st : St} {a : Act} (ht : TRep η Z w st.t a) (hh : HRep η Z w st.h) : ∀ (rs : List ResultVar) (c : Prop) (vs : List AV), resList P st rs = some (c, vs) → c →
    ∃ us : List Value, (rs.mapM (fun
      | .tmp t => pure (a.tmps.getD t undef)
      | .cell b t => do loadVar t (← asAddr (a.tmps.getD b undef))) : Sem (List Value)).run P w = .ok us w ∧ us.length = vs.length ∧ ∀ (i : Nat) (c : AV) (u : Value), vs[i]? = some c → us[i]? = some u → Rep η Z w c u := by
  have hget : ∀ t, Rep η Z w (st.get t) (a.tmps.getD t undef) := fun t => by
    simp only [St.get]
    cases h : lk st.t t with
    | none => exact .z (.unk _)
    | some c => exact ht t c h
  intro rs
  induction rs with
  | nil =>
    intro c vs h hc
    simp only [resList, Option.some.injEq, Prod.mk.injEq] at h
    obtain ⟨_, rfl⟩ := h
    exact ⟨[], by simp, rfl, fun i c u h => by simp at h⟩
  | cons r rs ih =>
    intro c vs h hc
    cases r with
    | tmp t =>
      simp only [resList, Option.map_eq_some_iff, Prod.mk.injEq] at h
      obtain ⟨⟨c1, vs1⟩, h1, rfl, rfl⟩ := h
      obtain ⟨us, hu, hl, hr⟩ := ih c1 vs1 h1 hc
      refine ⟨a.tmps.getD t undef :: us, ?_, by simp [hl], fun i c u h1 h2 => ?_⟩
      · simp only [List.mapM_cons, Sem.run_bind, Sem.run_pure, Result.andThen_ok, hu]
      · cases i with
        | zero => simp at h1 h2; subst h1 h2; have := hget t; simpa using this
        | succ i => exact hr i c u (by simpa using h1) (by simpa using h2)
    | cell b t =>
      simp only [resList, Option.bind_eq_some_iff, Option.map_eq_some_iff, Prod.mk.injEq] at h
      obtain ⟨ty, hty, ⟨c1, r, j⟩, hro, v, hp, ⟨c2, vs1⟩, h1, rfl, rfl⟩ := h
      obtain ⟨us, hu, hl, hr⟩ := ih c2 vs1 h1 hc.2
      obtain ⟨b', x', ws, hux, hcell, hrep, hb⟩ := rowOf_rep hro hc.1 (hget b) hh
      obtain ⟨u, huv, hrun⟩ := run_loadVar (j := j) hty hp hcell hrep
      refine ⟨u :: us, ?_, by simp [hl], fun i c u' h1 h2 => ?_⟩
      · have hA : (asAddr (a.tmps.getD b undef)).run P w = .ok ⟨b', x' + j, none⟩ w := by rw [hux]; rfl
        simp only [List.mapM_cons, Sem.run_bind, hA, Sem.run_pure, Result.andThen_ok, hrun w rfl, hu]
      · cases i with
        | zero => simp at h1 h2; subst h1 h2; exact huv
        | succ i => exact hr i c u' (by simpa using h1) (by simpa using h2)
theorem results_run {fn : Func} {st : St} {a : Act} (ht : TRep η Z w st.t a) (hh : HRep η Z w st.h) {c : Prop} {vs : List AV} (h : resList P st fn.results.toList = some (c, vs)) (hc : c) :
    ∃ v, (results fn a.tmps).run P w = .ok v w ∧ Rep η Z w (packR vs) v := by
  obtain ⟨us, hu, hl, hr⟩ := resList_run ht hh _ c vs h hc
  have hm : (fn.results.mapM (fun
      | .tmp t => pure (a.tmps.getD t undef)
      | .cell b t => do loadVar t (← asAddr (a.tmps.getD b undef))) : Sem (Array Value)).run P w = .ok us.toArray w := by
    rw [← Array.toArray_toList (xs := fn.results), List.mapM_toArray]
    simp only [Sem.run_map]
    rw [hu]
    rfl
  have key : results fn a.tmps = (do
      let vs ← (fn.results.mapM (fun
        | .tmp t => pure (a.tmps.getD t undef)
        | .cell b t => do loadVar t (← asAddr (a.tmps.getD b undef))) : Sem (Array Value))
      pure (if h : vs.size = 1 then vs[0] else .tuple vs)) := rfl
  rw [key]
  simp only [Sem.run_bind, hm, Result.andThen_ok, Sem.run_pure]
  refine ⟨_, rfl, ?_⟩
  cases vs with
  | nil =>
    cases us with
    | nil => exact .tup (by simp) (fun i c u h => by simp at h)
    | cons u us => simp at hl
  | cons v vs =>
    cases us with
    | nil => simp at hl
    | cons u us =>
      cases vs with
      | nil =>
        cases us with
        | nil => simp; exact hr 0 v u rfl rfl
        | cons u us => simp at hl
      | cons v2 vs =>
        cases us with
        | nil => simp at hl
        | cons u2 us =>
          simp only [List.size_toArray, List.length_cons]
          rw [dif_neg (by omega)]
          exact .tup (by simpa using hl) (fun i c u h1 h2 => hr i c u h1 (by simpa using h2))

theorem hpRet_lk {h : Hp} (hr : hpRet h = true) {x : Nat} {cs : List AV} (hl : lk h x = some (.box cs)) : retL cs = true := by
  induction h with
  | nil => cases hl
  | cons p h ih =>
    obtain ⟨i, b⟩ := p
    simp only [lk] at hl
    split at hl
    · cases hl
      simp only [hpRet, Bool.and_eq_true] at hr
      exact hr.1
    · cases b with
      | box cs' => simp only [hpRet, Bool.and_eq_true] at hr; exact ih hr.2 hl
      | arr k n f ex => exact ih (by simpa [hpRet] using hr) hl
      | lnk v c => simp [hpRet] at hr
theorem hpRet_lnk {h : Hp} (hr : hpRet h = true) {x : Nat} {v : Value} {c : AV} (hl : lk h x = some (.lnk v c)) : False := by
  induction h with
  | nil => cases hl
  | cons p h ih =>
    obtain ⟨i, b⟩ := p
    cases b with
    | box cs' =>
      simp only [hpRet, Bool.and_eq_true] at hr
      simp only [lk] at hl
      split at hl
      · cases hl
      · exact ih hr.2 hl
    | arr k n f ex =>
      simp only [lk] at hl
      split at hl
      · cases hl
      · exact ih (by simpa [hpRet] using hr) hl
    | lnk v c => simp [hpRet] at hr

/-- A FUNCTION: what its body does -/
theorem Ok.intro {g : FuncId} {fn : Func} {c : Code} {args : List AV} {hin : Hp} {Q : AV → Hp → Prop} (pids news qs : List Nat) (nt : Nat) (rs : List ResultVar) (hm : P.follows .mixedOrders = true) (hf : P.funcs[g]? = some fn) (hgo : isGo P g = true) (hb : fn.body = some c) (hnt : fn.ntmps = nt) (hrs : fn.results.toList = rs) (hok : codeOK nt qs c = true)
    (hlen : args.length ≤ nt) (hids : ∀ id blk, lk hin id = some blk → id ∈ pids) (hpn : ∀ i, i ∈ pids → nt ≤ i)
    (h : wp P G pids nt qs c ⟨initT 0 args, hin⟩ fun e st => match e with | .exit _ => False | _ => RetW P pids news rs st Q) : Ok P G g args hin Q := by
  subst hnt hrs
  refine ⟨hgo, fun w η Z us hus hh hg hzs => ?_⟩
  let bs : Base := { w0 := w, Z0 := Z, B0 := fun id b => ∃ blk o, lk hin id = some blk ∧ η id = some (b, o), pids := pids, η0 := η, hp := fun id b ⟨blk, o, h1, _⟩ => hids id blk h1, zs := hzs }
  refine calls_of_wp hf hb ?_
  have hS : Sat G bs fn.ntmps ⟨initT 0 args, hin⟩ { tmps := us ++ Array.replicate (fn.ntmps - us.size) undef, defers := [] } w := by
    refine ⟨rfl, by simp; rw [hus.1]; omega, η, Z, fun i c hc => ?_, hh, hg, Fr.refl _ _, hzs, fun z b hb => hb, fun z b hb => .inl hb, fun id blk b o h1 h2 => .inl ⟨blk, o, h1, h2⟩, fun _ _ => rfl⟩
    obtain ⟨_, hc⟩ := lk_initT args 0 i c hc
    rw [Nat.sub_zero] at hc
    obtain ⟨u, hu⟩ := get_of_agg hus.1 hc
    have hlt : i < us.size := (Array.getElem?_eq_some_iff.1 hu).1
    have : (us ++ Array.replicate (fn.ntmps - us.size) undef).getD i undef = u := by
      rw [Array.getD_eq_getD_getElem?, Array.getElem?_append_left hlt, hu]; rfl
    show Rep η Z w c ((us ++ Array.replicate (fn.ntmps - us.size) undef).getD i undef)
    rw [this]
    exact hus.2 i c u hc hu
  -- what holds where it returns
  have fin : ∀ st a' w', RetW P pids news fn.results.toList st Q → Sat G bs fn.ntmps st a' w' → a'.defers = [] ∧ ∃ v, (results fn a'.tmps).run P w' = .ok v w' ∧
      ∃ r v1 hout η' T', Ending.returned v = .returned v1 ∧ Q r hout ∧ HRep η' (fun _ => T') w' hout ∧ Rep η' (fun _ => T') w' r v1 ∧ (∀ b, Z true b → T' b) ∧ (∀ b, T' b → Z true b ∨ w.heap.size ≤ b) ∧
      (∀ id cells blk, lk hin id = some (.box cells) → lk hout id = some blk → η' id = η id) ∧
      (∀ id blk b o, lk hout id = some blk → η' id = some (b, o) → (∃ blk' o', lk hin id = some blk' ∧ η id = some (b, o')) ∨ w.heap.size ≤ b) ∧ Fr (Owned η hin) w w' := by
    intro st a' w' hR ⟨hn, hs, η', Z', H⟩
    refine ⟨hn, ?_⟩
    unfold RetW at hR
    split at hR
    · exact hR.elim
    · rename_i c0 vs hres
      obtain ⟨_, hni, hR⟩ := hR
      split at hR
      · exact hR.elim
      · rename_i c1 vs1 hres1
        obtain ⟨hc1, hcond, hQ⟩ := hR
        obtain ⟨Z1, H1, _⟩ := H.frzAll _ hni
        simp only [Bool.and_eq_true] at hcond
        obtain ⟨q1, q2, q3, q4⟩ := hcond
        obtain ⟨v, hrun, hrep⟩ := results_run (fn := fn) H1.t H1.h hres1 hc1
        have hsel : ∀ x blk, lk (sel (frzAll (outIds pids (ownIdsL vs)) st).h (pids ++ news)) x = some blk → lk (frzAll (outIds pids (ownIdsL vs)) st).h x = some blk := fun x blk hx => by
          rw [lk_sel] at hx
          split at hx
          · exact hx
          · cases hx
        refine ⟨v, hrun, packR vs1, v, _, η', Z1 true, rfl, hQ, ⟨fun x blk hx => ?_, fun x y bk bk' b o o' h1 h2 e1 e2 => H1.h.inj x y bk bk' b o o' (hsel x bk h1) (hsel y bk' h2) e1 e2, fun z b hb => H1.h.zlt true b hb, fun z b hb ho => ?_⟩,
          hrep.strict q1, fun b hb => H1.z0 true b hb, fun b hb => H1.z1 true b hb, fun id cells blk h1 _ => H1.fix id (hids id _ h1), fun id blk b o h1 h2 => H1.own id blk b o (hsel id blk h1) h2, H1.fr.weaken fun b ⟨id, blk, o, h1, h2⟩ => ⟨id, blk, o, h1, h2⟩⟩
        · have hbr := H1.h.rep x blk (hsel x blk hx)
          cases hbo : η' x with
          | none =>
            rw [hbo] at hbr
            cases blk with
            | box cells => exact hbr
            | arr k n f ex => exact hbr
            | lnk v c => exact (hpRet_lnk q4 hx).elim
          | some p =>
            obtain ⟨b, o⟩ := p
            rw [hbo] at hbr
            cases blk with
            | box cells =>
              obtain ⟨cs, e, hb, hl, hc⟩ := hbr
              refine ⟨cs, e, hb, hl, fun j c hj => ?_⟩
              obtain ⟨u, hu, hr⟩ := hc j c hj
              exact ⟨u, hu, hr.strict (retL_mem (hpRet_lk q4 hx) j c hj)⟩
            | arr k n f ex =>
              obtain ⟨cs, e, hb, hl, hx', hc⟩ := hbr
              refine ⟨cs, e, hb, hl, hx', fun i hi => ⟨(hc i hi).1, fun j c hj => ?_⟩⟩
              obtain ⟨hq, u, hu, hcl, hr⟩ := (hc i hi).2 j c hj
              exact ⟨hq, u, hu, hcl, hr.strict hq⟩
            | lnk v c => exact hbr.elim
        · obtain ⟨x, bk, o, h1, h2⟩ := ho
          exact H1.h.zno true b hb ⟨x, bk, o, hsel x bk h1, h2⟩
  refine wp_sound hm c _ _ hok h bs _ w _ rfl hpn hS fun e st' a' w' h1 h2 => ?_
  cases e with
  | normal => exact fin st' a' w' h1 h2
  | exit id => exact h1.elim
  | ret => exact fin st' a' w' h1 h2
end
end Go.Am
