/-
  THE ABSTRACT MACHINE, part P: code on abstract states ('wp'), and that what it says holds of the run.
-/
import Derived.Test.YtjmomolnhplokaaDoorAmO
import Derived.Deep.LoopGhost
import Derived.Deep.Quiet
namespace Go.Am
set_option linter.unusedVariables false
set_option linter.unusedSimpArgs false

mutual
/-- the rows of one's own that a value leads to -/
def AV.ownIds : AV → List Nat
  | .own d _ _ _ _ => [d]
  | .agg cs => ownIdsL cs
  | _ => []
def ownIdsL : List AV → List Nat
  | [] => []
  | c :: cs => c.ownIds ++ ownIdsL cs
end
def frzAll : List Nat → St → St
  | [], st => st
  | i :: is, st => frzAll is (st.frz i)
def noneIn (pids : List Nat) : List Nat → Bool
  | [] => true
  | i :: is => !pids.contains i && noneIn pids is
def isElp : AV → Bool
  | .elp .. => true
  | _ => false
/-- operations that write or make memory -/
def evE (P : Program) (G : Gl) (pids : List Nat) (st : St) (o : Oper) : Option (Prop × St) :=
  match o.op with
  | .store t x v => match o.dst with
    | none => (tyOf P t).bind fun ty =>
      let ids := bif isElp (ev G st x) then (ev G st v).ownIds else []
      let st1 := frzAll ids st
      if noneIn pids ids && (cellsV (ev G st1 v)).length == ty.size then (storeV st1.h (ev G st1 x) (ev G st1 v)).map fun (c, h) => (c, { st1 with h := h }) else none
    | some _ => none
  | .alloc t => match o.dst with
    | some d => (tyOf P t).map fun ty => (True, newSt st d d (.box (ty.zero.map .sc)) (.ptr d 0))
    | none => none
  | .box t x => match o.dst with
    | some d => if layable (ev G st x) then some (True, newSt st d d (.box (killL d (cellsV (ev G st x)))) (.ptr d 0)) else none
    | none => none
  | .buildSlice t len parts => match o.dst, tkOf P t with
    | some d, .slice e => (tyOf P e).bind fun ty =>
      let ids := ownIdsL (parts.toList.map fun (i, x) => ev G st x)
      let st1 := frzAll ids st
      if noneIn pids ids && decide (len * ty.size ≤ 2 ^ 24) && ty.zero.length == ty.size then
        (fillA (fun i => some (i * ty.size, ty.size)) (zeroRow ty.zero (len * ty.size)) (parts.toList.map fun (i, x) => (i, ev G st1 x))).bind fun L =>
          if L.all isZ then some (True, newSt st1 d d (.arr ty.size len (litF (chunk ty.size len L)) true) (.own d ty.size 0 len true)) else none
      else none
    | _, _ => none
  | .makeSlice t x y => match o.dst, tkOf P t, asI (ev G st x), asI (ev G st y) with
    | some d, .slice e, some l, some c => (tyOf P e).bind fun ty => if ty.zero.length == ty.size && ty.zero.all isCell then
        some (0 ≤ l ∧ l ≤ c ∧ c * ty.bytes ≤ 140737488355328 ∧ c ≤ 140737488355328, newSt st d d (.arr ty.size l.toNat (fun _ => ty.zero.map .sc) (decide (l = c))) (.own d ty.size 0 l.toNat (decide (l = c)))) else none
    | _, _, _, _ => none
  | .call c => match c.callee with
    | .builtin .append => match o.dst, c.args.toList, c.argTypes.toList with
      | some d, [s, x], [t, t2] => match tkOf P t, tkOf P t2 with
        | .slice e, .slice _ => (tyOf P e).bind fun ty => if ty.zero.length == ty.size then appV pids st d ty.size ty.bytes (ev G st s) (ev G st x) else none
        | _, _ => none
      | _, _, _ => none
    | _ => none
  | _ => none

/-- a call: by what is said of the function -/
def CallW (P : Program) (G : Gl) (pids keep : List Nat) (g : FuncId) (args : List AV) (st : St) (d : Option Nat) (K : St → Prop) : Prop :=
  ∃ (is ks : List Nat) (Q : AV → Hp → Prop), Ok P G g (lendL st.h is args) (sel st.h is) Q ∧ noneIn pids ks = true ∧ noneIn keep (is ++ ks) = true ∧ (∀ i, i ∈ is → i ∉ ks → ∃ cells, lk st.h i = some (.box cells)) ∧
    ∀ r h, Q r h → okOut is ks r h = true ∧ K (callSt st is ks h d r)

inductive Ex where
  | normal
  | exit (id : Nat)
  | ret
def Ex.to : Ex → Exit
  | .normal => .normal
  | .exit id => .exit id
  | .ret => .ret

def TC (P : Program) (G : Gl) (pids : List Nat) (nt : Nat) (c : Code) (st : St) (K : Ex → St → Prop) : Prop :=
  ∀ (bs : Base) (a : Act) (w : World) (Q : Exit → Act → World → Prop), bs.pids = pids → (∀ i, i ∈ pids → nt ≤ i) → Sat G bs nt st a w → (∀ e st' a' w', K e st' → Sat G bs nt st' a' w' → Q e.to a' w') → c.wp P Q a w

def gVal (ops : Array Oper) (st : St) (j : Nat) : AV := match (ops[j]?).bind (·.dst) with | some d => st.get d | none => .unk
def gSt (ops : Array Oper) (st : St) (j : Nat) (b : Bool) : St := match (ops[j]?).bind (·.dst) with | some d => st.set (some d) (.sc (.bool b)) | none => st
/-- whether it is wanted: both, each with what is known then -/
def gBr (ops : Array Oper) (st : St) (j : Nat) (want : Bool) (F : St → Bool → Prop) : Prop := match gVal ops st j with
  | .sc (.bool t) => if t = true then F (gSt ops st j true) true else F (gSt ops st j false) false
  | .sc (.tuple _) => F st (!want)
  | _ => False
theorem gBr_elim {ops : Array Oper} {st : St} {j : Nat} {want : Bool} {F : St → Bool → Prop} (h : gBr ops st j want F) : ∃ t st1, (gVal ops st j = .sc (.bool t) ∨ (∃ us, gVal ops st j = .sc (.tuple us)) ∧ t = !want) ∧ F st1 t ∧ (∀ i, lk st1.t i = lk st.t i) ∧ st1.h = st.h := by
  unfold gBr at h
  split at h
  · rename_i t hv
    have key : ∀ b, t = b → (∀ i, lk (gSt ops st j b).t i = lk st.t i) ∧ (gSt ops st j b).h = st.h := fun b hb => by
      subst hb
      unfold gSt
      unfold gVal at hv
      split
      · rename_i d hd
        rw [hd] at hv
        simp only [St.get] at hv
        refine ⟨fun i => ?_, rfl⟩
        simp only [St.set, lk_up]
        split
        · rename_i e
          subst e
          cases hl : lk st.t d with
          | none => rw [hl] at hv; cases hv
          | some c => rw [hl] at hv; simp only [Option.getD_some] at hv; rw [hv]
        · rfl
      · exact ⟨fun _ => rfl, rfl⟩
    split at h
    · rename_i ht; exact ⟨t, _, .inl hv, by rw [ht]; exact h, (key true ht).1, (key true ht).2⟩
    · rename_i ht
      have ht' : t = false := by simpa using ht
      exact ⟨t, _, .inl hv, by rw [ht']; exact h, (key false ht').1, (key false ht').2⟩
  · rename_i us hv
    exact ⟨_, st, .inr ⟨⟨us, hv⟩, rfl⟩, h, fun _ => rfl, rfl⟩
  · exact h.elim
/-- which names an operation that writes touches -/
def tchE (G : Gl) (st : St) (o : Oper) : List Nat :=
  match o.op with
  | .store _ x v => ((ev G st x).idOf.toList) ++ (bif isElp (ev G st x) then (ev G st v).ownIds else [])
  | .buildSlice _ _ parts => o.dst.toList ++ ownIdsL (parts.toList.map fun (i, x) => ev G st x)
  | .call c => match c.args.toList with
    | s :: _ => match o.dst with
      | some d => [appId d (ev G st s)]
      | none => []
    | [] => []
  | _ => o.dst.toList
def opStep (P : Program) (G : Gl) (pids keep : List Nat) (o : Oper) (st : St) (K : St → Prop) : Prop :=
  match o.op with
  | .call c => match c.callee with
    | .value f => match ev G st f with
      | .clo (.func g) first cap => CallW P G pids keep g (first ++ c.args.toList.map (ev G st) ++ cap) st o.dst K
      | _ => False
    | _ => match evQ P G st o with
      | some (c, v) => c ∧ K (st.set o.dst v)
      | none => match evE P G pids st o with
        | some (c, st') => c ∧ noneIn keep (tchE G st o) = true ∧ K st'
        | none => False
  | _ => match evQ P G st o with
    | some (c, v) => c ∧ K (st.set o.dst v)
    | none => match evE P G pids st o with
      | some (c, st') => c ∧ noneIn keep (tchE G st o) = true ∧ K st'
      | none => False
def wpOps (P : Program) (G : Gl) (pids : List Nat) (ops : Array Oper) : List Oper → St → (St → Prop) → Prop
  | [], st, K => K st
  | o :: l, st, K =>
    match o.guard with
    | none => opStep P G pids [] o st fun st' => wpOps P G pids ops l st' K
    | some (j, want) => gBr ops st j want fun st1 b => if b = want then opStep P G pids [] o st1 fun st' => wpOps P G pids ops l st' K else wpOps P G pids ops l (st1.set o.dst (.sc (.tuple #[]))) K
/-- operations that only compute and read, in whatever order -/
def wpQ (P : Program) (G : Gl) (ops : Array Oper) : List Oper → St → (St → Prop) → Prop
  | [], st, K => K st
  | o :: l, st, K =>
    match o.guard with
    | none => match evQ P G st o with
      | some (c, v) => c ∧ wpQ P G ops l (st.set o.dst v) K
      | none => False
    | some (j, want) => gBr ops st j want fun st1 b => if b = want then (match evQ P G st1 o with
        | some (c, v) => c ∧ wpQ P G ops l (st1.set o.dst v) K
        | none => False) else wpQ P G ops l (st1.set o.dst (.sc (.tuple #[]))) K
def wp (P : Program) (G : Gl) (pids : List Nat) (nt : Nat) (qs : List Nat) : Code → St → (Ex → St → Prop) → Prop
  | .skip, st, K => K .normal st
  | .region id ops draw, st, K => match draw with
    | false => wpOps P G pids ops ops.toList st (K .normal)
    | true => if id ∈ qs then wpQ P G ops ops.toList st (K .normal) else TC P G pids nt (.region id ops true) st K
  | .seq a b, st, K => wp P G pids nt qs a st fun e st' => match e with | .normal => wp P G pids nt qs b st' K | e => K e st'
  | .cond c x y, st, K => match ev G st c with
    | .sc (.bool t) => if t = true then wp P G pids nt qs x st K else wp P G pids nt qs y st K
    | _ => False
  | .block id c, st, K => wp P G pids nt qs c st fun e st' => match e with | .exit id' => if id' = id then K .normal st' else K (.exit id') st' | e => K e st'
  | .exit id, st, K => K (.exit id) st
  | .ret, st, K => K .ret st
  | .loop c, st, K => TC P G pids nt (.loop c) st K
  | _, _, _ => False

/-! ### what can be asked of the code once and for all: slots are in the frame, no select -/
def opOK (nt : Nat) (o : Oper) : Bool := match o.dst with | some d => decide (d < nt) | none => true
def codeOK (nt : Nat) (qs : List Nat) : Code → Bool
  | .region id ops draw => ops.toList.all (opOK nt) && (!draw || !qs.contains id || Region.lexB .any ops)
  | .seq a b => codeOK nt qs a && codeOK nt qs b
  | .cond _ a b => codeOK nt qs a && codeOK nt qs b
  | .block _ a => codeOK nt qs a
  | .loop a => codeOK nt qs a
  | .scope a => codeOK nt qs a
  | .rangeFunc _ _ a b => codeOK nt qs a && codeOK nt qs b
  | _ => true

section
variable {P : Program} {G : Gl} {η η' : Eta} {Z Z' : ZP} {w w' : World} {bs : Base} {pids : List Nat} {nt : Nat}

theorem SatH.frzAll : ∀ (ids : List Nat) {st : St} {a : Act} {Z : ZP}, noneIn bs.pids ids = true → SatH G bs η Z st a w → ∃ Z', SatH G bs η Z' (Am.frzAll ids st) a w ∧ ∀ z b, Z z b → Z' z b
  | [], st, a, Z, _, H => ⟨Z, H, fun _ _ h => h⟩
  | i :: is, st, a, Z, hn, H => by
    simp only [noneIn, Bool.and_eq_true, Bool.not_eq_true'] at hn
    obtain ⟨Z1, H1, hz1⟩ := H.frz i (by simpa using hn.1)
    obtain ⟨Z2, H2, hz2⟩ := SatH.frzAll is hn.2 H1
    exact ⟨Z2, H2, fun z b hb => hz2 z b (hz1 z b hb)⟩
theorem lk_frzAll : ∀ (ids : List Nat) {st : St} {x : Nat} {blk : Blk}, x ∉ ids → lk st.h x = some blk → ∃ blk', lk (Am.frzAll ids st).h x = some blk'
  | [], st, x, blk, _, h => ⟨blk, h⟩
  | i :: is, st, x, blk, hx, h => by
    refine lk_frzAll is (st := st.frz i) (x := x) (blk := blk.frz st.h i) (fun hm => hx (by simp [hm])) ?_
    simp only [St.frz]
    rw [lk_mp, lk_rmv, if_neg (fun e => hx (by simp [e])), h]
    rfl
/-- giving up first, then going on -/
theorem Kp.frz {keep ids : List Nat} {st : St} {Z1 : ZP} (hz : ∀ z b, Z z b → Z1 z b) (hk : ∀ i, i ∈ keep → i ∉ ids) (h : Kp keep (Am.frzAll ids st).h η Z1 w η' Z' w') : Kp keep st.h η Z w η' Z' w' :=
  ⟨fun z b hb => h.z z b (hz z b hb), fun id hid => ⟨(h.k id hid).1, fun blk b o h1 h2 => by
    obtain ⟨blk', h3⟩ := lk_frzAll ids (hk id hid) h1
    exact (h.k id hid).2 blk' b o h3 h2⟩⟩

theorem killed_idOf {h : Hp} {i : Nat} (c : AV) : ∀ id, (c.frz h i).idOf = some id → c.idOf = some id := by
  intro id hid
  cases c with
  | own d k i0 n full =>
    simp only [AV.frz] at hid
    split at hid
    · split at hid
      · split at hid <;> cases hid
      · cases hid
    · cases hid
  | ptr d j =>
    simp only [AV.frz] at hid
    split at hid
    · cases hid
    · exact hid
  | elp d k i0 j =>
    simp only [AV.frz] at hid
    split at hid
    · cases hid
    · exact hid
  | _ => simp only [AV.frz] at hid; exact hid
theorem frzAll_idOf : ∀ (ids : List Nat) (st : St) (x : Operand) {id : Nat}, (ev G (Am.frzAll ids st) x).idOf = some id → (ev G st x).idOf = some id
  | [], st, x, id, h => h
  | i :: is, st, x, id, h => by
    have h1 := frzAll_idOf is (st.frz i) x h
    cases x with
    | tmp t =>
      simp only [ev, St.get, St.frz] at h1 ⊢
      rw [lk_mp] at h1
      cases hl : lk st.t t with
      | none => rw [hl] at h1; exact h1
      | some c => rw [hl] at h1; exact killed_idOf c id h1
    | _ => exact h1
theorem evE_sound {st st' : St} {o : Oper} {c : Prop} {a : Act} (h : evE P G bs.pids st o = some (c, st')) (hc : c) (H : SatH G bs η Z st a w) (ho : opOK a.tmps.size o = true) (hpn : ∀ i, i ∈ bs.pids → a.tmps.size ≤ i) {keep : List Nat} (hkp : ∀ i, i ∈ keep → i ∉ tchE G st o) :
    (∃ w', (execOp a.eval o).run P w = .ok .skip w' ∧ o.dst = none ∧ ∃ η' Z', SatH G bs η' Z' st' a w' ∧ Kp keep st.h η Z w η' Z' w') ∨ EOk P G bs keep st η Z o a w st' := by
  obtain ⟨dst, op, type, pos, after, guard⟩ := o
  have hdst : ∀ d, dst = some d → d < a.tmps.size := fun d hd => by subst hd; simpa [opOK] using ho
  have hdp : ∀ d, dst = some d → d ∉ bs.pids := fun d hd hi => Nat.not_lt.2 (hpn d hi) (hdst d hd)
  cases op <;> simp only [evE, reduceCtorEq] at h
  case store t x v =>
    split at h
    · simp only [Option.bind_eq_some_iff] at h
      obtain ⟨ty, hty, h⟩ := h
      split at h
      · rename_i hcond
        simp only [Bool.and_eq_true, beq_iff_eq] at hcond
        obtain ⟨Z1, H1, hz1⟩ := H.frzAll _ hcond.1
        simp only [Option.map_eq_some_iff, Prod.mk.injEq] at h
        obtain ⟨⟨c', h'⟩, hst, rfl, rfl⟩ := h
        have hkids : ∀ i, i ∈ keep → i ∉ (bif isElp (ev G st x) then (ev G st v).ownIds else []) := fun i hi hm => hkp i hi (by simp only [tchE]; exact List.mem_append_right _ hm)
        obtain ⟨w', hrun, hS, hK⟩ := store_sound (keep := keep) H1 hty hst hc hcond.2 (ev_rep H1.t H1.g x) (ev_rep H1.t H1.g v) (fun id hid hm => by
          have := frzAll_idOf (G := G) _ _ x hid
          exact hkp id hm (by simp only [tchE]; rw [this]; simp))
        exact .inl ⟨w', by simp [execOp, hrun], rfl, _, _, hS, hK.frz hz1 hkids⟩
      · cases h
    · cases h
  case alloc t =>
    split at h
    · rename_i d
      simp only [Option.map_eq_some_iff, Prod.mk.injEq] at h
      obtain ⟨ty, hty, rfl, rfl⟩ := h
      exact .inr (alloc_sound H hty (hdst _ rfl) (hdp _ rfl) (fun hm => hkp _ hm (by simp [tchE])))
    · cases h
  case box t x =>
    split at h
    · rename_i d
      split at h
      · rename_i hl
        cases h
        exact .inr (box_sound H (hdst _ rfl) (hdp _ rfl) (fun hm => hkp _ hm (by simp [tchE])) hl (ev_rep H.t H.g x))
      · cases h
    · cases h
  case buildSlice t len parts =>
    split at h
    · rename_i d e hk
      simp only [Option.bind_eq_some_iff] at h
      obtain ⟨ty, hty, h⟩ := h
      split at h
      · rename_i hcond
        simp only [Bool.and_eq_true, beq_iff_eq, decide_eq_true_eq] at hcond
        obtain ⟨Z1, H1, hz1⟩ := H.frzAll _ hcond.1.1
        simp only [Option.bind_eq_some_iff] at h
        obtain ⟨L, hL, h⟩ := h
        split at h
        · rename_i hLz
          cases h
          obtain ⟨u, w', hrun, η', Z', hS, hK⟩ := buildSlice_sound (keep := keep) (type := type) (pos := pos) (after := after) (g := guard) H1 (hdst _ rfl) (hdp _ rfl) (fun hm => hkp _ hm (by simp [tchE])) hk hty hcond.1.2 hcond.2 hL hLz
          exact .inr ⟨u, w', hrun, η', Z', hS, hK.frz hz1 fun i hi hm => hkp i hi (by simp only [tchE]; exact List.mem_append_right _ hm)⟩
        · cases h
      · cases h
    · cases h
  case makeSlice t x y =>
    split at h
    · rename_i d e l cc hk hl hcc
      simp only [Option.bind_eq_some_iff] at h
      obtain ⟨ty, hty, h⟩ := h
      split at h
      · rename_i hcond
        simp only [Bool.and_eq_true, beq_iff_eq] at hcond
        cases h
        exact .inr (makeSlice_sound H (hdst _ rfl) (hdp _ rfl) (fun hm => hkp _ hm (by simp [tchE])) hk hty hl hcc hcond.1 hcond.2 hc)
      · cases h
    · cases h
  case call cl =>
    obtain ⟨callee, args, argTypes⟩ := cl
    split at h
    · rename_i hcal
      simp only at hcal
      subst hcal
      split at h
      · rename_i d s x t t2 hargs htys
        simp only at hargs htys
        obtain rfl : args = #[s, x] := by rw [← Array.toList_inj]; simpa using hargs
        obtain rfl : argTypes = #[t, t2] := by rw [← Array.toList_inj]; simpa using htys
        split at h
        · rename_i e e2 hk hk2
          simp only [Option.bind_eq_some_iff] at h
          obtain ⟨ty, hty, h⟩ := h
          split at h
          · rename_i hz
            exact .inr (append_sound H (hdst _ rfl) (hdp _ rfl) (fun hm => hkp _ hm (by simp [tchE])) hk hk2 hty (by simpa using hz) h hc)
          · cases h
        · cases h
      · cases h
    · cases h

theorem SatH.put {st : St} {a : Act} {o : Oper} {v : AV} {u : Value} (hn : a.defers = []) (hs : a.tmps.size = nt) (H : SatH G bs η Z st a w) (hv : Rep η Z w v u) (ho : opOK a.tmps.size o = true) :
    (a.put o.dst u).defers = [] ∧ (a.put o.dst u).tmps.size = nt ∧ SatH G bs η Z (st.set o.dst v) (a.put o.dst u) w := by
  refine ⟨by rw [Act.put_def]; exact hn, by rw [Act.put_size]; exact hs, ?_⟩
  cases hd : o.dst with
  | none => exact H
  | some d => exact ⟨H.t.set (by simpa [opOK, hd] using ho) hv, H.h, H.g, H.fr, H.zs, H.z0, H.z1, H.own, H.fix⟩
theorem Sat.put {st : St} {a : Act} {o : Oper} {v : AV} {u : Value} (hn : a.defers = []) (hs : a.tmps.size = nt) (H : SatH G bs η Z st a w) (hv : Rep η Z w v u) (ho : opOK a.tmps.size o = true) : Sat G bs nt (st.set o.dst v) (a.put o.dst u) w := by
  refine ⟨by rw [Act.put_def]; exact hn, by rw [Act.put_size]; exact hs, η, Z, ?_⟩
  cases hd : o.dst with
  | none => exact H
  | some d => exact ⟨H.t.set (by simpa [opOK, hd] using ho) hv, H.h, H.g, H.fr, H.zs, H.z0, H.z1, H.own, H.fix⟩

theorem noneIn_not {pids : List Nat} : ∀ {ks : List Nat} {i : Nat}, noneIn pids ks = true → i ∈ pids → i ∉ ks
  | [], i, _, _ => by simp
  | k :: ks, i, h, hi => by
    simp only [noneIn, Bool.and_eq_true, Bool.not_eq_true'] at h
    intro hm
    rcases List.mem_cons.1 hm with rfl | hm
    · have := h.1; simp [hi] at this
    · exact noneIn_not h.2 hi hm
theorem Rep.clo_inv {fn : Fn} {first cap : List AV} {u : Value} (h : Rep η Z w (.clo fn first cap) u) : ∃ us vs, u = .func fn us vs ∧ Cells η Z w first us ∧ Cells η Z w cap vs := by
  cases h with
  | z h => cases h with | clo h1 h2 h3 h4 => exact ⟨_, _, rfl, ⟨h1, fun i c u a b => .z (h2 i c u a b)⟩, ⟨h3, fun i c u a b => .z (h4 i c u a b)⟩⟩
  | clo h1 h2 h3 h4 => exact ⟨_, _, rfl, ⟨h1, h2⟩, ⟨h3, h4⟩⟩
theorem plainStep {keep : List Nat} {st : St} {o : Oper} {a : Act} {K : St → Prop} {next : Act → World → Prop} {Q : Exit → Act → World → Prop} (hp : bs.pids = pids) (hpn : ∀ i, i ∈ pids → nt ≤ i)
    (h : match evQ P G st o with
      | some (c, v) => c ∧ K (st.set o.dst v)
      | none => match evE P G pids st o with
        | some (c, st') => c ∧ noneIn keep (tchE G st o) = true ∧ K st'
        | none => False) (hn : a.defers = []) (hs : a.tmps.size = nt) (H : SatH G bs η Z st a w) (ho : opOK nt o = true)
    (hK : ∀ st' a' w' η' Z', K st' → a'.defers = [] → a'.tmps.size = nt → SatH G bs η' Z' st' a' w' → Kp keep st.h η Z w η' Z' w' → next a' w') : o.wp P a w next Q := by
  have ho' : opOK a.tmps.size o = true := by rw [hs]; exact ho
  split at h
  · rename_i c v hq
    obtain ⟨u, hu, hrun⟩ := evQ_sound hq h.1 H.t H.h H.g
    unfold Oper.wp
    rw [hrun w (Keeps.refl _ _ _ _), Oper.upon_value]
    obtain ⟨h1, h2, h3⟩ := SatH.put hn hs H hu ho'
    exact hK _ _ _ η Z h.2 h1 h2 h3 (Kp.refl _ _ _ _ _)
  · split at h
    · rename_i c st' he
      rw [← hp] at he
      unfold Oper.wp
      rcases evE_sound he h.1 H ho' (by rw [hs, hp]; exact hpn) (keep := keep) (fun i hi => noneIn_not h.2.1 hi) with ⟨w', hrun, hd, η', Z', H', hKp⟩ | ⟨u, w', hrun, η', Z', H', hKp⟩
      · rw [hrun, Oper.upon_skip, hd]
        exact hK _ _ _ η' Z' h.2.2 hn hs H' hKp
      · rw [hrun, Oper.upon_value]
        exact hK _ _ _ η' Z' h.2.2 (by rw [Act.put_def]; exact hn) (by rw [Act.put_size]; exact hs) H' hKp
    · exact h.elim

theorem opStep_sound {keep : List Nat} {st : St} {o : Oper} {a : Act} {K : St → Prop} {next : Act → World → Prop} {Q : Exit → Act → World → Prop} (hp : bs.pids = pids) (hpn : ∀ i, i ∈ pids → nt ≤ i) (h : opStep P G pids keep o st K) (hn : a.defers = []) (hs : a.tmps.size = nt) (H : SatH G bs η Z st a w) (ho : opOK nt o = true)
    (hK : ∀ st' a' w' η' Z', K st' → a'.defers = [] → a'.tmps.size = nt → SatH G bs η' Z' st' a' w' → Kp keep st.h η Z w η' Z' w' → next a' w') : o.wp P a w next Q := by
  unfold opStep at h
  split at h
  · rename_i cl hop
    split at h
    · rename_i f hcal
      split at h
      · rename_i g first cap hf
        obtain ⟨is, ks, Qc, hOk, hkp, hkk, hbox, hout⟩ := h
        have ho' : opOK a.tmps.size o = true := by rw [hs]; exact ho
        have hfv : ∃ us vs, a.eval f = .func (.func g) us vs ∧ Cells η Z w first us ∧ Cells η Z w cap vs := by
          have E := ev_rep H.t H.g f
          rw [hf] at E
          exact E.clo_inv
        obtain ⟨us, vs, hfe, hC1, hC2⟩ := hfv
        have hCa : Cells η Z w (first ++ cl.args.toList.map (ev G st) ++ cap) (us ++ cl.args.map a.eval ++ vs) := by
          have app : ∀ {l1 l2 : List AV} {a1 a2 : Array Value}, Cells η Z w l1 a1 → Cells η Z w l2 a2 → Cells η Z w (l1 ++ l2) (a1 ++ a2) := by
            intro l1 l2 a1 a2 h1 h2
            refine ⟨by simp [h1.1, h2.1], fun i c u q1 q2 => ?_⟩
            by_cases hi : i < l1.length
            · rw [List.getElem?_append_left hi] at q1
              rw [Array.getElem?_append_left (by rw [h1.1]; exact hi)] at q2
              exact h1.2 i c u q1 q2
            · rw [List.getElem?_append_right (by omega)] at q1
              rw [Array.getElem?_append_right (by rw [h1.1]; omega), h1.1] at q2
              exact h2.2 _ c u q1 q2
          refine app (app hC1 ⟨by simp, fun i c u q1 q2 => ?_⟩) hC2
          rw [List.getElem?_map, Option.map_eq_some_iff] at q1
          rw [Array.getElem?_map, Option.map_eq_some_iff] at q2
          obtain ⟨x, hx, rfl⟩ := q1
          obtain ⟨y, hy, rfl⟩ := q2
          rw [Array.getElem?_toList] at hx
          rw [hx] at hy
          cases hy
          exact ev_rep H.t H.g _
        have hcall := call_sound H (is := is) (ks := ks) hOk hCa hbox (fun r h hq => (hout r h hq).1) (fun i hi => noneIn_not hkp (by rw [← hp]; exact hi)) (keep := keep) (fun i hi => noneIn_not hkk hi) o.dst (fun x hx => by simpa [opOK, hx] using ho')
        have hrun : (execOp a.eval o).run P w = .ok (.enter g (us ++ cl.args.map a.eval ++ vs)) w := by
          simp only [execOp, hop, resolve, hcal, hfe, Deferred.ofValue, Sem.run_bind, Sem.run_pure, Result.andThen_ok, invoke, run_callFunc hOk.1]
        unfold Oper.wp
        rw [hrun, Oper.upon_enter]
        refine hcall.mono fun e w' ⟨r, v, hh, he, hq, η'', Z'', H'', hKp⟩ => ?_
        subst he
        exact hK _ _ _ η'' Z'' (hout r hh hq).2 (by rw [Act.put_def]; exact hn) (by rw [Act.put_size]; exact hs) H'' hKp
      · exact h.elim
    · exact plainStep hp hpn h hn hs H ho hK
  · exact plainStep hp hpn h hn hs H ho hK

theorem yielded_of {ops : Array Oper} {st : St} {a : Act} {j : Nat} {t : Bool} (ht : TRep η Z w st.t a) (hv : gVal ops st j = .sc (.bool t)) : yielded ops a.tmps j = some t := by
  unfold gVal at hv
  unfold yielded
  split at hv
  · rename_i d hd
    rw [hd]
    simp only [Option.bind_some]
    simp only [St.get] at hv
    cases hl : lk st.t d with
    | none => rw [hl] at hv; cases hv
    | some c =>
      rw [hl] at hv
      simp only [Option.getD_some] at hv
      subst hv
      have := (ht d _ hl).sc_inv
      simp only [Array.getD_eq_getD_getElem?] at this
      cases hq : a.tmps[d]? with
      | none => rw [hq] at this; cases this
      | some u => rw [hq] at this; simp only [Option.getD_some] at this; subst this; rfl
  · cases hv
theorem yielded_none {ops : Array Oper} {st : St} {a : Act} {j : Nat} {us : Array Value} (ht : TRep η Z w st.t a) (hv : gVal ops st j = .sc (.tuple us)) : yielded ops a.tmps j = none := by
  unfold gVal at hv
  unfold yielded
  split at hv
  · rename_i d hd
    rw [hd]
    simp only [Option.bind_some]
    simp only [St.get] at hv
    cases hl : lk st.t d with
    | none => rw [hl] at hv; cases hv
    | some c =>
      rw [hl] at hv
      simp only [Option.getD_some] at hv
      subst hv
      have := (ht d _ hl).sc_inv
      simp only [Array.getD_eq_getD_getElem?] at this
      cases hq : a.tmps[d]? with
      | none => rfl
      | some u => rw [hq] at this; simp only [Option.getD_some] at this; subst this; rfl
  · cases hv
theorem wanted_of {ops : Array Oper} {st : St} {a : Act} {j : Nat} {t want : Bool} {o : Oper} (hg : o.guard = some (j, want)) (ht : TRep η Z w st.t a) (hv : gVal ops st j = .sc (.bool t) ∨ (∃ us, gVal ops st j = .sc (.tuple us)) ∧ t = !want) : Region.wanted o (yielded ops a.tmps) = decide (t = want) := by
  unfold Region.wanted
  rw [hg]
  rcases hv with hv | ⟨⟨us, hv⟩, rfl⟩
  · simp only [yielded_of ht hv]
    by_cases h : t = want <;> simp [h]
  · simp only [yielded_none ht hv]
    cases want <;> rfl
theorem TRep.same {t t' : List (Nat × AV)} {a : Act} (h : TRep η Z w t a) (e : ∀ i, lk t' i = lk t i) : TRep η Z w t' a := fun i c hc => h i c (by rw [← e]; exact hc)
theorem SatH.same {st st1 : St} {a : Act} (H : SatH G bs η Z st a w) (e1 : ∀ i, lk st1.t i = lk st.t i) (e2 : st1.h = st.h) : SatH G bs η Z st1 a w := by
  have : SatH G bs η Z ⟨st1.t, st.h⟩ a w := ⟨H.t.same e1, H.h, H.g, H.fr, H.zs, H.z0, H.z1, H.own, H.fix⟩
  rw [← e2] at this
  exact this
theorem wpOps_sound {ops : Array Oper} {Q : Exit → Act → World → Prop} (hp : bs.pids = pids) (hpn : ∀ i, i ∈ pids → nt ≤ i) : ∀ (l : List Oper) (st : St) (K : St → Prop) (a : Act) (w : World), l.all (opOK nt) = true → wpOps P G pids ops l st K → Sat G bs nt st a w →
    (∀ st' a' w', K st' → Sat G bs nt st' a' w' → Q .normal a' w') → wpList P ops Q l a w := by
  intro l
  induction l with
  | nil => intro st K a w _ h hS hK; exact hK st a w h hS
  | cons o l ih =>
    intro st K a w hok h hS hK
    simp only [List.all_cons, Bool.and_eq_true] at hok
    simp only [wpOps] at h
    unfold wpList
    split at h
    · rename_i hg
      rw [if_pos (by simp [Region.wanted, hg])]
      obtain ⟨hn, hs, η, Z, H⟩ := hS
      exact .inl (opStep_sound hp hpn h hn hs H hok.1 fun st' a' w' η' Z' h1 q1 q2 q3 _ => ih st' K a' w' hok.2 h1 ⟨q1, q2, η', Z', q3⟩ hK)
    · rename_i j want hg
      obtain ⟨t, st1, hv, h, e1, e2⟩ := gBr_elim h
      obtain ⟨hn, hs, η, Z, H⟩ := hS
      have hy := wanted_of hg H.t hv
      have H1 := H.same e1 e2
      by_cases htw : t = want
      · rw [if_pos (by simp [hy, htw])]
        rw [if_pos htw] at h
        exact .inl (opStep_sound hp hpn h hn hs H1 hok.1 fun st' a' w' η' Z' h1 q1 q2 q3 _ => ih st' K a' w' hok.2 h1 ⟨q1, q2, η', Z', q3⟩ hK)
      · rw [if_neg (by simp [hy, htw])]
        rw [if_neg htw] at h
        exact ih _ K _ w hok.2 h (Sat.put (v := .sc (.tuple #[])) (u := undef) hn hs H1 (.z (.sc _)) (by rw [hs]; exact hok.1)) hK

theorem SatH.heap {st : St} {a : Act} (H : SatH G bs η Z st a w) {w' : World} (h : w'.heap = w.heap) (ho : w'.os = w.os) (ho2 : w'.output = w.output) : SatH G bs η Z st a w' := by
  have hF : Fr (fun _ => False) w w' := ⟨ho, ho2, fun b _ _ => by rw [h], fun a => by simp [World.frozen?, h], by rw [h]; exact Nat.le_refl _, fun b => Shape.of_eq (by rw [h])⟩
  have hz : ∀ z b, Z z b → w'.heap[b]? = w.heap[b]? := fun z b _ => by rw [h]
  refine ⟨H.t.mono hz fun d b o _ => hF.shape b, ⟨fun id blk hl => (H.h.rep id blk hl).mono (fun z b hb => ⟨hb, hz z b hb⟩) (fun d b o _ => hF.shape b) (fun b o _ => by rw [h]), H.h.inj, fun z b hb => by rw [h]; exact H.h.zlt z b hb, H.h.zno⟩,
    H.g.mono fun z b hb => ⟨hb, hz z b hb⟩, H.fr.trans hF fun _ _ h => h.elim, H.zs, H.z0, H.z1, H.own, H.fix⟩
theorem wpQ_sound {ops : Array Oper} {st0 : St} {a0 : Act} (H : SatH G bs η Z st0 a0 w) (hn : a0.defers = []) (hs : a0.tmps.size = nt) : ∀ (l : List Oper) (st : St) (K : St → Prop) (a : Act), l.all (opOK nt) = true → wpQ P G ops l st K → TRep η Z w st.t a → st.h = st0.h →
    a.defers = [] → a.tmps.size = nt → ∀ {Q : Act → Prop}, (∀ st' a', K st' → (∀ w' : World, (w'.heap = w.heap ∧ w'.os = w.os ∧ w'.output = w.output) → Sat G bs nt st' a' w') → Q a') →
    wpQuiet P ops (fun w' => w'.heap = w.heap ∧ w'.os = w.os ∧ w'.output = w.output) Q l a := by
  intro l
  induction l with
  | nil =>
    intro st K a _ h ht hh hd hsz Q hQ
    refine hQ st a h fun w' ⟨e1, e2, e3⟩ => ⟨hd, hsz, η, Z, ?_⟩
    have H' : SatH G bs η Z st a w := ⟨ht, by rw [hh]; exact H.h, H.g, H.fr, H.zs, H.z0, H.z1, by rw [hh]; exact H.own, H.fix⟩
    exact H'.heap e1 e2 e3
  | cons o l ih =>
    intro st K a hok h ht hh hd hsz Q hQ
    simp only [List.all_cons, Bool.and_eq_true] at hok
    have ho' : opOK a.tmps.size o = true := by rw [hsz]; exact hok.1
    have put : ∀ {st : St}, TRep η Z w st.t a → st.h = st0.h → ∀ {v : AV} {u : Value}, Rep η Z w v u → TRep η Z w (st.set o.dst v).t (a.put o.dst u) ∧ (st.set o.dst v).h = st0.h := fun {st} ht hh {v u} hv => by
      cases hdd : o.dst with
      | none => exact ⟨ht, hh⟩
      | some d => exact ⟨ht.set (by simpa [opOK, hdd] using ho') hv, hh⟩
    have quiet : ∀ {st : St}, TRep η Z w st.t a → st.h = st0.h → ∀ (h : match evQ P G st o with
        | some (c, v) => c ∧ wpQ P G ops l (st.set o.dst v) K
        | none => False), o.quiet P a (fun w' => w'.heap = w.heap ∧ w'.os = w.os ∧ w'.output = w.output) (wpQuiet P ops (fun w' => w'.heap = w.heap ∧ w'.os = w.os ∧ w'.output = w.output) Q l) := fun {st} ht hh h => by
      split at h
      · rename_i c v hq
        obtain ⟨u, hu, hrun⟩ := evQ_sound hq h.1 ht (by rw [hh]; exact H.h) H.g
        refine ⟨u, fun w' hw' => ?_, ?_⟩
        · unfold Oper.quietAt
          rw [hrun w' ⟨fun z b _ => by rw [hw'.1], fun _ b _ _ _ => by rw [hw'.1]⟩]
          exact ⟨rfl, rfl⟩
        · obtain ⟨h1, h2⟩ := put ht hh hu
          exact ih _ K _ hok.2 h.2 h1 h2 (by rw [Act.put_def]; exact hd) (by rw [Act.put_size]; exact hsz) hQ
      · exact h.elim
    simp only [wpQ] at h
    unfold wpQuiet
    split at h
    · rename_i hg
      rw [if_pos (by simp [Region.wanted, hg])]
      exact quiet ht hh h
    · rename_i j want hg
      obtain ⟨t, st1, hv, h, e1, e2⟩ := gBr_elim h
      have hy := wanted_of hg ht hv
      by_cases htw : t = want
      · rw [if_pos (by simp [hy, htw])]
        rw [if_pos htw] at h
        exact quiet (ht.same e1) (e2.trans hh) h
      · rw [if_neg (by simp [hy, htw])]
        rw [if_neg htw] at h
        obtain ⟨h1, h2⟩ := put (ht.same e1) (e2.trans hh) (v := .sc (.tuple #[])) (u := undef) (.z (.sc _))
        exact ih _ K _ hok.2 h h1 h2 (by rw [Act.put_def]; exact hd) (by rw [Act.put_size]; exact hsz) hQ
theorem wp_sound {qs : List Nat} (hm : P.follows .mixedOrders = true) : ∀ (c : Code) (st : St) (K : Ex → St → Prop), codeOK nt qs c = true → wp P G pids nt qs c st K → TC P G pids nt c st K := by
  intro c
  induction c with
  | skip => intro st K _ h bs a w Q hp hpn hS hQ; exact wp_skip (hQ .normal st a w h hS)
  | region id ops draw =>
    intro st K hok h
    simp only [codeOK, Bool.and_eq_true] at hok
    cases draw with
    | true =>
      simp only [wp] at h
      split at h
      · rename_i hid
        intro bs a w Q hp hpn hS hQ
        have hlex : Region.lexB .any ops = true := by
          have := hok.2
          simpa [hid] using this
        obtain ⟨hn, hs, η, Z, H⟩ := hS
        refine wp_region_quiet (C := fun w' => w'.heap = w.heap ∧ w'.os = w.os ∧ w'.output = w.output) hm hlex ⟨rfl, rfl, rfl⟩ (wpQ_sound H hn hs ops.toList st _ a hok.1 h H.t rfl hn hs fun st' a' h1 h2 w' hw' => hQ .normal st' a' w' h1 (h2 w' hw'))
      · exact h
    | false =>
      intro bs a w Q hp hpn hS hQ
      exact wp_region_list (wpOps_sound hp hpn ops.toList st _ a w hok.1 h hS fun st' a' w' h1 h2 => hQ .normal st' a' w' h1 h2)
  | seq x y ihx ihy =>
    intro st K hok h bs a w Q hp hpn hS hQ
    simp only [codeOK, Bool.and_eq_true] at hok
    simp only [wp] at h
    refine wp_seq (ihx st _ hok.1 h bs a w _ hp hpn hS fun e st' a' w' h1 h2 => ?_)
    cases e with
    | normal => exact ihy st' K hok.2 h1 bs a' w' Q hp hpn h2 hQ
    | exit id => exact hQ _ st' a' w' h1 h2
    | ret => exact hQ _ st' a' w' h1 h2
  | cond c x y ihx ihy =>
    intro st K hok h bs a w Q hp hpn hS hQ
    simp only [codeOK, Bool.and_eq_true] at hok
    simp only [wp] at h
    split at h
    · rename_i t hv
      have hc : a.eval c = .bool t := by
        obtain ⟨_, _, η, Z, H⟩ := hS
        have E := ev_rep H.t H.g c
        rw [hv] at E
        exact E.sc_inv
      exact wp_cond_split hc (fun ht => by rw [if_pos ht] at h; exact ihx st K hok.1 h bs a w Q hp hpn hS hQ) (fun ht => by rw [if_neg (by simp [ht])] at h; exact ihy st K hok.2 h bs a w Q hp hpn hS hQ)
    · exact h.elim
  | block id c ih =>
    intro st K hok h bs a w Q hp hpn hS hQ
    simp only [codeOK] at hok
    simp only [wp] at h
    refine wp_block (ih st _ hok h bs a w _ hp hpn hS fun e st' a' w' h1 h2 => ?_)
    cases e with
    | normal => exact hQ .normal st' a' w' h1 h2
    | exit id' =>
      simp only [Ex.to, Exit.inBlock]
      split
      · rename_i he; simp only [he, if_true] at h1; exact hQ .normal st' a' w' h1 h2
      · rename_i he; simp only [he, if_false] at h1; exact hQ (.exit id') st' a' w' h1 h2
    | ret => exact hQ .ret st' a' w' h1 h2
  | exit id => intro st K _ h bs a w Q hp hpn hS hQ; exact wp_exit (hQ (.exit id) st a w h hS)
  | ret => intro st K _ h bs a w Q hp hpn hS hQ; exact wp_ret (hQ .ret st a w h hS)
  | loop c ih => intro st K _ h; exact h
  | _ => intro st K _ h; exact h.elim

/-! ### one state says less than another; loops -/
def Ent (G : Gl) (pids : List Nat) (st st' : St) : Prop := ∀ bs η Z a w, bs.pids = pids → SatH G bs η Z st a w → ∃ η' Z', SatH G bs η' Z' st' a w
theorem Ent.sat {st st' : St} {a : Act} (h : Ent G pids st st') (hp : bs.pids = pids) (hS : Sat G bs nt st a w) : Sat G bs nt st' a w := by
  obtain ⟨hn, hs, η, Z, H⟩ := hS
  exact ⟨hn, hs, h bs η Z a w hp H⟩
theorem Ent.refl (st : St) : Ent G pids st st := fun _ η Z _ _ _ H => ⟨η, Z, H⟩
theorem Ent.trans {st st1 st2 : St} (h : Ent G pids st st1) (h' : Ent G pids st1 st2) : Ent G pids st st2 := fun bs η Z a w hp H => by
  obtain ⟨η1, Z1, H1⟩ := h bs η Z a w hp H
  exact h' bs η1 Z1 a w hp H1
theorem TC.ent {c : Code} {st st' : St} {K : Ex → St → Prop} (he : Ent G pids st st') (h : TC P G pids nt c st' K) : TC P G pids nt c st K :=
  fun bs a w Q hp hpn hS hQ => h bs a w Q hp hpn (he.sat hp hS) hQ
theorem TC.mono {c : Code} {st : St} {K K' : Ex → St → Prop} (h : TC P G pids nt c st K) (hK : ∀ e s, K e s → K' e s) : TC P G pids nt c st K' :=
  fun bs a w Q hp hpn hS hQ => h bs a w Q hp hpn hS fun e st' a' w' h1 h2 => hQ e st' a' w' (hK _ _ h1) h2
/-- A LOOP: states over ghosts, a measure that falls -/
theorem TC.loop {α : Type} {qs : List Nat} {c : Code} {st : St} {K : Ex → St → Prop} (I : α → St) (R : α → Prop) (μ : α → Nat) (x0 : α) (hm : P.follows .mixedOrders = true) (hok : codeOK nt qs c = true) (h0 : Ent G pids st (I x0)) (hR : R x0)
    (round : ∀ x, R x → wp P G pids nt qs c (I x) fun e st' => match e with | .normal => ∃ y, R y ∧ μ y < μ x ∧ Ent G pids st' (I y) | e => K e st') : TC P G pids nt (.loop c) st K := by
  intro bs a w Q hp hpn hS hQ
  refine wp_loop_ghost (fun n a w => ∃ x, R x ∧ μ x = n ∧ Sat G bs nt (I x) a w) (μ x0) ⟨x0, hR, rfl, h0.sat hp hS⟩ ?_
  intro n a w ⟨x, hx, hn, hSx⟩
  refine wp_sound hm c (I x) _ hok (round x hx) bs a w _ hp hpn hSx fun e st' a' w' h1 h2 => ?_
  cases e with
  | normal =>
    obtain ⟨y, hy, hlt, he⟩ := h1
    exact ⟨μ y, by omega, y, hy, rfl, he.sat hp h2⟩
  | exit id => exact hQ _ st' a' w' h1 h2
  | ret => exact hQ _ st' a' w' h1 h2
end
end Go.Am
