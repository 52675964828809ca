/-
  THE ABSTRACT MACHINE, part D: 'evQ' is right, operation by operation.
-/
import Derived.Test.YtjmomolnhplokaaDoorAmC
namespace Go.Am
set_option linter.unusedVariables false
set_option linter.unusedSimpArgs false
section
variable {P : Program} {G : Gl} {η : Eta} {Z : ZP} {w : World}

def Keeps (η : Eta) (Z : ZP) (w : World) (ids : Nat → Prop) (w' : World) : Prop :=
  (∀ z b, Z z b → w'.heap[b]? = w.heap[b]?) ∧ ∀ id b o, ids id → η id = some (b, o) → w'.heap[b]? = w.heap[b]?
def QOk (P : Program) (η : Eta) (Z : ZP) (w : World) (ids : Nat → Prop) (a : Act) (o : Oper) (v : AV) : Prop :=
  ∃ u, Rep η Z w v u ∧ ∀ w', Keeps η Z w ids w' → (execOp a.eval o).run P w' = .ok (.value u) w'

theorem Keeps.refl (η : Eta) (Z : ZP) (w : World) (ids : Nat → Prop) : Keeps η Z w ids w := ⟨fun _ _ _ => rfl, fun _ _ _ _ _ => rfl⟩

/-! ### sums and tests -/
theorem Rep.asI_inv {c : AV} {x : Int} {u : Value} (h : asI c = some x) (hu : Rep η Z w c u) : ∃ k, u = .int k x := by
  unfold asI at h
  split at h
  · cases h; exact ⟨_, hu.sc_inv⟩
  · cases h

theorem run_eqGuard_int (op : BinOp) (t : TypeId) (x y : Operand) (k k' : IntKind) (a b : Int) (w : World) : (eqGuard op t x y (.int k a) (.int k' b)).run P w = .ok () w := by
  cases op <;> simp [eqGuard]
theorem run_eqGuard_bool (op : BinOp) (t : TypeId) (x y : Operand) (a b : Bool) (w : World) : (eqGuard op t x y (.bool a) (.bool b)).run P w = .ok () w := by
  cases op <;> simp [eqGuard]
theorem run_eqGuard_str (op : BinOp) (t : TypeId) (x y : Operand) (a b : ByteArray) (w : World) : (eqGuard op t x y (.string a) (.string b)).run P w = .ok () w := by
  cases op <;> simp [eqGuard]
theorem run_eqGuard_agg (op : BinOp) (t : TypeId) (x y : Operand) (a b : Array Value) (h : P.eqGuardType P.depth t = false) (w : World) : (eqGuard op t x y (.agg a) (.agg b)).run P w = .ok () w := by
  cases op <;> simp [eqGuard, h]

theorem binI_run {op : BinOp} {k : IntKind} {x y : Int} {c : Prop} {v : Value} (h : binI op k x y = some (c, v)) (hc : c) (hs : isShift op = false) (t : TypeId) (w : World) :
    (binOp op t (.int k x) (.int k y)).run P w = .ok v w := by
  cases op <;> simp only [binI, Option.some.injEq, Prod.mk.injEq, reduceCtorEq] at h <;> simp only [isShift, reduceCtorEq] at hs
  all_goals
    obtain ⟨rfl, rfl⟩ := h
    first
      | (simp [binOp, Op.intArith]; done)
      | (simp [binOp, Op.intDiv, hc]; done)
      | (simp [binOp, Op.intCmp, bne]; done)
      | (simp [binOp, Op.intBits]; done)
theorem shiftI_run {op : BinOp} {k k' : IntKind} {x y : Int} {c : Prop} {v : Value} (h : shiftI op k x y = some (c, v)) (hc : c) (t : TypeId) (w : World) :
    (binOp op t (.int k x) (.int k' y)).run P w = .ok v w := by
  cases op <;> simp only [shiftI, Option.some.injEq, Prod.mk.injEq, reduceCtorEq] at h
  all_goals
    obtain ⟨rfl, rfl⟩ := h
    have : ¬ (y < 0) := by omega
    simp [binOp, Op.shift, this]

theorem eqC_run {k : TK} {t : TypeId} {x y : AV} {b : Bool} {u v : Value} (hk : tkOf P t = k) (h : eqC x y = some b) (hx : kindFits k x = true) (hy : kindFits k y = true)
    (hu : Rep η Z w x u) (hv : Rep η Z w y v) (d : Nat) (w' : World) : (Op.equalIn (d + 1) t u v).run P w' = .ok b w' := by
  cases k <;> cases x <;> simp [kindFits] at hx
  all_goals (rename_i vx; cases vx <;> simp at hx)
  all_goals (cases y <;> simp [kindFits] at hy)
  all_goals (rename_i vy; cases vy <;> simp at hy)
  all_goals
    have e1 := hu.sc_inv
    have e2 := hv.sc_inv
    subst e1 e2
    simp only [eqC] at h
  · split at h
    · cases h
      rename_i hk'
      simp [Op.equalIn, run_underlying (und_int hk), hk']
    · cases h
  · cases h
    simp [Op.equalIn, run_underlying (und_bool hk)]
  · cases h
    simp [Op.equalIn, run_underlying (und_str hk)]

theorem run_part_cell {t : TypeId} (hk : (tkOf P t).known = true) (ha : (tkOf P t).agg = false) {cs : Array Value} {off : Nat} {u : Value} (h : cs[off]? = some u) (w : World) : (part t cs off).run P w = .ok u w := by
  simp [part, run_isAgg rfl hk, ha, h]
theorem kindFits_known {k : TK} {c : AV} (h : kindFits k c = true) : k.known = true ∧ k.agg = false := by
  cases k <;> simp_all [kindFits, TK.known, TK.agg]
theorem get_of_agg {cs : List AV} {us : Array Value} (hl : us.size = cs.length) {i : Nat} {c : AV} (h : cs[i]? = some c) : ∃ u, us[i]? = some u := by
  have := (List.getElem?_eq_some_iff.1 h).1
  exact ⟨us[i], by simp⟩

theorem eqFs_run {d : Nat} : ∀ (fs : List Field) (xs ys : List AV) (us vs : Array Value) (r : Bool), eqFs P (fs.map fun f => (f.offset, f.type)) xs ys = some r →
    (∀ f ∈ fs, f.name ≠ "_") → us.size = xs.length → vs.size = ys.length →
    (∀ (i : Nat) (c : AV) (u : Value), xs[i]? = some c → us[i]? = some u → Rep η Z w c u) → (∀ (i : Nat) (c : AV) (u : Value), ys[i]? = some c → vs[i]? = some u → Rep η Z w c u) →
    ∀ w', (Op.eqFields (d + 1) us vs fs).run P w' = .ok r w' := by
  intro fs
  induction fs with
  | nil =>
    intro xs ys us vs r h _ _ _ _ _ w'
    simp only [List.map_nil, eqFs, Option.some.injEq] at h
    subst h
    simp [Op.eqFields]
  | cons f fs ih =>
    intro xs ys us vs r h hn hl1 hl2 h1 h2 w'
    simp only [List.map_cons, eqFs] at h
    split at h
    · rename_i x y hx hy
      split at h
      · rename_i hfit
        simp only [Bool.and_eq_true] at hfit
        split at h
        · rename_i b r' hb hr'
          simp only [Option.some.injEq] at h
          subst h
          obtain ⟨u, hu⟩ := get_of_agg hl1 hx
          obtain ⟨v, hv⟩ := get_of_agg hl2 hy
          obtain ⟨hk, ha⟩ := kindFits_known hfit.1
          rw [Op.eqFields]
          simp only [if_pos (hn f (by simp)), Sem.run_bind, run_part_cell hk ha hu, run_part_cell hk ha hv, Result.andThen_ok, eqC_run rfl hb hfit.1 hfit.2 (h1 _ _ _ hx hu) (h2 _ _ _ hy hv)]
          have := ih xs ys us vs r' hr' (fun g hg => hn g (by simp [hg])) hl1 hl2 h1 h2 w'
          cases b
          · simp
          · simpa using this
        · cases h
      · cases h
    · cases h

theorem eq_bool {t : TypeId} (hk : tkOf P t = .bool) (a b : Bool) (w' : World) : (Op.equal t (.bool a) (.bool b)).run P w' = .ok (a == b) w' := by
  have : ∀ d, (Op.equalIn (d + 1) t (.bool a) (.bool b)).run P w' = .ok (a == b) w' := fun d => by simp [Op.equalIn, run_underlying (und_bool hk)]
  exact this 9999
theorem binV_run {op : BinOp} {t : TypeId} {x y : AV} {c : Prop} {v : AV} {ux uy : Value} (h : binV P op t x y = some (c, v)) (hc : c) (hx : Rep η Z w x ux) (hy : Rep η Z w y uy) (ox oy : Operand) :
    ∃ u, Rep η Z w v u ∧ ∀ w' : World, (do eqGuard op t ox oy ux uy; binOp op t ux uy : Sem Value).run P w' = .ok u w' := by
  unfold binV at h
  split at h
  · rename_i k a k' b
    have e1 := hx.sc_inv
    have e2 := hy.sc_inv
    subst e1 e2
    split at h
    · simp only [Option.map_eq_some_iff, Prod.mk.injEq] at h
      obtain ⟨⟨c', v'⟩, h1, rfl, rfl⟩ := h
      exact ⟨v', .z (.sc _), fun w' => by simp only [Sem.run_bind, run_eqGuard_int, Result.andThen_ok, shiftI_run h1 hc]⟩
    · rename_i hs
      split at h
      · rename_i hk
        subst hk
        simp only [Option.map_eq_some_iff, Prod.mk.injEq] at h
        obtain ⟨⟨c', v'⟩, h1, rfl, rfl⟩ := h
        exact ⟨v', .z (.sc _), fun w' => by simp only [Sem.run_bind, run_eqGuard_int, Result.andThen_ok, binI_run h1 hc (by simpa using hs)]⟩
      · cases h
  · rename_i a b
    have e1 := hx.sc_inv
    have e2 := hy.sc_inv
    subst e1 e2
    split at h
    · rename_i hk
      cases h
      exact ⟨_, .z (.sc _), fun w' => by simp [run_eqGuard_bool, binOp, eq_bool hk]⟩
    · rename_i hk
      cases h
      exact ⟨_, .z (.sc _), fun w' => by simp [run_eqGuard_bool, binOp, eq_bool hk]⟩
    · cases h
  · rename_i a b
    have e1 := hx.sc_inv
    have e2 := hy.sc_inv
    subst e1 e2
    split at h <;> (try cases h)
    · exact ⟨_, .z (.sc _), fun w' => by simp [run_eqGuard_str, binOp, Op.stringOp]⟩
    · exact ⟨_, .z (.sc _), fun w' => by simp [run_eqGuard_str, binOp, Op.stringOp]⟩
    · exact ⟨_, .z (.sc _), fun w' => by simp [run_eqGuard_str, binOp, Op.stringOp]⟩
    · refine ⟨_, .z (.sc _), fun w' => ?_⟩
      have : ¬ (((a.size + b.size : Nat) : Int) > IntKind.i64.max) := by omega
      simp only [Sem.run_bind, run_eqGuard_str, Result.andThen_ok, binOp, Op.stringOp, if_neg this, Sem.run_pure]
  · rename_i xs ys
    obtain ⟨us, rfl, hl1, h1⟩ := hx.agg_inv
    obtain ⟨vs, rfl, hl2, h2⟩ := hy.agg_inv
    split at h
    · rename_i fs hk
      obtain ⟨fa, hu, hfs, hok⟩ := und_struct hk
      obtain ⟨hst, hg, hn⟩ := hok rfl
      have key : ∀ r, eqFs P fs xs ys = some r → ∀ w', (Op.equal t (.agg us) (.agg vs)).run P w' = .ok r w' := by
        intro r hr w'
        have hfo : P.fieldsOf t = fa := by simp [Program.fieldsOf, hu]
        rw [Op.equal, Op.maxDepth, run_equalIn_struct (P := P) w' 9999 t us vs (by rw [hfo]; exact hu) hst, hfo]
        exact eqFs_run (d := 9998) fa.toList xs ys us vs r (by rw [← hfs]; exact hr) hn hl1 hl2 h1 h2 w'
      split at h
      · simp only [Option.map_eq_some_iff, Prod.mk.injEq] at h
        obtain ⟨r, h3, rfl, rfl⟩ := h
        exact ⟨_, .z (.sc _), fun w' => by simp [run_eqGuard_agg _ _ _ _ _ _ hg, binOp, key r h3]⟩
      · simp only [Option.map_eq_some_iff, Prod.mk.injEq] at h
        obtain ⟨r, h3, rfl, rfl⟩ := h
        exact ⟨_, .z (.sc _), fun w' => by simp [run_eqGuard_agg _ _ _ _ _ _ hg, binOp, key r h3]⟩
      · cases h
    · cases h
  · cases h

theorem unV_run {op : UnOp} {x v : AV} {ux : Value} (h : unV op x = some v) (hx : Rep η Z w x ux) : ∃ u, Rep η Z w v u ∧ ∀ w', (Op.unary op ux).run P w' = .ok u w' := by
  unfold unV at h
  split at h
  · have e := hx.sc_inv; subst e; cases h; exact ⟨_, .z (.sc _), fun w' => by simp [Op.unary]⟩
  · have e := hx.sc_inv; subst e; cases h; exact ⟨_, .z (.sc _), fun w' => by simp [Op.unary, Op.intArith]⟩
  · cases h

theorem lenV_run {t : TypeId} {x : AV} {n : Nat} {ux : Value} (h : lenV (tkOf P t) x = some n) (hx : Rep η Z w x ux) (ty : TypeId) (w' : World) :
    (Builtin.len_ #[t] ty #[ux]).run P w' = .ok (.int .i64 n) w' := by
  unfold lenV at h
  split at h
  · split at h
    · rename_i hk; cases h
      cases hx with | z hz => cases hz; simp [Builtin.len_, run_underlying (und_slice hk), goInt]
    · cases h
  · split at h
    · rename_i hk; cases h
      cases hx with
      | z hz => cases hz
      | own => simp [Builtin.len_, run_underlying (und_slice hk), goInt]
      | ownNil => simp [Builtin.len_, run_underlying (und_slice hk), goInt]
    · cases h
  · split at h
    · rename_i hk; cases h
      have e := hx.sc_inv; subst e
      simp [Builtin.len_, run_underlying (und_slice hk), goInt]
    · cases h
  · split at h
    · rename_i hk; cases h
      have e := hx.sc_inv; subst e
      simp [Builtin.len_, run_underlying (und_str hk), goInt]
    · cases h
  · cases h

theorem addOff_rep {off : Nat} {x v : AV} {ux : Value} (h : addOff off x = some v) (hx : Rep η Z w x ux) : ∃ b x, ux = .pointer (some ⟨b, x, none⟩) ∧ Rep η Z w v (.pointer (some ⟨b, x + off, none⟩)) := by
  unfold addOff at h
  split at h
  · cases h
    cases hx with
    | z hz => cases hz
    | ptr hη => exact ⟨_, _, rfl, by rw [Nat.add_assoc]; exact .ptr hη⟩
  · cases h
    cases hx with
    | z hz => cases hz
    | elp hη => exact ⟨_, _, rfl, by rw [Nat.add_assoc]; exact .elp hη⟩
  · cases h
    cases hx with | z hz => cases hz with | rowp us hZ hc hr => exact ⟨_, _, rfl, by rw [Nat.add_assoc]; exact .z (.rowp us hZ hc hr)⟩
  · cases h

theorem idxAddr_run {t e : TypeId} {ty : Ty} {x : AV} {i : Int} {c : Prop} {v : AV} {ux : Value} {k : IntKind} (hk : tkOf P t = .slice e) (hty : tyOf P e = some ty) (h : idxAddr ty.size x i = some (c, v)) (hc : c)
    (hx : Rep η Z w x ux) : ∃ u, Rep η Z w v u ∧ ∀ w', (Instr.indexAt t ux (.int k i)).run P w' = .ok u w' := by
  unfold idxAddr at h
  split at h
  · rename_i z full k' n f
    split at h
    · rename_i hks
      cases h
      cases hx with | z hz => cases hz with | @fz _ _ _ _ _ A c us hcc hf hn hq hr =>
        obtain ⟨b, o, rfl, _, hZ, hcell⟩ := hn (by omega)
        refine ⟨.pointer (some ⟨b, o + i.toNat * k' + 0, none⟩), .z (.rowp (us i.toNat) hZ (fun j hj => ?_) (fun j c hj => hr i.toNat (by omega) j c hj)), fun w' => ?_⟩
        · have := hcell i.toNat (by omega)
          exact (this.2 j (by omega)).1
        · subst hks
          simp [Instr.indexAt, asIntOf, run_underlying (und_slice hk), hc, run_sizeOf' hty, add_eq]
    · cases h
  · rename_i id k' i0 n full
    split at h
    · rename_i hks
      cases h
      cases hx with
      | z hz => cases hz
      | @own _ _ _ _ _ b o cs e c A hη hb hA hfit hcc hf =>
        have hA' := hA (by omega)
        subst hA'
        refine ⟨.pointer (some ⟨b, o + (i0 + i.toNat) * k' + 0, none⟩), .elp hη, fun w' => ?_⟩
        subst hks
        simp [Instr.indexAt, asIntOf, run_underlying (und_slice hk), hc, run_sizeOf' hty, add_eq, Nat.add_mul, Nat.add_assoc]
      | ownNil => omega
    · cases h
  · cases h
end
end Go.Am
