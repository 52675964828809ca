/-
  THE ABSTRACT MACHINE, part C: the model's run of an operation that only computes and reads gives what 'evQ' says.
-/
import Derived.Test.YtjmomolnhplokaaDoorAmB
namespace Go.Am
set_option linter.unusedVariables false
section
variable {P : Program} {G : Gl} {η : Eta} {Z : ZP} {w : World}

def TRep (η : Eta) (Z : ZP) (w : World) (t : List (Nat × AV)) (a : Act) : Prop := ∀ i c, lk t i = some c → Rep η Z w c (a.tmps.getD i undef)
def GRep (G : Gl) (Z : ZP) (w : World) : Prop := ∀ g row, G g = some row → RepZ Z w (.rowp row 0) (.pointer (some ⟨g, 0, none⟩))

theorem Rep.sc_inv {v u : Value} (h : Rep η Z w (.sc v) u) : u = v := by
  cases h with | z h => cases h; rfl
theorem Rep.agg_inv {cs : List AV} {u : Value} (h : Rep η Z w (.agg cs) u) : ∃ us, u = .agg us ∧ us.size = cs.length ∧ ∀ (i : Nat) (c : AV) (u : Value), cs[i]? = some c → us[i]? = some u → Rep η Z w c u := by
  cases h with
  | z h => cases h with | agg hl hr => exact ⟨_, rfl, hl, fun i c u h1 h2 => .z (hr i c u h1 h2)⟩
  | agg hl hr => exact ⟨_, rfl, hl, hr⟩
theorem Rep.tup_inv {cs : List AV} {u : Value} (h : Rep η Z w (.tup cs) u) : ∃ us, u = .tuple us ∧ us.size = cs.length ∧ ∀ (i : Nat) (c : AV) (u : Value), cs[i]? = some c → us[i]? = some u → Rep η Z w c u := by
  cases h with
  | z h => cases h with | tup hl hr => exact ⟨_, rfl, hl, fun i c u h1 h2 => .z (hr i c u h1 h2)⟩
  | tup hl hr => exact ⟨_, rfl, hl, hr⟩

theorem constAV_rep (v : Value) : Rep η Z w (constAV v) v := by
  unfold constAV
  split
  · rename_i cs
    refine .z (.agg (by simp) fun i c u hc hu => ?_)
    simp only [List.getElem?_map, Array.getElem?_toList, Option.map_eq_some_iff] at hc
    obtain ⟨x, hx, rfl⟩ := hc
    rw [hu] at hx
    cases hx
    exact .sc _
  · exact .z (.sc _)

theorem ev_rep {st : St} {a : Act} (ht : TRep η Z w st.t a) (hg : GRep G Z w) (x : Operand) : Rep η Z w (ev G st x) (a.eval x) := by
  cases x with
  | tmp i =>
    simp only [ev, Act.eval, St.get]
    cases h : lk st.t i with
    | none => exact .z (.unk _)
    | some c => exact ht i c h
  | const v => exact constAV_rep v
  | global g =>
    simp only [ev, Act.eval]
    cases h : G g with
    | none => exact .z (.unk _)
    | some row => exact .z (hg g row h)
  | func f =>
    simp only [ev, Act.eval]
    exact .z (.clo (by simp) (by simp) (by simp) (by simp))

theorem add_eq (b x n : Nat) : (⟨b, x, none⟩ : Addr).add n = ⟨b, x + n, none⟩ := by
  unfold Addr.add
  split
  · rename_i h; subst h; rfl
  · rfl

/-! ### types -/
theorem tyOf_some {t : TypeId} {ty : Ty} (h : tyOf P t = some ty) : ∃ i z, P.info? t = some i ∧ i.zero = some z ∧ ty.size = i.size ∧ ty.bytes = i.bytes ∧ ty.zero = z.cells.toList ∧ ty.kind = tkOf P t := by
  unfold tyOf at h
  cases hi : P.info? t with
  | none => simp [hi] at h
  | some i =>
    simp only [hi, Option.bind_some] at h
    cases hz : i.zero with
    | none => simp [hz] at h
    | some z =>
      simp only [hz, Option.map_some, Option.some.injEq] at h
      subst h
      exact ⟨i, z, rfl, hz, rfl, rfl, rfl, rfl⟩
theorem run_info {t : TypeId} {i : TypeInfo} (h : P.info? t = some i) (w : World) : (typeInfo t).run P w = .ok i w := by
  simp [typeInfo, h]
theorem run_sizeOf' {t : TypeId} {ty : Ty} (h : tyOf P t = some ty) (w : World) : (sizeOf t).run P w = .ok ty.size w := by
  obtain ⟨i, z, hi, hz, hs, _⟩ := tyOf_some h
  simp [sizeOf, run_info hi, hs]
theorem run_sizeOf_info {t : TypeId} {i : TypeInfo} (h : P.info? t = some i) (w : World) : (sizeOf t).run P w = .ok i.size w := by
  simp [sizeOf, run_info h]
theorem run_zero' {t : TypeId} {ty : Ty} (h : tyOf P t = some ty) (w : World) : ∃ z, (zeroValue t).run P w = .ok z w ∧ z.cells.toList = ty.zero := by
  obtain ⟨i, z, hi, hz, hs, hb, hzz, _⟩ := tyOf_some h
  exact ⟨z, by simp [zeroValue, run_info hi, hz], hzz.symm⟩
theorem und_of {t : TypeId} {k : TK} (h : tkOf P t = k) (hk : k.known = true) : ∃ d, P.underlying t = some d ∧ (k.agg = true ↔ ∃ x, d = .struct x ∨ ∃ n e, d = .array n e) := by
  unfold tkOf at h
  split at h <;> subst h <;> simp_all [TK.agg, TK.known]
theorem run_isAgg {t : TypeId} {k : TK} (h : tkOf P t = k) (hk : k.known = true) (w : World) : (isAgg t).run P w = .ok k.agg w := by
  obtain ⟨d, hd, hiff⟩ := und_of h hk
  simp only [isAgg, Sem.run_bind, run_underlying hd, Result.andThen_ok]
  cases d <;> cases hk : k.agg <;> simp_all
theorem und_slice {t e : TypeId} (h : tkOf P t = .slice e) : P.underlying t = some (.slice e) := by
  unfold tkOf at h; split at h <;> simp_all
theorem und_str {t : TypeId} (h : tkOf P t = .str) : P.underlying t = some .string := by
  unfold tkOf at h; split at h <;> simp_all
theorem und_bool {t : TypeId} (h : tkOf P t = .bool) : P.underlying t = some .bool := by
  unfold tkOf at h; split at h <;> simp_all
theorem und_int {t : TypeId} {k : IntKind} (h : tkOf P t = .int k) : P.underlying t = some (.int k) := by
  unfold tkOf at h; split at h <;> simp_all
theorem und_struct {t : TypeId} {fs : List (Nat × TypeId)} {b : Bool} (h : tkOf P t = .struct fs b) : ∃ x, P.underlying t = some (.struct x) ∧ fs = x.toList.map (fun f => (f.offset, f.type)) ∧
    (b = true → P.stoodInHeld t = false ∧ P.eqGuardType P.depth t = false ∧ ∀ f ∈ x.toList, f.name ≠ "_") := by
  unfold tkOf at h
  split at h <;> simp_all
  rintro rfl
  have h2 := h.2
  simp only [Bool.and_eq_true, Bool.not_eq_true', ← Array.all_toList, List.all_eq_true, bne_iff_ne, Array.mem_toList_iff] at h2
  exact ⟨h2.1.1, h2.1.2, h2.2⟩

/-! ### reading cells -/
theorem run_load_cell {a : Addr} {u : Value} (h : w.cell? a = some u) : (load a).run P w = .ok u w := by
  simp [h]
theorem run_loadCellsFrom {a : Addr} {us : Nat → Value} : ∀ (n i : Nat) (acc : Array Value), (∀ j, j < n → w.cell? (a.add (i + j)) = some (us (i + j))) →
    (loadCellsFrom a i n acc).run P w = .ok (acc ++ ((List.range' i n).map us).toArray) w := by
  intro n
  induction n with
  | zero => intro i acc h; simp [loadCellsFrom]
  | succ n ih =>
    intro i acc h
    have h0 : w.cell? (a.add i) = some (us i) := h 0 (by omega)
    simp only [loadCellsFrom, Sem.run_bind, run_load_cell h0, Result.andThen_ok]
    rw [ih (i + 1) (acc.push (us i)) (fun j hj => by have := h (j + 1) (by omega); rw [show i + (j + 1) = i + 1 + j from by omega] at this; exact this)]
    simp [List.range'_succ]
theorem run_loadCells {b x n : Nat} {us : Nat → Value} (h : ∀ j, j < n → w.cell? ⟨b, x + j, none⟩ = some (us j)) :
    (loadCells ⟨b, x, none⟩ n).run P w = .ok ((List.range n).map us).toArray w := by
  unfold loadCells
  rw [run_loadCellsFrom (us := us) n 0 #[] (fun j hj => by rw [add_eq]; simpa using h j hj)]
  simp [List.range_eq_range']

/-- a part of cells, as a value -/
theorem run_loadVar {t : TypeId} {ty : Ty} {b x : Nat} {j : Nat} {us : Nat → Value} {r : List AV} {v : AV} (ht : tyOf P t = some ty) (hp : partV ty r j = some v)
    (hc : ∀ i, i < r.length → w.cell? ⟨b, x + i, none⟩ = some (us i)) (hr : ∀ (i : Nat) (c : AV), r[i]? = some c → Rep η Z w c (us i)) :
    ∃ u, Rep η Z w v u ∧ ∀ w' : World, w'.heap[b]? = w.heap[b]? → (loadVar t ⟨b, x + j, none⟩).run P w' = .ok u w' := by
  have hkind : ty.kind = tkOf P t := (tyOf_some ht).choose_spec.choose_spec.2.2.2.2.2
  unfold partV at hp
  split at hp
  case isFalse => cases hp
  rename_i hkn
  have hp' := hp
  clear hp
  by_cases hag : ty.kind.agg = true
  · rw [if_pos hag] at hp'
    split at hp'
    · rename_i hle
      simp only [Option.some.injEq] at hp'
      subst hp'
      refine ⟨.agg ((List.range ty.size).map fun i => us (j + i)).toArray, .agg (by simp; omega) (fun i c u h1 h2 => ?_), fun w' hw' => ?_⟩
      · simp only [List.getElem?_take, List.getElem?_drop] at h1
        split at h1
        · simp only [List.getElem?_toArray, List.getElem?_map, Option.map_eq_some_iff] at h2
          obtain ⟨i', hi', rfl⟩ := h2
          rename_i hlt
          rw [List.getElem?_range hlt] at hi'
          cases hi'
          exact hr _ c h1
        · cases h1
      · simp only [loadVar, Sem.run_bind, run_isAgg hkind.symm hkn, Result.andThen_ok, hag, if_true, run_sizeOf' ht]
        rw [run_loadCells (us := fun i => us (j + i)) (fun i hi => ?_)]
        · simp
        · rw [cell?_congr hw']; have := hc (j + i) (by omega); rw [Nat.add_assoc]; exact this
    · cases hp'
  · rw [if_neg hag] at hp'
    have hlt : j < r.length := (List.getElem?_eq_some_iff.1 hp').1
    refine ⟨us j, hr j v hp', fun w' hw' => ?_⟩
    simp only [loadVar, Sem.run_bind, run_isAgg hkind.symm hkn, Result.andThen_ok, hag]
    have := hc j hlt
    rw [← cell?_congr (w := w) (w' := w') hw'] at this
    simp [this]

def AV.idOf : AV → Option Nat
  | .ptr id _ => some id
  | .elp id .. => some id
  | _ => none

theorem rowOf_rep {h : Hp} {c : AV} {p : Prop} {r : List AV} {j : Nat} {u : Value} (hro : rowOf h c = some (p, r, j)) (hp : p) (hu : Rep η Z w c u) (hh : HRep η Z w h) :
    ∃ (b x : Nat) (us : Nat → Value), u = .pointer (some ⟨b, x + j, none⟩) ∧ (∀ i, i < r.length → w.cell? ⟨b, x + i, none⟩ = some (us i)) ∧ (∀ (i : Nat) (c : AV), r[i]? = some c → Rep η Z w c (us i)) ∧
      (Z false b ∨ ∃ id o, c.idOf = some id ∧ η id = some (b, o)) := by
  cases c with
  | rowp row j' =>
    simp only [rowOf, Option.some.injEq, Prod.mk.injEq] at hro
    obtain ⟨_, rfl, rfl⟩ := hro
    cases hu with | z hz => cases hz with | @rowp _ _ b o us hZ hc hr => exact ⟨b, o, us, rfl, hc, fun i c hi => .z (hr i c hi), .inl hZ⟩
  | ptr id j' =>
    simp only [rowOf] at hro
    split at hro
    · rename_i cs hlk
      simp only [Option.some.injEq, Prod.mk.injEq] at hro
      obtain ⟨_, rfl, rfl⟩ := hro
      cases hu with
      | z hz => cases hz
      | @ptr _ _ b o hη =>
        have hb := hh.rep id _ hlk
        rw [hη] at hb
        obtain ⟨cs', e, hb1, hlen, hcell⟩ := hb
        refine ⟨b, o, fun i => cs'.getD (o + i) undef, rfl, fun i hi => ?_, fun i c hi => ?_, .inr ⟨id, o, rfl, hη⟩⟩
        · have hlt : o + i < cs'.size := by omega
          simp [World.cell?, hb1, hlt]
        · obtain ⟨u, hu, hr⟩ := hcell i c hi
          have : cs'.getD (o + i) undef = u := by simp [Array.getD_eq_getD_getElem?, hu]
          show Rep η Z w c (cs'.getD (o + i) undef)
          rw [this]; exact hr
    · cases hro
  | elp id k i j' =>
    simp only [rowOf] at hro
    split at hro
    · rename_i k' n f ex hlk
      split at hro
      · rename_i hk
        subst hk
        simp only [Option.some.injEq, Prod.mk.injEq] at hro
        obtain ⟨rfl, rfl, rfl⟩ := hro
        cases hu with
        | z hz => cases hz
        | @elp _ _ _ _ b o hη =>
          have hb := hh.rep id _ hlk
          rw [hη] at hb
          obtain ⟨cs', e, hb1, hlen, _, hcell⟩ := hb
          obtain ⟨hl, hcell⟩ := hcell i hp
          refine ⟨b, o + i * k, fun x => cs'.getD (o + i * k + x) undef, rfl, fun x hx => ?_, fun x c hx => ?_, .inr ⟨id, o, rfl, hη⟩⟩
          · have : (i + 1) * k ≤ n * k := Nat.mul_le_mul_right k (by omega)
            rw [Nat.add_mul] at this
            have hlt : o + i * k + x < cs'.size := by omega
            simp [World.cell?, hb1, hlt]
          · obtain ⟨_, u, hu, _, hr⟩ := hcell x c hx
            have : cs'.getD (o + i * k + x) undef = u := by simp [Array.getD_eq_getD_getElem?, hu]
            show Rep η Z w c (cs'.getD (o + i * k + x) undef)
            rw [this]; exact .z hr
      · cases hro
    · cases hro
  | _ => simp [rowOf] at hro
end
end Go.Am
