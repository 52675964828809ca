/-
  THE ABSTRACT MACHINE, part F: 'evQ' as a whole.
-/
import Derived.Test.YtjmomolnhplokaaDoorAmE
namespace Go.Am
set_option linter.unusedVariables false
set_option linter.unusedSimpArgs false
section
variable {P : Program} {G : Gl} {η : Eta} {Z : ZP} {w : World}

/-- which of one's own an operation reads -/
def rdO (G : Gl) (st : St) (o : Oper) (id : Nat) : Prop :=
  match o.op with
  | .load _ x => (ev G st x).idOf = some id
  | _ => False

theorem run_v {s : Sem Value} {u : Value} {w' : World} (h : s.run P w' = .ok u w') : (do pure (.value (← s)) : Sem Next).run P w' = .ok (.value u) w' := by
  simp [h]

/-- an operation that only computes gives its value in every world; a load in every world in which its block is as it was -/
def QOk2 (P : Program) (G : Gl) (η : Eta) (Z : ZP) (w : World) (st : St) (a : Act) (o : Oper) (v : AV) : Prop :=
  ∃ u, Rep η Z w v u ∧ ((∀ w', (execOp a.eval o).run P w' = .ok (.value u) w') ∨
    ∃ t x b, o.op = .load t x ∧ (((ev G st x).idOf = none ∧ Z false b) ∨ ∃ id o', (ev G st x).idOf = some id ∧ (∃ blk, lk st.h id = some blk) ∧ η id = some (b, o')) ∧ ∀ w' : World, w'.heap[b]? = w.heap[b]? → (execOp a.eval o).run P w' = .ok (.value u) w')
theorem evQ_sound2 {st : St} {o : Oper} {c : Prop} {v : AV} {a : Act} (h : evQ P G st o = some (c, v)) (hc : c) (ht : TRep η Z w st.t a) (hh : HRep η Z w st.h) (hg : GRep G Z w) :
    QOk2 P G η Z w st a o v := by
  have E := fun x => ev_rep ht hg x
  obtain ⟨dst, op, type, pos, after, guard⟩ := o
  cases op <;> simp only [evQ, reduceCtorEq] at h
  case move x =>
    cases h
    exact ⟨_, E x, .inl fun w' => by simp [execOp]⟩
  case assign x =>
    cases h
    exact ⟨_, E x, .inl fun w' => by simp [execOp]⟩
  case pick cnd x y =>
    split at h
    · rename_i t hcv
      cases h
      have e := E cnd
      rw [hcv] at e
      have e := e.sc_inv
      refine ⟨if t then a.eval x else a.eval y, ?_, .inl fun w' => by simp [execOp, e, asBool]⟩
      have ex := E x
      have ey := E y
      unfold pickV
      split
      · rename_i bx by_ hbx hby
        rw [hbx] at ex
        rw [hby] at ey
        rw [ex.sc_inv, ey.sc_inv]
        cases t
        · exact .z (.sc _)
        · exact .z (.sc _)
      · cases t
        · exact ey
        · exact ex
    · cases h
  case binOp op t x y yt =>
    obtain ⟨u, hu, hr⟩ := binV_run h hc (E x) (E y) x y
    exact ⟨u, hu, .inl fun w' => by simp only [execOp]; exact run_v (hr w')⟩
  case unOp op t x =>
    simp only [Option.map_eq_some_iff, Prod.mk.injEq] at h
    obtain ⟨v', h, rfl, rfl⟩ := h
    obtain ⟨u, hu, hr⟩ := unV_run h (E x)
    exact ⟨u, hu, .inl fun w' => by simp only [execOp]; exact run_v (hr w')⟩
  case call cl =>
    obtain ⟨callee, args, argTypes⟩ := cl
    split at h
    · rename_i hcal
      simp only at hcal
      subst hcal
      split at h
      · rename_i x t hargs htys
        simp only at hargs htys
        simp only [Option.map_eq_some_iff, Prod.mk.injEq] at h
        obtain ⟨n, h, rfl, rfl⟩ := h
        obtain rfl : args = #[x] := by rw [← Array.toList_inj]; simpa using hargs
        obtain rfl : argTypes = #[t] := by rw [← Array.toList_inj]; simpa using htys
        refine ⟨_, .z (.sc _), .inl fun w' => ?_⟩
        have := lenV_run h (E x) type w'
        simp [execOp, resolve, invoke, builtin, this]
      · cases h
    · rename_i hcal
      simp only at hcal
      subst hcal
      split at h
      · rename_i x y hargs
        simp only at hargs
        obtain rfl : args = #[x, y] := by rw [← Array.toList_inj]; simpa using hargs
        split at h
        · rename_i k a' k' b' hx hy
          cases h
          have ex := E x
          have ey := E y
          rw [hx] at ex
          rw [hy] at ey
          refine ⟨_, .z (.sc _), .inl fun w' => ?_⟩
          simp [execOp, resolve, invoke, builtin, ex.sc_inv, ey.sc_inv, Builtin.max_, Builtin.max2]
        · cases h
      · cases h
    · rename_i hcal
      simp only at hcal
      subst hcal
      split at h
      · rename_i x y hargs
        simp only at hargs
        obtain rfl : args = #[x, y] := by rw [← Array.toList_inj]; simpa using hargs
        split at h
        · rename_i k a' k' b' hx hy
          cases h
          have ex := E x
          have ey := E y
          rw [hx] at ex
          rw [hy] at ey
          refine ⟨_, .z (.sc _), .inl fun w' => ?_⟩
          simp [execOp, resolve, invoke, builtin, ex.sc_inv, ey.sc_inv, Builtin.min_, Builtin.min2]
        · cases h
      · cases h
    · cases h
  case indexAddr t x i =>
    split at h
    · rename_i e i' hk hi
      simp only [Option.bind_eq_some_iff] at h
      obtain ⟨ty, hty, h⟩ := h
      obtain ⟨k, hiv⟩ := Rep.asI_inv hi (E i)
      obtain ⟨u, hu, hr⟩ := idxAddr_run (k := k) hk hty h hc (E x)
      exact ⟨u, hu, .inl fun w' => by simp only [execOp, hiv]; exact run_v (hr w')⟩
    · cases h
  case index t x i =>
    split at h
    · rename_i s i' hk hx hi
      cases h
      obtain ⟨k, hiv⟩ := Rep.asI_inv hi (E i)
      have ex := E x
      rw [hx] at ex
      refine ⟨_, .z (.sc _), .inl fun w' => ?_⟩
      obtain ⟨h0, h1⟩ := hc
      have hlt : i'.toNat < s.size := by omega
      have hlt' : i'.toNat < s.data.size := hlt
      have hs : s[i'.toNat]? = some (s.data.getD i'.toNat 0) := by
        have : s[i'.toNat]? = some s[i'.toNat] := by simp [hlt]
        rw [this]
        congr 1
        simp only [Array.getD_eq_getD_getElem?, Array.getElem?_eq_getElem hlt', Option.getD_some]
        rfl
      simp only [execOp, hiv, ex.sc_inv]
      refine run_v ?_
      simp [Instr.index, asIntOf, run_underlying (und_str hk), h0, hs, charV]
    · cases h
  case fieldAddr s x f =>
    split at h
    · rename_i fs ok hk
      split at h
      · rename_i off t hf
        simp only [Option.bind_eq_some_iff] at h
        obtain ⟨ty, hty, h⟩ := h
        split at h
        · cases h
        · rename_i hsz
          simp only [Option.map_eq_some_iff, Prod.mk.injEq] at h
          obtain ⟨v', h, rfl, rfl⟩ := h
          obtain ⟨b, x', hx, hr⟩ := addOff_rep h (E x)
          refine ⟨_, hr, .inl fun w' => ?_⟩
          obtain ⟨fa, hu, hfs, _⟩ := und_struct hk
          subst hfs
          simp only [List.getElem?_map, Option.map_eq_some_iff, Array.getElem?_toList, Prod.mk.injEq] at hf
          obtain ⟨fld, hfld, rfl, rfl⟩ := hf
          simp only [execOp, hx]
          refine run_v ?_
          simp [Instr.fieldAt, run_underlying hu, hfld, Instr.sureAddr, fieldPlace, run_sizeOf' hty, hsz, add_eq]
      · cases h
    · cases h
  case field s x f =>
    split at h
    · rename_i fs ok cs hk hx
      split at h
      · rename_i off t hf
        simp only [Option.bind_eq_some_iff] at h
        obtain ⟨ty, hty, h⟩ := h
        simp only [Option.map_eq_some_iff, Prod.mk.injEq] at h
        obtain ⟨v', h, rfl, rfl⟩ := h
        have ex := E x
        rw [hx] at ex
        obtain ⟨us, hus, hl, hr⟩ := ex.agg_inv
        obtain ⟨fa, hu, hfs, _⟩ := und_struct hk
        subst hfs
        simp only [List.getElem?_map, Option.map_eq_some_iff, Array.getElem?_toList, Prod.mk.injEq] at hf
        obtain ⟨fld, hfld, rfl, rfl⟩ := hf
        have hkind : ty.kind = tkOf P fld.type := (tyOf_some hty).choose_spec.choose_spec.2.2.2.2.2
        have key : ∃ u, Rep η Z w v' u ∧ ∀ w', (part fld.type us fld.offset).run P w' = .ok u w' := by
          unfold partV at h
          split at h
          · rename_i hkn
            split at h
            · rename_i hag
              split at h
              · rename_i hle
                cases h
                refine ⟨.agg (us.extract fld.offset (fld.offset + ty.size)), .agg (by simp; omega) (fun i c u h1 h2 => ?_), fun w' => ?_⟩
                · simp only [List.getElem?_take, List.getElem?_drop] at h1
                  split at h1
                  · rw [Array.getElem?_extract] at h2
                    split at h2
                    · exact hr _ c u h1 h2
                    · cases h2
                  · cases h1
                · simp [part, run_isAgg hkind.symm hkn, hag, run_sizeOf' hty]
              · cases h
            · rename_i hag
              obtain ⟨u, hu'⟩ := get_of_agg hl h
              exact ⟨u, hr _ _ _ h hu', fun w' => by simp [part, run_isAgg hkind.symm hkn, hag, hu']⟩
          · cases h
        obtain ⟨u, hu1, hu2⟩ := key
        refine ⟨u, hu1, .inl fun w' => ?_⟩
        simp only [execOp, hus]
        refine run_v ?_
        simp [Instr.field, run_underlying hu, hfld, asAgg, hu2]
      · cases h
    · cases h
  case nilCheck x =>
    simp only [Option.map_eq_some_iff, Prod.mk.injEq] at h
    obtain ⟨v', h, rfl, rfl⟩ := h
    obtain ⟨b, x', hx, hr⟩ := addOff_rep h (E x)
    exact ⟨_, hr, .inl fun w' => by simp [execOp, hx]⟩
  case load t x =>
    simp only [Option.bind_eq_some_iff] at h
    obtain ⟨ty, hty, ⟨c', r, j⟩, hro, h⟩ := h
    simp only [Option.map_eq_some_iff, Prod.mk.injEq] at h
    obtain ⟨v', hp, rfl, rfl⟩ := h
    obtain ⟨b, x', us, hux, hcell, hrep, hb⟩ := rowOf_rep hro hc (E x) hh
    obtain ⟨u, hu, hrun⟩ := run_loadVar (j := j) hty hp hcell hrep
    refine ⟨u, hu, .inr ⟨t, x, b, rfl, ?_, fun w' hsame => ?_⟩⟩
    · cases hid : (ev G st x).idOf with
      | none =>
        rcases hb with hZ | ⟨id, o, hid', hη⟩
        · exact .inl ⟨rfl, hZ⟩
        · rw [hid] at hid'; cases hid'
      | some id =>
        have hlk : ∃ blk, lk st.h id = some blk := by
          cases hx : ev G st x <;> rw [hx] at hid hro <;> simp only [AV.idOf, reduceCtorEq, Option.some.injEq] at hid <;> subst hid <;> simp only [rowOf] at hro
          · split at hro
            · exact ⟨_, ‹_›⟩
            · cases hro
          · split at hro
            · exact ⟨_, ‹_›⟩
            · cases hro
        rcases hb with hZ | ⟨id', o, hid', hη⟩
        · -- the block is one's own
          have hown : ∃ o', η id = some (b, o') := by
            have E' := E x
            generalize hE : a.eval x = uu at E'
            rw [hux] at hE
            cases hx : ev G st x <;> rw [hx] at hid E' <;> simp only [AV.idOf, reduceCtorEq, Option.some.injEq] at hid <;> subst hid
            · cases E' with
              | z hz => cases hz
              | ptr hη =>
                simp only [Value.pointer.injEq, Option.some.injEq, Addr.mk.injEq] at hE
                rw [← hE.1] at hη
                exact ⟨_, hη⟩
            · cases E' with
              | z hz => cases hz
              | elp hη =>
                simp only [Value.pointer.injEq, Option.some.injEq, Addr.mk.injEq] at hE
                rw [← hE.1] at hη
                exact ⟨_, hη⟩
          obtain ⟨o', hη⟩ := hown
          exact .inr ⟨id, o', rfl, hlk, hη⟩
        · rw [hid] at hid'
          cases hid'
          exact .inr ⟨id, o, rfl, hlk, hη⟩
    simp only [execOp, hux]
    refine run_v ?_
    simp only [Instr.loadAt, Sem.run_bind, Instr.sureAddr, Sem.run_pure, Result.andThen_ok]
    exact hrun w' hsame
  case slice t x lo hi mx =>
    split at h
    · rename_i lo' hi' mx' h1 h2 h3
      have o1 := optI_rep ht hg h1
      have o2 := optI_rep ht hg h2
      have o3 := optI_rep ht hg h3
      split at h
      · rename_i e hk
        split at h
        · cases h
        · rename_i v' hns
          simp only [Option.bind_eq_some_iff] at h
          obtain ⟨ty, hty, h⟩ := h
          obtain ⟨u, hu, hr⟩ := sliceV_run hk hty h hc (E x) o1 o2 o3 hns
          exact ⟨u, hu, .inl fun w' => by simp only [execOp]; exact run_v (hr w')⟩
      · rename_i hk
        split at h
        · rename_i s hx
          have ex := E x
          rw [hx] at ex
          obtain ⟨u, hu, hr⟩ := sliceS_run (η := η) (Z := Z) (w := w) hk h hc o1 o2 o3
          exact ⟨u, hu, .inl fun w' => by simp only [execOp, ex.sc_inv]; exact run_v (hr w')⟩
        · cases h
      · cases h
    · cases h
  case extract x i =>
    split at h
    · rename_i cs hx
      simp only [Option.map_eq_some_iff, Prod.mk.injEq] at h
      obtain ⟨v', h, rfl, rfl⟩ := h
      have ex := E x
      rw [hx] at ex
      obtain ⟨us, hus, hl, hr⟩ := ex.tup_inv
      obtain ⟨u, hu⟩ := get_of_agg hl h
      exact ⟨u, hr _ _ _ h hu, .inl fun w' => by simp [execOp, hus, Instr.extract, hu]⟩
    · cases h
  case makeFunc fn first cap =>
    cases h
    refine ⟨.func fn (first.map a.eval) (cap.map a.eval), .clo (by simp) (fun i c u h1 h2 => ?_) (by simp) (fun i c u h1 h2 => ?_), .inl fun w' => by simp [execOp, Instr.makeFunc]⟩
    · simp only [List.getElem?_map, Option.map_eq_some_iff, Array.getElem?_toList, Array.getElem?_map] at h1 h2
      obtain ⟨x, hx, rfl⟩ := h1
      obtain ⟨y, hy, rfl⟩ := h2
      rw [hx] at hy
      cases hy
      exact E _
    · simp only [List.getElem?_map, Option.map_eq_some_iff, Array.getElem?_toList, Array.getElem?_map] at h1 h2
      obtain ⟨x, hx, rfl⟩ := h1
      obtain ⟨y, hy, rfl⟩ := h2
      rw [hx] at hy
      cases hy
      exact E _
  case convert s d x =>
    split at h
    · rename_i k1 k k2 n hs hd hx
      cases h
      have ex := E x
      rw [hx] at ex
      exact ⟨_, .z (.sc _), .inl fun w' => by simp [execOp, convert, run_underlying (und_int hs), run_underlying (und_int hd), ex.sc_inv, Conv.intToInt]⟩
    · cases h
  case build t parts =>
    simp only [Option.bind_eq_some_iff] at h
    obtain ⟨ty, hty, h⟩ := h
    split at h
    · rename_i fs ok hkd
      simp only [Option.bind_eq_some_iff, Option.map_eq_some_iff, Prod.mk.injEq] at h
      obtain ⟨pl, hpl, cs, hfill, rfl, rfl⟩ := h
      have hkind : ty.kind = tkOf P t := (tyOf_some hty).choose_spec.choose_spec.2.2.2.2.2
      obtain ⟨fa, hu, hfs, _⟩ := und_struct (hkind.symm.trans hkd)
      subst hfs
      obtain ⟨vs, hvs, hcells⟩ := fillA_run (η := η) (Z := Z) (w := w) (a := a) (g := ev G st) E parts.toList (ty.zero.map constAV) ty.zero.toArray cs hfill (zero_cells _)
      refine ⟨.agg vs, .agg hcells.1 hcells.2, .inl fun w' => ?_⟩
      obtain ⟨z, hz, hzc⟩ := run_zero' hty w'
      have hpl' : (fa.mapM fun f => do pure (f.offset, ← sizeOf f.type) : Sem (Array (Nat × Nat))).run P w' = .ok pl.toArray w' := by
        have := run_places (P := P) fa.toList pl hpl w'
        rw [← Array.toArray_toList (xs := fa), List.mapM_toArray]
        simp only [Sem.run_map]
        rw [this]
        rfl
      simp only [execOp]
      refine run_v ?_
      simp only [Instr.build, Sem.run_bind, hz, Result.andThen_ok, run_underlying hu, hpl']
      have hzz : z.cells = ty.zero.toArray := by rw [← hzc]
      have hparts : (parts.map fun (i, x) => (i, a.eval x)).toList = parts.toList.map fun (i, x) => (i, a.eval x) := by simp
      rw [hzz, hparts]
      have hpl2 : (fun x : Nat => pl.toArray[x]?) = fun i : Nat => pl[i]? := by funext i; simp
      rw [hpl2, hvs]
      simp
    · cases h
theorem evQ_sound {st : St} {o : Oper} {c : Prop} {v : AV} {a : Act} (h : evQ P G st o = some (c, v)) (hc : c) (ht : TRep η Z w st.t a) (hh : HRep η Z w st.h) (hg : GRep G Z w) :
    QOk P η Z w (rdO G st o) a o v := by
  obtain ⟨u, hu, hr | ⟨t, x, b, hop, hb, hr⟩⟩ := evQ_sound2 h hc ht hh hg
  · exact ⟨u, hu, fun w' _ => hr w'⟩
  · refine ⟨u, hu, fun w' hw' => hr w' ?_⟩
    rcases hb with ⟨_, hZ⟩ | ⟨id, o', hid, _, hη⟩
    · exact hw'.1 _ b hZ
    · exact hw'.2 id b o' (by simp only [rdO, hop]; exact hid) hη
end
end Go.Am
