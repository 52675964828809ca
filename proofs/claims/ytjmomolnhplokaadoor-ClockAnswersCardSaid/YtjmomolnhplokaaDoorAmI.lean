/-
  THE ABSTRACT MACHINE, part I: stores, allocations, literals of slices, make.
-/
import Derived.Test.YtjmomolnhplokaaDoorAmH
namespace Go.Am
set_option linter.unusedVariables false
set_option linter.unusedSimpArgs false

def cellLike : AV → Bool
  | .unk => false
  | .agg _ => false
  | .tup _ => false
  | .sc v => isCell v
  | _ => true
def isZ : AV → Bool
  | .sc v => isCell v
  | .fz z .. => z
  | _ => false
def updF (f : Nat → List AV) (i : Nat) (r : List AV) : Nat → List AV := fun x => if x = i then r else f x
def storeV (h : Hp) (a v : AV) : Option (Prop × Hp) :=
  match a with
  | .ptr id j => match lk h id with
    | some (.box cs) => if layable v && (cellsV v).all cellLike && decide (j + (cellsV v).length ≤ cs.length) then some (True, up h id (.box (setAt cs j (cellsV v)))) else none
    | _ => none
  | .elp id k i j => match lk h id with
    | some (.arr k' n f ex) => if k = k' then (if layable v && (cellsV v).all isZ && decide (j + (cellsV v).length ≤ k) then some (i < n, up h id (.arr k n (updF f i (setAt (f i) j (cellsV v))) ex)) else none) else none
    | _ => none
  | _ => none
def litF (l : List (List AV)) (i : Nat) : List AV := l.getD i []
def chunk (k : Nat) : Nat → List AV → List (List AV)
  | 0, _ => []
  | n + 1, l => l.take k :: chunk k n (l.drop k)

section
variable {P : Program} {G : Gl} {η η' : Eta} {Z Z' : ZP} {w w' : World} {bs : Base}

theorem cellLike_isCell {c : AV} {u : Value} (hc : cellLike c = true) (h : Rep η Z w c u) : isCell u = true := by
  cases c with
  | sc v => rw [h.sc_inv]; exact hc
  | unk => cases hc
  | agg cs => cases hc
  | tup cs => cases hc
  | fz z full k n f => cases h with | z h => cases h; rfl
  | own id k i n full => cases h with | z h => cases h | own => rfl | ownNil => rfl
  | ptr id j => cases h with | z h => cases h | ptr => rfl
  | elp id k i j => cases h with | z h => cases h | elp => rfl
  | rowp r j => cases h with | z h => cases h; rfl
  | clo fn x y => cases h with | z h => cases h; rfl | clo => rfl
theorem isZ_repZ {c : AV} {u : Value} (hc : isZ c = true) (h : Rep η Z w c u) : RepZ Z w c u := by
  cases c with
  | sc v => cases h with | z h => exact h
  | fz z full k n f => cases h with | z h => exact h
  | _ => cases hc
theorem isZ_cell {c : AV} (hc : isZ c = true) : cellLike c = true := by
  cases c with
  | sc v => exact hc
  | fz z full k n f => rfl
  | _ => cases hc

theorem isZ_ret {c : AV} (hc : isZ c = true) : c.ret = true := by
  cases c with
  | sc v => rfl
  | fz z full k n f => exact hc
  | _ => cases hc
theorem setAt_length : ∀ (vs cs : List AV) (j : Nat), (setAt cs j vs).length = cs.length
  | [], cs, j => rfl
  | v :: vs, cs, j => by simp [setAt, setAt_length vs]
theorem setAt_get : ∀ (vs cs : List AV) (j i : Nat), j + vs.length ≤ cs.length → (setAt cs j vs)[i]? = if j ≤ i ∧ i < j + vs.length then vs[i - j]? else cs[i]?
  | [], cs, j, i, h => by
    simp only [setAt, List.length_nil]
    rw [if_neg (by omega)]
  | v :: vs, cs, j, i, h => by
    simp only [List.length_cons] at h
    rw [setAt, setAt_get vs _ (j + 1) i (by simp; omega)]
    simp only [List.length_cons]
    by_cases h1 : j + 1 ≤ i ∧ i < j + 1 + vs.length
    · rw [if_pos h1, if_pos (by omega)]
      have : i - j = (i - (j + 1)) + 1 := by omega
      rw [this, List.getElem?_cons_succ]
    · rw [if_neg h1]
      by_cases h2 : j = i
      · subst h2
        rw [if_pos (by omega), List.getElem?_set, if_pos rfl, if_pos (by omega)]
        simp
      · rw [List.getElem?_set_ne h2]
        by_cases h3 : j ≤ i ∧ i < j + (vs.length + 1)
        · omega
        · rw [if_neg h3]

theorem run_storeVar {t : TypeId} {ty : Ty} (hty : tyOf P t = some ty) {b x e : Nat} {cs : Array Value} {u : Value} (hb : w.heap[b]? = some (.cells cs e (0, 0))) (hs : u.cells.size = ty.size) (hle : x + u.cells.size ≤ cs.size)
    (hc : ∀ v ∈ u.cells.toList, isCell v = true) : (storeVar t ⟨b, x, none⟩ u).run P w = .ok () (putB w b (putAt u.cells.toList cs x) e) := by
  simp only [storeVar, Sem.run_bind, run_sizeOf' hty, Result.andThen_ok, Sem.run_ite, hs, ne_eq, not_true_eq_false, if_false, Sem.run_pure]
  have := run_storeCells (P := P) (x := x) u.cells.toList 0 w cs hb (by simpa using hle) hc
  simpa using this

theorem store_sound {keep : List Nat} {st : St} {a : Act} {t : TypeId} {ty : Ty} {x y : AV} {c : Prop} {h' : Hp} {ux uy : Value} (H : SatH G bs η Z st a w) (hty : tyOf P t = some ty) (hst : storeV st.h x y = some (c, h')) (hc : c) (hsz : (cellsV y).length = ty.size)
    (hx : Rep η Z w x ux) (hy : Rep η Z w y uy) (hkp : ∀ id, x.idOf = some id → id ∉ keep) : ∃ w', (Instr.storeAt t ux uy).run P w = .ok () w' ∧ SatH G bs η Z { st with h := h' } a w' ∧ Kp keep st.h η Z w η Z w' := by
  have finish : ∀ {id b o e : Nat} {blk blk' : Blk} {cs cs' : Array Value}, id ∉ keep → lk st.h id = some blk → η id = some (b, o) → w.heap[b]? = some (.cells cs e (0, 0)) → cs'.size = cs.size →
      BRep η Z (putB w b cs' e) (some (b, o)) blk' → SatH G bs η Z { st with h := up st.h id blk' } a (putB w b cs' e) ∧ Kp keep st.h η Z w η Z (putB w b cs' e) := by
    intro id b o e blk blk' cs cs' hidk hl hη hb hsz hbr
    have hz : ∀ z b', Z z b' → (putB w b cs' e).heap[b']? = w.heap[b']? := fun z b' hb' => putB_other fun he => by subst he; exact H.h.zno z _ hb' ⟨id, blk, o, hl, hη⟩
    have hsh := putB_shape hb hsz
    refine ⟨?_, fun z b' hb' => ⟨hb', hz z b' hb'⟩, fun id' hid' => ⟨rfl, fun bk b' o' h1 h2 => putB_other fun he => ?_⟩⟩
    rotate_left
    · subst he
      have := H.h.inj id' id bk blk _ o' o h1 hl h2 hη
      subst this
      exact hidk hid'
    refine ⟨H.t.mono hz fun d b o _ => hsh b, H.h.put hl hη (fun b' hb' => putB_other hb') (hsh b) (by rw [putB_size]; exact Nat.le_refl _) hbr, H.g.mono fun z b' hb' => ⟨hb', hz z b' hb'⟩, H.fr.trans (putB_fr hb hsz) (fun b' hlt he => ?_), H.zs, H.z0, H.z1, fun id' bk b' o' h1 h2 => ?_, H.fix⟩
    · subst he
      rcases H.own id blk b' o hl hη with h | h
      · exact ⟨id, h⟩
      · omega
    · rw [lk_up] at h1
      split at h1
      · rename_i he; subst he; exact H.own id blk b' o' hl h2
      · exact H.own id' bk b' o' h1 h2
  unfold storeV at hst
  split at hst
  · rename_i id j
    split at hst
    · rename_i cells hl
      split at hst
      · rename_i hcond
        simp only [Bool.and_eq_true, decide_eq_true_eq] at hcond
        obtain ⟨⟨hlay, hall⟩, hfit⟩ := hcond
        cases hst
        cases hx with
        | z hz => cases hz
        | @ptr _ _ b o hη =>
          have hb := H.h.rep id _ hl
          rw [hη] at hb
          obtain ⟨cs, e, hb1, hlen, hcell⟩ := hb
          obtain ⟨hus, hur⟩ := cellsV_rep hlay hy
          have hcells : ∀ v ∈ uy.cells.toList, isCell v = true := fun v hv => by
            obtain ⟨i, hi, rfl⟩ := List.getElem_of_mem hv
            have hi' : i < (cellsV y).length := by simpa [hus] using hi
            exact cellLike_isCell (List.all_eq_true.1 hall _ (List.getElem_mem hi')) (hur i _ _ (List.getElem?_eq_getElem hi') (by simp))
          refine ⟨_, ?_, finish (hkp id rfl) hl hη hb1 (putAt_size uy.cells.toList cs (o + j)) ?_⟩
          · simp only [Instr.storeAt, Sem.run_bind, Instr.sureAddr, Sem.run_pure, Result.andThen_ok]
            exact run_storeVar hty hb1 (by rw [hus, hsz]) (by rw [hus]; omega) hcells
          · have hz : ∀ z b', Z z b' → (putB w b (putAt uy.cells.toList cs (o + j)) e).heap[b']? = w.heap[b']? := fun z b' hb' => putB_other fun he => by subst he; exact H.h.zno z _ hb' ⟨id, _, o, hl, hη⟩
            have hsh := putB_shape hb1 (putAt_size uy.cells.toList cs (o + j))
            refine ⟨_, e, putB_same hb1, by rw [setAt_length, putAt_size]; exact hlen, fun i c hi => ?_⟩
            rw [setAt_get _ _ _ _ hfit] at hi
            rw [putAt_get _ _ _ _ (by simp [hus]; omega)]
            have hlu : uy.cells.toList.length = (cellsV y).length := by simpa using hus
            by_cases h1 : j ≤ i ∧ i < j + (cellsV y).length
            · rw [if_pos h1] at hi
              rw [if_pos (by omega)]
              have hlt : i - j < (cellsV y).length := by omega
              refine ⟨uy.cells.toList[i - j]'(by omega), ?_, ?_⟩
              · rw [show o + i - (o + j) = i - j from by omega]
                exact List.getElem?_eq_getElem _
              · exact (hur (i - j) c _ hi (by rw [← Array.getElem?_toList]; exact List.getElem?_eq_getElem _)).mono (fun z b' hb' => ⟨hb', hz z b' hb'⟩) fun d b o _ => hsh b
            · rw [if_neg h1] at hi
              rw [if_neg (by omega)]
              obtain ⟨u, hu, hr⟩ := hcell i c hi
              exact ⟨u, hu, hr.mono (fun z b' hb' => ⟨hb', hz z b' hb'⟩) fun d b o _ => hsh b⟩
      · cases hst
    · cases hst
  · rename_i id k i j
    split at hst
    · rename_i k' n f ex hl
      split at hst
      · rename_i hk
        subst hk
        split at hst
        · rename_i hcond
          simp only [Bool.and_eq_true, decide_eq_true_eq] at hcond
          obtain ⟨⟨hlay, hall⟩, hfit⟩ := hcond
          cases hst
          cases hx with
          | z hz => cases hz
          | @elp _ _ _ _ b o hη =>
            have hb := H.h.rep id _ hl
            rw [hη] at hb
            obtain ⟨cs, e, hb1, hlen, hex, hcell⟩ := hb
            obtain ⟨hus, hur⟩ := cellsV_rep hlay hy
            have hcells : ∀ v ∈ uy.cells.toList, isCell v = true := fun v hv => by
              obtain ⟨i, hi, rfl⟩ := List.getElem_of_mem hv
              have hi' : i < (cellsV y).length := by simpa [hus] using hi
              exact cellLike_isCell (isZ_cell (List.all_eq_true.1 hall _ (List.getElem_mem hi'))) (hur i _ _ (List.getElem?_eq_getElem hi') (by simp))
            have hin : (i + 1) * k ≤ n * k := Nat.mul_le_mul_right k (by omega)
            rw [Nat.add_mul] at hin
            have hlu : uy.cells.toList.length = (cellsV y).length := by simpa using hus
            refine ⟨_, ?_, finish (hkp id rfl) hl hη hb1 (putAt_size uy.cells.toList cs (o + i * k + j)) ?_⟩
            · simp only [Instr.storeAt, Sem.run_bind, Instr.sureAddr, Sem.run_pure, Result.andThen_ok]
              exact run_storeVar hty hb1 (by rw [hus, hsz]) (by rw [hus]; omega) hcells
            · have hz : ∀ z b', Z z b' → (putB w b (putAt uy.cells.toList cs (o + i * k + j)) e).heap[b']? = w.heap[b']? := fun z b' hb' => putB_other fun he => by subst he; exact H.h.zno z _ hb' ⟨id, _, o, hl, hη⟩
              refine ⟨_, e, putB_same hb1, by rw [putAt_size]; exact hlen, fun hx => by rw [putAt_size]; exact hex hx, fun x hxn => ?_⟩
              have hget := fun y => putAt_get uy.cells.toList cs (o + i * k + j) y (by rw [hlu]; omega)
              by_cases hxi : x = i
              · subst hxi
                simp only [updF, if_true]
                refine ⟨by rw [setAt_length]; exact (hcell x hxn).1, fun z c hy' => ?_⟩
                have hlk := (hcell x hxn).1
                rw [setAt_get _ _ _ _ (by rw [hlk]; exact hfit)] at hy'
                rw [hget]
                by_cases h1 : j ≤ z ∧ z < j + (cellsV y).length
                · rw [if_pos h1] at hy'
                  rw [if_pos (by omega)]
                  have hlt : z - j < (cellsV y).length := by omega
                  refine ⟨isZ_ret (List.all_eq_true.1 hall c (List.mem_of_getElem? hy')), uy.cells.toList[z - j]'(by omega), ?_, hcells _ (List.getElem_mem _), ?_⟩
                  · rw [show o + x * k + z - (o + x * k + j) = z - j from by omega]
                    exact List.getElem?_eq_getElem _
                  · exact (isZ_repZ (List.all_eq_true.1 hall c (List.mem_of_getElem? hy')) (hur (z - j) c _ hy' (by rw [← Array.getElem?_toList]; exact List.getElem?_eq_getElem _))).mono (fun z b' hb' => ⟨hb', hz z b' hb'⟩)
                · rw [if_neg h1] at hy'
                  rw [if_neg (by omega)]
                  obtain ⟨hq, u, hu, hcl, hr⟩ := (hcell x hxn).2 z c hy'
                  exact ⟨hq, u, hu, hcl, hr.mono fun z b' hb' => ⟨hb', hz z b' hb'⟩⟩
              · simp only [updF, if_neg hxi]
                refine ⟨(hcell x hxn).1, fun y c hy' => ?_⟩
                obtain ⟨hq, u, hu, hcl, hr⟩ := (hcell x hxn).2 y c hy'
                have hyk : y < k := by
                  have := (List.getElem?_eq_some_iff.1 hy').1
                  rw [(hcell x hxn).1] at this
                  exact this
                rw [hget, if_neg]
                · exact ⟨hq, u, hu, hcl, hr.mono fun z b' hb' => ⟨hb', hz z b' hb'⟩⟩
                · rw [hlu]
                  rcases Nat.lt_or_gt_of_ne hxi with hlt | hgt
                  · have : (x + 1) * k ≤ i * k := Nat.mul_le_mul_right k hlt
                    rw [Nat.add_mul] at this
                    omega
                  · have : (i + 1) * k ≤ x * k := Nat.mul_le_mul_right k hgt
                    rw [Nat.add_mul] at this
                    omega
        · cases hst
      · cases hst
    · cases hst
  · cases hst
end
end Go.Am
