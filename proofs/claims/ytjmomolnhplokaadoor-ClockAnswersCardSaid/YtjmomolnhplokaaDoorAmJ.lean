/-
  THE ABSTRACT MACHINE, part J: alloc, box, literals of slices, make.
-/
import Derived.Test.YtjmomolnhplokaaDoorAmI
namespace Go.Am
set_option linter.unusedVariables false
set_option linter.unusedSimpArgs false
section
variable {P : Program} {G : Gl} {η η' : Eta} {Z Z' : ZP} {w w' : World} {bs : Base}

/-- the value that an operation yields, and what the state says behind it -/
def EOk (P : Program) (G : Gl) (bs : Base) (keep : List Nat) (st : St) (η : Eta) (Z : ZP) (o : Oper) (a : Act) (w : World) (st' : St) : Prop :=
  ∃ u w', (execOp a.eval o).run P w = .ok (.value u) w' ∧ ∃ η' Z', SatH G bs η' Z' st' (a.put o.dst u) w' ∧ Kp keep st.h η Z w η' Z' w'

theorem run_v' {s : Sem Value} {u : Value} {w w' : World} (h : s.run P w = .ok u w') : (do pure (.value (← s)) : Sem Next).run P w = .ok (.value u) w' := by
  simp [h]

theorem run_newRow (e : TypeId) (cs : Array Value) (w : World) : (newRow e cs).run P w = .ok ⟨w.heap.size, 0, none⟩ (w.alloc (.cells cs e)) := rfl
theorem alloc_sound {st : St} {a : Act} (H : SatH G bs η Z st a w) {t : TypeId} {ty : Ty} (hty : tyOf P t = some ty) {d type : Nat} {pos : String} {after : Array Edge} {g : Option (Nat × Bool)} (hd : d < a.tmps.size) (hdp : d ∉ bs.pids) {keep : List Nat} (hdk : d ∉ keep) :
    EOk P G bs keep st η Z ⟨some d, .alloc t, type, pos, after, g⟩ a w (newSt st d d (.box (ty.zero.map .sc)) (.ptr d 0)) := by
  obtain ⟨z, hz, hzc⟩ := run_zero' hty w
  refine ⟨.pointer (some ⟨w.heap.size, 0, none⟩), w.alloc (.cells z.cells t), ?_, fun x => if x = d then some (w.heap.size, 0) else η x, Z, ?_⟩
  · simp only [execOp]
    refine (?_ : (do pure (.value (← Instr.alloc t true (.tuple #[]))) : Sem Next).run P w = _)
    simp [Instr.alloc, hz, newVar, run_newRow]
  · refine H.freshK hdk rfl rfl rfl hd hdp rfl ⟨z.cells, t, alloc_new w _ _, by simp [← hzc], fun j c hj => ?_⟩ (.ptr (b := w.heap.size) (o := 0) (by simp))
    rw [List.getElem?_map, Option.map_eq_some_iff] at hj
    obtain ⟨v, hv, rfl⟩ := hj
    rw [← hzc, Array.getElem?_toList] at hv
    exact ⟨v, by rw [Nat.zero_add]; exact hv, .z (.sc v)⟩

theorem box_sound {st : St} {a : Act} (H : SatH G bs η Z st a w) {t : TypeId} {x : Operand} {v : AV} {d type : Nat} {pos : String} {after : Array Edge} {g : Option (Nat × Bool)} (hd : d < a.tmps.size) (hdp : d ∉ bs.pids) {keep : List Nat} (hdk : d ∉ keep) (hlay : layable v = true)
    (hx : Rep η Z w v (a.eval x)) : EOk P G bs keep st η Z ⟨some d, .box t x, type, pos, after, g⟩ a w (newSt st d d (.box (killL d (cellsV v))) (.ptr d 0)) := by
  obtain ⟨hs, hr⟩ := cellsV_rep hlay hx
  refine ⟨.pointer (some ⟨w.heap.size, 0, none⟩), w.alloc (.cells (a.eval x).cells t), ?_, fun x => if x = d then some (w.heap.size, 0) else η x, Z, ?_⟩
  · simp only [execOp]
    refine (?_ : (do pure (.value (← Instr.box t (a.eval x))) : Sem Next).run P w = _)
    simp [Instr.box, newVar, run_newRow]
  · refine H.freshK hdk rfl rfl rfl hd hdp rfl ⟨_, t, alloc_new w _ _, by simp [killL_eq, hs], fun j c hj => ?_⟩ (.ptr (b := w.heap.size) (o := 0) (by simp))
    rw [killL_eq, List.getElem?_map, Option.map_eq_some_iff] at hj
    obtain ⟨c', hc', rfl⟩ := hj
    obtain ⟨u, hu⟩ := get_of_agg hs hc'
    have hF := alloc_fr w (a.eval x).cells t
    exact ⟨u, by rw [Nat.zero_add]; exact hu, (hr j c' u hc' hu).kill d (fun z b hb => ⟨hb, hF.old b (H.h.zlt z b hb) fun h => h⟩) (fun y hy => by simp [hy]) fun _ b _ _ _ => hF.shape b⟩

theorem chunk_get (k : Nat) : ∀ (n : Nat) (l : List AV) (i : Nat), i < n → (chunk k n l).getD i [] = (l.drop (i * k)).take k
  | 0, l, i, h => by omega
  | n + 1, l, 0, h => by simp [chunk]
  | n + 1, l, i + 1, h => by
    have := chunk_get k n (l.drop k) i (by omega)
    rw [List.drop_drop] at this
    simp only [chunk, List.getD_cons_succ]
    rw [this, show k + i * k = (i + 1) * k from by rw [Nat.add_mul]; omega]

/-- rows of one's own, out of cells that lead to nothing of one's own -/
theorem rows_brep {b e k n : Nat} {us : Array Value} {L : List AV} {ex : Bool} (hb : w.heap[b]? = some (.cells us e (0, 0))) (hc : Cells η Z w L us) (hz : L.all isZ = true) (hl : L.length = n * k) :
    BRep η' Z w (some (b, 0)) (.arr k n (litF (chunk k n L)) ex) := by
  refine ⟨us, e, hb, by rw [hc.1, hl]; omega, fun _ => by rw [hc.1, hl]; omega, fun i hi => ?_⟩
  have hin : (i + 1) * k ≤ n * k := Nat.mul_le_mul_right k (by omega)
  rw [Nat.add_mul] at hin
  simp only [litF, chunk_get k n L i hi]
  refine ⟨by simp; omega, fun j c hj => ?_⟩
  rw [List.getElem?_take] at hj
  split at hj
  · rw [List.getElem?_drop] at hj
    obtain ⟨u, hu⟩ := get_of_agg hc.1 hj
    exact ⟨isZ_ret (List.all_eq_true.1 hz c (List.mem_of_getElem? hj)), u, by rw [Nat.zero_add]; exact hu, cellLike_isCell (isZ_cell (List.all_eq_true.1 hz c (List.mem_of_getElem? hj))) (hc.2 _ c u hj hu), isZ_repZ (List.all_eq_true.1 hz c (List.mem_of_getElem? hj)) (hc.2 _ c u hj hu)⟩
  · cases hj

def zeroRow (z : List Value) (n : Nat) : List AV := (List.range n).map fun j => .sc (z.getD (j % z.length) undef)

theorem zero_array (z : Array Value) (n : Nat) (hz : n = 0 ∨ z.size ≠ 0) : ((Array.range n).map (z[· % z.size]!)) = ((List.range n).map fun j => z.toList.getD (j % z.toList.length) undef).toArray := by
  apply Array.ext
  · simp
  · intro i h1 h2
    simp at h1 h2
    have hsz : z.size ≠ 0 := by omega
    have hlt : i % z.size < z.size := Nat.mod_lt _ (by omega)
    simp [getElem!_pos z (i % z.size) hlt, hlt]

theorem buildSlice_sound {st : St} {a : Act} (H : SatH G bs η Z st a w) {t e : TypeId} {ty : Ty} {len : Nat} {parts : Array (Nat × Operand)} {L : List AV} {d type : Nat} {pos : String} {after : Array Edge} {g : Option (Nat × Bool)} (hd : d < a.tmps.size) (hdp : d ∉ bs.pids) {keep : List Nat} (hdk : d ∉ keep)
    (hk : tkOf P t = .slice e) (hty : tyOf P e = some ty) (hbig : len * ty.size ≤ 2 ^ 24) (hzz : ty.zero.length = ty.size) (hL : fillA (fun i => some (i * ty.size, ty.size)) (zeroRow ty.zero (len * ty.size)) (parts.toList.map fun (i, x) => (i, ev G st x)) = some L)
    (hLz : L.all isZ = true) : EOk P G bs keep st η Z ⟨some d, .buildSlice t len parts, type, pos, after, g⟩ a w (newSt st d d (.arr ty.size len (litF (chunk ty.size len L)) true) (.own d ty.size 0 len true)) := by
  have E := fun x => ev_rep H.t H.g x
  obtain ⟨z, hz, hzc⟩ := run_zero' hty w
  have hzs : z.cells.size = ty.size := by rw [← hzz, ← hzc]; simp
  -- the cells that are laid
  have hz0 : ∃ us0 : Array Value, (Cells η Z w (zeroRow ty.zero (len * ty.size)) us0) ∧ (if len * ty.size = 0 then pure #[] else do pure (← zeroValue e).cells : Sem (Array Value)).run P w = .ok (if len * ty.size = 0 then #[] else z.cells) w ∧
      ((Array.range (len * ty.size)).map ((if len * ty.size = 0 then #[] else z.cells)[· % (if len * ty.size = 0 then #[] else z.cells).size]!)) = us0 := by
    refine ⟨((List.range (len * ty.size)).map fun j => ty.zero.getD (j % ty.zero.length) undef).toArray, ?_, ?_, ?_⟩
    · refine ⟨by simp [zeroRow], fun i c u h1 h2 => ?_⟩
      simp only [zeroRow, List.getElem?_map, Option.map_eq_some_iff, List.getElem?_toArray] at h1 h2
      obtain ⟨j, hj, rfl⟩ := h1
      obtain ⟨j', hj', rfl⟩ := h2
      rw [hj] at hj'
      cases hj'
      exact .z (.sc _)
    · split
      · simp
      · simp [hz]
    · by_cases h0 : len * ty.size = 0
      · simp [h0]
      · have hne : z.cells.size ≠ 0 := by
          intro hq
          rw [hzs] at hq
          rw [hq] at h0
          simp at h0
        simp only [if_neg h0]
        rw [zero_array _ _ (.inr hne), hzc]
  obtain ⟨us0, hc0, hrun0, hus0⟩ := hz0
  obtain ⟨vs, hvs, hcells⟩ := fillA_run (η := η) (Z := Z) (w := w) (a := a) (g := ev G st) E parts.toList _ us0 L hL hc0
  have hLl : L.length = len * ty.size := by
    have : ∀ (l : List (Nat × AV)) (cs r : List AV), fillA (fun i => some (i * ty.size, ty.size)) cs l = some r → r.length = cs.length := by
      intro l
      induction l with
      | nil => intro cs r h; simp only [fillA, Option.some.injEq] at h; rw [h]
      | cons p l ih =>
        intro cs r h
        obtain ⟨i, v⟩ := p
        simp only [fillA] at h
        split at h
        · rw [ih _ _ h, setAt_length]
        · cases h
    rw [this _ _ _ hL]; simp [zeroRow]
  refine ⟨.slice (some ⟨w.heap.size, 0, none⟩) len len, w.alloc (.cells vs e), ?_, fun x => if x = d then some (w.heap.size, 0) else η x, Z, ?_⟩
  · simp only [execOp]
    refine run_v' ?_
    have hvs' : Instr.fill (fun i => some (i * ty.size, ty.size)) us0 (parts.map fun (i, x) => (i, a.eval x)).toList = some vs := by
      rw [Array.toList_map]; exact hvs
    have hb2 : ¬ (len * ty.size > 2 ^ 24) := by omega
    simp only [Instr.buildSlice, Sem.run_bind, run_underlying (und_slice hk), Result.andThen_ok, run_sizeOf' hty, if_neg hb2]
    by_cases h0 : len * ty.size = 0
    · simp only [if_pos h0] at hus0
      simp only [if_pos h0, Sem.run_bind, Sem.run_pure, Result.andThen_ok, hus0, hvs', run_newRow]
    · simp only [if_neg h0] at hus0
      simp only [if_neg h0, Sem.run_bind, Sem.run_pure, Result.andThen_ok, hz, hus0, hvs', run_newRow]
  · have hF := alloc_fr w vs e
    have hcells' : Cells η Z (w.alloc (.cells vs e)) L vs := ⟨hcells.1, fun i c u h1 h2 => (hcells.2 i c u h1 h2).mono (fun z b hb => ⟨hb, hF.old b (H.h.zlt z b hb) fun h => h⟩) fun _ b _ _ => hF.shape b⟩
    refine H.freshK hdk rfl rfl rfl hd hdp rfl (rows_brep (alloc_new w _ _) hcells' hLz hLl) (.own (b := w.heap.size) (o := 0) (by simp) (alloc_new w _ _) (fun _ => by simp) (by rw [hcells.1, hLl]; simp) (Nat.le_refl _) fun _ => rfl)
end
end Go.Am
