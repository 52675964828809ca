/-
  THE ABSTRACT MACHINE, part K: make, append, copy.
-/
import Derived.Test.YtjmomolnhplokaaDoorAmJ
import Derived.Laws.Append
import Derived.IntWalk
namespace Go.Am
set_option linter.unusedVariables false
set_option linter.unusedSimpArgs false

theorem wrap_small {x : Int} (h0 : 0 ≤ x) (h1 : x ≤ 140737488355328) : IntKind.i64.wrap x = x := by
  exact IntWalk.i64_in x ⟨by omega, by omega⟩

/-- where rows to be appended or copied come from -/
def srcV (h : Hp) (k : Nat) : AV → Option (Prop × Nat × (Nat → List AV))
  | .fz _ _ k' m g => if k' = k then some (True, m, g) else none
  | .own id k' i m _ => match lk h id with
    | some (.arr k2 n2 f2 _) => if k' = k ∧ k2 = k then some (i + m ≤ n2, m, fun r => f2 (i + r)) else none
    | _ => none
  | .sc (.slice none 0 0) => some (True, 0, fun _ => [])
  | _ => none
def appF (n : Nat) (f g : Nat → List AV) : Nat → List AV := fun i => if i < n then f i else g (i - n)
/-- which name an append writes -/
def appId (d : Nat) : AV → Nat
  | .own id _ _ _ _ => id
  | _ => d
/-- append: the state behind it -/
def appV (pids : List Nat) (st : St) (d k bytes : Nat) (s x : AV) : Option (Prop × St) :=
  match srcV st.h k x with
  | none => none
  | some (c, m, g) => match s with
    | .sc (.slice none 0 0) => some (c ∧ m * bytes ≤ 140737488355328 ∧ m ≤ 140737488355328, newSt st d d (.arr k m g false) (.own d k 0 m false))
    | .own id k' i n _ => match lk st.h id with
      | some (.arr k2 n2 f2 _) => if k' = k ∧ k2 = k ∧ pids.contains id = false then
          some (c ∧ i + n ≤ n2 ∧ (n + m) * bytes ≤ 140737488355328 ∧ n + m ≤ 140737488355328, newSt st d id (.arr k (n + m) (appF n (fun r => f2 (i + r)) g) false) (.own id k 0 (n + m) false)) else none
      | _ => none
    | _ => none

section
variable {P : Program} {G : Gl} {η η' : Eta} {Z Z' : ZP} {w w' : World} {bs : Base}

theorem makeSlice_sound {st : St} {a : Act} (H : SatH G bs η Z st a w) {t e : TypeId} {ty : Ty} {x y : Operand} {l c : Int} {d type : Nat} {pos : String} {after : Array Edge} {g : Option (Nat × Bool)} (hd : d < a.tmps.size) (hdp : d ∉ bs.pids) {keep : List Nat} (hdk : d ∉ keep)
    (hk : tkOf P t = .slice e) (hty : tyOf P e = some ty) (hl : asI (ev G st x) = some l) (hc : asI (ev G st y) = some c) (hzz : ty.zero.length = ty.size) (hzc : ty.zero.all isCell = true)
    (hb : 0 ≤ l ∧ l ≤ c ∧ c * ty.bytes ≤ 140737488355328 ∧ c ≤ 140737488355328) :
    EOk P G bs keep st η Z ⟨some d, .makeSlice t x y, type, pos, after, g⟩ a w (newSt st d d (.arr ty.size l.toNat (fun _ => ty.zero.map .sc) (decide (l = c))) (.own d ty.size 0 l.toNat (decide (l = c)))) := by
  obtain ⟨k1, hx⟩ := Rep.asI_inv hl (ev_rep H.t H.g x)
  obtain ⟨k2, hy⟩ := Rep.asI_inv hc (ev_rep H.t H.g y)
  obtain ⟨h1, h2, h3, h4⟩ := hb
  obtain ⟨z, hz, hzl⟩ := run_zero' hty w
  obtain ⟨i, z', hi, hz', hs, hby, hzz', _⟩ := tyOf_some hty
  have hzs : z.cells.size = ty.size := by rw [← hzz, ← hzl]; simp
  have wl := wrap_small h1 (by omega)
  have wc := wrap_small (x := c) (by omega) h4
  have hn : c.toNat * ty.size = 0 ∨ z.cells.size ≠ 0 := by
    by_cases h : ty.size = 0
    · left; rw [h]; simp
    · right; omega
  let cs : Array Value := (((List.range (c.toNat * ty.size)).map fun j => ty.zero.getD (j % ty.zero.length) undef).toArray)
  have hF := alloc_fr w cs e
  refine ⟨.slice (some ⟨w.heap.size, 0, none⟩) l.toNat c.toNat, w.alloc (.cells cs e), ?_, fun x => if x = d then some (w.heap.size, 0) else η x, Z, ?_⟩
  · simp only [execOp, hx, hy]
    refine run_v' ?_
    have t1 : ¬ ((c < 0 ∨ (i.bytes : Int) * c > 2 ^ 48) ∨ l < 0) := by
      have : (i.bytes : Int) * c ≤ 140737488355328 := by rw [← hby, Int.mul_comm]; exact h3
      omega
    have t2 : ¬ (c.toNat * i.bytes > roomBytes) := by
      have h3' : ((c.toNat * i.bytes : Nat) : Int) ≤ 140737488355328 := by
        rw [Int.natCast_mul, Int.toNat_of_nonneg (by omega), ← hby]; exact h3
      unfold roomBytes
      omega
    have t3 : ¬ (((decide (c < 0) || decide ((i.bytes : Int) * c > 2 ^ 48)) || decide (l < 0) || decide (l > c)) = true) := by
      simp only [Bool.or_eq_true, decide_eq_true_eq, not_or]
      refine ⟨⟨⟨by omega, by omega⟩, by omega⟩, by omega⟩
    simp only [Instr.makeSlice, Sem.run_bind, run_underlying (und_slice hk), Result.andThen_ok, asInt, asIntOf, Sem.run_pure, run_info hi, wl, wc, Sem.run_ite, if_neg t3, askRoom, if_neg t2, run_sizeOf' hty]
    by_cases h0 : c.toNat * ty.size = 0
    · simp only [if_pos h0, Result.andThen_ok]
      simp only [h0, run_newRow, Result.andThen_ok, Sem.run_pure, cs]
      rw [show (Array.map (fun x => (#[] : Array Value)[x % (#[] : Array Value).size]!) (Array.range 0)) = #[] from by simp]
      simp
    · have hne : z.cells.size ≠ 0 := hn.resolve_left h0
      simp only [if_neg h0, Sem.run_bind, hz, Result.andThen_ok, Sem.run_pure]
      rw [zero_array _ _ (.inr hne), hzl]
      simp [run_newRow, cs]
  · have hcs : cs.size = c.toNat * ty.size := by simp [cs]
    refine H.freshK hdk rfl rfl rfl hd hdp rfl ⟨cs, e, alloc_new w _ _, ?_, fun he => ?_, fun r hr => ⟨by simp [hzz], fun j c' hj => ?_⟩⟩ (.own (b := w.heap.size) (o := 0) (by simp) (alloc_new w _ _) (fun _ => by simp) (by rw [hcs]; simp) (by omega) fun he => ?_)
    · rw [hcs]
      have : l.toNat * ty.size ≤ c.toNat * ty.size := Nat.mul_le_mul_right _ (by omega)
      omega
    · have : l = c := by simpa using he
      rw [hcs, this]; omega
    · rw [List.getElem?_map, Option.map_eq_some_iff] at hj
      obtain ⟨v, hv, rfl⟩ := hj
      have hjlt : j < ty.size := by
        have := (List.getElem?_eq_some_iff.1 hv).1
        omega
      have hin : (r + 1) * ty.size ≤ c.toNat * ty.size := Nat.mul_le_mul_right _ (by omega)
      rw [Nat.add_mul] at hin
      have hmod : (0 + r * ty.size + j) % ty.zero.length = j := by
        rw [hzz, Nat.zero_add, Nat.mul_comm, Nat.mul_add_mod]
        exact Nat.mod_eq_of_lt hjlt
      refine ⟨rfl, v, ?_, List.all_eq_true.1 hzc v (List.mem_of_getElem? hv), .sc v⟩
      simp only [cs, List.getElem?_toArray, List.getElem?_map]
      rw [List.getElem?_range (by omega)]
      simp only [Option.map_some, hmod, List.getD_eq_getElem?_getD, hv, Option.getD_some]
    · have : l = c := by simpa using he
      rw [this]

/-- rows that can be read, cell by cell -/
def Src (Z : ZP) (w : World) (A : Option Addr) (k m : Nat) (g : Nat → List AV) (us : Nat → Value) : Prop :=
  (∀ i, i < m → (g i).length = k ∧ ∀ (j : Nat) (c : AV), (g i)[j]? = some c → c.ret = true ∧ RepZ Z w c (us (i * k + j))) ∧
  (m * k ≠ 0 → ∃ b o, A = some ⟨b, o, none⟩ ∧ ∀ r, r < m * k → w.cell? ⟨b, o + r, none⟩ = some (us r) ∧ isCell (us r) = true)
theorem split_index {r k m : Nat} (h : r < m * k) : r / k < m ∧ r % k < k ∧ (r / k) * k + r % k = r := by
  have hk : 0 < k := by
    rcases Nat.eq_zero_or_pos k with h0 | h0
    · subst h0; simp at h
    · exact h0
  exact ⟨(Nat.div_lt_iff_lt_mul hk).2 h, Nat.mod_lt _ hk, by rw [Nat.mul_comm]; exact Nat.div_add_mod r k⟩
theorem join_index {i j k : Nat} (h : j < k) : (i * k + j) / k = i ∧ (i * k + j) % k = j := by
  have hk : 0 < k := by omega
  constructor
  · rw [Nat.mul_comm, Nat.mul_add_div hk, Nat.div_eq_of_lt h]; omega
  · rw [Nat.mul_comm, Nat.mul_add_mod, Nat.mod_eq_of_lt h]
theorem src_of {h : Hp} {k m : Nat} {x : AV} {c : Prop} {g : Nat → List AV} {u : Value} (hs : srcV h k x = some (c, m, g)) (hc : c) (hx : Rep η Z w x u) (hh : HRep η Z w h) :
    ∃ A cap us, u = .slice A m cap ∧ Src Z w A k m g us := by
  unfold srcV at hs
  split at hs
  · rename_i zz fl k' m' g'
    split at hs
    · rename_i hk
      cases hs
      subst hk
      cases hx with | z hz => cases hz with | @fz _ _ _ _ _ A cap us hcc hf hn hq hr =>
        refine ⟨A, cap, fun r => us (r / k') (r % k'), rfl, fun i hi => ?_, fun h0 => ?_⟩
        · obtain ⟨b, o, hA, _, hZ, hcell⟩ := hn (by omega)
          refine ⟨(hcell i hi).1, fun j c hj => ?_⟩
          have hlt : j < _ := (List.getElem?_eq_some_iff.1 hj).1
          rw [(hcell i hi).1] at hlt
          obtain ⟨e1, e2⟩ := join_index (i := i) hlt
          simp only [e1, e2]
          exact ⟨hq i hi j c hj, hr i hi j c hj⟩
        · obtain ⟨b, o, hA, _, hZ, hcell⟩ := hn (by intro h; subst h; simp at h0)
          refine ⟨b, o, hA, fun r hr' => ?_⟩
          obtain ⟨q1, q2, q3⟩ := split_index hr'
          have := (hcell _ q1).2 _ q2
          rw [Nat.add_assoc, q3] at this
          exact this
    · cases hs
  · rename_i id k' i m' full
    split at hs
    · rename_i k2 n2 f2 ex hl
      split at hs
      · rename_i hk
        obtain ⟨rfl, rfl⟩ := hk
        cases hs
        cases hx with
        | z hz => cases hz
        | @own _ _ _ _ _ b o cs e cap A hη hb hA hfit hcc hf =>
          have hbr := hh.rep id _ hl
          rw [hη] at hbr
          obtain ⟨cs', e', hb', hlen, hex, hcell⟩ := hbr
          rw [hb] at hb'
          cases hb'
          refine ⟨A, cap, fun r => cs.getD (o + i * k2 + r) undef, rfl, fun x hx => ?_, fun h0 => ?_⟩
          · obtain ⟨q1, q2⟩ := hcell (i + x) (by omega)
            refine ⟨q1, fun j c hj => ?_⟩
            obtain ⟨hq, u, hu, _, hr⟩ := q2 j c hj
            rw [Nat.add_mul] at hu
            have : cs.getD (o + i * k2 + (x * k2 + j)) undef = u := by
              rw [Array.getD_eq_getD_getElem?, show o + i * k2 + (x * k2 + j) = o + (i * k2 + x * k2) + j from by omega, hu]; rfl
            refine ⟨hq, ?_⟩
            show RepZ Z w c (cs.getD (o + i * k2 + (x * k2 + j)) undef)
            rw [this]
            exact hr
          · have hcap : cap ≠ 0 := by
              intro h
              have : m = 0 := by omega
              subst this
              simp at h0
            refine ⟨b, o + i * k2, hA hcap, fun r hr => ?_⟩
            obtain ⟨q1, q2, q3⟩ := split_index hr
            have hq := hcell (i + r / k2) (by omega)
            have hlt : r % k2 < (f2 (i + r / k2)).length := by rw [hq.1]; exact q2
            obtain ⟨_, u, hu, hcl, _⟩ := hq.2 _ _ (List.getElem?_eq_getElem hlt)
            rw [Nat.add_mul, show o + (i * k2 + r / k2 * k2) + r % k2 = o + i * k2 + r from by omega] at hu
            have hg : cs.getD (o + i * k2 + r) undef = u := by rw [Array.getD_eq_getD_getElem?, hu]; rfl
            refine ⟨?_, ?_⟩
            · show w.cell? _ = some (cs.getD (o + i * k2 + r) undef)
              rw [hg]
              simp [World.cell?, hb, hu]
            · show isCell (cs.getD (o + i * k2 + r) undef) = true
              rw [hg]; exact hcl
        | ownNil hη =>
          exact ⟨none, 0, fun _ => undef, rfl, fun i hi => by omega, fun h0 => absurd (by simp) h0⟩
      · cases hs
    · cases hs
  · cases hs
    have e := hx.sc_inv
    subst e
    exact ⟨none, 0, fun _ => undef, rfl, fun i hi => by omega, fun h0 => absurd (by simp) h0⟩
  · cases hs
theorem firstCells_run {A : Option Addr} {k m cap : Nat} {g : Nat → List AV} {us : Nat → Value} (h : Src Z w A k m g us) {w' : World} (hw : w'.heap = w.heap) :
    (Builtin.firstCells k m (.slice A m cap)).run P w' = .ok ((List.range (m * k)).map us).toArray w' := by
  by_cases h0 : m * k = 0
  · cases A with
    | none => simp [Builtin.firstCells, h0]
    | some a => simp [Builtin.firstCells, h0, loadCells, loadCellsFrom]
  · obtain ⟨b, o, rfl, hc⟩ := h.2 h0
    simp only [Builtin.firstCells]
    exact run_loadCells fun j hj => by
      have := (hc j hj).1
      rw [← this]
      exact cell?_congr (by rw [hw])
end
end Go.Am
