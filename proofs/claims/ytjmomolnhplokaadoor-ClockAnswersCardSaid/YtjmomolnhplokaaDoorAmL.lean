/-
  THE ABSTRACT MACHINE, part L: append.
-/
import Derived.Test.YtjmomolnhplokaaDoorAmK
namespace Go.Am
set_option linter.unusedVariables false
set_option linter.unusedSimpArgs false
section
variable {P : Program} {G : Gl} {η η' : Eta} {Z Z' : ZP} {w w' : World} {bs : Base}

theorem run_append_fit {t t2 e e2 type : TypeId} {ty : Ty} {A A2 : Option Addr} {n cap m cap2 : Nat} {news : Array Value} (hk : tkOf P t = .slice e) (hk2 : tkOf P t2 = .slice e2) (hty : tyOf P e = some ty)
    (hn : (Builtin.firstCells ty.size m (.slice A2 m cap2)).run P w = .ok news w) (hfit : n + m ≤ cap) (hst : ∀ x, A = some x → (storeCells (x.add (n * ty.size)) news.toList).run P w = .ok () w') (hno : A = none → w' = w) :
    (Builtin.append_ #[t, t2] type #[.slice A n cap, .slice A2 m cap2]).run P w = .ok (.slice A (n + m) cap) w' := by
  have h0 : (#[t, t2] : Array TypeId)[0]? = some t := rfl
  have h1 : (#[t, t2] : Array TypeId)[1]? = some t2 := rfl
  have h2 : (#[Value.slice A n cap, Value.slice A2 m cap2] : Array Value)[0]? = some (.slice A n cap) := rfl
  have h3 : (#[Value.slice A n cap, Value.slice A2 m cap2] : Array Value)[1]? = some (.slice A2 m cap2) := rfl
  simp only [Builtin.append_, h0, h1, h2, h3, Sem.run_bind, run_underlying (und_slice hk), run_underlying (und_slice hk2), Result.andThen_ok, run_sizeOf' hty, Sem.run_pure, Bool.false_eq_true, if_false, Builtin.lenOf, if_pos hfit, Bool.not_false, if_true, hn]
  cases A with
  | none => simp [hno rfl]
  | some x => simp [hst x rfl]

theorem run_append_grow {t t2 e e2 type : TypeId} {ty : Ty} {A A2 : Option Addr} {n cap m cap2 : Nat} {olds news : Array Value} (hk : tkOf P t = .slice e) (hk2 : tkOf P t2 = .slice e2) (hty : tyOf P e = some ty)
    (hn : (Builtin.firstCells ty.size m (.slice A2 m cap2)).run P w.drew = .ok news w.drew) (ho : (Builtin.firstCells ty.size n (.slice A n cap)).run P w.drew = .ok olds w.drew) (hfit : ¬ (n + m ≤ cap)) (hb1 : (n + m) * ty.bytes ≤ 140737488355328) (hb2 : n + m ≤ 140737488355328) :
    ∃ nc rest, n + m ≤ nc ∧ rest.size = (nc - (n + m)) * ty.zero.length ∧
    (Builtin.append_ #[t, t2] type #[.slice A n cap, .slice A2 m cap2]).run P w = .ok (.slice (some ⟨w.heap.size, 0, none⟩) (n + m) nc) (w.drew.alloc (.cells (olds ++ news ++ rest) e)) := by
  have h0 : (#[t, t2] : Array TypeId)[0]? = some t := rfl
  have h1 : (#[t, t2] : Array TypeId)[1]? = some t2 := rfl
  have h2 : (#[Value.slice A n cap, Value.slice A2 m cap2] : Array Value)[0]? = some (.slice A n cap) := rfl
  have h3 : (#[Value.slice A n cap, Value.slice A2 m cap2] : Array Value)[1]? = some (.slice A2 m cap2) := rfl
  obtain ⟨i, z, hi, hz, hs, hby, hzz, _⟩ := tyOf_some hty
  have hzw : ∀ w, (zeroValue e).run P w = .ok z w := fun w => by simp [zeroValue, run_info hi, hz]
  have hlim : ¬ (((n + m : Nat) : Int) > IntKind.i64.max) := by
    have : IntKind.i64.max = 9223372036854775807 := by simp [IntKind.max, IntKind.bits, IntKind.signed]
    omega
  have hcap : ¬ (Builtin.nextslicecap (n + m) cap * i.bytes > 2 ^ 48) := by
    have := growslice_fits (bytes := i.bytes) (need := n + m) (old := cap) (by omega) (by rw [← hby]; exact hb1)
    omega
  let nc := (n + m) + w.tape w.drawn (.appendCap (n + m) cap e) % (2 ^ 63 - (n + m))
  have hch : (choose (.appendCap (n + m) cap e)).run P w = .ok nc w.drew := by
    rfl
  refine ⟨nc, Builtin.zeroCells z.cells (nc - (n + m)), by simp only [nc]; omega, by simp [Builtin.zeroCells, hzz], ?_⟩
  have hask : ∀ x, (askRoom x).run P w.drew = .ok () w.drew := fun x => by
    unfold askRoom
    split
    · rfl
    · rfl
  simp only [Builtin.append_, h0, h1, h2, h3, Sem.run_bind, run_underlying (und_slice hk), run_underlying (und_slice hk2), Result.andThen_ok, run_sizeOf' hty, Sem.run_pure, Bool.false_eq_true, if_false, Builtin.lenOf, if_neg hfit, Bool.not_false, if_true]
  simp only [run_info hi, Sem.run_bind, Result.andThen_ok, Sem.run_ite, false_or]
  rw [if_neg (by intro h; exact hlim h.1)]
  simp only [Sem.run_bind, Sem.run_pure, Result.andThen_ok, run_info hi, Sem.run_ite, if_neg hcap, hch, hask, ho, hn, hzw, run_newRow]
  rfl
/-- the content alone -/
def SrcC (Z : ZP) (w : World) (k m : Nat) (g : Nat → List AV) (us : Nat → Value) : Prop :=
  (∀ i, i < m → (g i).length = k ∧ ∀ (j : Nat) (c : AV), (g i)[j]? = some c → c.ret = true ∧ RepZ Z w c (us (i * k + j))) ∧ ∀ r, r < m * k → isCell (us r) = true
theorem Src.content {A : Option Addr} {k m : Nat} {g : Nat → List AV} {us : Nat → Value} (h : Src Z w A k m g us) : SrcC Z w k m g us := by
  refine ⟨h.1, fun r hr => ?_⟩
  obtain ⟨b, o, _, hc⟩ := h.2 (by omega)
  exact (hc r hr).2
theorem SrcC.mono {k m : Nat} {g : Nat → List AV} {us : Nat → Value} (hz : ∀ z b, Z z b → Z' z b ∧ w'.heap[b]? = w.heap[b]?) (h : SrcC Z w k m g us) : SrcC Z' w' k m g us :=
  ⟨fun i hi => ⟨(h.1 i hi).1, fun j c hj => ⟨((h.1 i hi).2 j c hj).1, ((h.1 i hi).2 j c hj).2.mono hz⟩⟩, h.2⟩
/-- rows laid one behind the other -/
theorem SrcC.app {k n m : Nat} {f g : Nat → List AV} {us vs : Nat → Value} (h1 : SrcC Z w k n f us) (h2 : SrcC Z w k m g vs) : SrcC Z w k (n + m) (appF n f g) fun r => if r < n * k then us r else vs (r - n * k) := by
  refine ⟨fun i hi => ?_, fun r hr => ?_⟩
  · unfold appF
    by_cases hin : i < n
    · simp only [if_pos hin]
      refine ⟨(h1.1 i hin).1, fun j c hj => ?_⟩
      have hlt := (List.getElem?_eq_some_iff.1 hj).1
      rw [(h1.1 i hin).1] at hlt
      have : (i + 1) * k ≤ n * k := Nat.mul_le_mul_right k hin
      rw [Nat.add_mul] at this
      simp only [if_pos (show i * k + j < n * k by omega)]
      exact (h1.1 i hin).2 j c hj
    · simp only [if_neg hin]
      refine ⟨(h2.1 (i - n) (by omega)).1, fun j c hj => ?_⟩
      have : n * k ≤ i * k := Nat.mul_le_mul_right k (by omega)
      simp only [if_neg (show ¬ (i * k + j < n * k) by omega)]
      have e : i * k + j - n * k = (i - n) * k + j := by rw [Nat.sub_mul]; omega
      rw [e]
      exact (h2.1 (i - n) (by omega)).2 j c hj
  · by_cases hin : r < n * k
    · simp only [if_pos hin]; exact h1.2 r hin
    · simp only [if_neg hin]; exact h2.2 _ (by rw [Nat.add_mul] at hr; omega)
theorem SrcC.brep {b o e k n : Nat} {f : Nat → List AV} {us : Nat → Value} {cs : Array Value} (h : SrcC Z w k n f us) (hb : w.heap[b]? = some (.cells cs e (0, 0))) (hfit : o + n * k ≤ cs.size)
    (hc : ∀ r, r < n * k → cs[o + r]? = some (us r)) : BRep η Z w (some (b, o)) (.arr k n f false) := by
  refine ⟨cs, e, hb, hfit, (fun h => by cases h), fun i hi => ⟨(h.1 i hi).1, fun j c hj => ?_⟩⟩
  have hlt := (List.getElem?_eq_some_iff.1 hj).1
  rw [(h.1 i hi).1] at hlt
  have : (i + 1) * k ≤ n * k := Nat.mul_le_mul_right k hi
  rw [Nat.add_mul] at this
  refine ⟨((h.1 i hi).2 j c hj).1, us (i * k + j), by rw [Nat.add_assoc]; exact hc _ (by omega), h.2 _ (by omega), ((h.1 i hi).2 j c hj).2⟩

theorem cells_app {n m : Nat} {us vs : Nat → Value} {rest : Array Value} {r : Nat} (h : r < n + m) :
    ((((List.range n).map us).toArray ++ ((List.range m).map vs).toArray) ++ rest)[0 + r]? = some (if r < n then us r else vs (r - n)) := by
  rw [Nat.zero_add, Array.getElem?_append_left (by simp; omega)]
  by_cases hr : r < n
  · rw [Array.getElem?_append_left (by simpa using hr), if_pos hr]
    simp [hr]
  · rw [Array.getElem?_append_right (by simp; omega), if_neg hr]
    have hlt : r - n < m := by omega
    simp [hlt]

theorem run_appendOp {o : Oper} {a : Act} {s x : Operand} {t t2 d type : Nat} {pos : String} {after : Array Edge} {g : Option (Nat × Bool)} {u : Value} (h : (Builtin.append_ #[t, t2] type #[a.eval s, a.eval x]).run P w = .ok u w') :
    (execOp a.eval ⟨some d, .call { callee := .builtin .append, args := #[s, x], argTypes := #[t, t2] }, type, pos, after, g⟩).run P w = .ok (.value u) w' := by
  simp [execOp, resolve, invoke, builtin, h]

theorem append_sound {st st' : St} {a : Act} (H : SatH G bs η Z st a w) {t t2 e e2 : TypeId} {ty : Ty} {s x : Operand} {c : Prop} {d type : Nat} {pos : String} {after : Array Edge} {g : Option (Nat × Bool)} (hd : d < a.tmps.size) (hdp : d ∉ bs.pids) {keep : List Nat} (hdk : appId d (ev G st s) ∉ keep)
    (hk : tkOf P t = .slice e) (hk2 : tkOf P t2 = .slice e2) (hty : tyOf P e = some ty) (hzz : ty.zero.length = ty.size) (happ : appV bs.pids st d ty.size ty.bytes (ev G st s) (ev G st x) = some (c, st')) (hc : c) :
    EOk P G bs keep st η Z ⟨some d, .call { callee := .builtin .append, args := #[s, x], argTypes := #[t, t2] }, type, pos, after, g⟩ a w st' := by
  have Es := ev_rep H.t H.g s
  have Ex := ev_rep H.t H.g x
  unfold appV at happ
  split at happ
  · cases happ
  rename_i c1 m gx hsrc
  -- what is the same in every case: a row of one's own that is nil
  have nilcase : ∀ (id : Nat), a.eval s = .slice none 0 0 → c1 → m * ty.bytes ≤ 140737488355328 → m ≤ 140737488355328 → id ∉ bs.pids → id ∉ keep → ∀ f0 : Nat → List AV,
      EOk P G bs keep st η Z ⟨some d, .call { callee := .builtin .append, args := #[s, x], argTypes := #[t, t2] }, type, pos, after, g⟩ a w (newSt st d id (.arr ty.size (0 + m) (appF 0 f0 gx) false) (.own id ty.size 0 (0 + m) false)) := by
    intro id hs hc1 hb1 hb2 hidp hidk f0
    obtain ⟨A2, cap2, us, hx, hS⟩ := src_of hsrc hc1 Ex H.h
    by_cases hm : m = 0
    · subst hm
      refine ⟨.slice none 0 0, w, run_appendOp (o := ⟨none, .move s, 0, "", #[], none⟩) ?_, fun y => if y = id then none else η y, Z, ?_⟩
      · rw [hs, hx]
        exact run_append_fit hk hk2 hty (firstCells_run hS rfl) (by omega) (fun y h => by cases h) (fun _ => rfl)
      · exact H.renewK (B := fun _ => False) hidk hd hidp (fun y hy => by simp [hy]) (Fr.refl _ _) (fun _ _ h => h.elim) (fun _ _ _ => rfl) (fun _ _ _ _ _ _ _ => rfl) (by simp [BRep]) (fun b o h => by simp at h) (.ownNil (by simp))
    · obtain ⟨nc, rest, hnc, hrest, hrun⟩ := run_append_grow (P := P) (w := w) (t := t) (t2 := t2) (type := type) (A := none) (A2 := A2) (n := 0) (cap := 0) (m := m) (cap2 := cap2) (olds := #[]) hk hk2 hty (firstCells_run hS (w' := w.drew) rfl) (by simp [Builtin.firstCells]) (by omega) (by simpa using hb1) (by simpa using hb2)
      refine ⟨_, _, run_appendOp (o := ⟨none, .move s, 0, "", #[], none⟩) (by rw [hs, hx]; exact hrun), fun y => if y = id then some (w.heap.size, 0) else η y, Z, ?_⟩
      have hF := (drew_fr w).trans (alloc_fr w.drew (#[] ++ ((List.range (m * ty.size)).map us).toArray ++ rest) e) (fun _ _ h => h)
      have hz : ∀ z b, Z z b → Z z b ∧ (w.drew.alloc (.cells (#[] ++ ((List.range (m * ty.size)).map us).toArray ++ rest) e)).heap[b]? = w.heap[b]? := fun z b hb => ⟨hb, hF.old b (H.h.zlt z b hb) fun h => h⟩
      have hC : SrcC Z _ ty.size (0 + m) (appF 0 f0 gx) _ := (SrcC.app (us := fun _ => undef) ⟨fun i hi => by omega, fun r hr => by omega⟩ hS.content).mono hz
      refine H.freshK (w1 := w.drew) hidk rfl rfl rfl hd hidp rfl (hC.brep (alloc_new w.drew _ _) ?_ fun r hr => ?_) (.own (b := w.heap.size) (o := 0) (by simp) (alloc_new w.drew _ _) (fun _ => by simp) ?_ (by omega) (fun h => by cases h))
      · simp
      · have := cells_app (n := 0) (m := m * ty.size) (us := fun _ => undef) (vs := us) (rest := rest) (r := r) (by rw [Nat.add_mul] at hr; omega)
        simpa using this
      · simp only [Array.size_append, List.size_toArray, List.length_map, List.length_range, hrest, hzz]
        have : nc * ty.size = (0 + m) * ty.size + (nc - (0 + m)) * ty.size := by rw [← Nat.add_mul]; congr 1; omega
        simp at this ⊢
        omega
  split at happ
  · rename_i hsv
    cases happ
    rw [hsv] at Es
    have := nilcase d Es.sc_inv hc.1 hc.2.1 hc.2.2 hdp (by rw [hsv] at hdk; exact hdk) (fun _ => [])
    rw [show appF 0 (fun _ => []) gx = gx from by funext i; simp [appF], Nat.zero_add] at this
    exact this
  · rename_i id k' i n full hsv
    split at happ
    · rename_i k2 n2 f2 ex hl
      split at happ
      · rename_i hkk
        obtain ⟨rfl, hk3, hidp⟩ := hkk
        have hidp : id ∉ bs.pids := by simpa using hidp
        have hidk : id ∉ keep := by rw [hsv] at hdk; exact hdk
        cases happ
        obtain ⟨hc1, hin, hb1, hb2⟩ := hc
        rw [hsv] at Es
        have hbr := H.h.rep id _ hl
        have EsC := Es
        generalize hus : a.eval s = us0 at Es
        cases Es with
        | z hz => cases hz
        | ownNil hη => exact nilcase id hus hc1 (by simpa using hb1) (by simpa using hb2) hidp hidk _
        | @own _ _ _ _ _ b o cs e' cap A hη hb hA hfit hcap hfull =>
          obtain ⟨A2, cap2, usn, hx, hS⟩ := src_of hsrc hc1 Ex H.h
          have hsrcS : srcV st.h ty.size (.own id ty.size i n full) = some (i + n ≤ n2, n, fun r => f2 (i + r)) := by simp [srcV, hl, hk3]
          obtain ⟨A', cap', uso, hs', hSo⟩ := src_of hsrcS hin EsC H.h
          rw [hus] at hs'
          cases hs'
          rw [hη] at hbr
          by_cases hroom : n + m ≤ cap
          · -- in place, or nothing to put
            have hle : (n + m) * ty.size ≤ cap * ty.size := Nat.mul_le_mul_right _ hroom
            have hfit' : o + i * ty.size + cap * ty.size ≤ cs.size := by rw [Nat.add_mul] at hfit; omega
            rw [Nat.add_mul] at hle
            -- the world behind it, and the cells there
            have hput : ∃ w' cs', (∀ y, A = some y → (storeCells (y.add (n * ty.size)) (((List.range (m * ty.size)).map usn).toArray).toList).run P w = .ok () w') ∧ (A = none → w' = w) ∧
                (∀ b', b' ≠ b → w'.heap[b']? = w.heap[b']?) ∧ w'.heap[b]? = some (.cells cs' e' (0, 0)) ∧ Fr (· = b) w w' ∧ cs'.size = cs.size ∧
                (∀ r, r < n * ty.size → cs'[o + i * ty.size + r]? = cs[o + i * ty.size + r]?) ∧ ∀ r, r < m * ty.size → cs'[o + i * ty.size + n * ty.size + r]? = some (usn r) := by
              by_cases h0 : m * ty.size = 0
              · refine ⟨w, cs, fun y _ => by simp [h0, storeCells], fun _ => rfl, fun _ _ => rfl, hb, Fr.refl _ _, rfl, fun _ _ => rfl, fun r hr => by omega⟩
              · have hcne : cap ≠ 0 := by
                  intro h; subst h
                  have : m = 0 := by omega
                  subst this; simp at h0
                have hAs := hA hcne
                have hsz := putAt_size ((List.range (m * ty.size)).map usn) cs (o + i * ty.size + n * ty.size)
                refine ⟨putB w b (putAt ((List.range (m * ty.size)).map usn) cs (o + i * ty.size + n * ty.size)) e', _, fun y hy => ?_, (fun h => by rw [hAs] at h; cases h), fun b' hb' => putB_other hb', putB_same hb, putB_fr hb hsz, hsz, fun r hr => ?_, fun r hr => ?_⟩
                · rw [hAs] at hy
                  cases hy
                  rw [add_eq]
                  have := run_storeCells (P := P) (x := o + i * ty.size + n * ty.size) ((List.range (m * ty.size)).map usn) 0 w cs hb (by simp; omega) (fun v hv => by
                    simp only [List.mem_map, List.mem_range] at hv
                    obtain ⟨r, hr, rfl⟩ := hv
                    exact hS.content.2 r hr)
                  simpa using this
                · rw [putAt_get _ _ _ _ (by simp; omega), if_neg (by omega)]
                · rw [putAt_get _ _ _ _ (by simp; omega), if_pos (by simp; omega)]
                  rw [show o + i * ty.size + n * ty.size + r - (o + i * ty.size + n * ty.size) = r from by omega]
                  simp [hr]
            obtain ⟨w', cs', hrun, hnone, hoth, hb', hF, hsz, hold, hnew⟩ := hput
            have hz : ∀ z b', Z z b' → w'.heap[b']? = w.heap[b']? := fun z b' hzb => hoth b' fun he => H.h.zno z _ hzb ⟨id, _, o, hl, by rw [he]; exact hη⟩
            refine ⟨_, w', run_appendOp (o := ⟨none, .move s, 0, "", #[], none⟩) (by rw [hus, hx]; exact run_append_fit hk hk2 hty (firstCells_run hS rfl) hroom hrun hnone), fun y => if y = id then some (b, o + i * ty.size) else η y, Z, ?_⟩
            have hC := (SrcC.app hSo.content hS.content).mono (fun z b' hb' => ⟨hb', hz z b' hb'⟩)
            refine H.renewK (B := (· = b)) hidk hd hidp (fun y hy => by simp [hy]) hF (fun b' hlt he => ?_) hz (fun y bk b' o' hy h1 h2 => hoth b' fun he => ?_) ?_ (fun b' o' he => ?_) (.own (b := b) (o := o + i * ty.size) (cs := cs') (e := e') (by simp) hb' (fun h => by rw [hA h]; simp) ?_ hroom (fun h => by cases h))
            · subst he
              rcases H.own id _ b' o hl hη with h | h
              · exact ⟨id, h⟩
              · omega
            · subst he
              exact hy (H.h.inj y id bk _ b' o' o h1 hl h2 hη)
            · simp only [if_true]
              refine hC.brep hb' (by rw [hsz, Nat.add_mul]; omega) fun r hr => ?_
              by_cases hrn : r < n * ty.size
              · rw [if_pos hrn, hold r hrn]
                obtain ⟨b1, o1, hA1, hc1'⟩ := hSo.2 (by omega)
                have hcne : cap ≠ 0 := by
                  intro h; subst h
                  have : n = 0 := by omega
                  subst this; simp at hrn
                have hAs := hA hcne
                rw [hA1] at hAs
                cases hAs
                have := (hc1' r hrn).1
                simpa [World.cell?, hb] using this
              · rw [if_neg hrn]
                have := hnew (r - n * ty.size) (by rw [Nat.add_mul] at hr; omega)
                rw [← this]
                congr 1
                omega
            · simp only [if_true, Option.some.injEq, Prod.mk.injEq] at he
              obtain ⟨rfl, rfl⟩ := he
              exact ⟨fun z h => H.h.zno z _ h ⟨id, _, o, hl, hη⟩, H.own id _ _ o hl hη, fun y bk o'' hy h1 h2 => hy (H.h.inj y id bk _ b o'' o h1 hl h2 hη)⟩
            · rw [hsz]; simp; exact hfit'
          · -- a new array
            obtain ⟨nc, rest, hnc, hrest, hrun⟩ := run_append_grow (P := P) (w := w) (t := t) (t2 := t2) (type := type) hk hk2 hty (firstCells_run hS (w' := w.drew) rfl) (firstCells_run hSo (w' := w.drew) rfl) hroom hb1 hb2
            refine ⟨_, _, run_appendOp (o := ⟨none, .move s, 0, "", #[], none⟩) (by rw [hus, hx]; exact hrun), fun y => if y = id then some (w.heap.size, 0) else η y, Z, ?_⟩
            have hF := (drew_fr w).trans (alloc_fr w.drew (((List.range (n * ty.size)).map uso).toArray ++ ((List.range (m * ty.size)).map usn).toArray ++ rest) e) (fun _ _ h => h)
            have hz : ∀ z b, Z z b → Z z b ∧ (w.drew.alloc (.cells (((List.range (n * ty.size)).map uso).toArray ++ ((List.range (m * ty.size)).map usn).toArray ++ rest) e)).heap[b]? = w.heap[b]? := fun z b hb => ⟨hb, hF.old b (H.h.zlt z b hb) fun h => h⟩
            have hC := (SrcC.app hSo.content hS.content).mono hz
            refine H.freshK (w1 := w.drew) hidk rfl rfl rfl hd hidp rfl (hC.brep (alloc_new w.drew _ _) ?_ fun r hr => ?_) (.own (b := w.heap.size) (o := 0) (by simp) (alloc_new w.drew _ _) (fun _ => by simp) ?_ (by omega) (fun h => by cases h))
            · simp [Nat.add_mul]
            · exact cells_app (by rw [Nat.add_mul] at hr; exact hr)
            · simp only [Array.size_append, List.size_toArray, List.length_map, List.length_range, hrest, hzz]
              have : nc * ty.size = (n + m) * ty.size + (nc - (n + m)) * ty.size := by rw [← Nat.add_mul]; congr 1; omega
              rw [Nat.add_mul n m] at this
              simp at this ⊢
              omega
      · cases happ
    · cases happ
  · cases happ
end
end Go.Am
