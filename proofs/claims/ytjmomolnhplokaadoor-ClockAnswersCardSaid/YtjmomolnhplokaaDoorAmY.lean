/-
  THE ABSTRACT MACHINE, part Y: rows weakened; what an argument's reading says.
-/
import Derived.Test.YtjmomolnhplokaaDoorAmX
import Derived.ChangeArms
import GoSem.ClaimJoined
namespace Go.Am
set_option linter.unusedVariables false
set_option linter.unusedSimpArgs false

/-- a cell says less -/
def leC : AV → AV → Prop
  | _, .unk => True
  | .sc v, .sc u => v = u
  | .sc (.slice none 0 0), .fz z _ _ n _ => n = 0 ∧ z = true
  | .fz z fu k n f, .fz z' fu' k' n' f' => k = k' ∧ n = n' ∧ z = z' ∧ (fu' = true → fu = true) ∧ ∀ i, i < n → f i = f' i
  | _, _ => False
def leR : List AV → List AV → Prop
  | [], [] => True
  | c :: cs, c' :: cs' => leC c c' ∧ leR cs cs'
  | _, _ => False
theorem leC_leP {c c' : AV} (h : leC c c') : leP c c' := by
  unfold leC at h
  split at h
  · simp [leP]
  · subst h; simp [leP]
  · obtain ⟨rfl, rfl⟩ := h; simp [leP]
  · obtain ⟨rfl, rfl, rfl, h4, h5⟩ := h; simp [leP]; exact ⟨h4, h5⟩
  · exact h.elim
theorem leC_ret {c c' : AV} (h : leC c c') (hc : c.ret = true) : c'.ret = true := by
  unfold leC at h
  split at h
  · rfl
  · rfl
  · obtain ⟨rfl, rfl⟩ := h; rfl
  · obtain ⟨rfl, rfl, rfl, h4, h5⟩ := h; exact hc
  · exact h.elim
theorem leC_repZ {Z : ZP} {w : World} {c c' : AV} {u : Value} (h : leC c c') (r : RepZ Z w c u) : RepZ Z w c' u := by
  unfold leC at h
  split at h
  · exact .unk _
  · subst h; exact r
  · obtain ⟨rfl, rfl⟩ := h
    cases r
    exact .fz (fun _ _ => undef) (Nat.le_refl _) (fun _ => rfl) (fun h => absurd rfl h) (fun i hi => by omega) (fun i hi => by omega)
  · obtain ⟨rfl, rfl, rfl, h4, h5⟩ := h
    exact r.fz_le (fun h => h) h4 h5
  · exact h.elim
theorem leR_len : ∀ {r r' : List AV}, leR r r' → r'.length = r.length
  | [], [], _ => rfl
  | c :: cs, c' :: cs', h => by simp [leR_len h.2]
theorem leR_get : ∀ {r r' : List AV}, leR r r' → ∀ {j : Nat} {c' : AV}, r'[j]? = some c' → ∃ c, r[j]? = some c ∧ leC c c'
  | [], [], _, j, c', hj => by simp at hj
  | c :: cs, d :: ds, h, 0, c', hj => by simp at hj; subst hj; exact ⟨c, rfl, h.1⟩
  | c :: cs, d :: ds, h, j + 1, c', hj => by
    obtain ⟨x, h1, h2⟩ := leR_get h.2 (j := j) (c' := c') (by simpa using hj)
    exact ⟨x, by simpa using h1, h2⟩
theorem leC_refl : ∀ (c : AV), isZ c = true → leC c c
  | .sc v, _ => by simp [leC]
  | .unk, _ => by simp [leC]
  | .fz .., _ => by simp [leC]
  | .own .., h => by simp [isZ] at h
  | .ptr .., h => by simp [isZ] at h
  | .elp .., h => by simp [isZ] at h
  | .rowp .., h => by simp [isZ] at h
  | .agg .., h => by simp [isZ] at h
  | .tup .., h => by simp [isZ] at h
  | .clo .., h => by simp [isZ] at h
theorem RepZ.fz_leR {Z : ZP} {w : World} {z z' fu fu' : Bool} {k n : Nat} {f f' : Nat → List AV} {u : Value} (hz : z' = true → z = true) (hf : fu' = true → fu = true) (he : ∀ i, i < n → leR (f i) (f' i)) (h : RepZ Z w (.fz z fu k n f) u) : RepZ Z w (.fz z' fu' k n f') u := by
  cases h with | fz us hc hfu hn hq hr =>
  refine .fz us hc (fun h => hfu (hf h)) (fun h0 => ?_) (fun i hi j c hj => ?_) (fun i hi j c hj => ?_)
  · obtain ⟨b, o, hA, h1, h2, h3⟩ := hn h0
    refine ⟨b, o, hA, ?_, h2, fun i hi => by rw [leR_len (he i hi)]; exact h3 i hi⟩
    cases z' with
    | false => exact h2
    | true => have := hz rfl; subst this; exact h1
  · obtain ⟨d, h1, h2⟩ := leR_get (he i hi) hj
    exact leC_ret h2 (hq i hi j d h1)
  · obtain ⟨d, h1, h2⟩ := leR_get (he i hi) hj
    exact leC_repZ h2 (hr i hi j d h1)
theorem Le.fzR {z z' fu fu' : Bool} {k n : Nat} {f f' : Nat → List AV} (hz : z' = true → z = true) (hf : fu' = true → fu = true) (he : ∀ i, i < n → leR (f i) (f' i)) : Le (.fz z fu k n f) (.fz z' fu' k n f') := by
  intro η Z w u h
  cases h with | z h => exact .z (h.fz_leR hz hf he)
theorem HRep.upArr {η : Eta} {Z : ZP} {w : World} {h : Hp} {b k n : Nat} {f g : Nat → List AV} {ex ex' : Bool} (H : HRep η Z w h) (hb : lk h b = some (.arr k n f ex)) (hx : ex' = true → ex = true) (hg : ∀ i, i < n → leR (f i) (g i)) : HRep η Z w (up h b (.arr k n g ex')) := by
  have key : ∀ id blk, lk (up h b (.arr k n g ex')) id = some blk → ∃ b0, lk h id = some b0 := fun id blk hq => by
    rw [lk_up] at hq
    split at hq
    · rename_i e; subst e; exact ⟨_, hb⟩
    · exact ⟨_, hq⟩
  refine ⟨fun id blk hq => ?_, fun x y bx bk c o o' h1 h2 => ?_, H.zlt, fun z c hz ⟨x, bk, o, h1, h2⟩ => ?_⟩
  · rw [lk_up] at hq
    split at hq
    · rename_i e
      subst e
      cases hq
      have := H.rep _ _ hb
      cases he : η b with
      | none => rw [he] at this; exact this
      | some p =>
        obtain ⟨p, o⟩ := p
        rw [he] at this
        obtain ⟨us, e, g1, g2, g3, g4⟩ := this
        refine ⟨us, e, g1, g2, fun h => g3 (hx h), fun i hi => ⟨by rw [leR_len (hg i hi)]; exact (g4 i hi).1, fun j c' hj => ?_⟩⟩
        obtain ⟨c, h1, h2⟩ := leR_get (hg i hi) hj
        obtain ⟨q1, u, q2, q3, q4⟩ := (g4 i hi).2 j c h1
        exact ⟨leC_ret h2 q1, u, q2, q3, leC_repZ h2 q4⟩
    · exact H.rep id blk hq
  · obtain ⟨b1, g1⟩ := key _ _ h1
    obtain ⟨b2, g2⟩ := key _ _ h2
    exact H.inj x y b1 b2 c o o' g1 g2
  · obtain ⟨b1, g1⟩ := key _ _ h1
    exact H.zno z c hz ⟨x, b1, o, g1, h2⟩
/-- rows of one's own say less -/
theorem Ent.arr {G : Gl} {pids : List Nat} {st : St} (id k n : Nat) (f g : Nat → List AV) (ex : Bool) (hb : lk st.h id = some (.arr k n f ex)) (hg : ∀ i, i < n → leR (f i) (g i)) : Ent G pids st ⟨st.t, up st.h id (.arr k n g false)⟩ := by
  intro bs η Z a w hp H
  refine ⟨η, Z, H.t, H.h.upArr hb (fun h => by cases h) hg, H.g, H.fr, H.zs, H.z0, H.z1, fun x blk c o g1 g2 => ?_, H.fix⟩
  rw [lk_up] at g1
  split at g1
  · rename_i e; subst e; exact H.own _ _ c o hb g2
  · exact H.own x blk c o g1 g2
theorem Ok.weakF {P : Program} {G : Gl} {g : FuncId} {args : List AV} {hin : Hp} {Q Q' : AV → Hp → Prop} (h : Ok P G g args hin Q) (hq : ∀ r h, Q r h → ∃ r', Le r r' ∧ Q' r' h) : Ok P G g args hin Q' := by
  refine ⟨h.1, fun w η Z us h1 h2 h3 h4 => ?_⟩
  refine (h.2 w η Z us h1 h2 h3 h4).mono fun e w' ⟨r, v, hout, η', T', he, hQ, a1, a2, rest⟩ => ?_
  obtain ⟨r', hr, hQ'⟩ := hq r hout hQ
  exact ⟨r', v, hout, η', T', he, hQ', a1, hr _ _ _ _ a2, rest⟩
attribute [go_sem] leC leR
theorem appF_zero (f g : Nat → List AV) : appF 0 f g = g := by funext i; simp [appF]
theorem litF_zero (a : List AV) (l : List (List AV)) : litF (a :: l) 0 = a := rfl
theorem litF_succ (a : List AV) (l : List (List AV)) (i : Nat) : litF (a :: l) (i + 1) = litF l i := rfl
attribute [go_sem] appF_zero

theorem getD_snoc_lt {α : Type} {l : List α} {x d : α} {i : Nat} (h : i < l.length) : (l ++ [x]).getD i d = l.getD i d := by
  rw [List.getD_eq_getElem?_getD, List.getElem?_append_left h, ← List.getD_eq_getElem?_getD]
theorem getD_snoc_eq {α : Type} {l : List α} {x d : α} {i : Nat} (h : i = l.length) : (l ++ [x]).getD i d = x := by
  subst h
  rw [List.getD_eq_getElem?_getD, List.getElem?_append_right (Nat.le_refl _), Nat.sub_self]; rfl

/-! ### an argument's reading -/
def Row (Z : ZP) (w : World) (row : List AV) (cs : List Value) : Prop := row.length = cs.length ∧ ∀ (j : Nat) (c : AV), row[j]? = some c → c.ret = true ∧ ∃ u, cs[j]? = some u ∧ isCell u = true ∧ RepZ Z w c u
theorem Row.app {Z : ZP} {w : World} {r r' : List AV} {cs cs' : List Value} (h : Row Z w r cs) (h' : Row Z w r' cs') : Row Z w (r ++ r') (cs ++ cs') := by
  refine ⟨by simp [h.1, h'.1], fun j c hj => ?_⟩
  rw [List.getElem?_append] at hj ⊢
  rw [← h.1]
  split
  · rename_i hlt
    rw [if_pos hlt] at hj
    exact h.2 j c hj
  · rename_i hlt
    rw [if_neg hlt] at hj
    exact h'.2 _ c hj
def Reads {α : Type} (P : Program) (t : TypeId) (k : Nat) (enc : α → List AV) (ok : α → Prop) : Prop :=
  ∀ (H : Type) (eH : TypeId × Value → H) (w : World) (Z : ZP) (fuel : Nat) (cs : List Value) (x : DataW H × List MemPlace), (∀ z b, b < w.heap.size → Z z b) → DataW.trod eH P w 0 (fun _ => true) true fuel t cs = some x →
    (∀ n, n ∈ DataW.weights P t x.1 → n ≤ reachBytes) → ∃ a : α, ok a ∧ cs.length = k ∧ Row Z w (enc a) cs
theorem mem_weightsAll {H : Type} {P : Program} {e : TypeId} {d : DataW H} {n : Nat} (hn : n ∈ d.weights P e) : ∀ {l : List (DataW H)}, d ∈ l → n ∈ DataW.weightsAll P e l
  | [], h => by cases h
  | x :: l, h => by
    simp only [DataW.weightsAll, List.mem_append]
    rcases List.mem_cons.1 h with rfl | h
    · exact .inl hn
    · exact .inr (mem_weightsAll hn h)
theorem Reads.int {P : Program} {t : TypeId} (ht : P.underlying t = some (.int .i64)) : Reads P t 1 encI (fun n => -9223372036854775808 ≤ n ∧ n ≤ 9223372036854775807) := by
  intro H eH w Z fuel cs x hz h hwt
  obtain ⟨n, rfl, _, hw⟩ := DataW.trod_int ht h
  simp only [Lit.wf, Bool.and_eq_true, decide_eq_true_eq, IntKind.min, IntKind.max, IntKind.bits, IntKind.signed] at hw
  refine ⟨n, ⟨by simpa using hw.1, by simpa using hw.2⟩, rfl, rfl, fun j c hj => ?_⟩
  match j with
  | 0 => simp [encI] at hj; subst hj; exact ⟨rfl, _, rfl, rfl, .sc _⟩
  | j + 1 => simp [encI] at hj
theorem Reads.bool {P : Program} {t : TypeId} (ht : P.underlying t = some .bool) : Reads P t 1 (fun b => [Am.bool b]) (fun _ => True) := by
  intro H eH w Z fuel cs x hz h hwt
  obtain ⟨n, rfl, _⟩ := DataW.trod_bool ht h
  refine ⟨n, trivial, rfl, rfl, fun j c hj => ?_⟩
  match j with
  | 0 => simp at hj; subst hj; exact ⟨rfl, _, rfl, rfl, .sc _⟩
  | j + 1 => simp at hj
theorem listOf {α : Type} [Inhabited α] (p : Nat → α → Prop) : ∀ n : Nat, (∀ i, i < n → ∃ a, p i a) → ∃ l : List α, l.length = n ∧ ∀ i, i < n → p i (l.getD i default)
  | 0, _ => ⟨[], rfl, fun i hi => by omega⟩
  | n + 1, h => by
    obtain ⟨l, h1, h2⟩ := listOf p n fun i hi => h i (by omega)
    obtain ⟨a, ha⟩ := h n (by omega)
    refine ⟨l ++ [a], by simp [h1], fun i hi => ?_⟩
    by_cases e : i < n
    · rw [List.getD_eq_getElem?_getD, List.getElem?_append_left (by omega), ← List.getD_eq_getElem?_getD]; exact h2 i e
    · have : i = n := by omega
      subst this
      rw [List.getD_eq_getElem?_getD, List.getElem?_append_right (by omega), h1, Nat.sub_self]
      exact ha
theorem Reads.slice {α : Type} [Inhabited α] {P : Program} {t e : TypeId} {k : Nat} {enc : α → List AV} {ok : α → Prop} (he : Reads P e k enc ok) (ht : P.underlying t = some (.slice e)) (hk : P.cellsOf e = k) (h0 : 0 < k) (hb : 0 < P.bytesOf e) :
    Reads P t 1 (fun l => [sl true k enc l]) (fun l => (∀ a, a ∈ l → ok a) ∧ l.length ≤ reachBytes) := by
  intro H eH w Z fuel cs x hz h hwt
  rcases DataW.trod_slice ht h with ⟨rfl, _⟩ | ⟨a, len, cap, elems, rest, n, _, rfl, hxe, _, hlc, hcap, hle, hel, _⟩
  · refine ⟨[], ⟨(fun a h => by cases h), by simp⟩, rfl, rfl, fun j c hj => ?_⟩
    match j with
    | 0 =>
      simp at hj; subst hj
      exact ⟨rfl, _, rfl, rfl, .fz (fun _ _ => undef) (Nat.le_refl _) (fun h => by cases h) (fun h => absurd rfl h) (fun i hi => by simp at hi) (fun i hi => by simp at hi)⟩
    | j + 1 => simp at hj
  · have hx : ∀ i, i < len → ∃ cs', w.cells? 0 (a.add (i * k)) k = some cs' ∧ ∃ y, y ∈ elems ∧ DataW.trod eH P w 0 (fun _ => true) true n e cs' = some y := fun i hi => by
      have h1 := hel i hi
      rw [hk] at h1
      have h2 : i < elems.length := by omega
      rw [List.getElem?_eq_getElem h2, Option.bind_eq_some_iff] at h1
      obtain ⟨cs', q1, q2⟩ := h1
      exact ⟨cs', q1, _, List.getElem_mem h2, q2⟩
    obtain ⟨l, hl, hp⟩ := listOf (fun i (b : α) => ∃ cs', w.cells? 0 (a.add (i * k)) k = some cs' ∧ ok b ∧ cs'.length = k ∧ Row Z w (enc b) cs') len fun i hi => by
      obtain ⟨cs', h1, y, hy, h2⟩ := hx i hi
      obtain ⟨b, h3, h4, h5⟩ := he H eH w Z n cs' y hz h2 fun m hm => hwt m (by
        rw [hxe]
        simp only [DataW.weights, ht, List.mem_cons, List.mem_append]
        exact .inr (.inl (mem_weightsAll hm (List.mem_map.2 ⟨y, hy, rfl⟩))))
      exact ⟨b, cs', h1, h3, h4, h5⟩
    have hlen : l.length ≤ reachBytes := by
      have := hwt ((elems.length + rest.length) * P.bytesOf e) (by
        rw [hxe]
        simp [DataW.weights, ht])
      have h3 : (elems.length + rest.length) * 1 ≤ (elems.length + rest.length) * P.bytesOf e := Nat.mul_le_mul_left _ hb
      omega
    refine ⟨l, ⟨fun b hb => ?_, hlen⟩, rfl, rfl, fun j c hj => ?_⟩
    · obtain ⟨i, hi, rfl⟩ := List.mem_iff_getElem.1 hb
      obtain ⟨cs', _, h3, _⟩ := hp i (by omega)
      rw [List.getD_eq_getElem?_getD, List.getElem?_eq_getElem hi] at h3
      exact h3
    · match j with
      | j + 1 => simp at hj
      | 0 =>
        simp at hj; subst hj
        refine ⟨rfl, _, rfl, rfl, ?_⟩
        have hcs : ∀ i, ∃ cs', i < len → w.cells? 0 (a.add (i * k)) k = some cs' ∧ ok (l.getD i default) ∧ cs'.length = k ∧ Row Z w (enc (l.getD i default)) cs' := fun i => by
          by_cases hi : i < len
          · obtain ⟨cs', h⟩ := hp i hi; exact ⟨cs', fun _ => h⟩
          · exact ⟨[], fun h => absurd h hi⟩
        obtain ⟨F, hF⟩ := Classical.skolem.1 hcs
        have hcell : ∀ i, i < len → ∀ j, j < k → w.cell? ((a.add (i * k)).add j) = (F i)[j]? := fun i hi j hj => (World.cells?_some (hF i hi).1).2.2 j hj
        have := RepZ.fz (Z := Z) (w := w) (z := true) (full := false) (k := k) (n := l.length) (f := fun i => enc (l.getD i default)) (A := some a) (c := cap) (fun i j => (F i).getD j undef) (by omega) (fun h => by cases h) (fun hne => ?_)
          (fun i hi j c hj => ((hF i (by omega)).2.2.2.2 j c hj).1) (fun i hi j c hj => by
            obtain ⟨_, u, q1, q2, q3⟩ := (hF i (by omega)).2.2.2.2 j c hj
            rw [List.getD_eq_getElem?_getD, q1]; exact q3)
        · rw [hl] at this
          simpa [sl, hl] using this
        · have h1 := hcell 0 (by omega) 0 h0
          have e0 : ((a.add (0 * k)).add 0) = a := by simp [Addr.add]
          rw [e0] at h1
          have h2 : (F 0)[0]? = some ((F 0)[0]'(by have := (hF 0 (by omega)).2.2.1; omega)) := List.getElem?_eq_getElem _
          rw [h2] at h1
          have hsp : a = ⟨a.block, a.off, none⟩ := by
            unfold World.cell? at h1
            split at h1
            · split at h1
              · cases h1
              · rename_i hs
                obtain ⟨b, o, s⟩ := a
                cases s with
                | none => rfl
                | some s => simp at hs
            · cases h1
          have hlt : a.block < w.heap.size := by
            unfold World.cell? at h1
            split at h1
            · rename_i hq; exact (Array.getElem?_eq_some_iff.1 hq).1
            · cases h1
          refine ⟨a.block, a.off, by rw [← hsp], hz _ _ hlt, hz _ _ hlt, fun i hi => ⟨by rw [(hF i (by omega)).2.2.2.1]; exact (hF i (by omega)).2.2.1, fun j hj => ?_⟩⟩
          have h3 := hcell i (by omega) j hj
          have h4 : ((a.add (i * k)).add j) = ⟨a.block, a.off + i * k + j, none⟩ := by rw [hsp]; simp [add_eq]
          rw [h4] at h3
          have hlen := (hF i (by omega)).2.2.1
          have hrow := (hF i (by omega)).2.2.2
          have h5 : (F i)[j]? = some ((F i).getD j undef) := by rw [List.getD_eq_getElem?_getD, List.getElem?_eq_getElem (by omega)]; rfl
          refine ⟨by rw [h3, h5], ?_⟩
          obtain ⟨_, u, q1, q2, q3⟩ := hrow.2 j _ (List.getElem?_eq_getElem (by rw [hrow.1]; omega))
          rw [h5] at q1
          cases q1
          exact q2
/-- an argument that is one cell -/
theorem Reads.arg {α : Type} {P : Program} {t : TypeId} {enc : α → AV} {ok : α → Prop} (h : Reads P t 1 (fun a => [enc a]) ok) (hns : ∀ fs, P.underlying t ≠ some (.struct fs)) (hna : ∀ n e, P.underlying t ≠ some (.array n e)) {H : Type} {eH : TypeId × Value → H} {w : World} {Z : ZP} {v : Value} {d : DataW H} {ps : List MemPlace} {r : Reach} {b0 : Nat}
    (hz : ∀ z b, b < w.heap.size → Z z b) (hv : Value.okWide P w r b0 t v) (ht : DataW.Trod eH P w 0 (fun _ => true) true t v d ps) (hwt : ∀ n, n ∈ DataW.weights P t d → n ≤ reachBytes) : ∃ a, ok a ∧ RepZ Z w (enc a) v := by
  obtain ⟨fuel, hf⟩ := ht
  obtain ⟨a, h1, h2, h3, h4⟩ := h H eH w Z fuel _ _ hz hf hwt
  obtain ⟨_, u, h5, h6, h7⟩ := h4 0 _ rfl
  refine ⟨a, h1, ?_⟩
  have : v = u := by
    cases v with
    | agg cs =>
      exfalso
      unfold Value.okWide at hv
      split at hv
      · rename_i hq; exact hns _ hq
      · rename_i hq; exact hna _ _ hq
      · unfold Cell.okWide at hv
        split at hv <;> try (rename_i hq1 hq2; cases hq2)
        all_goals (unfold Cell.ok at hv; split at hv <;> simp_all)
    | _ => simpa [Value.cells] using h5
  rw [this]; exact h7
end Go.Am
