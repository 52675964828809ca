/-
  THE ABSTRACT MACHINE, part U: one state says less than another, by computation; calls by contracts.
-/
import Derived.Test.YtjmomolnhplokaaDoorAmS
namespace Go.Am
set_option linter.unusedVariables false
set_option linter.unusedSimpArgs false

def Le (c c' : AV) : Prop := ∀ η Z w u, Rep η Z w c u → Rep η Z w c' u
theorem Le.refl (c : AV) : Le c c := fun _ _ _ _ h => h
theorem Le.trans {a b c : AV} (h : Le a b) (h' : Le b c) : Le a c := fun η Z w u r => h' η Z w u (h η Z w u r)
theorem Le.unk (c : AV) : Le c .unk := fun _ _ _ u _ => .z (.unk u)
theorem RepZ.fz_le {z z' fu fu' : Bool} {k n : Nat} {f f' : Nat → List AV} {Z : ZP} {w : World} {u : Value} (hz : z' = true → z = true) (hf : fu' = true → fu = true) (he : ∀ i, i < n → f i = f' i) (h : RepZ Z w (.fz z fu k n f) u) : RepZ Z w (.fz z' fu' k n f') u := by
  cases h with | fz us hc hfu hn hq hr =>
  refine .fz us hc (fun h => hfu (hf h)) (fun h0 => ?_) (fun i hi j c hj => hq i hi j c (by rw [he i hi]; exact hj)) (fun i hi j c hj => hr i hi j c (by rw [he i hi]; exact hj))
  obtain ⟨b, o, hA, h1, h2, h3⟩ := hn h0
  refine ⟨b, o, hA, ?_, h2, fun i hi => by rw [← he i hi]; exact h3 i hi⟩
  cases z' with
  | false => exact h2
  | true => have := hz rfl; subst this; exact h1
theorem Le.fz {z z' fu fu' : Bool} {k n : Nat} {f f' : Nat → List AV} (hz : z' = true → z = true) (hf : fu' = true → fu = true) (he : ∀ i, i < n → f i = f' i) : Le (.fz z fu k n f) (.fz z' fu' k n f') := by
  intro η Z w u h
  cases h with | z h => exact .z (h.fz_le hz hf he)
theorem Le.nil {z fu : Bool} {k : Nat} {f : Nat → List AV} : Le (.sc (.slice none 0 0)) (.fz z fu k 0 f) := by
  intro η Z w u h
  have := h.sc_inv
  subst this
  exact .z (.fz (fun _ _ => undef) (Nat.le_refl _) (fun _ => rfl) (fun h => absurd rfl h) (fun i hi => by omega) (fun i hi => by omega))

mutual
/-- enough for 'Le', as a proposition that evaluates -/
def leP : AV → AV → Prop
  | _, .unk => True
  | .sc v, .sc u => v = u
  | .sc (.slice none 0 0), .fz _ _ _ n _ => n = 0
  | .fz z fu k n f, .fz z' fu' k' n' f' => k = k' ∧ n = n' ∧ (z' = true → z = true) ∧ (fu' = true → fu = true) ∧ ∀ i, i < n → f i = f' i
  | .own id k i n fu, .own id' k' i' n' fu' => id = id' ∧ k = k' ∧ i = i' ∧ n = n' ∧ (fu' = true → fu = true)
  | .ptr id j, .ptr id' j' => id = id' ∧ j = j'
  | .elp id k i j, .elp id' k' i' j' => id = id' ∧ k = k' ∧ i = i' ∧ j = j'
  | .rowp r j, .rowp r' j' => r = r' ∧ j = j'
  | .agg cs, .agg cs' => lePL cs cs'
  | .tup cs, .tup cs' => lePL cs cs'
  | .clo fn x y, .clo fn' x' y' => fn = fn' ∧ lePL x x' ∧ lePL y y'
  | _, _ => False
def lePL : List AV → List AV → Prop
  | [], [] => True
  | c :: cs, c' :: cs' => leP c c' ∧ lePL cs cs'
  | _, _ => False
end
theorem Cells.of_repZ {η : Eta} {Z : ZP} {w : World} {cs : List AV} {us : Array Value} (hl : us.size = cs.length) (hr : ∀ (i : Nat) (c : AV) (u : Value), cs[i]? = some c → us[i]? = some u → RepZ Z w c u) : Cells η Z w cs us := ⟨hl, fun i c u h1 h2 => .z (hr i c u h1 h2)⟩
mutual
theorem leP_le : ∀ (c c' : AV), leP c c' → Le c c'
  | c, .unk, _ => Le.unk c
  | .sc v, .sc u, h => by simp only [leP] at h; subst h; exact Le.refl _
  | .sc v, .fz z fu k n f, h => by
    unfold leP at h
    split at h <;> try (first | exact h.elim | cases h)
    all_goals simp_all
    all_goals first | exact Le.nil | skip
  | .fz z fu k n f, .fz z' fu' k' n' f', h => by
    simp only [leP] at h
    obtain ⟨rfl, rfl, h1, h2, h3⟩ := h
    exact Le.fz h1 h2 h3
  | .own id k i n fu, .own id' k' i' n' fu', h => by
    simp only [leP] at h
    obtain ⟨rfl, rfl, rfl, rfl, h1⟩ := h
    intro η Z w u r
    cases r with
    | z hz => cases hz
    | own hη hb hA hfit hc hf => exact .own hη hb hA hfit hc fun h => hf (h1 h)
    | ownNil hη => exact .ownNil hη
  | .ptr id j, .ptr id' j', h => by simp only [leP] at h; obtain ⟨rfl, rfl⟩ := h; exact Le.refl _
  | .elp id k i j, .elp id' k' i' j', h => by simp only [leP] at h; obtain ⟨rfl, rfl, rfl, rfl⟩ := h; exact Le.refl _
  | .rowp r j, .rowp r' j', h => by simp only [leP] at h; obtain ⟨rfl, rfl⟩ := h; exact Le.refl _
  | .agg cs, .agg cs', h => by
    simp only [leP] at h
    intro η Z w u r
    obtain ⟨us, rfl, hl, hr⟩ := r.agg_inv
    obtain ⟨q1, q2⟩ := lePL_le cs cs' h η Z w us ⟨hl, hr⟩
    exact .agg q1 q2
  | .tup cs, .tup cs', h => by
    simp only [leP] at h
    intro η Z w u r
    obtain ⟨us, rfl, hl, hr⟩ := r.tup_inv
    obtain ⟨q1, q2⟩ := lePL_le cs cs' h η Z w us ⟨hl, hr⟩
    exact .tup q1 q2
  | .clo fn x y, .clo fn' x' y', h => by
    simp only [leP] at h
    obtain ⟨rfl, hx, hy⟩ := h
    intro η Z w u r
    obtain ⟨us, vs, rfl, h1, h2⟩ := r.clo_inv
    obtain ⟨q1, q2⟩ := lePL_le x x' hx η Z w us h1
    obtain ⟨q3, q4⟩ := lePL_le y y' hy η Z w vs h2
    exact .clo q1 q2 q3 q4
theorem lePL_le : ∀ (cs cs' : List AV), lePL cs cs' → ∀ η Z w us, Cells η Z w cs us → Cells η Z w cs' us
  | [], [], _, η, Z, w, us, h => h
  | c :: cs, c' :: cs', h, η, Z, w, us, hc => by
    simp only [lePL] at h
    have ih := lePL_le cs cs' h.2 η Z w (us.extract 1 us.size) ⟨by simp [hc.1], fun i c u h1 h2 => hc.2 (i + 1) c u (by simpa using h1) (by
      rw [Array.getElem?_extract] at h2
      split at h2
      · rw [Nat.add_comm]; exact h2
      · cases h2)⟩
    refine ⟨?_, fun i x u h1 h2 => ?_⟩
    · have h1 := hc.1
      have h2 := ih.1
      simp at h1 h2 ⊢
      omega
    · cases i with
      | zero => simp at h1; subst h1; exact leP_le c c' h.1 η Z w u (hc.2 0 c u rfl h2)
      | succ i =>
        refine ih.2 i x u (by simpa using h1) ?_
        have hlt := (Array.getElem?_eq_some_iff.1 h2).1
        rw [Array.getElem?_extract, if_pos (by omega), Nat.add_comm]
        exact h2
  | [], c :: cs, h, _, _, _, _, _ => by simp [lePL] at h
  | c :: cs, [], h, _, _, _, _, _ => by simp [lePL] at h
end

def leB : Blk → Blk → Prop
  | .box cs, .box cs' => lePL cs cs'
  | .arr k n f ex, .arr k' n' f' ex' => k = k' ∧ n = n' ∧ (ex' = true → ex = true) ∧ ∀ i, i < n → f i = f' i
  | .lnk v c, .lnk v' c' => v = v' ∧ leP c c'
  | _, _ => False
def entT (t : List (Nat × AV)) : List (Nat × AV) → Prop
  | [] => True
  | (i, c) :: l => leP ((lk t i).getD .unk) c ∧ entT t l
def entH (h : Hp) : Hp → Prop
  | [] => True
  | (i, b) :: l => (match lk h i with | some b0 => leB b0 b | none => False) ∧ entH h l
theorem entT_lk {t : List (Nat × AV)} : ∀ {l : List (Nat × AV)}, entT t l → ∀ {i : Nat} {c : AV}, lk l i = some c → leP ((lk t i).getD .unk) c
  | [], _, i, c, h => by cases h
  | (j, d) :: l, h, i, c, hl => by
    simp only [lk] at hl
    split at hl
    · rename_i he; subst he; cases hl; exact h.1
    · exact entT_lk h.2 hl
theorem entH_lk {h : Hp} : ∀ {l : Hp}, entH h l → ∀ {i : Nat} {b : Blk}, lk l i = some b → ∃ b0, lk h i = some b0 ∧ leB b0 b
  | [], _, i, c, hl => by cases hl
  | (j, d) :: l, hh, i, c, hl => by
    simp only [lk] at hl
    split at hl
    · rename_i he
      subst he
      cases hl
      have := hh.1
      split at this
      · rename_i b0 hb; exact ⟨b0, hb, this⟩
      · exact this.elim
    · exact entH_lk hh.2 hl
section
variable {P : Program} {G : Gl} {η η' : Eta} {Z Z' : ZP} {w w' : World} {bs : Base} {pids : List Nat} {nt : Nat}
theorem BRep.le {bo : Option (Nat × Nat)} {b b' : Blk} (h : BRep η Z w bo b) (hl : leB b b') : BRep η Z w bo b' := by
  cases b with
  | box cs =>
    cases b' with
    | box cs' =>
      simp only [leB] at hl
      cases bo with
      | none => exact h
      | some p =>
        obtain ⟨x, o⟩ := p
        obtain ⟨us, e, hb, hlen, hc⟩ := h
        have hC : Cells η Z w cs (us.extract o (o + cs.length)) := by
          refine ⟨by simp; omega, fun i c u h1 h2 => ?_⟩
          obtain ⟨u', hu', hr⟩ := hc i c h1
          rw [Array.getElem?_extract] at h2
          split at h2
          · rw [hu'] at h2; cases h2; exact hr
          · cases h2
        obtain ⟨q1, q2⟩ := lePL_le cs cs' hl η Z w _ hC
        have hlen' : cs'.length = cs.length := by simp at q1; omega
        refine ⟨us, e, hb, by omega, fun j c hj => ?_⟩
        have hlt : j < cs.length := by have := (List.getElem?_eq_some_iff.1 hj).1; omega
        obtain ⟨u', hu', _⟩ := hc j _ (List.getElem?_eq_getElem hlt)
        refine ⟨u', hu', q2 j c u' hj ?_⟩
        rw [Array.getElem?_extract, if_pos (by have := (Array.getElem?_eq_some_iff.1 hu').1; omega)]
        exact hu'
    | arr => exact hl.elim
    | lnk => exact hl.elim
  | lnk v c =>
    cases b' with
    | box => exact hl.elim
    | arr => exact hl.elim
    | lnk v' c' =>
      simp only [leB] at hl
      obtain ⟨rfl, hl⟩ := hl
      cases bo with
      | none => exact leP_le c c' hl _ _ _ _ h
      | some p => exact h.elim
  | arr k n f ex =>
    cases b' with
    | box => exact hl.elim
    | lnk => exact hl.elim
    | arr k' n' f' ex' =>
      simp only [leB] at hl
      obtain ⟨rfl, rfl, hx, hf⟩ := hl
      cases bo with
      | none => exact h
      | some p =>
        obtain ⟨x, o⟩ := p
        obtain ⟨us, e, hb, hlen, hex, hc⟩ := h
        exact ⟨us, e, hb, hlen, fun h => hex (hx h), fun i hi => by rw [← hf i hi]; exact hc i hi⟩
theorem HRep.le {h h' : Hp} (H : HRep η Z w h) (he : entH h h') : HRep η Z w h' := by
  refine ⟨fun id b hl => ?_, fun x y bk bk' b o o' h1 h2 => ?_, H.zlt, fun z b hb ⟨x, bk, o, h1, h2⟩ => ?_⟩
  · obtain ⟨b0, h0, h1⟩ := entH_lk he hl
    exact (H.rep id b0 h0).le h1
  · obtain ⟨b1, g1, _⟩ := entH_lk he h1
    obtain ⟨b2, g2, _⟩ := entH_lk he h2
    exact H.inj x y b1 b2 b o o' g1 g2
  · obtain ⟨b1, g1, _⟩ := entH_lk he h1
    exact H.zno z b hb ⟨x, b1, o, g1, h2⟩
/-- by computation -/
theorem Ent.of {st st' : St} (h1 : entT st.t st'.t) (h2 : entH st.h st'.h) : Ent G pids st st' := by
  intro bs η Z a w hp H
  refine ⟨η, Z, fun i c hc => ?_, H.h.le h2, H.g, H.fr, H.zs, H.z0, H.z1, fun id blk b o hl => ?_, H.fix⟩
  · refine leP_le _ _ (entT_lk h1 hc) η Z w _ ?_
    cases hq : lk st.t i with
    | none => exact .z (.unk _)
    | some c0 => exact H.t i c0 hq
  · obtain ⟨b0, h0, _⟩ := entH_lk h2 hl
    exact H.own id b0 b o h0
def keysIn (h : Hp) : Hp → Bool
  | [] => true
  | (i, _) :: l => (lk h i).isSome && keysIn h l
theorem keysIn_lk {h : Hp} : ∀ {l : Hp}, keysIn h l = true → ∀ {i : Nat} {b : Blk}, lk l i = some b → ∃ b', lk h i = some b'
  | [], _, i, b, hl => by cases hl
  | (j, d) :: l, hk, i, b, hl => by
    simp only [keysIn, Bool.and_eq_true] at hk
    simp only [lk] at hl
    split at hl
    · rename_i he; subst he; exact Option.isSome_iff_exists.1 hk.1
    · exact keysIn_lk hk.2 hl
theorem Ok.le {g : FuncId} {args args' : List AV} {hin hin' : Hp} {Q : AV → Hp → Prop} (h : Ok P G g args' hin' Q) (ha : lePL args args') (hh : entH hin hin') (hk : keysIn hin' hin = true) : Ok P G g args hin Q := by
  refine ⟨h.1, fun w η Z us hus hH hg hz => ?_⟩
  refine (h.2 w η Z us (lePL_le args args' ha η Z w us hus) (hH.le hh) hg hz).mono fun e w' ⟨r, v, hout, η', T', he, hQ, hH', hR, h1, h2, h3, h4, hF⟩ => ⟨r, v, hout, η', T', he, hQ, hH', hR, h1, h2, fun id cells blk q1 q2 => ?_, fun id blk b o q1 q2 => ?_, hF.weaken fun b ⟨x, bk, o, q1, q2⟩ => ?_⟩
  · obtain ⟨b', hb'⟩ := keysIn_lk hk q1
    obtain ⟨b0, g0, g1⟩ := entH_lk hh hb'
    rw [q1] at g0
    cases g0
    cases b' with
    | box cs => exact h3 id cs blk hb' q2
    | arr => exact g1.elim
    | lnk => exact g1.elim
  · rcases h4 id blk b o q1 q2 with ⟨blk', o', g1, g2⟩ | g1
    · obtain ⟨b0, g0, _⟩ := entH_lk hh g1
      exact .inl ⟨b0, o', g0, g2⟩
    · exact .inr g1
  · obtain ⟨b0, g0, _⟩ := entH_lk hh q1
    exact ⟨x, b0, o, g0, q2⟩
def allBox (h : Hp) (ks : List Nat) : List Nat → Bool
  | [] => true
  | i :: is => (ks.contains i || (match lk h i with | some (.box _) => true | _ => false)) && allBox h ks is
theorem allBox_mem {h : Hp} {ks : List Nat} : ∀ {is : List Nat}, allBox h ks is = true → ∀ i, i ∈ is → i ∉ ks → ∃ cells, lk h i = some (.box cells)
  | [], _, i, hi, _ => by cases hi
  | x :: is, hb, i, hi, hk => by
    simp only [allBox, Bool.and_eq_true, Bool.or_eq_true] at hb
    rcases List.mem_cons.1 hi with rfl | hi
    · rcases hb.1 with h1 | h1
      · exact absurd (by simpa using h1) hk
      · split at h1
        · rename_i cs hl; exact ⟨cs, hl⟩
        · cases h1
    · exact allBox_mem hb.2 i hi hk
/-- A CALL BY ITS CONTRACT: 'is' are handed over, 'ks' are new there or lost -/
theorem CallW.of {g : FuncId} {args args' : List AV} {st : St} {d : Option Nat} {K : St → Prop} {hin' : Hp} {Q : AV → Hp → Prop} {keep : List Nat} (is ks : List Nat) (hOk : Ok P G g args' hin' Q)
    (hpre : lePL (lendL st.h is args) args' ∧ entH (sel st.h is) hin' ∧ (keysIn hin' (sel st.h is) && (noneIn pids ks && (noneIn keep (is ++ ks) && allBox st.h ks is))) = true)
    (hK : ∀ r h, Q r h → okOut is ks r h = true ∧ K (callSt st is ks h d r)) : CallW P G pids keep g args st d K := by
  obtain ⟨h1, h2, h3⟩ := hpre
  simp only [Bool.and_eq_true] at h3
  exact ⟨is, ks, Q, hOk.le h1 h2 h3.1, h3.2.1, h3.2.2.1, allBox_mem h3.2.2.2, hK⟩

/-- a slice that is nil, as a row of one's own -/
def St.virt (st : St) (i id k : Nat) : St := { t := up (st.kill id).t i (.own id k 0 0 false), h := up (st.kill id).h id (.arr k 0 (fun _ => []) false) }
theorem Ent.virt {st : St} (i id k : Nat) (hi : lk st.t i = some (.sc (.slice none 0 0))) (hid : pids.contains id = false) : Ent G pids st (st.virt i id k) := by
  intro bs η Z a w hp H
  have hidp : id ∉ bs.pids := by rw [hp]; simpa using hid
  let η' : Eta := fun x => if x = id then none else η x
  have hη : ∀ x, x ≠ id → η' x = η x := fun x hx => by simp [η', hx]
  have hd : η' id = none := by simp [η']
  have hk : HRep η' Z w (mp (Blk.kill id) (rmv st.h id)) := H.h.kill id (fun _ _ _ => rfl) hη (fun b => Shape.of_eq rfl) (Nat.le_refl _) (fun _ _ _ _ _ _ _ => rfl)
  have hkn : lk (mp (Blk.kill id) (rmv st.h id)) id = none := by rw [lk_mp, lk_rmv, if_pos rfl]; rfl
  have ht : TRep η' Z w (mp (AV.kill id) st.t) a := H.t.kill id (fun z b hb => ⟨hb, rfl⟩) hη fun b => Shape.of_eq rfl
  refine ⟨η', Z, fun j c hc => ?_, hk.add hkn (by rw [hd]; rfl) (fun b o e => by rw [hd] at e; cases e), H.g, H.fr, H.zs, H.z0, H.z1, fun x blk b o h1 h2 => ?_, fun x hx => (hη x fun e => by subst e; exact hidp hx).trans (H.fix x hx)⟩
  · simp only [St.virt] at hc
    rw [lk_up] at hc
    split at hc
    · rename_i he
      subst he
      cases hc
      have := (H.t i _ hi).sc_inv
      rw [this]
      exact .ownNil hd
    · exact ht j c hc
  · simp only [St.virt] at h1
    rw [lk_up] at h1
    split at h1
    · rename_i he; subst he; rw [hd] at h2; cases h2
    · obtain ⟨n1, k1, g1, _⟩ := lk_killH h1
      rw [hη x n1] at h2
      exact H.own x k1 b o g1 h2
/-- a row of one's own given up -/
theorem Ent.frz {st : St} (id : Nat) (hid : pids.contains id = false) : Ent G pids st (st.frz id) := by
  intro bs η Z a w hp H
  obtain ⟨Z', H', _⟩ := H.frz id (by rw [hp]; simpa using hid)
  exact ⟨η, Z', H'⟩
theorem leP_refl : ∀ (c : AV), leP c c := by
  have : ∀ (c : AV), leP c c ∧ True := fun c => by
    induction c using AV.rec (motive_2 := fun l => lePL l l) with
    | sc v => exact ⟨by simp [leP], trivial⟩
    | unk => exact ⟨by simp [leP], trivial⟩
    | fz => exact ⟨by simp [leP], trivial⟩
    | own => exact ⟨by simp [leP], trivial⟩
    | ptr => exact ⟨by simp [leP], trivial⟩
    | elp => exact ⟨by simp [leP], trivial⟩
    | rowp => exact ⟨by simp [leP], trivial⟩
    | agg cs h => exact ⟨by simp [leP]; exact h, trivial⟩
    | tup cs h => exact ⟨by simp [leP]; exact h, trivial⟩
    | clo fn x y h1 h2 => exact ⟨by simp [leP]; exact ⟨h1, h2⟩, trivial⟩
    | nil => simp [lePL]
    | cons c l h1 h2 => simp [lePL]; exact ⟨h1.1, h2⟩
  exact fun c => (this c).1
end
attribute [go_sem] leP lePL leB entT entH keysIn allBox St.virt
end Go.Am
