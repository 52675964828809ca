/-
  THE ABSTRACT MACHINE, part AA: steps that only say more: names exchanged, a cell's value by its exact datum ('link'), rows of one's own as a box.
-/
import Derived.Test.YtjmomolnhplokaaDoorAmZ
namespace Go.Am
set_option linter.unusedVariables false
set_option linter.unusedSimpArgs false
section
variable {P : Program} {G : Gl} {η η' : Eta} {Z Z' : ZP} {w w' : World} {bs : Base} {pids : List Nat} {nt : Nat}
/-- a step that only says more of the same state -/
def Sem (G : Gl) (pids : List Nat) (nt : Nat) (st : St) [K : KO] : Prop := ∀ bs a w, bs.pids = pids → Sat G bs nt st a w → ∃ st', K.k st' ∧ Sat G bs nt st' a w
theorem Sem.done {st : St} {K : KO} (h : K.k st) : Sem G pids nt st := fun bs a w hp hS => ⟨st, h, hS⟩
theorem Sem.ent {st st1 : St} {K : KO} (he : Ent G pids st st1) (h : Sem G pids nt st1) : Sem G pids nt st := fun bs a w hp hS => h bs a w hp (he.sat hp hS)
theorem TC'.drawE {id : Nat} {ops : Array Oper} {st : St} {K : KE} (keep : List Nat) (pl : Pl) (hm : P.follows .mixedOrders = true) (hok : ops.toList.all (opOK nt) = true) (hpl : planOK ops pl = true)
    (h : allKeys st.h keep = true ∧ @wpD' P G pids keep ops true pl st ⟨fun st' => @Sem G pids nt st' ⟨fun s => K.k .normal s⟩⟩) : TC' P G pids nt (.region id ops true) st := by
  have := TC.draw (G := G) (pids := pids) (nt := nt) (id := id) (K := fun e s => match e with | .normal => @Sem G pids nt s ⟨fun s => K.k .normal s⟩ | _ => False) keep pl hm hok hpl h
  intro bs a w Q hp hpn hS hQ
  refine this bs a w Q hp hpn hS fun e st' a' w' h1 h2 => ?_
  cases e with
  | normal =>
    obtain ⟨s, hs, hsat⟩ := h1 bs a' w' hp h2
    exact hQ .normal s a' w' hs hsat
  | exit id => exact h1.elim
  | ret => exact h1.elim
/-- a region that draws its order: whatever the order, one state is met -/
theorem TC'.drawTo {id : Nat} {ops : Array Oper} {st : St} {K : KE} (keep : List Nat) (pl : Pl) (st1 : St) (hm : P.follows .mixedOrders = true) (hok : ops.toList.all (opOK nt) = true) (hpl : planOK ops pl = true)
    (h : allKeys st.h keep = true ∧ @wpD' P G pids keep ops true pl st ⟨fun st' => entT st'.t st1.t ∧ entH st'.h st1.h⟩) (hk : @Sem G pids nt st1 ⟨fun s => K.k .normal s⟩) : TC' P G pids nt (.region id ops true) st := by
  have := TC.draw (G := G) (pids := pids) (nt := nt) (id := id) (K := fun e s => match e with | .normal => entT s.t st1.t ∧ entH s.h st1.h | _ => False) keep pl hm hok hpl h
  intro bs a w Q hp hpn hS hQ
  refine this bs a w Q hp hpn hS fun e st' a' w' h1 h2 => ?_
  cases e with
  | normal =>
    obtain ⟨s, hs, hsat⟩ := hk bs a' w' hp ((Ent.of h1.1 h1.2).sat hp h2)
    exact hQ .normal s a' w' hs hsat
  | exit id => exact h1.elim
  | ret => exact h1.elim
def St.sw (a b : Nat) (st : St) : St := ⟨mp (AV.sw a b) st.t, swH a b st.h⟩
theorem Ent.sw {st : St} (a b : Nat) (ha : pids.contains a = false) (hb : pids.contains b = false) : Ent G pids st (st.sw a b) := by
  intro bs η Z act w hp H
  have ha' : a ∉ bs.pids := by rw [hp]; simpa using ha
  have hb' : b ∉ bs.pids := by rw [hp]; simpa using hb
  let η1 : Eta := fun d => η (Go.Am.sw a b d)
  have hη : ∀ d, η1 (Go.Am.sw a b d) = η d := fun d => by simp only [η1, Go.Am.sw_sw]
  have hid : ∀ id, Go.Am.sw a b id ∈ bs.pids → Go.Am.sw a b id = id := fun id h => by
    unfold Go.Am.sw at h ⊢
    split
    · rename_i e; rw [if_pos e] at h; exact absurd h hb'
    · split
      · rename_i e1 e2; rw [if_neg e1, if_pos e2] at h; exact absurd h ha'
      · rfl
  refine ⟨η1, Z, fun i c hc => ?_, H.h.sw a b hη, H.g, H.fr, H.zs, H.z0, H.z1, fun id blk x o h1 h2 => ?_, fun id hi => ?_⟩
  · simp only [St.sw] at hc
    rw [lk_mp, Option.map_eq_some_iff] at hc
    obtain ⟨c', hc', rfl⟩ := hc
    exact (H.t i c' hc').sw a b hη
  · simp only [St.sw] at h1
    rw [lk_swH, Option.map_eq_some_iff] at h1
    obtain ⟨b', hb', rfl⟩ := h1
    rcases H.own _ b' x o hb' h2 with h | h
    · left
      have := hid id (bs.hp _ _ h)
      rw [this] at h
      exact h
    · exact .inr h
  · have e : Go.Am.sw a b id = id := by
      unfold Go.Am.sw
      rw [if_neg (fun e : id = a => ha' (e ▸ hi)), if_neg (fun e : id = b => hb' (e ▸ hi))]
    change η (Go.Am.sw a b id) = _
    rw [e]
    exact H.fix id hi
theorem HRep.upBoxAt {h : Hp} {b : Nat} {cs cs' : List AV} (H : HRep η Z w h) (hb : lk h b = some (.box cs)) (hl : cs'.length = cs.length)
    (hc : ∀ us e p o, η b = some (p, o) → w.heap[p]? = some (.cells us e (0, 0)) → ∀ (j : Nat) (c' : AV), cs'[j]? = some c' → ∀ c u, cs[j]? = some c → us[o + j]? = some u → Rep η Z w c u → Rep η Z w c' u) : HRep η Z w (up h b (.box cs')) := by
  have key : ∀ id blk, lk (up h b (.box cs')) id = some blk → ∃ b0, lk h id = some b0 := fun id blk hq => by
    rw [lk_up] at hq
    split at hq
    · rename_i e; subst e; exact ⟨_, hb⟩
    · exact ⟨_, hq⟩
  refine ⟨fun id blk hq => ?_, fun x y bx bk c o o' h1 h2 => ?_, H.zlt, fun z c hz ⟨x, bk, o, h1, h2⟩ => ?_⟩
  · rw [lk_up] at hq
    split at hq
    · rename_i e
      subst e
      cases hq
      have := H.rep _ _ hb
      cases he : η b with
      | none => rw [he] at this; exact this
      | some p =>
        obtain ⟨p, o⟩ := p
        rw [he] at this
        obtain ⟨us, e, g1, g2, g3⟩ := this
        refine ⟨us, e, g1, by omega, fun j c' hj => ?_⟩
        have hlt := (List.getElem?_eq_some_iff.1 hj).1
        obtain ⟨u, hu, hr⟩ := g3 j _ (List.getElem?_eq_getElem (by omega))
        exact ⟨u, hu, hc us e p o he g1 j c' hj _ u (List.getElem?_eq_getElem (by omega)) hu hr⟩
    · exact H.rep id blk hq
  · obtain ⟨b1, g1⟩ := key _ _ h1
    obtain ⟨b2, g2⟩ := key _ _ h2
    exact H.inj x y b1 b2 c o o' g1 g2
  · obtain ⟨b1, g1⟩ := key _ _ h1
    exact H.zno z c hz ⟨x, b1, o, g1, h2⟩
/-- a box's cell, by its exact datum -/
def St.link (st : St) (b j d : Nat) (v : Value) : St := match lk (mp (Blk.kill d) (rmv st.h d)) b with
  | some (.box cs) => match cs[j]? with
    | some c => ⟨mp (AV.kill d) st.t, up (up (mp (Blk.kill d) (rmv st.h d)) d (.lnk v c)) b (.box (cs.set j (.sc v)))⟩
    | none => st
  | _ => st
theorem Sem.link {st : St} {K : KO} (b j d : Nat) {cs : List AV} {id k n : Nat} {full : Bool} (hb : lk (mp (Blk.kill d) (rmv st.h d)) b = some (.box cs)) (hj : cs[j]? = some (.own id k 0 n full)) (hd : pids.contains d = false) (hne : b ≠ d)
    (h : ∀ A c, Sem G pids nt (st.link b j d (.slice A n c))) : Sem G pids nt st := by
  intro bs a w hp hS
  obtain ⟨hn, hs, η, Z, H⟩ := hS
  have hidp : d ∉ bs.pids := by rw [hp]; simpa using hd
  let η' : Eta := fun x => if x = d then none else η x
  have hη : ∀ x, x ≠ d → η' x = η x := fun x hx => by simp [η', hx]
  have hd' : η' d = none := by simp [η']
  have hk : HRep η' Z w (mp (Blk.kill d) (rmv st.h d)) := H.h.kill d (fun _ _ _ => rfl) hη (fun b => Shape.of_eq rfl) (Nat.le_refl _) (fun _ _ _ _ _ _ _ => rfl)
  have hkn : lk (mp (Blk.kill d) (rmv st.h d)) d = none := by rw [lk_mp, lk_rmv, if_pos rfl]; rfl
  have ht : TRep η' Z w (mp (AV.kill d) st.t) a := H.t.kill d (fun z b hb => ⟨hb, rfl⟩) hη fun b => Shape.of_eq rfl
  have hbox := hk.rep b _ hb
  cases he : η' b with
  | none => rw [he] at hbox; exact hbox.elim
  | some p =>
    obtain ⟨p, o⟩ := p
    rw [he] at hbox
    obtain ⟨us, e, g1, g2, g3⟩ := hbox
    obtain ⟨u, hu, hr⟩ := g3 j _ hj
    have hu' : ∃ A c, u = .slice A n c := by
      cases hr with
      | z hz => cases hz
      | own => exact ⟨_, _, rfl⟩
      | ownNil => exact ⟨_, _, rfl⟩
    obtain ⟨A, c, rfl⟩ := hu'
    refine h A c bs a w hp ⟨hn, hs, η', Z, ?_⟩
    have h1 := hk.add (id := d) (blk := .lnk (.slice A n c) (.own id k 0 n full)) hkn (by rw [hd']; exact hr) (fun b o e => by rw [hd'] at e; cases e)
    have h2 := h1.upBoxAt (b := b) (cs := cs) (cs' := cs.set j (.sc (.slice A n c))) (by rw [lk_up, if_neg (Ne.symm hne)]; exact hb) (by simp) (fun us' e' p' o' q1 q2 i c' hi c u hc hu2 hr2 => by
      rw [he] at q1
      cases q1
      rw [g1] at q2
      cases q2
      rw [List.getElem?_set] at hi
      split at hi
      · rename_i e
        subst e
        split at hi
        · cases hi
          rw [hu] at hu2
          cases hu2
          exact .z (.sc _)
        · cases hi
      · rw [hi] at hc; cases hc; exact hr2)
    have e : st.link b j d (.slice A n c) = ⟨mp (AV.kill d) st.t, up (up (mp (Blk.kill d) (rmv st.h d)) d (.lnk (.slice A n c) (.own id k 0 n full))) b (.box (cs.set j (.sc (.slice A n c))))⟩ := by
      simp only [St.link, hb, hj]
    rw [e]
    refine ⟨ht, h2, H.g, H.fr, H.zs, H.z0, H.z1, fun x blk c o g1 g2 => ?_, fun x hx => (hη x fun e => by subst e; exact hidp hx).trans (H.fix x hx)⟩
    rw [lk_up] at g1
    by_cases hx : d = x
    · subst hx; rw [hd'] at g2; cases g2
    · have : ∃ b1, lk (mp (Blk.kill d) (rmv st.h d)) x = some b1 := by
        split at g1
        · rename_i e; subst e; exact ⟨_, hb⟩
        · rw [lk_up, if_neg hx] at g1; exact ⟨_, g1⟩
      obtain ⟨b1, g3⟩ := this
      obtain ⟨n1, k1, g4, _⟩ := lk_killH g3
      rw [hη x n1] at g2
      exact H.own x k1 c o g4 g2
/-! ### rows one behind the other -/
def rows (f : Nat → List AV) : Nat → List AV
  | 0 => []
  | n + 1 => rows f n ++ f n
theorem rows_len {f : Nat → List AV} {k : Nat} : ∀ {n : Nat}, (∀ i, i < n → (f i).length = k) → (rows f n).length = n * k
  | 0, _ => by simp [rows]
  | n + 1, h => by simp [rows, rows_len (n := n) fun i hi => h i (by omega), h n (by omega), Nat.add_mul]
theorem rows_get {f : Nat → List AV} {k : Nat} : ∀ {n : Nat}, (∀ i, i < n → (f i).length = k) → ∀ {i j : Nat}, i < n → j < k → (rows f n)[i * k + j]? = (f i)[j]?
  | 0, _, i, j, hi, _ => by omega
  | n + 1, h, i, j, hi, hj => by
    have hl := rows_len (n := n) fun i hi => h i (by omega)
    simp only [rows]
    by_cases e : i < n
    · have : (i + 1) * k ≤ n * k := Nat.mul_le_mul_right k e
      rw [Nat.add_mul] at this
      rw [List.getElem?_append_left (by omega)]
      exact rows_get (fun i hi => h i (by omega)) e hj
    · have : i = n := by omega
      subst this
      rw [List.getElem?_append_right (by omega), hl]
      congr 1
      omega
theorem rows_congr {f g : Nat → List AV} : ∀ {n : Nat}, (∀ i, i < n → f i = g i) → rows f n = rows g n
  | 0, _ => rfl
  | n + 1, h => by simp only [rows]; rw [rows_congr fun i hi => h i (by omega), h n (by omega)]
theorem rows_ext {l l' : List AV} {n k : Nat} (h1 : l.length = n * k) (h2 : l'.length = n * k) (h : ∀ i j, i < n → j < k → l[i * k + j]? = l'[i * k + j]?) : l = l' := by
  apply List.ext_getElem?
  intro x
  by_cases hx : x < n * k
  · obtain ⟨q1, q2, q3⟩ := split_index hx
    rw [← q3]
    exact h _ _ q1 q2
  · rw [List.getElem?_eq_none (by omega), List.getElem?_eq_none (by omega)]
theorem rows_set {f : Nat → List AV} {n k i j : Nat} {c : AV} (h : ∀ i, i < n → (f i).length = k) (hi : i < n) (hj : j < k) : (rows f n).set (i * k + j) c = rows (updF f i ((f i).set j c)) n := by
  have hg : ∀ x, x < n → (updF f i ((f i).set j c) x).length = k := fun x hx => by
    unfold updF
    split
    · rw [List.length_set]; exact h i hi
    · exact h x hx
  refine rows_ext (n := n) (k := k) (by rw [List.length_set]; exact rows_len h) (rows_len hg) fun x y hx hy => ?_
  rw [rows_get hg hx hy, List.getElem?_set]
  unfold updF
  by_cases e : x = i
  · subst e
    rw [if_pos rfl, List.getElem?_set]
    by_cases e2 : j = y
    · subst e2
      rw [if_pos rfl, if_pos rfl, rows_len h, h x hx]
      have : (x + 1) * k ≤ n * k := Nat.mul_le_mul_right k hx
      rw [Nat.add_mul] at this
      rw [if_pos (by omega), if_pos hy]
    · rw [if_neg (by omega), if_neg e2]
      exact rows_get h hx hy
  · rw [if_neg e, if_neg, rows_get h hx hy]
    intro e2
    have q1 := join_index (i := i) hj
    have q2 := join_index (i := x) hy
    rw [e2, q2.1] at q1
    exact e q1.1
/-- rows of one's own, as a box, a linked cell by what it leads to -/
theorem Ent.arrBox {st : St} (b k n d i j : Nat) (f : Nat → List AV) (ex : Bool) (v : Value) (c : AV) (hb : lk st.h b = some (.arr k n f ex)) (hd : lk st.h d = some (.lnk v c)) (hi : i < n) (hj : (f i)[j]? = some (.sc v)) :
    Ent G pids st ⟨st.t, up st.h b (.box ((rows f n).set (i * k + j) c))⟩ := by
  intro bs η Z a w hp H
  have key : ∀ id blk, lk (up st.h b (.box ((rows f n).set (i * k + j) c))) id = some blk → ∃ b0, lk st.h id = some b0 := fun id blk hq => by
    rw [lk_up] at hq
    split at hq
    · rename_i e; subst e; exact ⟨_, hb⟩
    · exact ⟨_, hq⟩
  refine ⟨η, Z, H.t, ⟨fun id blk hq => ?_, fun x y bx bk c o o' h1 h2 => ?_, H.h.zlt, fun z c hz ⟨x, bk, o, h1, h2⟩ => ?_⟩, H.g, H.fr, H.zs, H.z0, H.z1, fun x blk c o g1 g2 => ?_, H.fix⟩
  · rw [lk_up] at hq
    split at hq
    · rename_i e
      subst e
      cases hq
      have hr := H.h.rep _ _ hb
      have hl := H.h.rep _ _ hd
      cases he : η b with
      | none => rw [he] at hr; simp only [BRep] at hr; omega
      | some p =>
        obtain ⟨p, o⟩ := p
        rw [he] at hr
        obtain ⟨us, e, g1, g2, g3, g4⟩ := hr
        have hlen : ∀ x, x < n → (updF f i ((f i).set j c) x).length = k := fun x hx => by
          unfold updF
          split
          · rw [List.length_set]; exact (g4 i hi).1
          · exact (g4 x hx).1
        have hf : ∀ x, x < n → (f x).length = k := fun x hx => (g4 x hx).1
        have hjk : j < k := by have := (List.getElem?_eq_some_iff.1 hj).1; rw [hf i hi] at this; exact this
        rw [rows_set hf hi hjk]
        refine ⟨us, e, g1, by rw [rows_len hlen]; exact g2, fun x c' hx => ?_⟩
        have hlt := (List.getElem?_eq_some_iff.1 hx).1
        rw [rows_len hlen] at hlt
        obtain ⟨q1, q2, q3⟩ := split_index hlt
        rw [← q3, rows_get hlen q1 q2] at hx
        have hadd : o + x = o + x / k * k + x % k := by omega
        rw [hadd]
        unfold updF at hx
        split at hx
        · rename_i e1
          rw [e1] at q1 ⊢
          rw [List.getElem?_set] at hx
          split at hx
          · rename_i e2
            rw [if_pos (by rw [(g4 i hi).1]; omega)] at hx
            cases hx
            obtain ⟨_, u, hu, _, hr⟩ := (g4 i hi).2 j _ hj
            cases hr
            refine ⟨v, by rw [← e2]; exact hu, ?_⟩
            cases hη : η d with
            | none => rw [hη] at hl; exact hl
            | some q => rw [hη] at hl; obtain ⟨_, _⟩ := q; exact hl.elim
          · obtain ⟨_, u, hu, _, hr⟩ := (g4 i hi).2 _ _ hx
            exact ⟨u, hu, .z hr⟩
        · obtain ⟨_, u, hu, _, hr⟩ := (g4 _ q1).2 _ _ hx
          exact ⟨u, hu, .z hr⟩
    · exact H.h.rep id blk hq
  · obtain ⟨b1, g1⟩ := key _ _ h1
    obtain ⟨b2, g2⟩ := key _ _ h2
    exact H.h.inj x y b1 b2 c o o' g1 g2
  · obtain ⟨b1, g1⟩ := key _ _ h1
    exact H.h.zno z c hz ⟨x, b1, o, g1, h2⟩
  · obtain ⟨b1, g3⟩ := key _ _ g1
    exact H.own x b1 c o g3 g2
/-- and back -/
theorem Ent.boxArr {st : St} (b k n : Nat) (g : Nat → List AV) (hb : lk st.h b = some (.box (rows g n))) (hg : ∀ i, i < n → (g i).length = k ∧ (g i).all isZ = true) :
    Ent G pids st ⟨st.t, up st.h b (.arr k n g false)⟩ := by
  intro bs η Z a w hp H
  have key : ∀ id blk, lk (up st.h b (.arr k n g false)) id = some blk → ∃ b0, lk st.h id = some b0 := fun id blk hq => by
    rw [lk_up] at hq
    split at hq
    · rename_i e; subst e; exact ⟨_, hb⟩
    · exact ⟨_, hq⟩
  refine ⟨η, Z, H.t, ⟨fun id blk hq => ?_, fun x y bx bk c o o' h1 h2 => ?_, H.h.zlt, fun z c hz ⟨x, bk, o, h1, h2⟩ => ?_⟩, H.g, H.fr, H.zs, H.z0, H.z1, fun x blk c o g1 g2 => ?_, H.fix⟩
  · rw [lk_up] at hq
    split at hq
    · rename_i e
      subst e
      cases hq
      have hr := H.h.rep _ _ hb
      cases he : η b with
      | none => rw [he] at hr; exact hr.elim
      | some p =>
        obtain ⟨p, o⟩ := p
        rw [he] at hr
        obtain ⟨us, e, g1, g2, g3⟩ := hr
        have hlen := rows_len (f := g) (k := k) (n := n) fun i hi => (hg i hi).1
        refine ⟨us, e, g1, by omega, (fun h => by cases h), fun i hi => ⟨(hg i hi).1, fun j c hj => ?_⟩⟩
        have hjk : j < k := by have := (List.getElem?_eq_some_iff.1 hj).1; rw [(hg i hi).1] at this; exact this
        have hz : isZ c = true := List.all_eq_true.1 (hg i hi).2 c (List.mem_of_getElem? hj)
        rw [← rows_get (fun i hi => (hg i hi).1) hi hjk] at hj
        obtain ⟨u, hu, hr⟩ := g3 _ _ hj
        exact ⟨isZ_ret hz, u, by rw [← hu]; congr 1; omega, cellLike_isCell (isZ_cell hz) hr, isZ_repZ hz hr⟩
    · exact H.h.rep id blk hq
  · obtain ⟨b1, g1⟩ := key _ _ h1
    obtain ⟨b2, g2⟩ := key _ _ h2
    exact H.h.inj x y b1 b2 c o o' g1 g2
  · obtain ⟨b1, g1⟩ := key _ _ h1
    exact H.h.zno z c hz ⟨x, b1, o, g1, h2⟩
  · obtain ⟨b1, g3⟩ := key _ _ g1
    exact H.own x b1 c o g3 g2
theorem Ent.elpPtr {st : St} (t id k i j : Nat) (h : lk st.t t = some (.elp id k i j)) : Ent G pids st ⟨up st.t t (.ptr id (i * k + j)), st.h⟩ := by
  intro bs η Z a w hp H
  refine ⟨η, Z, fun x c hx => ?_, H.h, H.g, H.fr, H.zs, H.z0, H.z1, H.own, H.fix⟩
  rw [lk_up] at hx
  split at hx
  · rename_i e
    subst e
    cases hx
    have := H.t _ _ h
    generalize a.tmps.getD t undef = u at this
    cases this with
    | z hz => cases hz
    | elp hη =>
      rw [Nat.add_assoc]
      exact .ptr hη
  · exact H.t x c hx
end
theorem killL_set (d : Nat) (l : List AV) (j : Nat) (c : AV) : killL d (l.set j c) = (killL d l).set j (c.kill d) := by rw [killL_eq, killL_eq, List.map_set]
theorem frzL_set (h : Hp) (d : Nat) (l : List AV) (j : Nat) (c : AV) : frzL h d (l.set j c) = (frzL h d l).set j (c.frz h d) := by rw [frzL_eq, frzL_eq, List.map_set]
theorem killL_pure {l : List AV} (hl : l.all isZ = true) (d : Nat) : killL d l = l := by
  rw [killL_eq]
  conv => rhs; rw [← List.map_id l]
  refine List.map_congr_left fun c hc => ?_
  have := List.all_eq_true.1 hl c hc
  cases c <;> first | rfl | (simp [isZ] at this)
theorem frzL_pure {l : List AV} (hl : l.all isZ = true) (h : Hp) (d : Nat) : frzL h d l = l := by
  rw [frzL_eq]
  conv => rhs; rw [← List.map_id l]
  refine List.map_congr_left fun c hc => ?_
  have := List.all_eq_true.1 hl c hc
  cases c <;> first | rfl | (simp [isZ] at this)
theorem lePL_refl : ∀ (l : List AV), lePL l l
  | [] => by simp [lePL]
  | c :: l => by simp only [lePL]; exact ⟨leP_refl c, lePL_refl l⟩
theorem get_set_self {l : List AV} {j : Nat} (h : j < l.length) (c : AV) : (l.set j c)[j]? = some c := by simp [h]
theorem rows_all {f : Nat → List AV} {p : AV → Bool} : ∀ {n : Nat}, (∀ i, i < n → (f i).all p = true) → (rows f n).all p = true
  | 0, _ => rfl
  | n + 1, h => by simp only [rows, List.all_append, Bool.and_eq_true]; exact ⟨rows_all fun i hi => h i (by omega), h n (by omega)⟩
theorem appF_fix {f : Nat → List AV} {i : Nat} {row : List AV} (h : row = f i) (r : Nat) (hr : r < i + 1) : appF i f (fun r => litF [row] r) r = f r := by
  unfold appF
  split
  · rfl
  · have : r = i := by omega
    subst this
    simp [litF, h]
attribute [go_sem] St.sw St.link
end Go.Am
