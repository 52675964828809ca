/-
  THE ABSTRACT MACHINE, part Z: from a contract of the law's function to what the row asks.
-/
import Derived.Test.YtjmomolnhplokaaDoorAmY
import Derived.ChangeSame
import Derived.RowKit3
import Derived.WideKeyArgs
import Derived.OpenShut
namespace Go.Am
open Go.ChangeShapes Go.RowKit
set_option linter.unusedVariables false
theorem sameAt_of {W W' : World} (hold : ∀ b, b < W.heap.size → W'.heap[b]? = W.heap[b]?) : ∀ (p : MemPlace), p.block < W.heap.size → W.sameAt W' p
  | .cell b off, h => cell?_congr (hold b h)
  | .map b, h => hold b h
theorem args_stay {H : Type} {enc : TypeId × Value → H} {P : Program} (hl : laidOutB P = true) {W W' : World} {sp' : Nat → Bool} (hold : ∀ b, b < W.heap.size → W'.heap[b]? = W.heap[b]?) : ∀ {ts : List TypeId} {vs : List Value} {ds : List (DataW H)} {ps : List MemPlace},
    ts.all (fun t => P.readableRec t && decide (t < P.types.size)) = true → DataW.TrodAll enc P W 0 (fun _ => true) true ts vs ds ps → (∀ p ∈ ps, p.block < W.heap.size) → (∀ p ∈ ps, sp' p.block = true) → DataW.TrodAll enc P W' 0 sp' true ts vs ds ps
  | [], vs, ds, ps, _, h, _, _ => by
    obtain ⟨rfl, rfl, rfl⟩ := trodAll_nil h
    exact rfl
  | t :: ts, vs, ds, ps, ht, h, hlt, hs => by
    obtain ⟨v, vs', d, ds', p, q, rfl, rfl, rfl, h1, h2⟩ := trodAll_cons h
    simp only [List.all_cons, Bool.and_eq_true, decide_eq_true_eq] at ht
    exact ⟨p, q, WideElems.Trod_stays hl ht.1.1 ht.1.2 h1 (fun x hx => sameAt_of hold x (hlt x (List.mem_append_left _ hx))) (fun x hx => hs x (List.mem_append_left _ hx)),
      args_stay hl hold (by simpa using ht.2) h2 (fun x hx => hlt x (List.mem_append_right _ hx)) (fun x hx => hs x (List.mem_append_right _ hx)), rfl⟩
theorem Fr.grown {W W' : World} (h : Fr (fun _ => False) W W') : Grown W W' := by
  refine ⟨⟨h.os, h.out, fun i hi => ?_⟩, h.fro, h.size⟩
  rw [h.old i hi (fun h => h)]
  cases hq : W.heap[i]? with
  | none => rfl
  | some o => cases o <;> simp
/-- what a law's contract gives the row: the call, at any world -/
theorem Ok.law {P : Program} {G : Gl} {g : FuncId} {args : List AV} {W : World} {us : Array Value} (h : Ok P G g args [] fun r h => r = Am.bool true) (hargs : Cells (fun _ => none) (fun _ b => b < W.heap.size) W args us) (hG : GRep G (fun _ b => b < W.heap.size) W) :
    Calls P g us W fun e W' => e = .returned (.bool true) ∧ Grown W W' := by
  refine (h.2 W (fun _ => none) (fun _ b => b < W.heap.size) us hargs ⟨(fun id blk h => by cases h), (fun id id' blk blk' b o o' h => by cases h), (fun z b h => h), (fun z b _ ⟨id, blk, o, h, _⟩ => by cases h)⟩ hG (fun b h => h)).mono ?_
  rintro e W' ⟨r, v, hout, η', T', rfl, rfl, _, hr, _, _, _, _, hF⟩
  rw [hr.sc_inv]
  exact ⟨rfl, (hF.weaken fun b ⟨id, blk, o, h, _⟩ => by cases h).grown⟩
theorem cells_nil {η : Eta} {Z : ZP} {w : World} : Cells η Z w [] #[] := ⟨rfl, fun i c u h => by simp at h⟩
theorem cells_of_list {η : Eta} {Z : ZP} {w : World} {cs : List AV} {us : List Value} (hl : us.length = cs.length) (h : ∀ (i : Nat) (c : AV) (u : Value), cs[i]? = some c → us[i]? = some u → Rep η Z w c u) : Cells η Z w cs us.toArray := ⟨by simpa using hl, fun i c u h1 h2 => h i c u h1 (by simpa using h2)⟩
/-- THE ROW's OTHER SIDE: the law returned true and nothing that was there was written -/
theorem post_of_law {H : Type} {enc : TypeId × Value → H} {P : Program} {f : Func} {s : ChangeSpec} {apart fresh handsOn again : Bool} {W W' : World} {args : Array Value} {ds : List (DataW H)} {before : List MemPlace} {t : TypeId} (hl : laidOutB P = true)
    (ht : f.params.toList.all (fun t => P.readableRec t && decide (t < P.types.size)) = true) (hvars : s.vars = []) (hr : f.resultTypes = #[t]) (hb : P.underlying t = some .bool)
    (hfn : (s.fn H ds).results = [.lit (.bool true)] ∧ (s.fn H ds).args = ds ∧ (s.fn H ds).vars = [])
    (hW : DataW.Whole enc P f.params.toList s.vars apart W args.toList ds [] before) (hg : Grown W W') :
    s.post enc P f apart fresh handsOn again W args (.bool true) W' := by
  obtain ⟨p, q, hA, hV, rfl, hz, hn⟩ := id hW
  have hq : q = [] := by rw [hvars] at hV; exact (trodVars_none hV).2
  subst hq
  have hold : ∀ b, b < W.heap.size → W'.heap[b]? = W.heap[b]? := fun b hb => by
    have h1 := hg.1.2.2 b hb
    have hs : b < W'.heap.size := Nat.lt_of_lt_of_le hb hg.2.2
    rw [Array.getElem?_eq_getElem hb, Array.getElem?_eq_getElem hs] at h1 ⊢
    generalize W.heap[b] = o at h1
    generalize W'.heap[b] = o' at h1
    congr 1
    cases o <;> cases o' <;> simp only at h1 <;> try (first | (cases h1; done) | (simpa using h1))
    · obtain ⟨e1, e2, e3, e4⟩ := h1
      have : ∀ (x y : Array Value), x.size = y.size → (∀ j, x[j]? = y[j]?) → x = y := fun x y _ h => Array.ext_getElem? h
      rw [this _ _ e3 fun j => e4 j (fun h => h), e1, e2]
  have hlt := DataW.TrodAll.lt hA
  refine post_of_same (pa := p) (pv := []) hW (fun b sp hd => ?_) (fun sp hsp => ?_) (fun sp hsp => ?_) rfl (hg.frame _) hg.2.1 (ok_one hr rfl (okWide_bool_mk hb _))
  · rw [hr, List.append_nil, hfn.1]
    exact trodAll_cons_mk (shut_bool hb _) trodAll_mk0
  · rw [List.append_nil, hfn.2.1]
    exact args_stay hl hold ht hA hlt (fun x hx => hsp x (by simpa using hx))
  · rw [hvars, List.append_nil, hfn.2.2]
    exact rfl
end Go.Am
