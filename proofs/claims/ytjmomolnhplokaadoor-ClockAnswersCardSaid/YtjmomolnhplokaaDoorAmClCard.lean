/-
  ClockAnswers: for every input the law 'bringup/bringuplaw16.ClockAnswers' returns true, and each argument reads behind the call as it did before. Conditions: those of the given card alone (the listed variable bringup/clock.off holds what the program's text lays; each string and slice is within the form's own reach).
-/
import Derived.Test.YtjmomolnhplokaaDoorAmClO
import Derived.Test.YtjmomolnhplokaaDoorAmZ
import Derived.Test.YtjmomolnhplokaaDoorCards
import Derived.Test.YtjmomolnhplokaaDoorTie
import Derived.Deep.DeepHandedRow
import Derived.Lib.LaidTab
namespace Go.Am.Cl
open Go Go.Am Go.Proofs Go.Proofs.YtjmomolnhplokaaDoor Go.ChangeShapes Go.RowKit
set_option maxRecDepth 100000
set_option linter.unusedSimpArgs false
set_option linter.unusedVariables false
def okC (c : Clock) : Prop := c.par.length ≤ reachBytes ∧ c.cho.length ≤ reachBytes
theorem c3 : Tryd.prog.cellsOf 3 = 1 := by kernel_rfl
theorem c22 : Tryd.prog.cellsOf 22 = 1 := by kernel_rfl
theorem c51 : Tryd.prog.cellsOf 51 = 5 := by kernel_rfl
theorem c56 : Tryd.prog.cellsOf 56 = 3 := by kernel_rfl
theorem readsInts : Reads Tryd.prog 22 1 (fun l => [ints true l]) (fun l => (∀ a, a ∈ l → -9223372036854775808 ≤ a ∧ a ≤ 9223372036854775807) ∧ l.length ≤ reachBytes) :=
  Reads.slice (Reads.int (t := 3) Tryd.underlying3) Tryd.underlying22 c3 (by decide) (of_decide_eq_true (by kernel_rfl))
theorem five {α : Type} {cs : List α} (h : cs.length = 5) : ∃ a b c d e, cs = [a, b, c, d, e] := by
  match cs, h with
  | [a, b, c, d, e], _ => exact ⟨a, b, c, d, e, rfl⟩
theorem three {α : Type} {cs : List α} (h : cs.length = 3) : ∃ a b c, cs = [a, b, c] := by
  match cs, h with
  | [a, b, c], _ => exact ⟨a, b, c, rfl⟩
theorem readsClock : Reads Tryd.prog 51 5 encC okC := by
  intro H eH w Z fuel cs x hz h hwt
  obtain ⟨xs, n, _, rfl, hl, hlen, hf⟩ := DataW.trod_struct Tryd.underlying51 h
  rw [c51] at hl
  obtain ⟨a, b, c, d, e, rfl⟩ := five hl
  obtain ⟨x0, x1, x2, x3, x4, rfl⟩ := five hlen
  have h0 : DataW.trod eH Tryd.prog w 0 (fun _ => true) true n 3 (([a, b, c, d, e].drop 0).take (Tryd.prog.cellsOf 3)) = some x0 := hf 0 _ rfl
  have h1 : DataW.trod eH Tryd.prog w 0 (fun _ => true) true n 22 (([a, b, c, d, e].drop 1).take (Tryd.prog.cellsOf 22)) = some x1 := hf 1 _ rfl
  have h2 : DataW.trod eH Tryd.prog w 0 (fun _ => true) true n 22 (([a, b, c, d, e].drop 2).take (Tryd.prog.cellsOf 22)) = some x2 := hf 2 _ rfl
  have h3 : DataW.trod eH Tryd.prog w 0 (fun _ => true) true n 3 (([a, b, c, d, e].drop 3).take (Tryd.prog.cellsOf 3)) = some x3 := hf 3 _ rfl
  have h4 : DataW.trod eH Tryd.prog w 0 (fun _ => true) true n 3 (([a, b, c, d, e].drop 4).take (Tryd.prog.cellsOf 3)) = some x4 := hf 4 _ rfl
  rw [c3] at h0 h3 h4
  rw [c22] at h1 h2
  simp only [DataW.weights, Tryd.underlying51, List.map_cons, List.map_nil, DataW.weightsEach, List.mem_append] at hwt
  obtain ⟨k, _, _, r0⟩ := Reads.int (P := Tryd.prog) Tryd.underlying3 H eH w Z n _ _ hz h0 fun m hm => hwt m (.inl hm)
  obtain ⟨pa, q1, _, r1⟩ := readsInts H eH w Z n _ _ hz h1 fun m hm => hwt m (.inr (.inl hm))
  obtain ⟨ch, q2, _, r2⟩ := readsInts H eH w Z n _ _ hz h2 fun m hm => hwt m (.inr (.inr (.inl hm)))
  obtain ⟨lo, _, _, r3⟩ := Reads.int (P := Tryd.prog) Tryd.underlying3 H eH w Z n _ _ hz h3 fun m hm => hwt m (.inr (.inr (.inr (.inl hm))))
  obtain ⟨hi, _, _, r4⟩ := Reads.int (P := Tryd.prog) Tryd.underlying3 H eH w Z n _ _ hz h4 fun m hm => hwt m (.inr (.inr (.inr (.inr (.inl hm)))))
  exact ⟨⟨k, pa, ch, lo, hi⟩, ⟨q1.2, q2.2⟩, rfl, r0.app (r1.app (r2.app (r3.app r4)))⟩
theorem readsLimit : Reads Tryd.prog 56 3 encL (fun _ => True) := by
  intro H eH w Z fuel cs x hz h hwt
  obtain ⟨xs, n, _, rfl, hl, hlen, hf⟩ := DataW.trod_struct Tryd.underlying56 h
  rw [c56] at hl
  obtain ⟨a, b, c, rfl⟩ := three hl
  obtain ⟨x0, x1, x2, rfl⟩ := three hlen
  have h0 : DataW.trod eH Tryd.prog w 0 (fun _ => true) true n 3 (([a, b, c].drop 0).take (Tryd.prog.cellsOf 3)) = some x0 := hf 0 _ rfl
  have h1 : DataW.trod eH Tryd.prog w 0 (fun _ => true) true n 3 (([a, b, c].drop 1).take (Tryd.prog.cellsOf 3)) = some x1 := hf 1 _ rfl
  have h2 : DataW.trod eH Tryd.prog w 0 (fun _ => true) true n 3 (([a, b, c].drop 2).take (Tryd.prog.cellsOf 3)) = some x2 := hf 2 _ rfl
  rw [c3] at h0 h1 h2
  simp only [DataW.weights, Tryd.underlying56, List.map_cons, List.map_nil, DataW.weightsEach, List.mem_append] at hwt
  obtain ⟨k, _, _, r0⟩ := Reads.int (P := Tryd.prog) Tryd.underlying3 H eH w Z n _ _ hz h0 fun m hm => hwt m (.inl hm)
  obtain ⟨lo, _, _, r3⟩ := Reads.int (P := Tryd.prog) Tryd.underlying3 H eH w Z n _ _ hz h1 fun m hm => hwt m (.inr (.inl hm))
  obtain ⟨hi, _, _, r4⟩ := Reads.int (P := Tryd.prog) Tryd.underlying3 H eH w Z n _ _ hz h2 fun m hm => hwt m (.inr (.inr (.inl hm)))
  exact ⟨⟨k, lo, hi⟩, trivial, rfl, r0.app (r3.app r4)⟩
theorem own : ownKnob Tryd.prog.godebug = none := by kernel_rfl
theorem gOff : Tryd.prog.globalNamed "bringup/clock.off" = some 0 := by kernel_rfl
theorem gOffT : (Tryd.prog.globals[0]?).map (·.type) = some 54 := by kernel_rfl
theorem offMet {W : World} (h : laidMetH Tryd.prog Rows.clockAnswersRow.laid W) : GRep GOff (fun _ b => b < W.heap.size) W := by
  have h : laidMet Tryd.prog [("bringup/clock.off", Rows.laid_bringup_clock_off)] W := h
  obtain ⟨ps, ⟨g, t, cs, fuel, p, q, hg, ht, hv, hr, hq, rfl⟩, _, hb⟩ := h
  rw [gOff] at hg
  cases hg
  rw [gOffT] at ht
  cases ht
  obtain ⟨xs, n, _, hx, hl, hlen, hf⟩ := DataW.trod_struct Tryd.underlying54 hr
  obtain ⟨x0, x1, rfl⟩ : ∃ a b, xs = [a, b] := by
    match xs, hlen with
    | [a, b], _ => exact ⟨a, b, rfl⟩
  obtain ⟨a, b, hab⟩ : ∃ a b, cs.toList = [a, b] := by
    have c54 : Tryd.prog.cellsOf 54 = 2 := by kernel_rfl
    rw [c54] at hl
    match cs.toList, hl with
    | [a, b], _ => exact ⟨a, b, rfl⟩
  have h0 : DataW.trod (fun _ => ()) Tryd.prog W 0 (fun _ => true) false n 3 ((cs.toList.drop 0).take (Tryd.prog.cellsOf 3)) = some x0 := hf 0 _ rfl
  have h1 : DataW.trod (fun _ => ()) Tryd.prog W 0 (fun _ => true) false n 3 ((cs.toList.drop 1).take (Tryd.prog.cellsOf 3)) = some x1 := hf 1 _ rfl
  rw [c3, hab] at h0 h1
  obtain ⟨i0, e0, rfl, _⟩ := DataW.trod_int Tryd.underlying3 h0
  obtain ⟨i1, e1, rfl, _⟩ := DataW.trod_int Tryd.underlying3 h1
  simp only [List.drop, List.take, List.cons.injEq, and_true] at e0 e1
  subst e0 e1
  simp only [Rows.laid_bringup_clock_off, List.map_cons, List.map_nil, Prod.mk.injEq, DataW.agg.injEq, List.cons.injEq, DataW.lit.injEq, Lit.int.injEq, true_and, and_true] at hx
  obtain ⟨⟨rfl, rfl⟩, _⟩ := hx
  have hcs : cs = #[.int .i64 0, .int .i64 1] := by
    apply Array.toList_inj.1
    rw [hab]
  subst hcs
  unfold World.var? at hv
  rw [gOff] at hv
  simp only [Option.bind_some] at hv
  split at hv
  · rename_i cs' t e hh
    cases hv
    intro g row hg
    unfold GOff at hg
    split at hg
    · rename_i hg0
      subst hg0
      cases hg
      have hc : ∀ o, W.cell? ⟨0, o, none⟩ = (#[Value.int .i64 0, Value.int .i64 1] : Array Value)[o]? := fun o => by simp [World.cell?, hh]
      refine .rowp (fun i => (#[Value.int .i64 0, Value.int .i64 1] : Array Value).getD i undef) (Array.getElem?_eq_some_iff.1 hh).1 (fun i hi => ?_) (fun i c hi => ?_)
      · match i, hi with
        | 0, _ => rw [hc]; rfl
        | 1, _ => rw [hc]; rfl
      · match i with
        | 0 => simp at hi; subst hi; exact .sc _
        | 1 => simp at hi; subst hi; exact .sc _
        | i + 2 => simp at hi
    · cases hg
  · cases hv
theorem contract (H : Type) (enc : TypeId × Value → H) (W : World) (base : Nat) (args : Array Value) (ds gs : List (DataW H)) (before : List MemPlace)
    (hval : ∀ (j : Nat) t v, Tryd.f3.params[j]? = some t → args[j]? = some v → Value.okWide Tryd.prog W .any base t v)
    (hW : DataW.Whole enc Tryd.prog Tryd.f3.params.toList Rows.clockAnswersSpec.vars false W args.toList ds gs before)
    (hwt : (DataW.weightsEach Tryd.prog (Tryd.f3.params.toList ++ []) (ds ++ gs)).all (· ≤ reachBytes) = true) (hL : laidMetH Tryd.prog Rows.clockAnswersRow.laid W) :
    Calls Tryd.prog 3 args W fun e W' => ∃ v, e = .returned v ∧ Rows.clockAnswersSpec.post enc Tryd.prog Tryd.f3 false true false false W args v W' := by
  have hW' := hW
  obtain ⟨p, q, hA0, hV, rfl, hfz, hnd⟩ := hW
  have hA := hA0
  rw [Tryd.params3] at hA hval
  obtain ⟨v0, vs0, d0, ds0, p0, q0, hargs, rfl, rfl, h0, r0⟩ := trodAll_cons hA
  obtain ⟨v1, vs1, d1, ds1, p1, q1, rfl, rfl, rfl, h1, r1⟩ := trodAll_cons r0
  obtain ⟨v2, vs2, d2, ds2, p2, q2, rfl, rfl, rfl, h2, r2⟩ := trodAll_cons r1
  obtain ⟨v3, vs3, d3, ds3, p3, q3, rfl, rfl, rfl, h3, r3⟩ := trodAll_cons r2
  obtain ⟨v4, vs4, d4, ds4, p4, q4, rfl, rfl, rfl, h4, r4⟩ := trodAll_cons r3
  obtain ⟨rfl, rfl, rfl⟩ := trodAll_nil r4
  obtain rfl : args = #[v0, v1, v2, v3, v4] := Array.toList_inj.1 hargs
  obtain ⟨rfl, rfl⟩ := trodVars_none hV
  rw [List.all_eq_true, Tryd.params3] at hwt
  simp only [DataW.weightsEach, List.append_nil, List.mem_append, decide_eq_true_eq] at hwt
  have hz : ∀ (z : Bool) b, b < W.heap.size → (fun (_ : Bool) b => b < W.heap.size) z b := fun _ b h => h
  have hrb : reachBytes = 140737488351232 := rfl
  obtain ⟨t, ht, e0⟩ := readsInts.arg (Z := fun _ b => b < W.heap.size) (fun fs h => by rw [Tryd.underlying22] at h; cases h) (fun n e h => by rw [Tryd.underlying22] at h; cases h) hz (hval 0 22 v0 rfl rfl) h0 fun n hn => hwt n (.inl hn)
  obtain ⟨raw, hr, e1⟩ := (Reads.slice readsClock Tryd.underlying23 c51 (by decide) (of_decide_eq_true (by kernel_rfl))).arg (Z := fun _ b => b < W.heap.size) (fun fs h => by rw [Tryd.underlying23] at h; cases h) (fun n e h => by rw [Tryd.underlying23] at h; cases h) hz (hval 1 23 v1 rfl rfl) h1 fun n hn => hwt n (.inr (.inl hn))
  obtain ⟨s, hs, e2⟩ := readsInts.arg (Z := fun _ b => b < W.heap.size) (fun fs h => by rw [Tryd.underlying22] at h; cases h) (fun n e h => by rw [Tryd.underlying22] at h; cases h) hz (hval 2 22 v2 rfl rfl) h2 fun n hn => hwt n (.inr (.inr (.inl hn)))
  obtain ⟨m, hm, e3⟩ := (Reads.slice readsLimit Tryd.underlying24 c56 (by decide) (of_decide_eq_true (by kernel_rfl))).arg (Z := fun _ b => b < W.heap.size) (fun fs h => by rw [Tryd.underlying24] at h; cases h) (fun n e h => by rw [Tryd.underlying24] at h; cases h) hz (hval 3 24 v3 rfl rfl) h3 fun n hn => hwt n (.inr (.inr (.inr (.inl hn))))
  obtain ⟨k, rfl, _, _, _⟩ := open_int Tryd.underlying3 (hval 4 3 v4 rfl rfl) h4
  have hlaw := law_ok t raw s m k (by have := ht.2; omega) ⟨by have := hr.2; omega, fun c hc => by have := hr.1 c hc; exact ⟨by have := this.1; omega, by have := this.2; omega⟩⟩
  refine (hlaw.law (cells_of_list rfl fun i c u hc hu => ?_) (offMet hL)).mono fun e W' ⟨he, hg⟩ => ?_
  · match i with
    | 0 => simp at hc hu; subst hc hu; exact .z e0
    | 1 => simp at hc hu; subst hc hu; exact .z e1
    | 2 => simp at hc hu; subst hc hu; exact .z e2
    | 3 => simp at hc hu; subst hc hu; exact .z e3
    | 4 => simp at hc hu; subst hc hu; exact .z (.sc _)
    | i + 5 => simp at hc
  · subst he
    exact ⟨_, rfl, post_of_law (s := Rows.clockAnswersSpec) (by kernel_rfl) (by kernel_rfl) rfl (by kernel_rfl) Tryd.underlying4 ⟨rfl, rfl, rfl⟩ hW' hg⟩
noncomputable def laidWorld (os : Os) : World :=
  { World.holding Tryd.prog os ⟨#[], #[], []⟩ with heap := (World.holding Tryd.prog os ⟨#[], #[], []⟩).heap.modify 0 fun
      | .cells _ t frozen => .cells #[.int .i64 0, .int .i64 1] t frozen
      | o => o }
def args0 : Array Value := #[.slice none 0 0, .slice none 0 0, .slice none 0 0, .slice none 0 0, .int .i64 0]
theorem laid_met (os : Os) : laidMet Tryd.prog Rows.clockAnswersRow.laid ((laidWorld os).forCall (fun _ _ => 0) ⟨#[], args0, []⟩).memory :=
  laidMet_of_run' 8 (by kernel_rfl) (by kernel_rfl)
theorem reads (os : Os) {H : Type} (enc : TypeId × Value → H) : ∃ places, DataW.whole enc Tryd.prog ((laidWorld os).forCall (fun _ _ => 0) ⟨#[], args0, []⟩).memory Tryd.f3.params.toList Rows.clockAnswersSpec.vars false args0.toList 8 = some ([.nil, .nil, .nil, .nil, .lit (.int .i64 0)], [], places) :=
  ⟨[], by kernel_rfl⟩
theorem lifted (os : Os) (started : os.Started) (H : Type) (enc : TypeId × Value → H) (F : Stop.Interp) :
    ReturnsInHanded {} Tryd.checked os 3 .any ((OpenSpec.ofChange Rows.clockAnswersSpec).preRow enc Tryd.prog Tryd.f3 Rows.clockAnswersRow.domain false Rows.clockAnswersRow.laid) (((OpenSpec.ofChange Rows.clockAnswersSpec).at F).post enc Tryd.prog Tryd.f3 false true false false) := by
  obtain ⟨places, hx⟩ := reads os enc
  refine returnsInHanded_of_row (C := Tryd.checked) (s := OpenSpec.ofChange Rows.clockAnswersSpec) own started (by kernel_rfl) Tryd.func3
    (witness_row_at (enc := enc) (C := Tryd.checked) false (laidWorld os) args0 rfl (by kernel_rfl) (by kernel_rfl) (by kernel_rfl)
      (OpenSpec.preRow_of_cond 8 hx (by kernel_rfl) (fun k hk => by cases hk) (by kernel_rfl) (laid_met os))) ?_
  intro W base args ds gs before hval hW _ _ hwt hL _ _
  exact contract H enc W base args ds gs before hval hW hwt hL
theorem said : Rows.ClockAnswersSaid :=
  OpenClaim.holds_of_cond 3 Tryd.f3 rfl rfl rfl rfl rfl rfl rfl ⟨rfl, rfl, rfl, rfl, rfl⟩ rfl rfl rfl rfl rfl (by kernel_rfl) Tryd.func3 (by kernel_rfl)
    (of_decide_eq_true (by kernel_rfl)) (by unfold Func.isWrapper; first | (rw [if_pos (by decide +kernel)]; kernel_rfl) | (rw [if_neg (by decide +kernel)]; exact ⟨rfl, rfl⟩))
    (fun os started H enc _ F => by rw [OpenClaim.pre_eq_preRow]; exact lifted os started H enc F)
theorem plain (f : FuncId) (fn : Func) (hf : Tryd.pinned.checked.prog.funcNamed "bringup/bringuplaw16.ClockAnswers" = some f) (hfn : Tryd.pinned.checked.prog.funcs[f]? = some fn) :
    false = Tryd.pinned.checked.prog.looks [] ∧ ∀ (j : Nat) t, fn.params[j]? = some t → Tryd.pinned.checked.prog.wantsStandIn t = false := by
  obtain rfl : f = 3 := Option.some.inj ((show Tryd.prog.funcNamed "bringup/bringuplaw16.ClockAnswers" = some 3 by kernel_rfl).symm.trans hf) |>.symm
  obtain rfl : fn = Tryd.f3 := (Option.some.inj (Tryd.func3.symm.trans hfn)).symm
  refine ⟨by kernel_rfl, fun j t ht => ?_⟩
  rw [Tryd.params3] at ht
  have ht := Array.mem_of_getElem? ht
  simp only [List.mem_toArray, List.mem_cons, List.not_mem_nil, or_false] at ht
  rcases ht with rfl | rfl | rfl | rfl | rfl
  · exact (show Tryd.prog.wantsStandIn 22 = false by kernel_rfl)
  · exact (show Tryd.prog.wantsStandIn 23 = false by kernel_rfl)
  · exact (show Tryd.prog.wantsStandIn 22 = false by kernel_rfl)
  · exact (show Tryd.prog.wantsStandIn 24 = false by kernel_rfl)
  · exact (show Tryd.prog.wantsStandIn 3 = false by kernel_rfl)
theorem card : Rows.ClockAnswersCardSaid :=
  Claim7.holds_tied_plain_at .later [] _ _ _ _ said (fun _ h => by cases h) (by kernel_rfl) (fun _ h => by cases h) clockAnswers_row_tie rfl ⟨rfl, rfl⟩ (by kernel_rfl) rfl plain (by kernel_rfl)
end Go.Am.Cl
namespace Go.Proofs.YtjmomolnhplokaaDoor
theorem clockAnswers_holds : Rows.ClockAnswersCardSaid := Go.Am.Cl.card
end Go.Proofs.YtjmomolnhplokaaDoor
#print axioms Go.Proofs.YtjmomolnhplokaaDoor.clockAnswers_holds
