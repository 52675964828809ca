/-
  THE ABSTRACT MACHINE, part S: what evaluates it.
-/
import Derived.Test.YtjmomolnhplokaaDoorAmQ
namespace Go.Am
theorem bif_true {α : Type} (a b : α) : (bif true then a else b) = a := rfl
theorem bif_false {α : Type} (a b : α) : (bif false then a else b) = b := rfl
theorem map_some' {α β : Type} (f : α → β) (a : α) : Option.map f (some a) = some (f a) := rfl
theorem map_none' {α β : Type} (f : α → β) : Option.map f none = none := rfl
theorem bind_some' {α β : Type} (f : α → Option β) (a : α) : Option.bind (some a) f = f a := rfl
theorem bind_none' {α β : Type} (f : α → Option β) : Option.bind none f = none := rfl
theorem getD_some' {α : Type} (a b : α) : Option.getD (some a) b = a := rfl
theorem getD_none' {α : Type} (b : α) : Option.getD none b = b := rfl
theorem isSome_some' {α : Type} (a : α) : Option.isSome (some a) = true := rfl
theorem isSome_none' {α : Type} : Option.isSome (none : Option α) = false := rfl
theorem toList_mk {α : Type} (l : List α) : (Array.mk l).toList = l := rfl
theorem arr_get {α : Type} (l : List α) (i : Nat) : (Array.mk l)[i]? = l[i]? := by simp
theorem nil_get {α : Type} (i : Nat) : ([] : List α)[i]? = none := rfl
theorem cons_get0 {α : Type} (a : α) (l : List α) : (a :: l)[0]? = some a := rfl
theorem cons_getS {α : Type} (a : α) (l : List α) (i : Nat) : (a :: l)[i + 1]? = l[i]? := rfl
theorem nil_map {α β : Type} (f : α → β) : List.map f [] = [] := rfl
theorem cons_map {α β : Type} (f : α → β) (a : α) (l : List α) : List.map f (a :: l) = f a :: List.map f l := rfl
theorem all_nil' {α : Type} (f : α → Bool) : List.all [] f = true := rfl
theorem all_cons' {α : Type} (f : α → Bool) (a : α) (l : List α) : List.all (a :: l) f = (f a && l.all f) := rfl
theorem len_nil {α : Type} : ([] : List α).length = 0 := rfl
theorem len_cons {α : Type} (a : α) (l : List α) : (a :: l).length = l.length + 1 := rfl
theorem con_nil (a : Nat) : List.contains [] a = false := rfl
theorem con_cons (a b : Nat) (l : List Nat) : List.contains (b :: l) a = (a == b || l.contains a) := rfl
theorem mem_nil' (a : Nat) : (a ∈ ([] : List Nat)) = False := by simp
theorem mem_cons' (a b : Nat) (l : List Nat) : (a ∈ b :: l) = (a = b ∨ a ∈ l) := by simp
theorem drop0 {α : Type} (l : List α) : l.drop 0 = l := rfl
theorem dropS {α : Type} (a : α) (l : List α) (n : Nat) : (a :: l).drop (n + 1) = l.drop n := rfl
theorem take0 {α : Type} (l : List α) : l.take 0 = [] := rfl
theorem takeS {α : Type} (a : α) (l : List α) (n : Nat) : (a :: l).take (n + 1) = a :: l.take n := rfl
theorem take_nil' {α : Type} (n : Nat) : ([] : List α).take n = [] := by cases n <;> rfl
theorem drop_nil' {α : Type} (n : Nat) : ([] : List α).drop n = [] := by cases n <;> rfl
theorem set0 {α : Type} (a b : α) (l : List α) : (a :: l).set 0 b = b :: l := rfl
theorem setS {α : Type} (a b : α) (l : List α) (n : Nat) : (a :: l).set (n + 1) b = a :: l.set n b := rfl
theorem app_nil {α : Type} (l : List α) : [] ++ l = l := rfl
theorem app_cons {α : Type} (a : α) (l l' : List α) : (a :: l) ++ l' = a :: (l ++ l') := rfl
theorem app_nil' {α : Type} (l : List α) : l ++ [] = l := by simp
theorem size_mk {α : Type} (l : List α) : (Array.mk l).size = l.length := rfl
theorem range0 : List.range 0 = [] := rfl
theorem updF_same (f : Nat → List AV) (i : Nat) (r : List AV) : updF f i r i = r := by simp [updF]
/-! states first; what follows is left as it is until its state is known -/
theorem wp_cong {P : Program} {G : Gl} {pids : List Nat} {nt : Nat} {qs : List Nat} {c : Code} {st st' : St} {K : Ex → St → Prop} (h : st = st') : wp P G pids nt qs c st K = wp P G pids nt qs c st' K := by rw [h]
theorem wpOps_cong {P : Program} {G : Gl} {pids : List Nat} {ops : Array Oper} {l : List Oper} {st st' : St} {K : St → Prop} (h : st = st') : wpOps P G pids ops l st K = wpOps P G pids ops l st' K := by rw [h]
theorem wpQ_cong {P : Program} {G : Gl} {ops : Array Oper} {l : List Oper} {st st' : St} {K : St → Prop} (h : st = st') : wpQ P G ops l st K = wpQ P G ops l st' K := by rw [h]
theorem opStep_cong {P : Program} {G : Gl} {pids keep : List Nat} {o : Oper} {st st' : St} {K : St → Prop} (h : st = st') : opStep P G pids keep o st K = opStep P G pids keep o st' K := by rw [h]
theorem TC_cong {P : Program} {G : Gl} {pids : List Nat} {nt : Nat} {c : Code} {st st' : St} {K : Ex → St → Prop} (h : st = st') : TC P G pids nt c st K = TC P G pids nt c st' K := by rw [h]
theorem CallW_cong {P : Program} {G : Gl} {pids keep : List Nat} {g : FuncId} {args args' : List AV} {st st' : St} {d : Option Nat} {K : St → Prop} (h1 : args = args') (h : st = st') : CallW P G pids keep g args st d K = CallW P G pids keep g args' st' d K := by rw [h, h1]
attribute [congr] wp_cong wpOps_cong wpQ_cong opStep_cong TC_cong CallW_cong
attribute [go_sem] wp wpOps wpQ opStep evQ evE ev St.get St.set lk up rmv mp binV binI isShift shiftI pickV constAV asI lenV addOff rowOf partV idxAddr optI sliceV setAt cellsV layable fillA unV eqC eqFs kindFits TK.agg TK.known TK.plain
  storeV updF_same cellLike isZ isCell chunk srcV appV AV.kill killL Blk.kill St.kill newSt AV.frz frzL Blk.frz St.frz frzAll AV.ownIds ownIdsL noneIn isElp gVal gSt gBr initT RetW resList packR outIds hpRet sel AV.ret retL AV.within withinL Blk.within hpWithin allIn okOut callSt
  killT killH rmvs AV.lend lendL AV.pur purL AV.killS killSL Blk.killS
  bif_true bif_false map_some' map_none' bind_some' bind_none' getD_some' getD_none' isSome_some' isSome_none' toList_mk arr_get nil_get cons_get0 cons_getS nil_map cons_map all_nil' all_cons' len_nil len_cons con_nil con_cons mem_nil' mem_cons' drop0 dropS take0 takeS take_nil' drop_nil' set0 setS app_nil app_cons app_nil' size_mk range0
  Bool.and_true Bool.true_and Bool.and_false Bool.false_and Bool.or_true Bool.true_or Bool.or_false Bool.false_or Bool.not_true Bool.not_false true_and and_true false_and and_false true_or or_true false_or or_false forall_const
  Option.none_or Option.some_or ite_true ite_false decide_true decide_false List.any_nil List.any_cons
end Go.Am
