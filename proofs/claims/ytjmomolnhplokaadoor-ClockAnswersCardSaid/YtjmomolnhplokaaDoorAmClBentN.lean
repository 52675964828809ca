/-
  ClockAnswers: clocks in which one thing is changed: all cases.
-/
import Derived.Test.YtjmomolnhplokaaDoorAmClBentL
import Derived.Test.YtjmomolnhplokaaDoorAmClBentM
namespace Go.Am.Cl
open Go Go.Am Go.Proofs
variable {G : Gl}
theorem bent_ok (L : List Int) (p : Int) (l : List Clock) (h0 : 0 ≤ p) (h1 : (L.length : Int) ≤ 500) (hl : 1 ≤ l.length) (hc : checkF l = 0) : Ok Tryd.prog G 12 [.ptr 1000 0, sl false 5 encC l] [(1000, tapeB L p)]
    fun r h => (∃ b : List Clock, r = sl true 5 encC b ∧ fine b) ∧ ∃ p', 0 ≤ p' ∧ h = [(1000, tapeB L p')] := by
  refine Ok.weakF (Q := BentQ L) ?_ (fun r h ⟨⟨fu, n, f, b, h1, h2, h3, h4⟩, h5⟩ => ⟨_, by rw [h1]; subst h2; exact Le.fzR (fun h => h) (fun h => by cases h) h3, ⟨⟨b, rfl, h4⟩, h5⟩⟩)
  by_cases t1 : modF (rawF L (rawF L p).2).1 7 = 1
  · exact bent1_ok L p l h0 h1 hl hc t1
  by_cases t2 : modF (rawF L (rawF L p).2).1 7 = 2
  · exact bent2_ok L p l h0 h1 hl hc t2
  exact bent0_ok L p l h0 h1 hl hc t1 t2
end Go.Am.Cl
