/- Tables of functions. -/
import Derived.Test.YthogcanomihelaaDoorAe16
set_option linter.unusedSimpArgs false
set_option linter.unusedVariables false
namespace Go.Proofs.YthogcanomihelaaDoor.Ae
open Go

/-- What function n does is c. -/
def Fit (P : Program) (n : Nat) (c : FC) : Prop := ∃ fn vm, P.funcs[n]? = some fn ∧ ckF P fn c vm = true
def FitL (P : Program) (l : List (Nat × FC)) : Prop := ∀ e ∈ l, Fit P e.1 e.2
theorem FitL.nil {P : Program} : FitL P [] := fun _ h => by cases h
theorem FitL.cons {P : Program} {n : Nat} {c : FC} {l : List (Nat × FC)} (h : Fit P n c) (k : FitL P l) : FitL P ((n, c) :: l) := fun e he => by
  rcases List.mem_cons.1 he with rfl | he
  · exact h
  · exact k e he
def tab (l : List (Nat × FC)) (f : Nat) : Option FC := (l.find? fun e => e.1 == f).map (·.2)
theorem FitL.fits {P : Program} {l : List (Nat × FC)} (h : FitL P l) : Fits P (tab l) := fun f fc hf => by
  unfold tab at hf
  cases he : l.find? (fun e => e.1 == f) with
  | none => rw [he] at hf; cases hf
  | some e =>
    rw [he] at hf
    obtain rfl := Option.some.inj hf
    have h1 := List.find?_some he
    have h2 := h e (List.mem_of_find?_eq_some he)
    simp only [beq_iff_eq] at h1
    rw [← h1]
    exact h2
theorem noCall_ok {P : Program} : CallOK P noCall := fun _ _ _ _ _ h => by cases h
end Go.Proofs.YthogcanomihelaaDoor.Ae
