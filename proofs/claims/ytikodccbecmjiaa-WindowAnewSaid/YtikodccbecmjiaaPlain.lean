/-
  The plain law of a window: what Push, Pop, All and Calls make of a state of two stacks, and that it is the document's. No program in sight.
-/
import Derived.WalkKit
namespace Go.Win

structure WSt (α : Type) where
  nothing : α
  ahead : List (α × α)
  behind : List α
  sum : α
  calls : Nat

section
variable {α : Type} (f : α → α → α)

def WSt.len (s : WSt α) : Nat := s.ahead.length + s.behind.length

/-- what Push makes -/
def WSt.push (s : WSt α) (x : α) : WSt α :=
  match s.behind with
  | [] => { s with behind := [x], sum := x }
  | b :: r => { s with behind := (b :: r) ++ [x], sum := f s.sum x, calls := s.calls + 1 }

/-- one round of turn, of the last thing behind -/
def turn1 (a : List (α × α) × Nat) (x : α) : List (α × α) × Nat :=
  match a.1.getLast? with
  | none => (a.1 ++ [(x, x)], a.2)
  | some q => (a.1 ++ [(x, f x q.2)], a.2 + 1)
def WSt.turn (s : WSt α) : WSt α :=
  let r := s.behind.reverse.foldl (turn1 f) (s.ahead, s.calls)
  { s with ahead := r.1, calls := r.2, behind := [] }
def WSt.turned (s : WSt α) : WSt α := if s.ahead = [] then s.turn f else s
/-- what Pop leaves -/
def WSt.cut (s : WSt α) : WSt α := { s with ahead := s.ahead.dropLast }
/-- what All tells, and whether it calls -/
def WSt.all (s : WSt α) : α :=
  match s.ahead.getLast?, s.behind with
  | none, [] => s.nothing
  | none, _ :: _ => s.sum
  | some q, [] => q.2
  | some q, _ :: _ => f q.2 s.sum
def WSt.asked (s : WSt α) : WSt α :=
  match s.ahead, s.behind with
  | _ :: _, _ :: _ => { s with calls := s.calls + 1 }
  | _, _ => s

end
end Go.Win
