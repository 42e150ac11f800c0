/- An abstract reading of the program, and what it answers. By an AI agent. -/
import Derived.Test.YtkbgehhnimpleaaGreatDoorAbsFul
import Derived.KernelRfl
import Derived.Test.YtkbgehhnimpleaaGreatDoorProg
set_option linter.all false
namespace Go.Abs
open Go.Proofs

def beqV : Value → Value → Bool
  | .int k a, .int k' b => decide (k = k') && decide (a = b)
  | .bool a, .bool b => a == b
  | .slice none a b, .slice none c d => a == c && b == d
  | .pointer none, .pointer none => true
  | _, _ => false

mutual
def beqAV : AV → AV → Bool
  | .sc a, .sc b => beqV a b
  | .agg a, .agg b => beqAVL a b
  | .gp a b, .gp c d => a == c && b == d
  | .gs a b c d e, .gs a' b' c' d' e' => a == a' && b == b' && c == c' && d == d' && e == e'
  | .ip a, .ip b => beqAVL a b
  | .is a n e, .is b n' e' => n == n' && e == e' && beqAVL a b
  | .fn f a b, .fn f' a' b' => f == f' && beqAVL a a' && beqAVL b b'
  | _, _ => false
def beqAVL : List AV → List AV → Bool
  | [], [] => true
  | a :: l, b :: m => beqAV a b && beqAVL l m
  | _, _ => false
end

def lookup (t : List (Nat × Nat × Md)) (f d : Nat) : Md := match t with
  | [] => .dflt
  | (f', d', m) :: r => if f' == f && d' == d then m else lookup r f d
def lookupA (t : List (Nat × AtK)) (f : Nat) : Option AtK := match t with
  | [] => none
  | (f', k) :: r => if f' == f then some k else lookupA r f
def lookupK (t : List (Nat × List Nat)) (f : Nat) : Option (List Nat) := match t with
  | [] => none
  | (g, l) :: r => if g == f then some l else lookupK r f
end Go.Abs
