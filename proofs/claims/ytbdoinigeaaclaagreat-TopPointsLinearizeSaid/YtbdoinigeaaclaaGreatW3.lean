/- The reference's sequential model: small functions. Conditions: slices are short.
   The reference's insert. Conditions: the model holds its invariant.
   The reference's cancel. Conditions: the model holds its invariant.
   The reference's batch. Conditions: the model holds its invariant.
   One call of the reference's model; a result accepted. Conditions: the model holds its invariant. -/
import Derived.Test.YtbdoinigeaaclaaGreatW2
set_option linter.all false
set_option maxRecDepth 20000
namespace Go.Proofs.YtbdoinigeaaclaaGreat
open Go RL PQ
variable {g : World} {h : Hp} {w : World} {L : List (Nat × Obj)}
end Go.Proofs.YtbdoinigeaaclaaGreat
set_option maxRecDepth 20000
namespace Go.Proofs.YtbdoinigeaaclaaGreat
open Go RL PQ
variable {g : World} {h : Hp} {w : World} {L : List (Nat × Obj)}
end Go.Proofs.YtbdoinigeaaclaaGreat
set_option maxRecDepth 20000
namespace Go.Proofs.YtbdoinigeaaclaaGreat
open Go RL PQ
variable {g : World} {h : Hp} {w : World} {L : List (Nat × Obj)}
end Go.Proofs.YtbdoinigeaaclaaGreat
set_option maxRecDepth 20000
namespace Go.Proofs.YtbdoinigeaaclaaGreat
open Go RL PQ
variable {g : World} {h : Hp} {w : World} {L : List (Nat × Obj)}
structure RBatS where
  i : Nat
  out : List Ev
  oa : Option Addr
  oc : Nat
  x : List (Nat × Obj)
end Go.Proofs.YtbdoinigeaaclaaGreat
set_option maxRecDepth 20000
namespace Go.Proofs.YtbdoinigeaaclaaGreat
open Go RL PQ
variable {g : World} {h : Hp} {w : World} {L : List (Nat × Obj)}
end Go.Proofs.YtbdoinigeaaclaaGreat
