/- The five keys of the run, and the calls of slices.SortFunc on a row of them in whatever order. -/
import Derived.Test.YthckkbhjocjmkaaGreatDoorEvM
import Derived.Test.YthckkbhjocjmkaaGreatDoorEvN
namespace Go.Proofs.YthckkbhjocjmkaaGreatDoor
namespace Ev

def u (n : Nat) : Value := .int .u8 (Int.ofNat n)
def zs14 : List Value := [u 0, u 0, u 0, u 0, u 0, u 0, u 0, u 0, u 0, u 0, u 0, u 0, u 0, u 0]
def keyL (a b c d : Nat) : List Value := u 0 :: u 0 :: u 0 :: u a :: u b :: u c :: u 0 :: u 0 :: u 0 :: (zs14 ++ [u d])
def keysL : List (List Value) := [keyL 1 1 0 0, keyL 1 2 97 1, keyL 1 2 98 1, keyL 2 1 0 0, keyL 3 1 0 0]
def catK : List Nat → List Value
  | [] => []
  | i :: l => keysL.getD i [] ++ catK l
def sortMemo (p : List Nat) : Memo := ⟨35, [.slice (some ⟨0, 0, none⟩) 5 4611686018427387909, .func (.func 46) #[] #[]], [.row (catK p) 70 24], [⟨.tuple #[], [some (.row (catK [0, 1, 2, 3, 4]) 70 24)], []⟩]⟩
def ps0 : List (List Nat) := [[0, 1, 2, 3, 4], [0, 1, 2, 4, 3], [0, 1, 3, 2, 4], [0, 1, 3, 4, 2], [0, 1, 4, 2, 3], [0, 1, 4, 3, 2], [0, 2, 1, 3, 4], [0, 2, 1, 4, 3], [0, 2, 3, 1, 4], [0, 2, 3, 4, 1], [0, 2, 4, 1, 3], [0, 2, 4, 3, 1], [0, 3, 1, 2, 4], [0, 3, 1, 4, 2], [0, 3, 2, 1, 4]]
def ps1 : List (List Nat) := [[0, 3, 2, 4, 1], [0, 3, 4, 1, 2], [0, 3, 4, 2, 1], [0, 4, 1, 2, 3], [0, 4, 1, 3, 2], [0, 4, 2, 1, 3], [0, 4, 2, 3, 1], [0, 4, 3, 1, 2], [0, 4, 3, 2, 1], [1, 0, 2, 3, 4], [1, 0, 2, 4, 3], [1, 0, 3, 2, 4], [1, 0, 3, 4, 2], [1, 0, 4, 2, 3], [1, 0, 4, 3, 2]]
def ps2 : List (List Nat) := [[1, 2, 0, 3, 4], [1, 2, 0, 4, 3], [1, 2, 3, 0, 4], [1, 2, 3, 4, 0], [1, 2, 4, 0, 3], [1, 2, 4, 3, 0], [1, 3, 0, 2, 4], [1, 3, 0, 4, 2], [1, 3, 2, 0, 4], [1, 3, 2, 4, 0], [1, 3, 4, 0, 2], [1, 3, 4, 2, 0], [1, 4, 0, 2, 3], [1, 4, 0, 3, 2], [1, 4, 2, 0, 3]]
def ps3 : List (List Nat) := [[1, 4, 2, 3, 0], [1, 4, 3, 0, 2], [1, 4, 3, 2, 0], [2, 0, 1, 3, 4], [2, 0, 1, 4, 3], [2, 0, 3, 1, 4], [2, 0, 3, 4, 1], [2, 0, 4, 1, 3], [2, 0, 4, 3, 1], [2, 1, 0, 3, 4], [2, 1, 0, 4, 3], [2, 1, 3, 0, 4], [2, 1, 3, 4, 0], [2, 1, 4, 0, 3], [2, 1, 4, 3, 0]]
def ps4 : List (List Nat) := [[2, 3, 0, 1, 4], [2, 3, 0, 4, 1], [2, 3, 1, 0, 4], [2, 3, 1, 4, 0], [2, 3, 4, 0, 1], [2, 3, 4, 1, 0], [2, 4, 0, 1, 3], [2, 4, 0, 3, 1], [2, 4, 1, 0, 3], [2, 4, 1, 3, 0], [2, 4, 3, 0, 1], [2, 4, 3, 1, 0], [3, 0, 1, 2, 4], [3, 0, 1, 4, 2], [3, 0, 2, 1, 4]]
def ps5 : List (List Nat) := [[3, 0, 2, 4, 1], [3, 0, 4, 1, 2], [3, 0, 4, 2, 1], [3, 1, 0, 2, 4], [3, 1, 0, 4, 2], [3, 1, 2, 0, 4], [3, 1, 2, 4, 0], [3, 1, 4, 0, 2], [3, 1, 4, 2, 0], [3, 2, 0, 1, 4], [3, 2, 0, 4, 1], [3, 2, 1, 0, 4], [3, 2, 1, 4, 0], [3, 2, 4, 0, 1], [3, 2, 4, 1, 0]]
def ps6 : List (List Nat) := [[3, 4, 0, 1, 2], [3, 4, 0, 2, 1], [3, 4, 1, 0, 2], [3, 4, 1, 2, 0], [3, 4, 2, 0, 1], [3, 4, 2, 1, 0], [4, 0, 1, 2, 3], [4, 0, 1, 3, 2], [4, 0, 2, 1, 3], [4, 0, 2, 3, 1], [4, 0, 3, 1, 2], [4, 0, 3, 2, 1], [4, 1, 0, 2, 3], [4, 1, 0, 3, 2], [4, 1, 2, 0, 3]]
def ps7 : List (List Nat) := [[4, 1, 2, 3, 0], [4, 1, 3, 0, 2], [4, 1, 3, 2, 0], [4, 2, 0, 1, 3], [4, 2, 0, 3, 1], [4, 2, 1, 0, 3], [4, 2, 1, 3, 0], [4, 2, 3, 0, 1], [4, 2, 3, 1, 0], [4, 3, 0, 1, 2], [4, 3, 0, 2, 1], [4, 3, 1, 0, 2], [4, 3, 1, 2, 0], [4, 3, 2, 0, 1], [4, 3, 2, 1, 0]]
noncomputable def gOf (E : Env) (n : Nat) : CallF := callFrom E (enterFrom E (ev E id n))
theorem id_ok {E : Env} : ∀ c, CallFOk E c → CallFOk E (id c) := fun c h => by rw [id_eq]; exact h
theorem callId_ok {E : Env} (hE : E.Ok) (n : Nat) : CallFOk E (callFrom E (enterFrom E (ev E id n))) := callFrom_ok hE (enterFrom_ok hE (ev_ok hE id_ok n))
theorem gOf_ok {E : Env} (hE : E.Ok) (n : Nat) : CallFOk E (gOf E n) := callId_ok hE n
end Ev
end Go.Proofs.YthckkbhjocjmkaaGreatDoor
