/- Contracts of package ref11's tables: vars (73) and syms0 .. syms75 (79 .. 74). -/
import Derived.Test.YtfbaebekpkfijaaCodeX
import Derived.Test.YtfbaebekpkfijaaCon
namespace Go.Proofs.Ytfbaebekpkfijaa
open Go Go.RowKit
def allVars : List Int := (List.range 90).map fun k => varOf (k : Nat)
def expectS (N : Nat) : List Sym → Option (Value × List Obj)
  | [] => some (.slice none 0 0, [])
  | s :: l => some (.slice (some ⟨N, 0, none⟩) (l.length + 1) (l.length + 1), [.cells (symCells (s :: l)).toArray 37])
def expectI (N : Nat) : List Int → Option (Value × List Obj)
  | [] => some (.slice none 0 0, [])
  | s :: l => some (.slice (some ⟨N, 0, none⟩) (l.length + 1) (l.length + 1), [.cells (intCells (s :: l)).toArray 3])
theorem x73 (N : Nat) : callX Try.prog Try.f73 #[] N = expectI N allVars := by kernel_rfl
theorem x74 (N : Nat) : (List.range 15).map (fun (k : Nat) => callX Try.prog Try.f74 #[.int .i64 ((75 + k : Nat) : Int)] N) = (List.range 15).map (fun (k : Nat) => expectS N (symsOf ((75 + k : Nat) : Int))) := by kernel_rfl
theorem x75 (N : Nat) : (List.range 15).map (fun (k : Nat) => callX Try.prog Try.f75 #[.int .i64 ((60 + k : Nat) : Int)] N) = (List.range 15).map (fun (k : Nat) => expectS N (symsOf ((60 + k : Nat) : Int))) := by kernel_rfl
theorem x76 (N : Nat) : (List.range 15).map (fun (k : Nat) => callX Try.prog Try.f76 #[.int .i64 ((45 + k : Nat) : Int)] N) = (List.range 15).map (fun (k : Nat) => expectS N (symsOf ((45 + k : Nat) : Int))) := by kernel_rfl
theorem x77 (N : Nat) : (List.range 15).map (fun (k : Nat) => callX Try.prog Try.f77 #[.int .i64 ((30 + k : Nat) : Int)] N) = (List.range 15).map (fun (k : Nat) => expectS N (symsOf ((30 + k : Nat) : Int))) := by kernel_rfl
theorem x78 (N : Nat) : (List.range 15).map (fun (k : Nat) => callX Try.prog Try.f78 #[.int .i64 ((15 + k : Nat) : Int)] N) = (List.range 15).map (fun (k : Nat) => expectS N (symsOf ((15 + k : Nat) : Int))) := by kernel_rfl
theorem x79 (N : Nat) : (List.range 15).map (fun (k : Nat) => callX Try.prog Try.f79 #[.int .i64 ((0 + k : Nat) : Int)] N) = (List.range 15).map (fun (k : Nat) => expectS N (symsOf ((0 + k : Nat) : Int))) := by kernel_rfl
end Go.Proofs.Ytfbaebekpkfijaa
