/- BifIs: what the call comes to, by the abstract evaluator. -/
import Derived.Test.YtkmjbiabhpfbpaaGreatDoorProg
import Derived.Test.YtkmjbiabhpfbpaaGreatDoorAe21
namespace Go.Proofs.YtkmjbiabhpfbpaaGreatDoor.Bif
open Go Go.Ae Go.Proofs Go.RowKit
set_option maxRecDepth 100000

theorem wf : progWf Tryz.prog = true := by kernel_rfl
theorem small : Tryz.prog.globals.size ≤ 1000 := Nat.le_of_ble_eq_true (by kernel_rfl)

/-- All the names that the table, and the answer's own, ask for. -/
def names : List ByteArray := [
  ⟨#[97, 98, 115]⟩,
  ⟨#[102, 108, 111, 97, 116]⟩,
  ⟨#[116, 114, 117, 110, 99]⟩,
  ⟨#[114, 111, 117, 110, 100]⟩,
  ⟨#[102, 108, 111, 111, 114]⟩,
  ⟨#[99, 101, 105, 108]⟩,
  ⟨#[104, 100]⟩,
  ⟨#[116, 108]⟩,
  ⟨#[108, 101, 110, 103, 116, 104]⟩,
  ⟨#[116, 117, 112, 108, 101, 95, 115, 105, 122, 101]⟩,
  ⟨#[101, 108, 101, 109, 101, 110, 116]⟩,
  ⟨#[105, 115, 95, 102, 117, 110, 99, 116, 105, 111, 110]⟩,
  ⟨#[109, 105, 110]⟩,
  ⟨#[109, 97, 120]⟩,
  ⟨#[105, 115, 95, 97, 116, 111, 109]⟩,
  ⟨#[105, 115, 95, 105, 110, 116, 101, 103, 101, 114]⟩,
  ⟨#[105, 115, 95, 102, 108, 111, 97, 116]⟩,
  ⟨#[105, 115, 95, 110, 117, 109, 98, 101, 114]⟩,
  ⟨#[105, 115, 95, 108, 105, 115, 116]⟩,
  ⟨#[105, 115, 95, 116, 117, 112, 108, 101]⟩,
  ⟨#[105, 115, 95, 112, 105, 100]⟩,
  ⟨#[105, 115, 95, 114, 101, 102, 101, 114, 101, 110, 99, 101]⟩,
  ⟨#[105, 115, 95, 98, 111, 111, 108, 101, 97, 110]⟩,
  ⟨#[115, 101, 116, 101, 108, 101, 109, 101, 110, 116]⟩,
  ⟨#[116, 117, 112, 108, 101, 95, 116, 111, 95, 108, 105, 115, 116]⟩,
  ⟨#[108, 105, 115, 116, 95, 116, 111, 95, 116, 117, 112, 108, 101]⟩,
  ⟨#[97, 116, 111, 109, 95, 116, 111, 95, 108, 105, 115, 116]⟩,
  ⟨#[108, 105, 115, 116, 95, 116, 111, 95, 97, 116, 111, 109]⟩,
  ⟨#[105, 110, 116, 101, 103, 101, 114, 95, 116, 111, 95, 108, 105, 115, 116]⟩,
  ⟨#[108, 105, 115, 116, 95, 116, 111, 95, 105, 110, 116, 101, 103, 101, 114]⟩,
  ⟨#[102, 108, 111, 97, 116, 95, 116, 111, 95, 108, 105, 115, 116]⟩,
  ⟨#[98, 105, 116, 115]⟩,
  ⟨#[114, 101, 118, 101, 114, 115, 101]⟩,
  ⟨#[115, 111, 114, 116]⟩,
  ⟨#[109, 101, 109, 98, 101, 114]⟩,
  ⟨#[110, 116, 104]⟩,
  ⟨#[115, 105, 122, 101]⟩]

def memB (s : ByteArray) : Bool := names.any fun x => decide (x.data.toList = s.data.toList)

/-- What is known of a name that is none of these (if 'other'), of a number that is none of 1, 2, 3 (if 'nk'), of the name's length. -/
def T (other long nk : Bool) : Toks where
  str k bop s := match k, bop with
    | 0, .eql => bif other && memB s then some (.bool false) else none
    | _, _ => none
  rts _ _ _ := none
  int k bop kd n := match k, bop, kd with
    | 1, .eql, .i64 => bif nk && (decide (n = 1) || decide (n = 2) || decide (n = 3)) then some (.bool false) else none
    | 2, .gtr, .i64 => bif decide (n = 100) then some (.bool long) else none
    | _, _, _ => none
  tni k bop kd n := match k, bop, kd with
    | 1, .eql, .i64 => bif nk && (decide (n = 1) || decide (n = 2) || decide (n = 3)) then some (.bool false) else none
    | _, _, _ => none
  len k := match k with
    | 0 => some (.chan (some 2))
    | _ => none

def nArgs : List (Bool × Value) := [(false, .int .i64 1), (false, .int .i64 2), (false, .int .i64 3), (true, .chan (some 1))]

noncomputable def shortRuns (b : Bool) (v : Value) : Bool := nArgs.all fun q => tellsTrue (@callA (askT (T b false q.1)) Tryz.prog (trueSum 4) 100 3 #[v, q.2] (bare 1000))

end Go.Proofs.YtkmjbiabhpfbpaaGreatDoor.Bif
