/- Part 45 of my own framework and of the walks of functions: Lr. -/
import Derived.Test.YtpiddadahanpgaaDoorOwn44
import Derived.Test.YtpiddadahanpgaaDoorRows
import Derived.Test.YtpiddadahanpgaaDoorCards
import Derived.Test.YtpiddadahanpgaaDoorTie
import Derived.WalkKit
import Derived.ProofKit
import Derived.OpenShut
import Derived.ShutString
import Derived.Below
import Derived.SizedLaws
import Derived.Deep.DeepHandedRow
import Derived.Lib.LaidTab
import Derived.Shelf.Vars
set_option linter.unusedVariables false
set_option linter.unusedSimpArgs false

/- What the rows of Lex share: the laid tables, strings and integers as arguments. -/
namespace Go.Proofs.YtpiddadahanpgaaDoor.lexRows
open Go.Proofs Go.ChangeShapes Go.WideShapes Go.ChangeAt Go.RowKit
open Go.Abs (TyV closedOk args_tree args_below noM noB Glob)

theorem own : ownKnob Tryd.prog.godebug = none := by kernel_rfl
theorem laidOut : laidOutB Tryd.prog = true := by kernel_rfl
theorem closed : closedOk Tryd.prog [9, 3] = true := by kernel_rfl

def firstCells : Array Value := (Go.Pinned.utf8FirstZ.map fun (z : Nat) => Value.int .u8 (z : Int)).toArray
def rangeCells : Array Value := #[.int .u8 128, .int .u8 191, .int .u8 160, .int .u8 191, .int .u8 128, .int .u8 159, .int .u8 144, .int .u8 191, .int .u8 128, .int .u8 143, .int .u8 0, .int .u8 0, .int .u8 0, .int .u8 0, .int .u8 0, .int .u8 0, .int .u8 0, .int .u8 0, .int .u8 0, .int .u8 0, .int .u8 0, .int .u8 0, .int .u8 0, .int .u8 0, .int .u8 0, .int .u8 0, .int .u8 0, .int .u8 0, .int .u8 0, .int .u8 0, .int .u8 0, .int .u8 0]
def setCells (cs : Array Value) : Obj → Obj
  | .cells _ t frozen => .cells cs t frozen
  | o => o
/-- A world that holds the tables. -/
noncomputable def laidWorld (os : Os) : World :=
  { World.holding Tryd.prog os ⟨#[], #[], []⟩ with heap := Array.modify (Array.modify (World.holding Tryd.prog os ⟨#[], #[], []⟩).heap 1 (setCells firstCells)) 2 (setCells rangeCells) }
theorem laid_met2 (os : Os) : laidMet Tryd.prog Rows.lexDoesRow.laid ((laidWorld os).forCall (fun _ _ => 0) ⟨#[], #[.string .empty, .int .i64 0], []⟩).memory :=
  laidMet_of_run' 8 (by kernel_rfl) (by kernel_rfl)
theorem laid_met1 (os : Os) : laidMet Tryd.prog Rows.lexDoesRow.laid ((laidWorld os).forCall (fun _ _ => 0) ⟨#[], #[.string .empty], []⟩).memory :=
  laidMet_of_run' 8 (by kernel_rfl) (by kernel_rfl)
theorem glob {W : World} (h : W.ShapedOpen Tryd.prog) : Glob W.heap.size W := by
  intro x hx
  simp only [Go.Abs.glCells, List.mem_cons, List.not_mem_nil, or_false] at hx
  subst hx
  obtain ⟨m, hm⟩ := cell_of_shapedOpen_int (P := Tryd.prog) (g := 0) (t := 3) (zero := #[.int .i64 0]) (k := .i64) h (of_decide_eq_true (by kernel_rfl)) (by kernel_rfl) rfl (by kernel_rfl) (by kernel_rfl) Tryd.underlying3
  refine ⟨?_, .int .i64 m, hm, m, rfl⟩
  exact Go.Abs.block_lt hm
theorem str_arg {a : Go.Abs.AVal} (h : TyV Tryd.prog 9 a) : ∃ s, a = .str s := by
  obtain ⟨h1, n, h2⟩ := h
  obtain ⟨s, h3, _⟩ := Go.Abs.TyT_str (by kernel_rfl) h2
  exact ⟨s, Go.Abs.lone_cells (h1.trans (by kernel_rfl)) h3⟩
theorem int_arg {a : Go.Abs.AVal} (h : TyV Tryd.prog 3 a) : ∃ i, a = .int .i64 i := by
  obtain ⟨h1, n, h2⟩ := h
  obtain ⟨i, h3, _⟩ := Go.Abs.TyT_int (by kernel_rfl) h2
  exact ⟨i, Go.Abs.lone_cells (h1.trans (by kernel_rfl)) h3⟩
end Go.Proofs.YtpiddadahanpgaaDoor.lexRows
