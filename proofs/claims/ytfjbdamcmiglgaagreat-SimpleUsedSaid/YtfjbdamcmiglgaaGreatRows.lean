/-
  NARROWER THAN 'FOR EVERY INPUT', by the rows' own cells (each row's printed sentence says how): SimpleDoes: loops · SimpleHolds: loops · SimpleAgain: loops · SimpleUsed: loops · SimpleWho: loops.
  DERIVED. THE GIVEN ROWS OF THIS SEAT. 5 by the template 'for every input the law returns true; each argument reads behind the call as it read before'; 0 by the template 'total and deterministic' (their statements: YtfjbdamcmiglgaaGreatTotals.lean).
  GIVEN WITH THE SEED: the statements are not yours to turn. If you find one false, say at which input.
  Laid BY PROGRAM, IN A SANDBOX (cutbox-rows.mjs): the forced cells as the released guide's own fill.sh prints them over the translation b86870235cc6afe6… (all of the seat's roots in one cut). By AI agents, Wed Nov 11 2026. No macro, syntax, notation, axiom, sorry.
-/
import Derived.Test.YtfjbdamcmiglgaaGreatChecked
import GoSem.Claim
import GoSem.ClaimJoined
import GoSem.ClaimMapViews
import Derived.JoinedTies
import Derived.KernelRfl
namespace Go.Proofs.YtfjbdamcmiglgaaGreat
/- THE CELL 'sum', in the pinned program and in every row, IS THE sha256 OF THE DUMP (.gsa) THAT YtfjbdamcmiglgaaGreatProg.lean LOADS. Nothing in Lean hashes anything: it is a label: what it is worth is what the hold of that sum in a sandbox is worth. -/
noncomputable def Tryz.pinned : Pinned := { name := "ytfjbdamcmiglgaagreat", sum := "b86870235cc6afe62a2b81d6f4d9d9f26c6940c0351af5ba04063238830dbbba", checked := Tryz.checked }
namespace Rows
def none {H : Type} : Left H := { results := [], args := [] }

/-- 'elenchuslaw20.SimpleDoes': WHATEVER THE INPUT: true; the input reads as it did. -/
def simpleDoesSpec : ChangeSpec := { name := "simpleDoes", fn := fun _ => fun
  | [d1, d2, d3] => { results := [.lit (.bool true)], args := [d1, d2, d3] }
  | _ => none }
def simpleDoesRow : OpenClaim := { program := "ytfjbdamcmiglgaagreat", sum := "b86870235cc6afe62a2b81d6f4d9d9f26c6940c0351af5ba04063238830dbbba", func := "elenchus/elenchuslaw20.SimpleDoes", spec := "simpleDoes", inPlace := ["slices.overlaps[[]elenchus/api.Lit]", "maps.clone"], unfollowed := true, recurses := true, loops := true, apart := false }
def SimpleDoesSaid : Prop := simpleDoesRow.holds Tryz.pinned (OpenSpec.ofChange simpleDoesSpec)

/-- ITS FALSE NEIGHBOUR: 'it returns false'. Refute it at one input. -/
def simpleDoesWrong : ChangeSpec := { name := "simpleDoes", fn := fun _ => fun
  | [d1, d2, d3] => { results := [.lit (.bool false)], args := [d1, d2, d3] }
  | _ => none }
def SimpleDoesWrongFalsely : Prop := simpleDoesRow.holds Tryz.pinned (OpenSpec.ofChange simpleDoesWrong)

/-- 'elenchuslaw20.SimpleHolds': WHATEVER THE INPUT: true; the input reads as it did. -/
def simpleHoldsSpec : ChangeSpec := { name := "simpleHolds", fn := fun _ => fun
  | [d1, d2, d3, d4] => { results := [.lit (.bool true)], args := [d1, d2, d3, d4] }
  | _ => none }
def simpleHoldsRow : OpenClaim := { program := "ytfjbdamcmiglgaagreat", sum := "b86870235cc6afe62a2b81d6f4d9d9f26c6940c0351af5ba04063238830dbbba", func := "elenchus/elenchuslaw20.SimpleHolds", spec := "simpleHolds", inPlace := ["slices.overlaps[[]elenchus/api.Lit]", "maps.clone"], unfollowed := true, recurses := true, loops := true, apart := false }
def SimpleHoldsSaid : Prop := simpleHoldsRow.holds Tryz.pinned (OpenSpec.ofChange simpleHoldsSpec)

/-- ITS FALSE NEIGHBOUR: 'it returns false'. Refute it at one input. -/
def simpleHoldsWrong : ChangeSpec := { name := "simpleHolds", fn := fun _ => fun
  | [d1, d2, d3, d4] => { results := [.lit (.bool false)], args := [d1, d2, d3, d4] }
  | _ => none }
def SimpleHoldsWrongFalsely : Prop := simpleHoldsRow.holds Tryz.pinned (OpenSpec.ofChange simpleHoldsWrong)

/-- 'elenchuslaw20.SimpleAgain': WHATEVER THE INPUT: true; the input reads as it did. -/
def simpleAgainSpec : ChangeSpec := { name := "simpleAgain", fn := fun _ => fun
  | [d1, d2, d3] => { results := [.lit (.bool true)], args := [d1, d2, d3] }
  | _ => none }
def simpleAgainRow : OpenClaim := { program := "ytfjbdamcmiglgaagreat", sum := "b86870235cc6afe62a2b81d6f4d9d9f26c6940c0351af5ba04063238830dbbba", func := "elenchus/elenchuslaw20.SimpleAgain", spec := "simpleAgain", inPlace := ["slices.overlaps[[]elenchus/api.Lit]", "maps.clone"], unfollowed := true, recurses := true, loops := true, apart := false }
def SimpleAgainSaid : Prop := simpleAgainRow.holds Tryz.pinned (OpenSpec.ofChange simpleAgainSpec)

/-- ITS FALSE NEIGHBOUR: 'it returns false'. Refute it at one input. -/
def simpleAgainWrong : ChangeSpec := { name := "simpleAgain", fn := fun _ => fun
  | [d1, d2, d3] => { results := [.lit (.bool false)], args := [d1, d2, d3] }
  | _ => none }
def SimpleAgainWrongFalsely : Prop := simpleAgainRow.holds Tryz.pinned (OpenSpec.ofChange simpleAgainWrong)

/-- 'elenchuslaw20.SimpleUsed': WHATEVER THE INPUT: true; the input reads as it did. -/
def simpleUsedSpec : ChangeSpec := { name := "simpleUsed", fn := fun _ => fun
  | [d1, d2, d3] => { results := [.lit (.bool true)], args := [d1, d2, d3] }
  | _ => none }
def simpleUsedRow : OpenClaim := { program := "ytfjbdamcmiglgaagreat", sum := "b86870235cc6afe62a2b81d6f4d9d9f26c6940c0351af5ba04063238830dbbba", func := "elenchus/elenchuslaw20.SimpleUsed", spec := "simpleUsed", inPlace := ["slices.overlaps[[]elenchus/api.Lit]", "maps.clone"], unfollowed := true, recurses := true, loops := true, apart := false }
def SimpleUsedSaid : Prop := simpleUsedRow.holds Tryz.pinned (OpenSpec.ofChange simpleUsedSpec)

/-- ITS FALSE NEIGHBOUR: 'it returns false'. Refute it at one input. -/
def simpleUsedWrong : ChangeSpec := { name := "simpleUsed", fn := fun _ => fun
  | [d1, d2, d3] => { results := [.lit (.bool false)], args := [d1, d2, d3] }
  | _ => none }
def SimpleUsedWrongFalsely : Prop := simpleUsedRow.holds Tryz.pinned (OpenSpec.ofChange simpleUsedWrong)

/-- 'elenchuslaw20.SimpleWho': WHATEVER THE INPUT: true; the input reads as it did. -/
def simpleWhoSpec : ChangeSpec := { name := "simpleWho", fn := fun _ => fun
  | [d1, d2, d3] => { results := [.lit (.bool true)], args := [d1, d2, d3] }
  | _ => none }
def simpleWhoRow : OpenClaim := { program := "ytfjbdamcmiglgaagreat", sum := "b86870235cc6afe62a2b81d6f4d9d9f26c6940c0351af5ba04063238830dbbba", func := "elenchus/elenchuslaw20.SimpleWho", spec := "simpleWho", inPlace := ["slices.overlaps[[]elenchus/api.Lit]", "maps.clone"], unfollowed := true, recurses := true, loops := true, apart := false }
def SimpleWhoSaid : Prop := simpleWhoRow.holds Tryz.pinned (OpenSpec.ofChange simpleWhoSpec)

/-- ITS FALSE NEIGHBOUR: 'it returns false'. Refute it at one input. -/
def simpleWhoWrong : ChangeSpec := { name := "simpleWho", fn := fun _ => fun
  | [d1, d2, d3] => { results := [.lit (.bool false)], args := [d1, d2, d3] }
  | _ => none }
def SimpleWhoWrongFalsely : Prop := simpleWhoRow.holds Tryz.pinned (OpenSpec.ofChange simpleWhoWrong)

/- THE SECOND FORM. 'bulk': how many values and letters a reading holds, each counted each time it is reached (what is shared counts as often as it is met; a slice's spare places count too). A statement '..UptoSaid' is the law's where the arguments, and the package variables that the reading takes, are together of bulk at most 1048576: NARROWER than '..Said'. Prove '..Said' where nothing that the law and all that it calls make is longer than what came in: it says more and counts as full. Else prove '..UptoSaid'. A law counts once. -/
mutual
def uptoBulk {H : Type} : DataW H → Nat
  | .lit (.string bytes) => bytes.length + 1
  | .lit _ => 1
  | .nil => 1
  | .ptr d => uptoBulk d + 1
  | .slice elems spare => uptoBulkAll elems + uptoBulkAll spare + 1
  | .agg parts => uptoBulkAll parts + 1
  | .iface _ d => uptoBulk d + 1
  | .map entries => uptoBulkEntries entries + 1
  | .held _ => 1
def uptoBulkAll {H : Type} : List (DataW H) → Nat
  | [] => 0
  | d :: r => uptoBulk d + uptoBulkAll r
def uptoBulkEntries {H : Type} : List (Lit × DataW H) → Nat
  | [] => 0
  | x :: r => uptoBulkEntry x + uptoBulkEntries r
def uptoBulkEntry {H : Type} : Lit × DataW H → Nat
  | (.string bytes, d) => bytes.length + uptoBulk d + 1
  | (_, d) => uptoBulk d + 1
 end
def uptoSmall : (H : Type) → List (DataW H) → Bool := fun _ ds => decide (uptoBulkAll ds ≤ 1048576)
def OpenSpec.upto (s : _root_.Go.ChangeSpec) : _root_.Go.OpenSpec := { _root_.Go.OpenSpec.ofChange s with cond := some uptoSmall }

/-- 'elenchuslaw20.SimpleDoes', WHERE WHAT IT READS IS OF BULK AT MOST 1048576: true; the input reads as it did. -/
def simpleDoesUptoRow : OpenClaim := { program := "ytfjbdamcmiglgaagreat", sum := "b86870235cc6afe62a2b81d6f4d9d9f26c6940c0351af5ba04063238830dbbba", func := "elenchus/elenchuslaw20.SimpleDoes", spec := "simpleDoes", inPlace := ["slices.overlaps[[]elenchus/api.Lit]", "maps.clone"], unfollowed := true, recurses := true, loops := true, apart := false, narrowed := true }
def SimpleDoesUptoSaid : Prop := simpleDoesUptoRow.holds Tryz.pinned (OpenSpec.upto simpleDoesSpec)

/-- 'elenchuslaw20.SimpleHolds', WHERE WHAT IT READS IS OF BULK AT MOST 1048576: true; the input reads as it did. -/
def simpleHoldsUptoRow : OpenClaim := { program := "ytfjbdamcmiglgaagreat", sum := "b86870235cc6afe62a2b81d6f4d9d9f26c6940c0351af5ba04063238830dbbba", func := "elenchus/elenchuslaw20.SimpleHolds", spec := "simpleHolds", inPlace := ["slices.overlaps[[]elenchus/api.Lit]", "maps.clone"], unfollowed := true, recurses := true, loops := true, apart := false, narrowed := true }
def SimpleHoldsUptoSaid : Prop := simpleHoldsUptoRow.holds Tryz.pinned (OpenSpec.upto simpleHoldsSpec)

/-- 'elenchuslaw20.SimpleAgain', WHERE WHAT IT READS IS OF BULK AT MOST 1048576: true; the input reads as it did. -/
def simpleAgainUptoRow : OpenClaim := { program := "ytfjbdamcmiglgaagreat", sum := "b86870235cc6afe62a2b81d6f4d9d9f26c6940c0351af5ba04063238830dbbba", func := "elenchus/elenchuslaw20.SimpleAgain", spec := "simpleAgain", inPlace := ["slices.overlaps[[]elenchus/api.Lit]", "maps.clone"], unfollowed := true, recurses := true, loops := true, apart := false, narrowed := true }
def SimpleAgainUptoSaid : Prop := simpleAgainUptoRow.holds Tryz.pinned (OpenSpec.upto simpleAgainSpec)

/-- 'elenchuslaw20.SimpleUsed', WHERE WHAT IT READS IS OF BULK AT MOST 1048576: true; the input reads as it did. -/
def simpleUsedUptoRow : OpenClaim := { program := "ytfjbdamcmiglgaagreat", sum := "b86870235cc6afe62a2b81d6f4d9d9f26c6940c0351af5ba04063238830dbbba", func := "elenchus/elenchuslaw20.SimpleUsed", spec := "simpleUsed", inPlace := ["slices.overlaps[[]elenchus/api.Lit]", "maps.clone"], unfollowed := true, recurses := true, loops := true, apart := false, narrowed := true }
def SimpleUsedUptoSaid : Prop := simpleUsedUptoRow.holds Tryz.pinned (OpenSpec.upto simpleUsedSpec)

/-- 'elenchuslaw20.SimpleWho', WHERE WHAT IT READS IS OF BULK AT MOST 1048576: true; the input reads as it did. -/
def simpleWhoUptoRow : OpenClaim := { program := "ytfjbdamcmiglgaagreat", sum := "b86870235cc6afe62a2b81d6f4d9d9f26c6940c0351af5ba04063238830dbbba", func := "elenchus/elenchuslaw20.SimpleWho", spec := "simpleWho", inPlace := ["slices.overlaps[[]elenchus/api.Lit]", "maps.clone"], unfollowed := true, recurses := true, loops := true, apart := false, narrowed := true }
def SimpleWhoUptoSaid : Prop := simpleWhoUptoRow.holds Tryz.pinned (OpenSpec.upto simpleWhoSpec)

end Rows
end Go.Proofs.YtfjbdamcmiglgaaGreat
