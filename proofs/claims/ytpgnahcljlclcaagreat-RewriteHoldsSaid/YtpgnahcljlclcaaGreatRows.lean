/-
  NARROWER THAN 'FOR EVERY INPUT', by the rows' own cells (each row's printed sentence says how): RewriteSteps: loops · RewriteNormal: loops · RewriteLess: loops · RewriteHolds: loops · RewriteOnly: loops.
  DERIVED. THE GIVEN ROWS OF THIS SEAT. 5 by the template 'for every input the law returns true; each argument reads behind the call as it read before'; 0 by the template 'total and deterministic' (their statements: YtpgnahcljlclcaaGreatTotals.lean).
  GIVEN WITH THE SEED: the statements are not yours to turn. If you find one false, say at which input.
  Laid BY PROGRAM, IN A SANDBOX (cutbox-rows.mjs): the forced cells as the released guide's own fill.sh prints them over the translation 2ba38ba5f80a5bb2… (all of the seat's roots in one cut). By AI agents, Wed Nov 11 2026. No macro, syntax, notation, axiom, sorry.
-/
import Derived.Test.YtpgnahcljlclcaaGreatChecked
import GoSem.Claim
import GoSem.ClaimJoined
import GoSem.ClaimMapViews
import Derived.JoinedTies
import Derived.KernelRfl
namespace Go.Proofs.YtpgnahcljlclcaaGreat
/- THE CELL 'sum', in the pinned program and in every row, IS THE sha256 OF THE DUMP (.gsa) THAT YtpgnahcljlclcaaGreatProg.lean LOADS. Nothing in Lean hashes anything: it is a label: what it is worth is what the hold of that sum in a sandbox is worth. -/
noncomputable def Tryz.pinned : Pinned := { name := "ytpgnahcljlclcaagreat", sum := "2ba38ba5f80a5bb2e9d587f9b7579ea0375beeb5a9b0d5bf6eb1c4f49862da70", checked := Tryz.checked }
namespace Rows
def none {H : Type} : Left H := { results := [], args := [] }

/-- 'elenchuslaw14.RewriteSteps': WHATEVER THE INPUT: true; the input reads as it did. -/
def rewriteStepsSpec : ChangeSpec := { name := "rewriteSteps", fn := fun _ => fun
  | [d1, d2, d3] => { results := [.lit (.bool true)], args := [d1, d2, d3] }
  | _ => none }
def rewriteStepsRow : OpenClaim := { program := "ytpgnahcljlclcaagreat", sum := "2ba38ba5f80a5bb2e9d587f9b7579ea0375beeb5a9b0d5bf6eb1c4f49862da70", func := "elenchus/elenchuslaw14.RewriteSteps", spec := "rewriteSteps", inPlace := ["slices.overlaps[[]elenchus/api.Lit]"], unfollowed := true, recurses := true, loops := true, apart := false }
def RewriteStepsSaid : Prop := rewriteStepsRow.holds Tryz.pinned (OpenSpec.ofChange rewriteStepsSpec)

/-- ITS FALSE NEIGHBOUR: 'it returns false'. Refute it at one input. -/
def rewriteStepsWrong : ChangeSpec := { name := "rewriteSteps", fn := fun _ => fun
  | [d1, d2, d3] => { results := [.lit (.bool false)], args := [d1, d2, d3] }
  | _ => none }
def RewriteStepsWrongFalsely : Prop := rewriteStepsRow.holds Tryz.pinned (OpenSpec.ofChange rewriteStepsWrong)

/-- 'elenchuslaw14.RewriteNormal': WHATEVER THE INPUT: true; the input reads as it did. -/
def rewriteNormalSpec : ChangeSpec := { name := "rewriteNormal", fn := fun _ => fun
  | [d1, d2, d3] => { results := [.lit (.bool true)], args := [d1, d2, d3] }
  | _ => none }
def rewriteNormalRow : OpenClaim := { program := "ytpgnahcljlclcaagreat", sum := "2ba38ba5f80a5bb2e9d587f9b7579ea0375beeb5a9b0d5bf6eb1c4f49862da70", func := "elenchus/elenchuslaw14.RewriteNormal", spec := "rewriteNormal", inPlace := ["slices.overlaps[[]elenchus/api.Lit]"], unfollowed := true, recurses := true, loops := true, apart := false }
def RewriteNormalSaid : Prop := rewriteNormalRow.holds Tryz.pinned (OpenSpec.ofChange rewriteNormalSpec)

/-- ITS FALSE NEIGHBOUR: 'it returns false'. Refute it at one input. -/
def rewriteNormalWrong : ChangeSpec := { name := "rewriteNormal", fn := fun _ => fun
  | [d1, d2, d3] => { results := [.lit (.bool false)], args := [d1, d2, d3] }
  | _ => none }
def RewriteNormalWrongFalsely : Prop := rewriteNormalRow.holds Tryz.pinned (OpenSpec.ofChange rewriteNormalWrong)

/-- 'elenchuslaw14.RewriteLess': WHATEVER THE INPUT: true; the input reads as it did. -/
def rewriteLessSpec : ChangeSpec := { name := "rewriteLess", fn := fun _ => fun
  | [d1, d2, d3] => { results := [.lit (.bool true)], args := [d1, d2, d3] }
  | _ => none }
def rewriteLessRow : OpenClaim := { program := "ytpgnahcljlclcaagreat", sum := "2ba38ba5f80a5bb2e9d587f9b7579ea0375beeb5a9b0d5bf6eb1c4f49862da70", func := "elenchus/elenchuslaw14.RewriteLess", spec := "rewriteLess", inPlace := ["slices.overlaps[[]elenchus/api.Lit]"], unfollowed := true, recurses := true, loops := true, apart := false }
def RewriteLessSaid : Prop := rewriteLessRow.holds Tryz.pinned (OpenSpec.ofChange rewriteLessSpec)

/-- ITS FALSE NEIGHBOUR: 'it returns false'. Refute it at one input. -/
def rewriteLessWrong : ChangeSpec := { name := "rewriteLess", fn := fun _ => fun
  | [d1, d2, d3] => { results := [.lit (.bool false)], args := [d1, d2, d3] }
  | _ => none }
def RewriteLessWrongFalsely : Prop := rewriteLessRow.holds Tryz.pinned (OpenSpec.ofChange rewriteLessWrong)

/-- 'elenchuslaw14.RewriteHolds': WHATEVER THE INPUT: true; the input reads as it did. -/
def rewriteHoldsSpec : ChangeSpec := { name := "rewriteHolds", fn := fun _ => fun
  | [d1, d2, d3, d4] => { results := [.lit (.bool true)], args := [d1, d2, d3, d4] }
  | _ => none }
def rewriteHoldsRow : OpenClaim := { program := "ytpgnahcljlclcaagreat", sum := "2ba38ba5f80a5bb2e9d587f9b7579ea0375beeb5a9b0d5bf6eb1c4f49862da70", func := "elenchus/elenchuslaw14.RewriteHolds", spec := "rewriteHolds", inPlace := ["slices.overlaps[[]elenchus/api.Lit]"], unfollowed := true, recurses := true, loops := true, apart := false }
def RewriteHoldsSaid : Prop := rewriteHoldsRow.holds Tryz.pinned (OpenSpec.ofChange rewriteHoldsSpec)

/-- ITS FALSE NEIGHBOUR: 'it returns false'. Refute it at one input. -/
def rewriteHoldsWrong : ChangeSpec := { name := "rewriteHolds", fn := fun _ => fun
  | [d1, d2, d3, d4] => { results := [.lit (.bool false)], args := [d1, d2, d3, d4] }
  | _ => none }
def RewriteHoldsWrongFalsely : Prop := rewriteHoldsRow.holds Tryz.pinned (OpenSpec.ofChange rewriteHoldsWrong)

/-- 'elenchuslaw14.RewriteOnly': WHATEVER THE INPUT: true; the input reads as it did. -/
def rewriteOnlySpec : ChangeSpec := { name := "rewriteOnly", fn := fun _ => fun
  | [d1, d2, d3] => { results := [.lit (.bool true)], args := [d1, d2, d3] }
  | _ => none }
def rewriteOnlyRow : OpenClaim := { program := "ytpgnahcljlclcaagreat", sum := "2ba38ba5f80a5bb2e9d587f9b7579ea0375beeb5a9b0d5bf6eb1c4f49862da70", func := "elenchus/elenchuslaw14.RewriteOnly", spec := "rewriteOnly", inPlace := ["slices.overlaps[[]elenchus/api.Lit]"], unfollowed := true, recurses := true, loops := true, apart := false }
def RewriteOnlySaid : Prop := rewriteOnlyRow.holds Tryz.pinned (OpenSpec.ofChange rewriteOnlySpec)

/-- ITS FALSE NEIGHBOUR: 'it returns false'. Refute it at one input. -/
def rewriteOnlyWrong : ChangeSpec := { name := "rewriteOnly", fn := fun _ => fun
  | [d1, d2, d3] => { results := [.lit (.bool false)], args := [d1, d2, d3] }
  | _ => none }
def RewriteOnlyWrongFalsely : Prop := rewriteOnlyRow.holds Tryz.pinned (OpenSpec.ofChange rewriteOnlyWrong)

/- THE SECOND FORM. 'bulk': how many values and letters a reading holds, each counted each time it is reached (what is shared counts as often as it is met; a slice's spare places count too). A statement '..UptoSaid' is the law's where the arguments, and the package variables that the reading takes, are together of bulk at most 1048576: NARROWER than '..Said'. Prove '..Said' where nothing that the law and all that it calls make is longer than what came in: it says more and counts as full. Else prove '..UptoSaid'. A law counts once. -/
mutual
def uptoBulk {H : Type} : DataW H → Nat
  | .lit (.string bytes) => bytes.length + 1
  | .lit _ => 1
  | .nil => 1
  | .ptr d => uptoBulk d + 1
  | .slice elems spare => uptoBulkAll elems + uptoBulkAll spare + 1
  | .agg parts => uptoBulkAll parts + 1
  | .iface _ d => uptoBulk d + 1
  | .map entries => uptoBulkEntries entries + 1
  | .held _ => 1
def uptoBulkAll {H : Type} : List (DataW H) → Nat
  | [] => 0
  | d :: r => uptoBulk d + uptoBulkAll r
def uptoBulkEntries {H : Type} : List (Lit × DataW H) → Nat
  | [] => 0
  | x :: r => uptoBulkEntry x + uptoBulkEntries r
def uptoBulkEntry {H : Type} : Lit × DataW H → Nat
  | (.string bytes, d) => bytes.length + uptoBulk d + 1
  | (_, d) => uptoBulk d + 1
 end
def uptoSmall : (H : Type) → List (DataW H) → Bool := fun _ ds => decide (uptoBulkAll ds ≤ 1048576)
def OpenSpec.upto (s : _root_.Go.ChangeSpec) : _root_.Go.OpenSpec := { _root_.Go.OpenSpec.ofChange s with cond := some uptoSmall }

/-- 'elenchuslaw14.RewriteSteps', WHERE WHAT IT READS IS OF BULK AT MOST 1048576: true; the input reads as it did. -/
def rewriteStepsUptoRow : OpenClaim := { program := "ytpgnahcljlclcaagreat", sum := "2ba38ba5f80a5bb2e9d587f9b7579ea0375beeb5a9b0d5bf6eb1c4f49862da70", func := "elenchus/elenchuslaw14.RewriteSteps", spec := "rewriteSteps", inPlace := ["slices.overlaps[[]elenchus/api.Lit]"], unfollowed := true, recurses := true, loops := true, apart := false, narrowed := true }
def RewriteStepsUptoSaid : Prop := rewriteStepsUptoRow.holds Tryz.pinned (OpenSpec.upto rewriteStepsSpec)

/-- 'elenchuslaw14.RewriteNormal', WHERE WHAT IT READS IS OF BULK AT MOST 1048576: true; the input reads as it did. -/
def rewriteNormalUptoRow : OpenClaim := { program := "ytpgnahcljlclcaagreat", sum := "2ba38ba5f80a5bb2e9d587f9b7579ea0375beeb5a9b0d5bf6eb1c4f49862da70", func := "elenchus/elenchuslaw14.RewriteNormal", spec := "rewriteNormal", inPlace := ["slices.overlaps[[]elenchus/api.Lit]"], unfollowed := true, recurses := true, loops := true, apart := false, narrowed := true }
def RewriteNormalUptoSaid : Prop := rewriteNormalUptoRow.holds Tryz.pinned (OpenSpec.upto rewriteNormalSpec)

/-- 'elenchuslaw14.RewriteLess', WHERE WHAT IT READS IS OF BULK AT MOST 1048576: true; the input reads as it did. -/
def rewriteLessUptoRow : OpenClaim := { program := "ytpgnahcljlclcaagreat", sum := "2ba38ba5f80a5bb2e9d587f9b7579ea0375beeb5a9b0d5bf6eb1c4f49862da70", func := "elenchus/elenchuslaw14.RewriteLess", spec := "rewriteLess", inPlace := ["slices.overlaps[[]elenchus/api.Lit]"], unfollowed := true, recurses := true, loops := true, apart := false, narrowed := true }
def RewriteLessUptoSaid : Prop := rewriteLessUptoRow.holds Tryz.pinned (OpenSpec.upto rewriteLessSpec)

/-- 'elenchuslaw14.RewriteHolds', WHERE WHAT IT READS IS OF BULK AT MOST 1048576: true; the input reads as it did. -/
def rewriteHoldsUptoRow : OpenClaim := { program := "ytpgnahcljlclcaagreat", sum := "2ba38ba5f80a5bb2e9d587f9b7579ea0375beeb5a9b0d5bf6eb1c4f49862da70", func := "elenchus/elenchuslaw14.RewriteHolds", spec := "rewriteHolds", inPlace := ["slices.overlaps[[]elenchus/api.Lit]"], unfollowed := true, recurses := true, loops := true, apart := false, narrowed := true }
def RewriteHoldsUptoSaid : Prop := rewriteHoldsUptoRow.holds Tryz.pinned (OpenSpec.upto rewriteHoldsSpec)

/-- 'elenchuslaw14.RewriteOnly', WHERE WHAT IT READS IS OF BULK AT MOST 1048576: true; the input reads as it did. -/
def rewriteOnlyUptoRow : OpenClaim := { program := "ytpgnahcljlclcaagreat", sum := "2ba38ba5f80a5bb2e9d587f9b7579ea0375beeb5a9b0d5bf6eb1c4f49862da70", func := "elenchus/elenchuslaw14.RewriteOnly", spec := "rewriteOnly", inPlace := ["slices.overlaps[[]elenchus/api.Lit]"], unfollowed := true, recurses := true, loops := true, apart := false, narrowed := true }
def RewriteOnlyUptoSaid : Prop := rewriteOnlyUptoRow.holds Tryz.pinned (OpenSpec.upto rewriteOnlySpec)

end Rows
end Go.Proofs.YtpgnahcljlclcaaGreat
