/- For every signature, world and formula the law ModelTrue answers true, and leaves its arguments as they are. Conditions: none beyond the statement's own. -/
import Derived.Test.YtcbheeddfginoaaOwn46
import Derived.Test.YtcbheeddfginoaaRows
import Derived.WalkKit
import Derived.ProofKit
import Derived.OpenShut
import Derived.ShutString
import Derived.ChangeOld
import Derived.Below
import Derived.SizedLaws
set_option linter.unusedVariables false
set_option linter.unusedSimpArgs false

/- The row of ModelTrue: from the walk to the statement. -/
namespace Go.Proofs.Ytcbheeddfginoaa.modelTrueDone
open Go.Proofs Go.ChangeShapes Go.WideShapes Go.ChangeAt Go.RowKit
open Go.Abs (TyV closedOk args_tree args_below noM noB)

theorem own : ownKnob Try.prog.godebug = none := by kernel_rfl
theorem laidOut : laidOutB Try.prog = true := by kernel_rfl
theorem closed : closedOk Try.prog [22, 25, 49, 83, 9, 3, 4, 23, 29, 45, 43, 46, 47] = true := by kernel_rfl

/-- THE WALK. -/
theorem walk (W : World) (args : Array Value) (tr : List Go.Abs.AVal) (h1 : args.toList.length = tr.length) (h2 : ∀ k, k < tr.length → Go.Abs.Rep W noM noB (args.toList.getD k undef) (tr.getD k .undef)) (h3 : tr.length = 3)
    (h4 : ∀ (j : Nat) t, Try.f4.params.toList[j]? = some t → TyV Try.prog t (tr.getD j .undef)) :
    Calls Try.prog 4 args W fun e W' => e = .returned (.bool true) ∧ Below W.heap.size W W' := by
  have ht : tr = [tr.getD 0 .undef, tr.getD 1 .undef, tr.getD 2 .undef] := by
    rcases tr with _ | ⟨a, _ | ⟨b, _ | ⟨c, _ | ⟨d, l⟩⟩⟩⟩ <;> first | rfl | simp at h3
  obtain ⟨g, e0⟩ := syms_arg (h4 0 _ (by rfl))
  obtain ⟨w, e1⟩ := wo_arg (h4 1 _ (by rfl))
  obtain ⟨f, e2, f2⟩ := fo_arg (h4 2 _ (by rfl))
  rw [e0, e1, e2] at ht
  subst ht
  exact TrueLaw_calls g w f f2 (by simpa using h1) (by simpa using h2)

set_option maxRecDepth 100000 in
theorem lifted (os : Os) (started : os.Started) (H : Type) (enc : TypeId × Value → H) :
    ReturnsInHanded {} Try.checked os 4 .any (Rows.modelTrueSpec.pre6 enc Try.prog Try.f4 Rows.modelTrueRow.domain false) (Rows.modelTrueSpec.post enc Try.prog Try.f4 false true false false) := by
  refine returnsInHanded_of_change_sized (C := Try.checked) own started (by kernel_rfl) Try.func4
    (ChangeSpec.witness6 (enc := enc) (C := Try.checked) false ⟨#[], #[.slice none 0 0, .agg #[.int .i64 0, .slice none 0 0], .agg #[.int .i64 0, .bool false, .string .empty, .slice none 0 0, .bool false, .string .empty, .slice none 0 0, .slice none 0 0, .slice none 0 0]], []⟩ 8 (by kernel_rfl) (by kernel_rfl) (by kernel_rfl) (by kernel_rfl)) ?_
  intro W base args ds gs before hval0 hW hcnd hsz _
  have hW' := hW
  obtain ⟨p, q, hA0, hV, rfl, hfz, hnd⟩ := hW
  have hA : DataW.TrodAll enc Try.prog W 0 (fun _ => true) true Try.f4.params.toList args.toList ds p := hA0
  obtain ⟨rfl, rfl⟩ := trodVars_none hV
  obtain ⟨tr, a1, a2, a3, a4⟩ := args_tree closed _ _ _ _ hA (by kernel_rfl) (fun j t v e1 e2 => hval0 j t v (by simpa using e1) (by simpa using e2)) (fun n hn => by
    have := List.all_eq_true.1 hsz n (by rw [List.append_nil, show Try.f4.params.toList ++ Rows.modelTrueSpec.plain.varTypes Try.checked.prog = Try.f4.params.toList from List.append_nil _]; exact hn)
    simpa using this)
  have hlen : ds.length = 3 := (Go.Abs.trodAll_len _ _ _ _ hA).trans rfl
  refine (walk W args tr a1 a2 (a3.trans rfl) a4).mono fun e W' ⟨he, bel⟩ => ?_
  subst he
  match ds, hlen with
  | [d1, d2, d3], _ =>
  exact ⟨_, rfl, _, _, _, [], _, [], hW', trodAll_mk1 (shut_bool Try.underlying4 _), args_below laidOut bel _ _ _ _ hA (by kernel_rfl), rfl, bel.frame _, fun h => by cases h⟩

/-- For every input the law returns true. -/
theorem proved : Rows.ModelTrueSaid :=
  OpenClaim.holds_of_wide 4 Try.f4 rfl rfl rfl rfl rfl rfl rfl ⟨rfl, rfl, rfl, rfl, rfl⟩ rfl rfl rfl rfl rfl (by kernel_rfl) Try.func4 (by kernel_rfl)
    (of_decide_eq_true (by kernel_rfl)) (by unfold Func.isWrapper; first | (rw [if_pos (by decide +kernel)]; kernel_rfl) | (rw [if_neg (by decide +kernel)]; exact ⟨rfl, rfl⟩))
    (fun os started H enc _ => lifted os started H enc)
end Go.Proofs.Ytcbheeddfginoaa.modelTrueDone
