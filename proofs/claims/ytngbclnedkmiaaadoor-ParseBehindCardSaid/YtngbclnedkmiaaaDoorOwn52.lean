/- For every input the law ParseBehind answers true, and leaves its arguments as they are. Conditions: none beyond the statement's own (the tables of the library hold what the card says). -/
import Derived.Test.YtngbclnedkmiaaaDoorOwn51
set_option linter.unusedVariables false
set_option linter.unusedSectionVars false
set_option linter.unusedSimpArgs false

/- The row and the card of ParseBehind. -/
namespace Go.Proofs.YtngbclnedkmiaaaDoor.parseBehindDone
open Go.Proofs Go.ChangeShapes Go.WideShapes Go.ChangeAt Go.RowKit
open Go.Proofs.YtngbclnedkmiaaaDoor.parseRows
open Go.Abs (TyV closedOk args_tree args_below noM noB)

/-- THE WALK. -/
theorem walk (W : World) (hsh : W.ShapedOpen Tryd.prog) (args : Array Value) (tr : List Go.Abs.AVal) (h1 : args.toList.length = tr.length) (h2 : ∀ k, k < tr.length → Go.Abs.Rep W noM noB (args.toList.getD k undef) (tr.getD k .undef)) (h3 : tr.length = 2)
    (h4 : ∀ (j : Nat) t, Tryd.f4.params.toList[j]? = some t → TyV Tryd.prog t (tr.getD j .undef)) :
    Calls Tryd.prog 4 args W fun e W' => e = .returned (.bool true) ∧ Below W.heap.size W W' := by
  have ht : tr = [tr.getD 0 .undef, tr.getD 1 .undef] := by
    rcases tr with _ | ⟨a, _ | ⟨b, _ | ⟨c, l⟩⟩⟩ <;> first | rfl | simp at h3
  obtain ⟨s, e0⟩ := str_arg (h4 0 _ (by rfl))
  obtain ⟨t, e1⟩ := str_arg (h4 1 _ (by rfl))
  rw [e0, e1] at ht
  subst ht
  exact ParseBehind_calls s t (glob hsh) (by simpa using h1) (by simpa using h2)

theorem reads (os : Os) {H : Type} (enc : TypeId × Value → H) : ∃ places, DataW.whole enc Tryd.prog ((laidWorld os).forCall (fun _ _ => 0) ⟨#[], #[.string .empty, .string .empty], []⟩).memory Tryd.f4.params.toList Rows.parseBehindSpec.vars false #[Value.string .empty, Value.string .empty].toList 8 = some ([.lit (.string []), .lit (.string [])], [], places) :=
  ⟨[], by kernel_rfl⟩
set_option maxRecDepth 100000 in
theorem lifted (os : Os) (started : os.Started) (H : Type) (enc : TypeId × Value → H) (F : Stop.Interp) :
    ReturnsInHanded {} Tryd.checked os 4 .any ((OpenSpec.ofChange Rows.parseBehindSpec).preRow enc Tryd.prog Tryd.f4 Rows.parseBehindRow.domain false Rows.parseBehindRow.laid) (((OpenSpec.ofChange Rows.parseBehindSpec).at F).post enc Tryd.prog Tryd.f4 false true false false) := by
  obtain ⟨places, hx⟩ := reads os enc
  refine returnsInHanded_of_row (C := Tryd.checked) (s := OpenSpec.ofChange Rows.parseBehindSpec) own started (by kernel_rfl) Tryd.func4
    (witness_row_at (enc := enc) (C := Tryd.checked) false (laidWorld os) #[.string .empty, .string .empty] rfl (by kernel_rfl) (by kernel_rfl) (by kernel_rfl)
      (OpenSpec.preRow_of_cond 8 hx (by kernel_rfl) (fun k hk => by cases hk) (by kernel_rfl) (laid_met2 os))) ?_
  intro W base args ds gs before hval0 hW _ _ hsz _ hsh _
  have hW' := hW
  obtain ⟨p, q, hA0, hV, rfl, hfz, hnd⟩ := hW
  have hA : DataW.TrodAll enc Tryd.prog W 0 (fun _ => true) true Tryd.f4.params.toList args.toList ds p := hA0
  obtain ⟨rfl, rfl⟩ := trodVars_none hV
  obtain ⟨tr, a1, a2, a3, a4⟩ := args_tree closed _ _ _ _ hA (by kernel_rfl) (fun j t v e1 e2 => hval0 j t v (by simpa using e1) (by simpa using e2)) (fun n hn => by
    have := List.all_eq_true.1 hsz n (by rw [List.append_nil, show Tryd.f4.params.toList ++ (OpenSpec.ofChange Rows.parseBehindSpec).bare.plain.varTypes Tryd.checked.prog = Tryd.f4.params.toList from List.append_nil _]; exact hn)
    simpa using this)
  have hlen : ds.length = 2 := (Go.Abs.trodAll_len _ _ _ _ hA).trans rfl
  refine (walk W hsh args tr a1 a2 (a3.trans rfl) a4).mono fun e W' ⟨he, bel⟩ => ?_
  subst he
  match ds, hlen with
  | [d1, d2], _ =>
  exact ⟨_, rfl, _, _, _, [], _, [], hW', trodAll_mk1 (shut_bool Tryd.underlying4 _), args_below laidOut bel _ _ _ _ hA (by kernel_rfl), rfl, bel.frame _, fun h => by cases h⟩

theorem said : Rows.ParseBehindSaid :=
  OpenClaim.holds_of_cond 4 Tryd.f4 rfl rfl rfl rfl rfl rfl rfl ⟨rfl, rfl, rfl, rfl, rfl⟩ rfl rfl rfl rfl rfl (by kernel_rfl) Tryd.func4 (by kernel_rfl)
    (of_decide_eq_true (by kernel_rfl)) (by unfold Func.isWrapper; first | (rw [if_pos (by decide +kernel)]; kernel_rfl) | (rw [if_neg (by decide +kernel)]; exact ⟨rfl, rfl⟩))
    (fun os started H enc _ F => by rw [OpenClaim.pre_eq_preRow]; exact lifted os started H enc F)

theorem plain (f : FuncId) (fn : Func) (hf : Tryd.pinned.checked.prog.funcNamed "elenchus/elenchuslaw25.ParseBehind" = some f) (hfn : Tryd.pinned.checked.prog.funcs[f]? = some fn) :
    true = Tryd.pinned.checked.prog.looks [] ∧ ∀ (j : Nat) t, fn.params[j]? = some t → Tryd.pinned.checked.prog.wantsStandIn t = false := by
  obtain rfl : f = 4 := Option.some.inj ((show Tryd.prog.funcNamed "elenchus/elenchuslaw25.ParseBehind" = some 4 by kernel_rfl).symm.trans hf) |>.symm
  obtain rfl : fn = Tryd.f4 := (Option.some.inj (Tryd.func4.symm.trans hfn)).symm
  refine ⟨by kernel_rfl, fun j t ht => ?_⟩
  rw [Tryd.params4] at ht
  have hm := Array.mem_of_getElem? ht
  simp only [List.mem_toArray, List.mem_cons, List.not_mem_nil, or_false] at hm
  rcases hm with rfl | rfl <;> exact (show Tryd.prog.wantsStandIn 9 = false by kernel_rfl)

/-- The card: for every input the law returns true. -/
theorem proved : Rows.ParseBehindCardSaid :=
  Claim7.holds_tied_plain_at .later [] _ _ _ _ said (fun _ h => by cases h) (by kernel_rfl) (fun _ h => by cases h) parseBehind_row_tie rfl ⟨rfl, rfl⟩ (by kernel_rfl) rfl plain (by kernel_rfl)
end Go.Proofs.YtngbclnedkmiaaaDoor.parseBehindDone
