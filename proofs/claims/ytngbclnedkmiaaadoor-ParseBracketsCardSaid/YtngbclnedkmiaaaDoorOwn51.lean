/- Part 51 of my own framework and of the walks of functions: Nx, Nw. -/
import Derived.Test.YtngbclnedkmiaaaDoorOwn50
import Derived.Test.YtngbclnedkmiaaaDoorRows
import Derived.Test.YtngbclnedkmiaaaDoorCards
import Derived.Test.YtngbclnedkmiaaaDoorTie
import Derived.WalkKit
import Derived.ProofKit
import Derived.OpenShut
import Derived.ShutString
import Derived.Below
import Derived.SizedLaws
import Derived.Deep.DeepHandedRow
import Derived.Lib.LaidTab
import Derived.Shelf.Vars
set_option linter.unusedVariables false
set_option linter.unusedSectionVars false
set_option linter.unusedSimpArgs false

/- What the rows of Parse share: the laid tables, strings and integers as arguments. -/
namespace Go.Proofs.YtngbclnedkmiaaaDoor.parseRows
open Go.Proofs Go.ChangeShapes Go.WideShapes Go.ChangeAt Go.RowKit
open Go.Abs (TyV closedOk args_tree args_below noM noB Glob)

theorem own : ownKnob Tryd.prog.godebug = none := by kernel_rfl
theorem laidOut : laidOutB Tryd.prog = true := by kernel_rfl
theorem closed : closedOk Tryd.prog [9] = true := by kernel_rfl

def firstCells : Array Value := (Go.Pinned.utf8FirstZ.map fun (z : Nat) => Value.int .u8 (z : Int)).toArray
def rangeCells : Array Value := #[.int .u8 128, .int .u8 191, .int .u8 160, .int .u8 191, .int .u8 128, .int .u8 159, .int .u8 144, .int .u8 191, .int .u8 128, .int .u8 143, .int .u8 0, .int .u8 0, .int .u8 0, .int .u8 0, .int .u8 0, .int .u8 0, .int .u8 0, .int .u8 0, .int .u8 0, .int .u8 0, .int .u8 0, .int .u8 0, .int .u8 0, .int .u8 0, .int .u8 0, .int .u8 0, .int .u8 0, .int .u8 0, .int .u8 0, .int .u8 0, .int .u8 0, .int .u8 0]
def setCells (cs : Array Value) : Obj → Obj
  | .cells _ t frozen => .cells cs t frozen
  | o => o
/-- A world that holds the tables. -/
noncomputable def laidWorld (os : Os) : World :=
  { World.holding Tryd.prog os ⟨#[], #[], []⟩ with heap := Array.modify (Array.modify (World.holding Tryd.prog os ⟨#[], #[], []⟩).heap 1 (setCells firstCells)) 2 (setCells rangeCells) }
theorem laid_met2 (os : Os) : laidMet Tryd.prog Rows.parseBracketsRow.laid ((laidWorld os).forCall (fun _ _ => 0) ⟨#[], #[.string .empty, .string .empty], []⟩).memory :=
  laidMet_of_run' 8 (by kernel_rfl) (by kernel_rfl)
theorem laid_met1 (os : Os) : laidMet Tryd.prog Rows.parseBracketsRow.laid ((laidWorld os).forCall (fun _ _ => 0) ⟨#[], #[.string .empty], []⟩).memory :=
  laidMet_of_run' 8 (by kernel_rfl) (by kernel_rfl)
theorem glob {W : World} (h : W.ShapedOpen Tryd.prog) : Glob W.heap.size W := by
  intro x hx
  simp only [Go.Abs.glCells, List.mem_cons, List.not_mem_nil, or_false] at hx
  subst hx
  obtain ⟨m, hm⟩ := cell_of_shapedOpen_int (P := Tryd.prog) (g := 0) (t := 3) (zero := #[.int .i64 0]) (k := .i64) h (of_decide_eq_true (by kernel_rfl)) (by kernel_rfl) rfl (by kernel_rfl) (by kernel_rfl) Tryd.underlying3
  refine ⟨?_, .int .i64 m, hm, m, rfl⟩
  exact Go.Abs.block_lt hm
theorem str_arg {a : Go.Abs.AVal} (h : TyV Tryd.prog 9 a) : ∃ s, a = .str s := by
  obtain ⟨h1, n, h2⟩ := h
  obtain ⟨s, h3, _⟩ := Go.Abs.TyT_str (by kernel_rfl) h2
  exact ⟨s, Go.Abs.lone_cells (h1.trans (by kernel_rfl)) h3⟩
end Go.Proofs.YtngbclnedkmiaaaDoor.parseRows

/- The law of brackets. -/
set_option linter.unusedSimpArgs false
namespace Go.Proofs
open Go Go.Abs

theorem formR_err {s : By} (h : (formR s).2.2 ≠ 0) : (formR s).1 = .agg zF := by
  unfold formR at h ⊢
  split
  split
  · rfl
  · rename_i l at0 e hx he
    rw [hx] at h
    simp only [he, if_false] at h
    split
    · rename_i f l' hf
      rw [hf] at h
      exact absurd rfl h
    · rfl
theorem formR_cs (s : By) : isAggA (formR s).1 = true ∧ (formR s).1.cells.length = 9 ∧ (formR s).1.cells.all AVal.isCell = true ∧ (formR s).1.low 0 := by
  unfold formR
  split
  split
  · exact ⟨rfl, rfl, rfl, zF_low 0⟩
  · split
    · rename_i f _ _
      rw [fo_cells, fo_agg]; exact ⟨rfl, rfl, rfl, fo_low0 f⟩
    · exact ⟨rfl, rfl, rfl, zF_low 0⟩
theorem br_str (s : ByteArray) : (⟨#[40]⟩ : ByteArray) ++ s ++ ⟨#[10, 41]⟩ = ofB (brB (bs s)) := by
  rw [← ofB_bs (_ ++ _)]; congr 1
theorem not_str (s : ByteArray) : (⟨#[126, 40]⟩ : ByteArray) ++ s ++ ⟨#[10, 41]⟩ = ofB (126 :: brB (bs s)) := by
  rw [← ofB_bs (_ ++ _)]; congr 1

theorem ParseBrackets_calls (s : ByteArray) {W : World} {vs : Array Value} (hg : Glob W.heap.size W) (h2 : vs.size = ([.str s] : List AVal).length)
    (h3 : ∀ k, k < ([.str s] : List AVal).length → Rep W noM noB (vs.getD k undef) (([.str s] : List AVal).getD k .undef)) :
    Calls Tryd.prog 3 vs W fun e w' => e = .returned (.bool true) ∧ RowKit.Below W.heap.size W w' := by
  refine calls_true (args := [.str s]) (rs := [.tmp 2]) (m := 89) 1000 Tryd.func3 rfl rfl rfl rfl ?_ hg h2 h3
  clear hg h2 h3
  by_cases h : 1000 < (s.size : Int)
  · simp only [go_sem, Nat.reduceAdd, Nat.reduceSub, Nat.reduceMul, Nat.reduceLeDiff, Nat.reduceEqDiff, Nat.reduceBEq, h]
  have hs : (bs s).length ≤ 1000 := by rw [bs_len]; omega
  have hA := FormS_eq s (by omega)
  by_cases h0 : (formR (bs s)).2.2 = 0
  · obtain ⟨L, f, hL, hf, hR⟩ := formR_ok (by omega) h0
    obtain ⟨b1, b2⟩ := br_law (by omega) hL hf
    have hsz : f.size < 10000000 := by
      have := (formula_fine (unary_fine 50) hf).2
      have := lex_count hL
      simp only [List.length_map, List.length_nil] at *
      omega
    have hB := FormS_eq (ofB (brB (bs s))) (by rw [ofB_size, brB_len]; omega)
    have hN := FormS_eq (ofB (126 :: brB (bs s))) (by rw [ofB_size, List.length_cons, brB_len]; omega)
    rw [bs_ofB] at hB hN
    rw [hR] at hA
    simp only [formT] at hA
    simp only [go_sem, Nat.reduceAdd, Nat.reduceSub, Nat.reduceMul, Nat.reduceLeDiff, Nat.reduceEqDiff, Nat.reduceBEq, h]
    refine VCall.isoT [] hA (pTL_refl _ _ _) ⟨trivial, trivial⟩ ?_
    rw [frzI_nil]
    simp only [ite_self]
    refine EvK.go 1000 ?_
    simp only [go_sem, Nat.reduceAdd, Nat.reduceSub, Nat.reduceMul, Nat.reduceLeDiff, Nat.reduceEqDiff, Nat.reduceBEq, fo_c9, fo_all, fo_take, Fo.cs, fo_cells, fo_agg, Nat.le_refl, br_str]
    have z1 : (⟨#[40]⟩ : ByteArray).size + s.size ≤ 1000000000 := by show 1 + s.size ≤ _; omega
    have z2 : (⟨#[40]⟩ : ByteArray).size + s.size + (⟨#[10, 41]⟩ : ByteArray).size ≤ 1000000000 := by show 1 + s.size + 2 ≤ _; omega
    have z3 : (⟨#[126, 40]⟩ : ByteArray).size + s.size ≤ 1000000000 := by show 2 + s.size ≤ _; omega
    have z4 : (⟨#[126, 40]⟩ : ByteArray).size + s.size + (⟨#[10, 41]⟩ : ByteArray).size ≤ 1000000000 := by show 2 + s.size + 2 ≤ _; omega
    refine ⟨z1, z2, ?_⟩
    have h7 : ¬ (0 : Int) = 7 := by decide
    by_cases hd : (formR (brB (bs s))).2.2 = 7
    · have hv := formR_err (s := brB (bs s)) (by rw [hd]; decide)
      generalize formR (brB (bs s)) = R at *
      obtain ⟨v, q, e⟩ := R
      simp only at hv hd
      subst hv hd
      simp only [formT] at hB
      refine VCall.isoT [] hB (pTL_refl _ _ _) ⟨trivial, trivial⟩ ?_
      rw [frzI_nil]
      simp only [ite_self]
      refine EvK.go 1000 ?_
      simp only [go_sem, Nat.reduceAdd, Nat.reduceSub, Nat.reduceMul, Nat.reduceLeDiff, Nat.reduceEqDiff, Nat.reduceBEq, fo_c9, fo_all, fo_take, Fo.cs, fo_cells, fo_agg, Nat.le_refl, zF, not_str]
      refine ⟨z3, z4, ?_⟩
      obtain ⟨c1, c2, c3, c4⟩ := formR_cs (126 :: brB (bs s))
      generalize formR (126 :: brB (bs s)) = R2 at *
      obtain ⟨v2, q2, e2⟩ := R2
      simp only at c1 c2 c3 c4
      simp only [formT] at hN
      refine VCall.isoT [] hN (pTL_refl _ _ _) ⟨trivial, trivial⟩ ?_
      rw [frzI_nil]
      simp only [ite_self]
      refine EvK.go 1000 ?_
      simp only [go_sem, Nat.reduceAdd, Nat.reduceSub, Nat.reduceMul, Nat.reduceLeDiff, Nat.reduceEqDiff, Nat.reduceBEq, c1, c2, c3, lt09, Nat.le_refl]
      refine VCall.isoT [] AwakeP_eq rfl trivial ?_
      rw [frzI_nil]
      simp only [ite_self]
      refine EvK.go 1000 ?_
      simp only [go_sem, Nat.reduceAdd, Nat.reduceSub, Nat.reduceMul, Nat.reduceLeDiff, Nat.reduceEqDiff, Nat.reduceBEq]
    · rcases b1 with b1 | b1
      · rw [b1] at hB
        simp only [formT] at hB
        refine VCall.isoT [] hB (pTL_refl _ _ _) ⟨trivial, trivial⟩ ?_
        rw [frzI_nil]
        simp only [ite_self]
        refine EvK.go 1000 ?_
        simp only [go_sem, Nat.reduceAdd, Nat.reduceSub, Nat.reduceMul, Nat.reduceLeDiff, Nat.reduceEqDiff, Nat.reduceBEq, fo_c9, fo_all, fo_take, Fo.cs, fo_cells, fo_agg, Nat.le_refl, not_str]
        refine ⟨z3, z4, ?_⟩
        by_cases hd2 : (formR (126 :: brB (bs s))).2.2 = 7
        · obtain ⟨c1, c2, c3, c4⟩ := formR_cs (126 :: brB (bs s))
          generalize formR (126 :: brB (bs s)) = R2 at *
          obtain ⟨v2, q2, e2⟩ := R2
          simp only at c1 c2 c3 c4 hd2
          subst hd2
          simp only [formT] at hN
          refine VCall.isoT [] hN (pTL_refl _ _ _) ⟨trivial, trivial⟩ ?_
          rw [frzI_nil]
          simp only [ite_self]
          refine EvK.go 1000 ?_
          simp only [go_sem, Nat.reduceAdd, Nat.reduceSub, Nat.reduceMul, Nat.reduceLeDiff, Nat.reduceEqDiff, Nat.reduceBEq, c1, c2, c3, lt09, Nat.le_refl, h7]
          refine VCall.isoT [] AwakeP_eq rfl trivial ?_
          rw [frzI_nil]
          simp only [ite_self]
          refine EvK.go 1000 ?_
          simp only [go_sem, Nat.reduceAdd, Nat.reduceSub, Nat.reduceMul, Nat.reduceLeDiff, Nat.reduceEqDiff, Nat.reduceBEq]
        · rcases b2 with b2 | b2
          · rw [b2] at hN
            simp only [formT] at hN
            refine VCall.isoT [] hN (pTL_refl _ _ _) ⟨trivial, trivial⟩ ?_
            rw [frzI_nil]
            simp only [ite_self]
            refine EvK.go 1000 ?_
            simp only [go_sem, Nat.reduceAdd, Nat.reduceSub, Nat.reduceMul, Nat.reduceLeDiff, Nat.reduceEqDiff, Nat.reduceBEq, fo_c9, fo_all, fo_take, Fo.cs, fo_cells, fo_agg, Nat.le_refl, h7]
            refine EvK.draw [] 3 3 mixed rfl rfl (Nat.le_refl _) ?_
            simp only [go_sem, Nat.reduceAdd, Nat.reduceSub, Nat.reduceMul, Nat.reduceLeDiff, Nat.reduceEqDiff, Nat.reduceBEq, padS]
            refine draw_iso AwakeP_eq rfl trivial ?_
            simp only [merge_same]
            simp only [go_sem, Nat.reduceAdd, Nat.reduceSub, Nat.reduceMul, Nat.reduceLeDiff, Nat.reduceEqDiff, Nat.reduceBEq]
            have hsm := Same_eq f hsz
            rw [← fo_eq f]
            refine draw_iso hsm (pTL_refl _ _ _) ⟨fo_low0 _, fo_low0 _, trivial⟩ ?_
            simp only [merge_same]
            have n1 : (notF f).kind = 2 := rfl
            have n2 : (notF f).parts.map Fo.toA = [f.toA] := rfl
            simp only [go_sem, Nat.reduceAdd, Nat.reduceSub, Nat.reduceMul, Nat.reduceLeDiff, Nat.reduceEqDiff, Nat.reduceBEq, n1, n2, one1, lt01, le00, Int.toNat_zero, List.getD_cons_zero, fo_cells, Nat.le_refl]
            rw [← fo_eq f]
            refine draw_iso hsm (pTL_refl _ _ _) ⟨fo_low0 _, fo_low0 _, trivial⟩ ?_
            simp only [merge_same]
            simp only [go_sem, Nat.reduceAdd, Nat.reduceSub, Nat.reduceMul, Nat.reduceLeDiff, Nat.reduceEqDiff, Nat.reduceBEq]
            refine EvK.go 1000 ?_
            simp only [go_sem, Nat.reduceAdd, Nat.reduceSub, Nat.reduceMul, Nat.reduceLeDiff, Nat.reduceEqDiff, Nat.reduceBEq]
          · exact absurd b2 hd2
      · exact absurd b1 hd
  · have hE := formR_err h0
    obtain ⟨p1, p2⟩ := formR_at (bs s) (by omega)
    generalize formR (bs s) = R at *
    obtain ⟨v, p, e⟩ := R
    simp only at hE h0 p1 p2
    subst hE
    simp only [formT] at hA
    rw [bs_len] at p2
    simp only [go_sem, Nat.reduceAdd, Nat.reduceSub, Nat.reduceMul, Nat.reduceLeDiff, Nat.reduceEqDiff, Nat.reduceBEq, h]
    refine VCall.isoT [] hA (pTL_refl _ _ _) ⟨trivial, trivial⟩ ?_
    rw [frzI_nil]
    simp only [ite_self]
    refine EvK.go 1000 ?_
    simp only [go_sem, Nat.reduceAdd, Nat.reduceSub, Nat.reduceMul, Nat.reduceLeDiff, Nat.reduceEqDiff, Nat.reduceBEq, zF, h0, Nat.le_refl]
    refine VCall.isoT [] AwakeP_eq rfl trivial ?_
    rw [frzI_nil]
    simp only [ite_self]
    refine EvK.go 1000 ?_
    simp only [go_sem, Nat.reduceAdd, Nat.reduceSub, Nat.reduceMul, Nat.reduceLeDiff, Nat.reduceEqDiff, Nat.reduceBEq, p1, p2]
end Go.Proofs
