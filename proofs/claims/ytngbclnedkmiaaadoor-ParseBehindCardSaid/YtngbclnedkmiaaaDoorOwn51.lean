/- Part 51 of my own framework and of the walks of functions: Nx, Nw, Oa, Ob. -/
import Derived.Test.YtngbclnedkmiaaaDoorOwn50
import Derived.Test.YtngbclnedkmiaaaDoorRows
import Derived.Test.YtngbclnedkmiaaaDoorCards
import Derived.Test.YtngbclnedkmiaaaDoorTie
import Derived.WalkKit
import Derived.ProofKit
import Derived.OpenShut
import Derived.ShutString
import Derived.Below
import Derived.SizedLaws
import Derived.Deep.DeepHandedRow
import Derived.Lib.LaidTab
import Derived.Shelf.Vars
set_option linter.unusedVariables false
set_option linter.unusedSectionVars false
set_option linter.unusedSimpArgs false

/- What the rows of Parse share: the laid tables, strings and integers as arguments. -/
namespace Go.Proofs.YtngbclnedkmiaaaDoor.parseRows
open Go.Proofs Go.ChangeShapes Go.WideShapes Go.ChangeAt Go.RowKit
open Go.Abs (TyV closedOk args_tree args_below noM noB Glob)

theorem own : ownKnob Tryd.prog.godebug = none := by kernel_rfl
theorem laidOut : laidOutB Tryd.prog = true := by kernel_rfl
theorem closed : closedOk Tryd.prog [9] = true := by kernel_rfl

def firstCells : Array Value := (Go.Pinned.utf8FirstZ.map fun (z : Nat) => Value.int .u8 (z : Int)).toArray
def rangeCells : Array Value := #[.int .u8 128, .int .u8 191, .int .u8 160, .int .u8 191, .int .u8 128, .int .u8 159, .int .u8 144, .int .u8 191, .int .u8 128, .int .u8 143, .int .u8 0, .int .u8 0, .int .u8 0, .int .u8 0, .int .u8 0, .int .u8 0, .int .u8 0, .int .u8 0, .int .u8 0, .int .u8 0, .int .u8 0, .int .u8 0, .int .u8 0, .int .u8 0, .int .u8 0, .int .u8 0, .int .u8 0, .int .u8 0, .int .u8 0, .int .u8 0, .int .u8 0, .int .u8 0]
def setCells (cs : Array Value) : Obj → Obj
  | .cells _ t frozen => .cells cs t frozen
  | o => o
/-- A world that holds the tables. -/
noncomputable def laidWorld (os : Os) : World :=
  { World.holding Tryd.prog os ⟨#[], #[], []⟩ with heap := Array.modify (Array.modify (World.holding Tryd.prog os ⟨#[], #[], []⟩).heap 1 (setCells firstCells)) 2 (setCells rangeCells) }
theorem laid_met2 (os : Os) : laidMet Tryd.prog Rows.parseBracketsRow.laid ((laidWorld os).forCall (fun _ _ => 0) ⟨#[], #[.string .empty, .string .empty], []⟩).memory :=
  laidMet_of_run' 8 (by kernel_rfl) (by kernel_rfl)
theorem laid_met1 (os : Os) : laidMet Tryd.prog Rows.parseBracketsRow.laid ((laidWorld os).forCall (fun _ _ => 0) ⟨#[], #[.string .empty], []⟩).memory :=
  laidMet_of_run' 8 (by kernel_rfl) (by kernel_rfl)
theorem glob {W : World} (h : W.ShapedOpen Tryd.prog) : Glob W.heap.size W := by
  intro x hx
  simp only [Go.Abs.glCells, List.mem_cons, List.not_mem_nil, or_false] at hx
  subst hx
  obtain ⟨m, hm⟩ := cell_of_shapedOpen_int (P := Tryd.prog) (g := 0) (t := 3) (zero := #[.int .i64 0]) (k := .i64) h (of_decide_eq_true (by kernel_rfl)) (by kernel_rfl) rfl (by kernel_rfl) (by kernel_rfl) Tryd.underlying3
  refine ⟨?_, .int .i64 m, hm, m, rfl⟩
  exact Go.Abs.block_lt hm
theorem str_arg {a : Go.Abs.AVal} (h : TyV Tryd.prog 9 a) : ∃ s, a = .str s := by
  obtain ⟨h1, n, h2⟩ := h
  obtain ⟨s, h3, _⟩ := Go.Abs.TyT_str (by kernel_rfl) h2
  exact ⟨s, Go.Abs.lone_cells (h1.trans (by kernel_rfl)) h3⟩
end Go.Proofs.YtngbclnedkmiaaaDoor.parseRows

/- The law of brackets. -/
set_option linter.unusedSimpArgs false
namespace Go.Proofs
open Go Go.Abs

theorem formR_err {s : By} (h : (formR s).2.2 ≠ 0) : (formR s).1 = .agg zF := by
  unfold formR at h ⊢
  split
  split
  · rfl
  · rename_i l at0 e hx he
    rw [hx] at h
    simp only [he, if_false] at h
    split
    · rename_i f l' hf
      rw [hf] at h
      exact absurd rfl h
    · rfl
theorem formR_cs (s : By) : isAggA (formR s).1 = true ∧ (formR s).1.cells.length = 9 ∧ (formR s).1.cells.all AVal.isCell = true ∧ (formR s).1.low 0 := by
  unfold formR
  split
  split
  · exact ⟨rfl, rfl, rfl, zF_low 0⟩
  · split
    · rename_i f _ _
      rw [fo_cells, fo_agg]; exact ⟨rfl, rfl, rfl, fo_low0 f⟩
    · exact ⟨rfl, rfl, rfl, zF_low 0⟩
theorem br_str (s : ByteArray) : (⟨#[40]⟩ : ByteArray) ++ s ++ ⟨#[10, 41]⟩ = ofB (brB (bs s)) := by
  rw [← ofB_bs (_ ++ _)]; congr 1
theorem not_str (s : ByteArray) : (⟨#[126, 40]⟩ : ByteArray) ++ s ++ ⟨#[10, 41]⟩ = ofB (126 :: brB (bs s)) := by
  rw [← ofB_bs (_ ++ _)]; congr 1

theorem ParseBrackets_calls (s : ByteArray) {W : World} {vs : Array Value} (hg : Glob W.heap.size W) (h2 : vs.size = ([.str s] : List AVal).length)
    (h3 : ∀ k, k < ([.str s] : List AVal).length → Rep W noM noB (vs.getD k undef) (([.str s] : List AVal).getD k .undef)) :
    Calls Tryd.prog 3 vs W fun e w' => e = .returned (.bool true) ∧ RowKit.Below W.heap.size W w' := by
  refine calls_true (args := [.str s]) (rs := [.tmp 2]) (m := 89) 1000 Tryd.func3 rfl rfl rfl rfl ?_ hg h2 h3
  clear hg h2 h3
  by_cases h : 1000 < (s.size : Int)
  · simp only [go_sem, Nat.reduceAdd, Nat.reduceSub, Nat.reduceMul, Nat.reduceLeDiff, Nat.reduceEqDiff, Nat.reduceBEq, h]
  have hs : (bs s).length ≤ 1000 := by rw [bs_len]; omega
  have hA := FormS_eq s (by omega)
  by_cases h0 : (formR (bs s)).2.2 = 0
  · obtain ⟨L, f, hL, hf, hR⟩ := formR_ok (by omega) h0
    obtain ⟨b1, b2⟩ := br_law (by omega) hL hf
    have hsz : f.size < 10000000 := by
      have := (formula_fine (unary_fine 50) hf).2
      have := lex_count hL
      simp only [List.length_map, List.length_nil] at *
      omega
    have hB := FormS_eq (ofB (brB (bs s))) (by rw [ofB_size, brB_len]; omega)
    have hN := FormS_eq (ofB (126 :: brB (bs s))) (by rw [ofB_size, List.length_cons, brB_len]; omega)
    rw [bs_ofB] at hB hN
    rw [hR] at hA
    simp only [formT] at hA
    simp only [go_sem, Nat.reduceAdd, Nat.reduceSub, Nat.reduceMul, Nat.reduceLeDiff, Nat.reduceEqDiff, Nat.reduceBEq, h]
    refine VCall.isoT [] hA (pTL_refl _ _ _) ⟨trivial, trivial⟩ ?_
    rw [frzI_nil]
    simp only [ite_self]
    refine EvK.go 1000 ?_
    simp only [go_sem, Nat.reduceAdd, Nat.reduceSub, Nat.reduceMul, Nat.reduceLeDiff, Nat.reduceEqDiff, Nat.reduceBEq, fo_c9, fo_all, fo_take, Fo.cs, fo_cells, fo_agg, Nat.le_refl, br_str]
    have z1 : (⟨#[40]⟩ : ByteArray).size + s.size ≤ 1000000000 := by show 1 + s.size ≤ _; omega
    have z2 : (⟨#[40]⟩ : ByteArray).size + s.size + (⟨#[10, 41]⟩ : ByteArray).size ≤ 1000000000 := by show 1 + s.size + 2 ≤ _; omega
    have z3 : (⟨#[126, 40]⟩ : ByteArray).size + s.size ≤ 1000000000 := by show 2 + s.size ≤ _; omega
    have z4 : (⟨#[126, 40]⟩ : ByteArray).size + s.size + (⟨#[10, 41]⟩ : ByteArray).size ≤ 1000000000 := by show 2 + s.size + 2 ≤ _; omega
    refine ⟨z1, z2, ?_⟩
    have h7 : ¬ (0 : Int) = 7 := by decide
    by_cases hd : (formR (brB (bs s))).2.2 = 7
    · have hv := formR_err (s := brB (bs s)) (by rw [hd]; decide)
      generalize formR (brB (bs s)) = R at *
      obtain ⟨v, q, e⟩ := R
      simp only at hv hd
      subst hv hd
      simp only [formT] at hB
      refine VCall.isoT [] hB (pTL_refl _ _ _) ⟨trivial, trivial⟩ ?_
      rw [frzI_nil]
      simp only [ite_self]
      refine EvK.go 1000 ?_
      simp only [go_sem, Nat.reduceAdd, Nat.reduceSub, Nat.reduceMul, Nat.reduceLeDiff, Nat.reduceEqDiff, Nat.reduceBEq, fo_c9, fo_all, fo_take, Fo.cs, fo_cells, fo_agg, Nat.le_refl, zF, not_str]
      refine ⟨z3, z4, ?_⟩
      obtain ⟨c1, c2, c3, c4⟩ := formR_cs (126 :: brB (bs s))
      generalize formR (126 :: brB (bs s)) = R2 at *
      obtain ⟨v2, q2, e2⟩ := R2
      simp only at c1 c2 c3 c4
      simp only [formT] at hN
      refine VCall.isoT [] hN (pTL_refl _ _ _) ⟨trivial, trivial⟩ ?_
      rw [frzI_nil]
      simp only [ite_self]
      refine EvK.go 1000 ?_
      simp only [go_sem, Nat.reduceAdd, Nat.reduceSub, Nat.reduceMul, Nat.reduceLeDiff, Nat.reduceEqDiff, Nat.reduceBEq, c1, c2, c3, lt09, Nat.le_refl]
      refine VCall.isoT [] AwakeP_eq rfl trivial ?_
      rw [frzI_nil]
      simp only [ite_self]
      refine EvK.go 1000 ?_
      simp only [go_sem, Nat.reduceAdd, Nat.reduceSub, Nat.reduceMul, Nat.reduceLeDiff, Nat.reduceEqDiff, Nat.reduceBEq]
    · rcases b1 with b1 | b1
      · rw [b1] at hB
        simp only [formT] at hB
        refine VCall.isoT [] hB (pTL_refl _ _ _) ⟨trivial, trivial⟩ ?_
        rw [frzI_nil]
        simp only [ite_self]
        refine EvK.go 1000 ?_
        simp only [go_sem, Nat.reduceAdd, Nat.reduceSub, Nat.reduceMul, Nat.reduceLeDiff, Nat.reduceEqDiff, Nat.reduceBEq, fo_c9, fo_all, fo_take, Fo.cs, fo_cells, fo_agg, Nat.le_refl, not_str]
        refine ⟨z3, z4, ?_⟩
        by_cases hd2 : (formR (126 :: brB (bs s))).2.2 = 7
        · obtain ⟨c1, c2, c3, c4⟩ := formR_cs (126 :: brB (bs s))
          generalize formR (126 :: brB (bs s)) = R2 at *
          obtain ⟨v2, q2, e2⟩ := R2
          simp only at c1 c2 c3 c4 hd2
          subst hd2
          simp only [formT] at hN
          refine VCall.isoT [] hN (pTL_refl _ _ _) ⟨trivial, trivial⟩ ?_
          rw [frzI_nil]
          simp only [ite_self]
          refine EvK.go 1000 ?_
          simp only [go_sem, Nat.reduceAdd, Nat.reduceSub, Nat.reduceMul, Nat.reduceLeDiff, Nat.reduceEqDiff, Nat.reduceBEq, c1, c2, c3, lt09, Nat.le_refl, h7]
          refine VCall.isoT [] AwakeP_eq rfl trivial ?_
          rw [frzI_nil]
          simp only [ite_self]
          refine EvK.go 1000 ?_
          simp only [go_sem, Nat.reduceAdd, Nat.reduceSub, Nat.reduceMul, Nat.reduceLeDiff, Nat.reduceEqDiff, Nat.reduceBEq]
        · rcases b2 with b2 | b2
          · rw [b2] at hN
            simp only [formT] at hN
            refine VCall.isoT [] hN (pTL_refl _ _ _) ⟨trivial, trivial⟩ ?_
            rw [frzI_nil]
            simp only [ite_self]
            refine EvK.go 1000 ?_
            simp only [go_sem, Nat.reduceAdd, Nat.reduceSub, Nat.reduceMul, Nat.reduceLeDiff, Nat.reduceEqDiff, Nat.reduceBEq, fo_c9, fo_all, fo_take, Fo.cs, fo_cells, fo_agg, Nat.le_refl, h7]
            refine EvK.draw [] 3 3 mixed rfl rfl (Nat.le_refl _) ?_
            simp only [go_sem, Nat.reduceAdd, Nat.reduceSub, Nat.reduceMul, Nat.reduceLeDiff, Nat.reduceEqDiff, Nat.reduceBEq, padS]
            refine draw_iso AwakeP_eq rfl trivial ?_
            simp only [merge_same]
            simp only [go_sem, Nat.reduceAdd, Nat.reduceSub, Nat.reduceMul, Nat.reduceLeDiff, Nat.reduceEqDiff, Nat.reduceBEq]
            have hsm := Same_eq f hsz
            rw [← fo_eq f]
            refine draw_iso hsm (pTL_refl _ _ _) ⟨fo_low0 _, fo_low0 _, trivial⟩ ?_
            simp only [merge_same]
            have n1 : (notF f).kind = 2 := rfl
            have n2 : (notF f).parts.map Fo.toA = [f.toA] := rfl
            simp only [go_sem, Nat.reduceAdd, Nat.reduceSub, Nat.reduceMul, Nat.reduceLeDiff, Nat.reduceEqDiff, Nat.reduceBEq, n1, n2, one1, lt01, le00, Int.toNat_zero, List.getD_cons_zero, fo_cells, Nat.le_refl]
            rw [← fo_eq f]
            refine draw_iso hsm (pTL_refl _ _ _) ⟨fo_low0 _, fo_low0 _, trivial⟩ ?_
            simp only [merge_same]
            simp only [go_sem, Nat.reduceAdd, Nat.reduceSub, Nat.reduceMul, Nat.reduceLeDiff, Nat.reduceEqDiff, Nat.reduceBEq]
            refine EvK.go 1000 ?_
            simp only [go_sem, Nat.reduceAdd, Nat.reduceSub, Nat.reduceMul, Nat.reduceLeDiff, Nat.reduceEqDiff, Nat.reduceBEq]
          · exact absurd b2 hd2
      · exact absurd b1 hd
  · have hE := formR_err h0
    obtain ⟨p1, p2⟩ := formR_at (bs s) (by omega)
    generalize formR (bs s) = R at *
    obtain ⟨v, p, e⟩ := R
    simp only at hE h0 p1 p2
    subst hE
    simp only [formT] at hA
    rw [bs_len] at p2
    simp only [go_sem, Nat.reduceAdd, Nat.reduceSub, Nat.reduceMul, Nat.reduceLeDiff, Nat.reduceEqDiff, Nat.reduceBEq, h]
    refine VCall.isoT [] hA (pTL_refl _ _ _) ⟨trivial, trivial⟩ ?_
    rw [frzI_nil]
    simp only [ite_self]
    refine EvK.go 1000 ?_
    simp only [go_sem, Nat.reduceAdd, Nat.reduceSub, Nat.reduceMul, Nat.reduceLeDiff, Nat.reduceEqDiff, Nat.reduceBEq, zF, h0, Nat.le_refl]
    refine VCall.isoT [] AwakeP_eq rfl trivial ?_
    rw [frzI_nil]
    simp only [ite_self]
    refine EvK.go 1000 ?_
    simp only [go_sem, Nat.reduceAdd, Nat.reduceSub, Nat.reduceMul, Nat.reduceLeDiff, Nat.reduceEqDiff, Nat.reduceBEq, p1, p2]
end Go.Proofs

/- Inputs of two texts, one behind the other. -/
set_option linter.unusedSimpArgs false
namespace Go.Proofs
open Go Go.Abs

section
variable {E E' : Int} {g : Tok → Tok} (hg : ∀ t, (g t).kind = t.kind ∧ (g t).text = t.text) {X : List Tok}
include hg
theorem sign_ap {sg : By} {l l' : List Tok} {x : Unit} (h : signP E sg l = .ok (x, l')) : signP E' sg (ap g X l) = .ok (x, ap g X l') := by
  obtain ⟨h1, rfl⟩ := sign_ok h
  rw [signP, is_app hg (is_ne h1), if_pos h1, tail_app (is_ne h1)]
theorem name_ap {k : Int} {l l' : List Tok} {x : By} (h : nameP E k l = .ok (x, l')) : nameP E' k (ap g X l) = .ok (x, ap g X l') := by
  obtain ⟨h1, h2, rfl, rfl⟩ := name_ok h
  rw [nameP, kind_app hg h2, text_app hg h2, tail_app h2, if_pos ⟨h1, ap_ne h2⟩]
theorem formula_ap {l l' : List Tok} {f : Fo} (h : formulaP (unaryP E 50) l = .ok (f, l')) (hl : l' ≠ []) : formulaP (unaryP E' 50) (ap g X l) = .ok (f, ap g X l') := by
  obtain ⟨_, h2⟩ := up_formula (b := False) (X := X) (u' := unaryP E' 50) hg (fun l => up_unary (b := False) (X := X) (E := E) (E' := E') hg 50 50 (Nat.le_refl _) (fun h => absurd h (by omega)) l) l f l' h
  rcases h2 (.inl hl) with h3 | ⟨h3, _⟩
  · exact h3
  · exact h3.elim
theorem input_ap {l l' : List Tok} {x : InP} (h : inputP E l = .ok (x, l')) : inputP E' (ap g X l) = .ok (x, ap g X l') := by
  unfold inputP at h
  split at h
  · rename_i c
    have hl : l ≠ [] := by
      rintro rfl
      exact absurd c.1 (by decide)
    obtain ⟨_, l1, h1, h⟩ := bind_inv h
    obtain ⟨nm, l2, h2, h⟩ := bind_inv h
    obtain ⟨_, l3, h3, h⟩ := bind_inv h
    obtain ⟨ro, l4, h4, h⟩ := bind_inv h
    obtain ⟨_, l5, h5, h⟩ := bind_inv h
    obtain ⟨f, l6, h6, h⟩ := bind_inv h
    unfold closeP at h
    obtain ⟨_, l7, h7, h⟩ := bind_inv h
    obtain ⟨_, l8, h8, h⟩ := bind_inv h
    unfold inputP closeP
    rw [kind_app hg hl, text_app hg hl, if_pos c, tail_app hl, sign_ap (E' := E') hg h1]
    simp only [PR.bind]
    rw [name_ap (E' := E') hg h2]
    simp only
    rw [sign_ap (E' := E') hg h3]
    simp only
    rw [name_ap (E' := E') hg h4]
    simp only
    rw [sign_ap (E' := E') hg h5]
    simp only
    rw [formula_ap (E' := E') hg h6 (is_ne (sign_ok h7).1)]
    simp only
    rw [sign_ap (E' := E') hg h7]
    simp only
    rw [sign_ap (E' := E') hg h8]
    simp only
    split at h
    · rename_i c1
      rw [if_pos c1]
      split at h
      · rename_i c2; cases h; rw [if_pos c2]
      · cases h
    · rename_i c1
      rw [if_neg c1]
      split at h
      · rename_i c2; cases h; rw [if_pos c2]
      · cases h
  · cases h

theorem inputs_ap : ∀ (k : Nat) (acc : List InP) (l : List Tok) (xs : List InP), l.length ≤ k → inputsP E k acc l = .ok xs → ∀ k', (ap g X l).length ≤ k' → ∃ k2, X.length ≤ k2 ∧ inputsP E' k' acc (ap g X l) = inputsP E' k2 xs X
  | 0, acc, l, xs, hk, h, k', hk' => by
    obtain rfl := List.length_eq_zero_iff.1 (Nat.le_zero.1 hk)
    cases h
    exact ⟨k', by simpa [ap] using hk', rfl⟩
  | k + 1, acc, l, xs, hk, h, k', hk' => by
    unfold inputsP at h
    split at h
    · rename_i hl
      subst hl
      cases h
      exact ⟨k', by simpa [ap] using hk', rfl⟩
    · rename_i hl
      split at h
      · cases h
      · rename_i h5
        split at h
        · rename_i x l' hx
          have hlen := input_len hx
          obtain ⟨k2, rfl⟩ : ∃ k2, k' = k2 + 1 := by
            refine ⟨k' - 1, ?_⟩
            rw [ap_len] at hk'
            have : l.length ≠ 0 := fun e => hl (List.length_eq_zero_iff.1 e)
            omega
          obtain ⟨k3, h6, h7⟩ := inputs_ap k _ _ _ (by omega) h k2 (by rw [ap_len] at hk' ⊢; omega)
          refine ⟨k3, h6, ?_⟩
          rw [← h7, inputsP, if_neg (ap_ne hl), if_neg h5, input_ap (E' := E') hg hx]
        · cases h
end

theorem inputs_pre {E : Int} : ∀ (k : Nat) (acc : List InP) (l : List Tok) (xs : List InP), inputsP E k acc l = .ok xs → ∃ ys, xs = acc ++ ys ∧ 5 * ys.length ≤ l.length ∧ ∀ p : List InP, p.length + xs.length ≤ 500 → inputsP E k (p ++ acc) l = .ok (p ++ xs)
  | 0, acc, l, xs, h => by
    cases h
    exact ⟨[], by simp, by simp, fun p hp => rfl⟩
  | k + 1, acc, l, xs, h => by
    unfold inputsP at h
    split at h
    · rename_i hl
      subst hl
      cases h
      exact ⟨[], by simp, by simp, fun p hp => by rw [inputsP, if_pos rfl]⟩
    · rename_i hl
      split at h
      · cases h
      · rename_i h5
        split at h
        · rename_i x l' hx
          have hlen := input_len hx
          obtain ⟨ys, h1, h2, h3⟩ := inputs_pre k _ _ _ h
          refine ⟨x :: ys, by rw [h1]; simp, by simp only [List.length_cons]; omega, fun p hp => ?_⟩
          rw [inputsP, if_neg hl, if_neg (by rw [List.length_append]; rw [h1, List.length_append, List.length_append, List.length_singleton] at hp; omega), hx]
          simp only
          rw [List.append_assoc]
          exact h3 p hp
        · cases h

/-- What an input that is not a clause says of its variables. -/
def FineI (x : InP) : Prop := x.form.size < 10000000 ∧ (x.cls = false → x.form.free = [])
theorem input_fine {E : Int} {l l' : List Tok} {x : InP} (hl : l.length ≤ 100000) (h : inputP E l = .ok (x, l')) : FineI x := by
  unfold inputP at h
  split at h
  · obtain ⟨_, l1, h1, h⟩ := bind_inv h
    obtain ⟨nm, l2, h2, h⟩ := bind_inv h
    obtain ⟨_, l3, h3, h⟩ := bind_inv h
    obtain ⟨ro, l4, h4, h⟩ := bind_inv h
    obtain ⟨_, l5, h5, h⟩ := bind_inv h
    obtain ⟨f, l6, h6, h⟩ := bind_inv h
    have e0 := tail_len l
    have e1 := tail_of_sign h1
    have e2 := tail_of_name h2
    have e3 := tail_of_sign h3
    have e4 := tail_of_name h4
    have e5 := tail_of_sign h5
    have e6 := (formula_fine (unary_fine 50) h6).2
    have hsz : f.size < 10000000 := by omega
    unfold closeP at h
    obtain ⟨_, l7, h7, h⟩ := bind_inv h
    obtain ⟨_, l8, h8, h⟩ := bind_inv h
    split at h
    · split at h
      · cases h; exact ⟨hsz, fun h => by cases h⟩
      · cases h
    · split at h
      · rename_i c; cases h; exact ⟨hsz, fun _ => c⟩
      · cases h
  · cases h
theorem inputs_fine {E : Int} : ∀ (k : Nat) (acc : List InP) (l : List Tok) (xs : List InP), l.length ≤ 100000 → inputsP E k acc l = .ok xs → (∀ x ∈ acc, FineI x) → ∀ x ∈ xs, FineI x
  | 0, acc, l, xs, _, h, ha => by cases h; exact ha
  | k + 1, acc, l, xs, hl, h, ha => by
    unfold inputsP at h
    split at h
    · cases h; exact ha
    · split at h
      · cases h
      · split at h
        · rename_i x l' hx
          have hlen := input_len hx
          refine inputs_fine k _ _ _ (by omega) h fun y hy => ?_
          rcases List.mem_append.1 hy with hy | hy
          · exact ha y hy
          · rw [List.mem_singleton.1 hy]; exact input_fine hl hx
        · cases h

theorem textR_ok {s : By} (hs : s.length ≤ 65536) (h : (textR s).2.2 = 0) : ∃ L xs, lex s = some L ∧ inputsP s.length L.length [] (L.map (tokAt s.length)) = .ok xs ∧ textR s = (xs, (s.length : Int), 0) := by
  cases hL : lex s with
  | none =>
    obtain ⟨p, e, he, _, _, h3⟩ := allB_none hs hL
    rw [textR, h3] at h
    simp only [he, ne_eq, not_false_eq_true, if_true] at h
  | some L =>
    have hA := allB_some hs hL
    obtain ⟨_, h2⟩ := all_facts hs
    rw [hA] at h2
    have hs2 := sane_inputs (Q := inT s.length) (E := s.length) ⟨by omega, Int.le_refl _⟩ (L.map (tokAt s.length)).length [] _ h2
    rw [textR, hA] at h ⊢
    simp only [ne_eq, not_true_eq_false, if_false] at h ⊢
    cases hP : inputsP s.length (L.map (tokAt s.length)).length [] (L.map (tokAt s.length)) with
    | ok xs => exact ⟨L, xs, rfl, by rw [List.length_map] at hP; exact hP, rfl⟩
    | error e =>
      rw [hP] at h
      exact absurd h (hs2 e hP).1
theorem textR_err {s : By} (h : (textR s).2.2 ≠ 0) : (textR s).1 = [] := by
  unfold textR at h ⊢
  split
  split
  · rfl
  · rename_i l at0 e hx he
    rw [hx] at h
    simp only [he, if_false] at h
    split
    · rename_i xs hf
      rw [hf] at h
      exact absurd rfl h
    · rfl

theorem behind_law {s t : By} (hs : s.length ≤ 1000) (ht : t.length ≤ 1000) {L M : List (Nat × Int × By)} {xs ys : List InP} (h : lex s = some L) (hx : inputsP s.length L.length [] (L.map (tokAt s.length)) = .ok xs)
    (h' : lex t = some M) (hy : inputsP t.length M.length [] (M.map (tokAt t.length)) = .ok ys) :
    textR (s ++ 10 :: t) = (xs ++ ys, ((s.length + 1 + t.length : Nat) : Int), 0) := by
  have hlen : (s ++ 10 :: t).length = s.length + 1 + t.length := by simp only [List.length_append, List.length_cons]; omega
  have hL2 : lex (s ++ 10 :: t) = some (L.map (fun a => (a.1 + (t.length + 1), a.2)) ++ M) := by
    rw [lex_app _ s L (Nat.le_refl _) h, h']; rfl
  have hM0 : M = M.map (fun a => (a.1 + 0, a.2)) := by simp
  have hA : allB (s ++ 10 :: t) = (ap (gAt 0) (ap (gAt (s.length + 1)) [] (M.map (tokAt t.length))) (L.map (tokAt s.length)), ((s ++ 10 :: t).length : Int), 0) := by
    rw [allB_some (by omega) hL2, List.map_append, tok_shift (m := s.length) (c := 0) (by omega)]
    rw [hM0, tok_shift (K := 0) (m := t.length) (c := s.length + 1) (by omega), ← hM0]
    simp only [ap, List.append_nil]
  have cL := lex_count h
  have cM := lex_count h'
  obtain ⟨xs', e1, e2, _⟩ := inputs_pre _ _ _ _ hx
  obtain ⟨ys', e3, e4, _⟩ := inputs_pre _ _ _ _ hy
  rw [List.nil_append] at e1 e3
  subst e1 e3
  rw [List.length_map] at e2 e4
  have q1 := inputs_ap (E' := (s ++ 10 :: t).length) (X := ap (gAt (s.length + 1)) [] (M.map (tokAt t.length))) (gAt_ok 0) _ _ _ _ (by rw [List.length_map]; exact Nat.le_refl _) hx _ (Nat.le_refl _)
  obtain ⟨k2, q2, q3⟩ := q1
  have q4 := inputs_ap (E' := (s ++ 10 :: t).length) (X := []) (gAt_ok (s.length + 1)) _ _ _ _ (by rw [List.length_map]; exact Nat.le_refl _) hy k2 q2
  obtain ⟨k3, q5, q6⟩ := q4
  have q7 : inputsP (s ++ 10 :: t).length k2 [] (ap (gAt (s.length + 1)) [] (M.map (tokAt t.length))) = .ok ys := by
    rw [q6]; cases k3 <;> rfl
  obtain ⟨_, _, _, q8⟩ := inputs_pre _ _ _ _ q7
  have q9 := q8 xs (by omega)
  rw [List.append_nil] at q9
  rw [textR, hA]
  simp only [ne_eq, not_true_eq_false, if_false]
  rw [q3, q9]
  simp only [hlen]
end Go.Proofs

/- The document's comparing of inputs, and the law of two texts. -/
set_option linter.unusedSimpArgs false
namespace Go.Proofs
open Go Go.Abs

theorem ins_get {l : List InP} {i : Nat} (h : i < l.length) : (ins l).getD i .undef = l[i].toA := map_getD h
theorem Inputs_same (l : List InP) (hl : l.length < 2 ^ 62) (hf : ∀ x ∈ l, x.form.size < 10000000) : CallEq Tryd.prog 11 [.ps 12 (ins l), .ps 12 (ins l)] (.bool true) := by
  refine CallEq.begin (rs := [.tmp 4]) (m := 66) 1000 Tryd.func11 rfl rfl rfl (by decide) trivial ?_
  simp only [go_sem, Nat.reduceAdd, Nat.reduceSub, Nat.reduceMul, Nat.reduceLeDiff, Nat.reduceEqDiff, Nat.reduceBEq, ins_len]
  refine EvK.loopI (ι := {i : Nat // i ≤ l.length}) 1000 (fun i => mkT 68 [(0, .ps 12 (ins l)), (1, .ps 12 (ins l)), (4, .bool false), (5, .int .i64 i.1)]) (fun _ => []) (fun i => l.length - i.1) ⟨0, Nat.zero_le _⟩ ?_ (fun _ => Nat.zero_le _) ?_
  · simp only [go_sem, Nat.reduceAdd, Nat.reduceSub, Nat.reduceMul, Nat.reduceLeDiff, Nat.reduceEqDiff, Nat.reduceBEq, ins_low, ins_len, Int.natCast_zero]
  · rintro ⟨i, hi⟩
    by_cases hlt : (i : Int) < l.length
    · have hlt' : i < l.length := by omega
      simp only [go_sem, Nat.reduceAdd, Nat.reduceSub, Nat.reduceMul, Nat.reduceLeDiff, Nat.reduceEqDiff, Nat.reduceBEq, hlt, ins_len]
      refine EvK.draw [] 0 0 mixed rfl rfl (Nat.le_refl _) ?_
      simp only [go_sem, Nat.reduceAdd, Nat.reduceSub, Nat.reduceMul, Nat.reduceLeDiff, Nat.reduceEqDiff, Nat.reduceBEq, hlt, ins_len, Int.toNat_natCast, ins_get hlt', in_cs]
      refine ⟨by omega, by omega, by omega, by omega, by omega, by omega, by omega, by omega, ?_⟩
      rw [← fo_eq l[i].form]
      refine draw_iso (Same_eq l[i].form (hf _ (List.getElem_mem hlt'))) (pTL_refl _ _ _) ⟨fo_low0 _, fo_low0 _, trivial⟩ ?_
      simp only [go_sem, Nat.reduceAdd, Nat.reduceSub, Nat.reduceMul, Nat.reduceLeDiff, Nat.reduceEqDiff, Nat.reduceBEq]
      refine EvK.go 1000 ?_
      simp only [go_sem, Nat.reduceAdd, Nat.reduceSub, Nat.reduceMul, Nat.reduceLeDiff, Nat.reduceEqDiff, Nat.reduceBEq]
      refine ⟨⟨i + 1, hlt'⟩, ?_, by simp only; omega⟩
      simp only [go_sem, Nat.reduceAdd, Nat.reduceSub, Nat.reduceMul, Nat.reduceLeDiff, Nat.reduceEqDiff, Nat.reduceBEq, ins_low]
      rw [i64_id (by omega)]; rfl
    · simp only [go_sem, Nat.reduceAdd, Nat.reduceSub, Nat.reduceMul, Nat.reduceLeDiff, Nat.reduceEqDiff, Nat.reduceBEq, hlt, ins_len]
      refine EvK.go 1000 ?_
      simp only [go_sem, Nat.reduceAdd, Nat.reduceSub, Nat.reduceMul, Nat.reduceLeDiff, Nat.reduceEqDiff, Nat.reduceBEq]

theorem behind_str (s t : ByteArray) : s ++ (⟨#[10]⟩ : ByteArray) ++ t = ofB (bs s ++ 10 :: bs t) := by
  rw [← ofB_bs (_ ++ _)]; congr 1; simp [bs]

theorem ok_ins (l : List InP) : appOk ⟨12, true, 192, [.str ⟨#[]⟩, .str ⟨#[]⟩, .bool false, .int .i64 0, .bool false, .str ⟨#[]⟩, .nils, .bool false, .str ⟨#[]⟩, .nils, .nils, .nils], .struct⟩ (ins l) = True :=
  eq_true ⟨fun y hy => by
    obtain ⟨x, _, rfl⟩ := List.mem_map.1 hy
    rw [in_cs]; exact ⟨rfl, rfl⟩, by decide, by decide, rfl⟩
theorem n00 : ((0 : Int) < ((0 : Nat) : Int)) = False := eq_false (by decide)
set_option maxRecDepth 10000 in
set_option maxHeartbeats 3200000 in
theorem ParseBehind_calls (s t : ByteArray) {W : World} {vs : Array Value} (hg : Glob W.heap.size W) (h2 : vs.size = ([.str s, .str t] : List AVal).length)
    (h3 : ∀ k, k < ([.str s, .str t] : List AVal).length → Rep W noM noB (vs.getD k undef) (([.str s, .str t] : List AVal).getD k .undef)) :
    Calls Tryd.prog 4 vs W fun e w' => e = .returned (.bool true) ∧ RowKit.Below W.heap.size W w' := by
  refine calls_true (args := [.str s, .str t]) (rs := [.tmp 4]) (m := 107) 1000 Tryd.func4 rfl rfl rfl rfl ?_ hg h2 h3
  clear hg h2 h3
  by_cases h : 1000 < (s.size : Int)
  · simp only [go_sem, Nat.reduceAdd, Nat.reduceSub, Nat.reduceMul, Nat.reduceLeDiff, Nat.reduceEqDiff, Nat.reduceBEq, h]
  by_cases h' : 1000 < (t.size : Int)
  · simp only [go_sem, Nat.reduceAdd, Nat.reduceSub, Nat.reduceMul, Nat.reduceLeDiff, Nat.reduceEqDiff, Nat.reduceBEq, h, h']
  have hs : (bs s).length ≤ 1000 := by rw [bs_len]; omega
  have ht : (bs t).length ≤ 1000 := by rw [bs_len]; omega
  have hA := TextS_eq s (by omega)
  have hB := TextS_eq t (by omega)
  by_cases h0 : (textR (bs s)).2.2 = 0
  · by_cases h0' : (textR (bs t)).2.2 = 0
    · obtain ⟨L, xs, hL, hx, hR⟩ := textR_ok (by omega) h0
      obtain ⟨M, ys, hM, hy, hR'⟩ := textR_ok (by omega) h0'
      have hC := TextS_eq (ofB (bs s ++ 10 :: bs t)) (by rw [ofB_size]; simp only [List.length_append, List.length_cons]; omega)
      have hlaw := behind_law hs ht hL hx hM hy
      have cL := lex_count hL
      have cM := lex_count hM
      have fx := inputs_fine _ _ _ _ (by rw [List.length_map]; omega) hx (fun x hx => by cases hx)
      have fy := inputs_fine _ _ _ _ (by rw [List.length_map]; omega) hy (fun x hx => by cases hx)
      obtain ⟨xs', e1, e2, _⟩ := inputs_pre _ _ _ _ hx
      obtain ⟨ys', e3, e4, _⟩ := inputs_pre _ _ _ _ hy
      rw [List.nil_append] at e1 e3
      subst e1 e3
      rw [List.length_map] at e2 e4
      rw [bs_ofB, hlaw] at hC
      rw [hR] at hA
      rw [hR'] at hB
      simp only [textT] at hA hB hC
      rw [show ((((bs s).length + 1 + (bs t).length : Nat) : Int)) = (s.size : Int) + 1 + (t.size : Int) from by rw [bs_len, bs_len]; omega] at hC
      simp only [go_sem, Nat.reduceAdd, Nat.reduceSub, Nat.reduceMul, Nat.reduceLeDiff, Nat.reduceEqDiff, Nat.reduceBEq, h, h']
      refine VCall.isoT [] hA (pTL_refl _ _ _) ⟨trivial, trivial⟩ ?_
      rw [frzI_nil]
      simp only [ite_self]
      refine EvK.go 1000 ?_
      simp only [go_sem, Nat.reduceAdd, Nat.reduceSub, Nat.reduceMul, Nat.reduceLeDiff, Nat.reduceEqDiff, Nat.reduceBEq]
      refine VCall.isoT [] hB (pTL_refl _ _ _) ⟨trivial, trivial⟩ ?_
      rw [frzI_nil]
      simp only [ite_self]
      refine EvK.go 1000 ?_
      simp only [go_sem, Nat.reduceAdd, Nat.reduceSub, Nat.reduceMul, Nat.reduceLeDiff, Nat.reduceEqDiff, Nat.reduceBEq]
      refine EvK.loopI (ι := {i : Nat // i ≤ xs.length}) 1000 (fun i => mkT 109 [(0, .str s), (1, .str t), (4, .bool false), (5, .ps 12 (ins xs)), (8, .ps 12 (ins ys)), (11, .int .i64 i.1)])
        (fun _ => []) (fun i => xs.length - i.1) ⟨0, Nat.zero_le _⟩ ?_ (fun _ => Nat.zero_le _) ?_
      · simp only [go_sem, Nat.reduceAdd, Nat.reduceSub, Nat.reduceMul, Nat.reduceLeDiff, Nat.reduceEqDiff, Nat.reduceBEq, ins_low, ins_len, Int.natCast_zero]
      · rintro ⟨i, hi⟩
        by_cases hlt : (i : Int) < xs.length
        · have hlt' : i < xs.length := by omega
          obtain ⟨k1, k2⟩ := fx _ (List.getElem_mem hlt')
          have hF := Free_eq xs[i].form k1
          cases hcl : xs[i].cls with
          | true =>
            simp only [go_sem, Nat.reduceAdd, Nat.reduceSub, Nat.reduceMul, Nat.reduceLeDiff, Nat.reduceEqDiff, Nat.reduceBEq, hlt, ins_len, Int.toNat_natCast, ins_get hlt', in_cs, hcl]
            refine ⟨by omega, ?_⟩
            refine ⟨⟨i + 1, hlt'⟩, ?_, by simp only; omega⟩
            simp only [go_sem, Nat.reduceAdd, Nat.reduceSub, Nat.reduceMul, Nat.reduceLeDiff, Nat.reduceEqDiff, Nat.reduceBEq, ins_low]
            rw [i64_id (by omega)]; rfl
          | false =>
            rw [k2 hcl] at hF
            simp only [go_sem, Nat.reduceAdd, Nat.reduceSub, Nat.reduceMul, Nat.reduceLeDiff, Nat.reduceEqDiff, Nat.reduceBEq, hlt, ins_len, Int.toNat_natCast, ins_get hlt', in_cs, hcl]
            refine ⟨by omega, by omega, ?_⟩
            rw [← fo_eq xs[i].form]
            refine VCall.isoT [] hF (pTL_refl _ _ _) ⟨fo_low0 _, trivial⟩ ?_
            rw [frzI_nil]
            simp only [ite_self]
            refine EvK.go 1000 ?_
            simp only [go_sem, Nat.reduceAdd, Nat.reduceSub, Nat.reduceMul, Nat.reduceLeDiff, Nat.reduceEqDiff, Nat.reduceBEq, strs_len, List.length_nil, n00]
            refine ⟨⟨i + 1, hlt'⟩, ?_, by simp only; omega⟩
            simp only [go_sem, Nat.reduceAdd, Nat.reduceSub, Nat.reduceMul, Nat.reduceLeDiff, Nat.reduceEqDiff, Nat.reduceBEq, ins_low]
            rw [i64_id (by omega)]; rfl
        · simp only [go_sem, Nat.reduceAdd, Nat.reduceSub, Nat.reduceMul, Nat.reduceLeDiff, Nat.reduceEqDiff, Nat.reduceBEq, hlt, ins_len]
          refine EvK.go 1000 ?_
          simp only [go_sem, Nat.reduceAdd, Nat.reduceSub, Nat.reduceMul, Nat.reduceLeDiff, Nat.reduceEqDiff, Nat.reduceBEq, behind_str]
          refine ⟨(by simp only [List.size_toArray, List.length_cons, List.length_nil]; omega), (by simp only [List.size_toArray, List.length_cons, List.length_nil]; omega), ?_⟩
          refine VCall.isoT [] hC (pTL_refl _ _ _) ⟨trivial, trivial⟩ ?_
          rw [frzI_nil]
          simp only [ite_self]
          refine EvK.go 1000 ?_
          have hap : ins xs ++ ins ys = ins (xs ++ ys) := by simp [ins]
          have hsz : ∀ x ∈ xs ++ ys, x.form.size < 10000000 := fun x hx => by
            rcases List.mem_append.1 hx with hx | hx
            · exact (fx x hx).1
            · exact (fy x hx).1
          have hI := Inputs_same (xs ++ ys) (by rw [List.length_append]; omega) hsz
          have w1 : IntKind.i64.wrap ((s.size : Int) + 1) = (s.size : Int) + 1 := i64_id (by omega)
          have w2 : IntKind.i64.wrap ((s.size : Int) + 1 + (t.size : Int)) = (s.size : Int) + 1 + (t.size : Int) := i64_id (by omega)
          by_cases cx : xs = []
          · subst cx
            simp only [go_sem, Nat.reduceAdd, Nat.reduceSub, Nat.reduceMul, Nat.reduceLeDiff, Nat.reduceEqDiff, Nat.reduceBEq, ok_ins, ins_len, List.length_nil]
            by_cases cy : ys = []
            · subst cy
              simp only [go_sem, Nat.reduceAdd, Nat.reduceSub, Nat.reduceMul, Nat.reduceLeDiff, Nat.reduceEqDiff, Nat.reduceBEq, ok_ins, ins_len, List.length_nil]
              refine VCall.isoT [] AwakeP_eq rfl trivial ?_
              rw [frzI_nil]
              simp only [ite_self]
              refine EvK.go 1000 ?_
              simp only [go_sem, Nat.reduceAdd, Nat.reduceSub, Nat.reduceMul, Nat.reduceLeDiff, Nat.reduceEqDiff, Nat.reduceBEq, w1, w2]
              refine VCall.isoT [] hI ⟨pT_refl _ _ _, rfl, rfl⟩ ⟨ins_low _, ins_low _, trivial⟩ ?_
              refine EvK.go 1000 ?_
              simp only [go_sem, Nat.reduceAdd, Nat.reduceSub, Nat.reduceMul, Nat.reduceLeDiff, Nat.reduceEqDiff, Nat.reduceBEq]
            · have ly : ¬ ys.length = 0 := fun e => cy (List.length_eq_zero_iff.1 e)
              have pI : pT (among [0]) [some (.row (ins ys) 0)] (.ps 12 (ins ys)) (.os 0 0 ys.length 12) := by
                have hne : ins ys ≠ [] := fun e => ly (by rw [← ins_len, e]; rfl)
                have := of_eq_true (pT_slA (F := among [0]) (σ := [some (.row (ins ys) 0)]) (b := 0) (sz := 12) (l := ins ys) rfl (slB_ne hne).symm)
                rw [slA_ne hne, ins_len] at this
                exact this
              simp only [go_sem, Nat.reduceAdd, Nat.reduceSub, Nat.reduceMul, Nat.reduceLeDiff, Nat.reduceEqDiff, Nat.reduceBEq, ok_ins, ins_len, ly]
              refine ⟨by omega, ?_⟩
              refine VCall.isoT [] AwakeP_eq rfl trivial ?_
              rw [frzI_nil]
              simp only [ite_self]
              refine EvK.go 1000 ?_
              simp only [go_sem, Nat.reduceAdd, Nat.reduceSub, Nat.reduceMul, Nat.reduceLeDiff, Nat.reduceEqDiff, Nat.reduceBEq, w1, w2]
              refine VCall.isoT [0] hI ⟨pT_refl _ _ _, pI, rfl⟩ ⟨ins_low _, ins_low _, trivial⟩ ?_
              refine EvK.go 1000 ?_
              simp only [go_sem, Nat.reduceAdd, Nat.reduceSub, Nat.reduceMul, Nat.reduceLeDiff, Nat.reduceEqDiff, Nat.reduceBEq]
          · have lx : ¬ xs.length = 0 := fun e => cx (List.length_eq_zero_iff.1 e)
            have pI : pT (among [1]) [none, some (.row (List.take xs.length (ins xs) ++ ins ys) 0)] (.ps 12 (ins (xs ++ ys))) (.os 1 0 (xs.length + ys.length) 12) := by
              rw [← ins_len xs, List.take_length, hap]
              have hne : ins (xs ++ ys) ≠ [] := fun e => lx (by have := congrArg List.length e; rw [ins_len, List.length_append, List.length_nil] at this; omega)
              have := of_eq_true (pT_slA (F := among [1]) (σ := [none, some (.row (ins (xs ++ ys)) 0)]) (b := 1) (sz := 12) (l := ins (xs ++ ys)) rfl (slB_ne hne).symm)
              rw [slA_ne hne, ins_len, List.length_append] at this
              rw [ins_len]
              exact this
            simp only [go_sem, Nat.reduceAdd, Nat.reduceSub, Nat.reduceMul, Nat.reduceLeDiff, Nat.reduceEqDiff, Nat.reduceBEq, ok_ins, ins_len, lx, app_os, appRow, List.drop_zero, Nat.le_refl]
            refine ⟨by omega, ⟨by omega, by omega⟩, ?_⟩
            refine VCall.isoT [] AwakeP_eq rfl trivial ?_
            rw [frzI_nil]
            simp only [ite_self]
            refine EvK.go 1000 ?_
            simp only [go_sem, Nat.reduceAdd, Nat.reduceSub, Nat.reduceMul, Nat.reduceLeDiff, Nat.reduceEqDiff, Nat.reduceBEq, w1, w2]
            refine VCall.isoT [1] hI ⟨pT_refl _ _ _, pI, rfl⟩ ⟨ins_low _, ins_low _, trivial⟩ ?_
            refine EvK.go 1000 ?_
            simp only [go_sem, Nat.reduceAdd, Nat.reduceSub, Nat.reduceMul, Nat.reduceLeDiff, Nat.reduceEqDiff, Nat.reduceBEq]
    · generalize textR (bs t) = R2 at *
      obtain ⟨v2, q2, e2⟩ := R2
      generalize textR (bs s) = R at *
      obtain ⟨v, q, e⟩ := R
      simp only at h0 h0'
      subst h0
      simp only [textT] at hA hB
      simp only [go_sem, Nat.reduceAdd, Nat.reduceSub, Nat.reduceMul, Nat.reduceLeDiff, Nat.reduceEqDiff, Nat.reduceBEq, h, h']
      refine VCall.isoT [] hA (pTL_refl _ _ _) ⟨trivial, trivial⟩ ?_
      rw [frzI_nil]
      simp only [ite_self]
      refine EvK.go 1000 ?_
      simp only [go_sem, Nat.reduceAdd, Nat.reduceSub, Nat.reduceMul, Nat.reduceLeDiff, Nat.reduceEqDiff, Nat.reduceBEq]
      refine VCall.isoT [] hB (pTL_refl _ _ _) ⟨trivial, trivial⟩ ?_
      rw [frzI_nil]
      simp only [ite_self]
      refine EvK.go 1000 ?_
      simp only [go_sem, Nat.reduceAdd, Nat.reduceSub, Nat.reduceMul, Nat.reduceLeDiff, Nat.reduceEqDiff, Nat.reduceBEq, h0']
      refine VCall.isoT [] AwakeP_eq rfl trivial ?_
      rw [frzI_nil]
      simp only [ite_self]
      refine EvK.go 1000 ?_
      simp only [go_sem, Nat.reduceAdd, Nat.reduceSub, Nat.reduceMul, Nat.reduceLeDiff, Nat.reduceEqDiff, Nat.reduceBEq]
  · have hE := textR_err h0
    generalize textR (bs t) = R2 at *
    obtain ⟨v2, q2, e2⟩ := R2
    generalize textR (bs s) = R at *
    obtain ⟨v, q, e⟩ := R
    simp only at h0 hE
    subst hE
    simp only [textT] at hA hB
    simp only [go_sem, Nat.reduceAdd, Nat.reduceSub, Nat.reduceMul, Nat.reduceLeDiff, Nat.reduceEqDiff, Nat.reduceBEq, h, h']
    refine VCall.isoT [] hA (pTL_refl _ _ _) ⟨trivial, trivial⟩ ?_
    rw [frzI_nil]
    simp only [ite_self]
    refine EvK.go 1000 ?_
    simp only [go_sem, Nat.reduceAdd, Nat.reduceSub, Nat.reduceMul, Nat.reduceLeDiff, Nat.reduceEqDiff, Nat.reduceBEq]
    refine VCall.isoT [] hB (pTL_refl _ _ _) ⟨trivial, trivial⟩ ?_
    rw [frzI_nil]
    simp only [ite_self]
    refine EvK.go 1000 ?_
    simp only [go_sem, Nat.reduceAdd, Nat.reduceSub, Nat.reduceMul, Nat.reduceLeDiff, Nat.reduceEqDiff, Nat.reduceBEq, h0]
    refine VCall.isoT [] AwakeP_eq rfl trivial ?_
    rw [frzI_nil]
    simp only [ite_self]
    refine EvK.go 1000 ?_
    simp only [go_sem, Nat.reduceAdd, Nat.reduceSub, Nat.reduceMul, Nat.reduceLeDiff, Nat.reduceEqDiff, Nat.reduceBEq, h0, ins_len, List.length_nil, z00]
end Go.Proofs
