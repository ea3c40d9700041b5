/- Part 51 of my own framework and of the walks of functions: Nx, Nw, Ny, Nz. -/
import Derived.Test.YtngbclnedkmiaaaDoorOwn50
import Derived.Test.YtngbclnedkmiaaaDoorRows
import Derived.Test.YtngbclnedkmiaaaDoorCards
import Derived.Test.YtngbclnedkmiaaaDoorTie
import Derived.WalkKit
import Derived.ProofKit
import Derived.OpenShut
import Derived.ShutString
import Derived.Below
import Derived.SizedLaws
import Derived.Deep.DeepHandedRow
import Derived.Lib.LaidTab
import Derived.Shelf.Vars
set_option linter.unusedVariables false
set_option linter.unusedSectionVars false
set_option linter.unusedSimpArgs false

/- What the rows of Parse share: the laid tables, strings and integers as arguments. -/
namespace Go.Proofs.YtngbclnedkmiaaaDoor.parseRows
open Go.Proofs Go.ChangeShapes Go.WideShapes Go.ChangeAt Go.RowKit
open Go.Abs (TyV closedOk args_tree args_below noM noB Glob)

theorem own : ownKnob Tryd.prog.godebug = none := by kernel_rfl
theorem laidOut : laidOutB Tryd.prog = true := by kernel_rfl
theorem closed : closedOk Tryd.prog [9] = true := by kernel_rfl

def firstCells : Array Value := (Go.Pinned.utf8FirstZ.map fun (z : Nat) => Value.int .u8 (z : Int)).toArray
def rangeCells : Array Value := #[.int .u8 128, .int .u8 191, .int .u8 160, .int .u8 191, .int .u8 128, .int .u8 159, .int .u8 144, .int .u8 191, .int .u8 128, .int .u8 143, .int .u8 0, .int .u8 0, .int .u8 0, .int .u8 0, .int .u8 0, .int .u8 0, .int .u8 0, .int .u8 0, .int .u8 0, .int .u8 0, .int .u8 0, .int .u8 0, .int .u8 0, .int .u8 0, .int .u8 0, .int .u8 0, .int .u8 0, .int .u8 0, .int .u8 0, .int .u8 0, .int .u8 0, .int .u8 0]
def setCells (cs : Array Value) : Obj → Obj
  | .cells _ t frozen => .cells cs t frozen
  | o => o
/-- A world that holds the tables. -/
noncomputable def laidWorld (os : Os) : World :=
  { World.holding Tryd.prog os ⟨#[], #[], []⟩ with heap := Array.modify (Array.modify (World.holding Tryd.prog os ⟨#[], #[], []⟩).heap 1 (setCells firstCells)) 2 (setCells rangeCells) }
theorem laid_met2 (os : Os) : laidMet Tryd.prog Rows.parseBracketsRow.laid ((laidWorld os).forCall (fun _ _ => 0) ⟨#[], #[.string .empty, .string .empty], []⟩).memory :=
  laidMet_of_run' 8 (by kernel_rfl) (by kernel_rfl)
theorem laid_met1 (os : Os) : laidMet Tryd.prog Rows.parseBracketsRow.laid ((laidWorld os).forCall (fun _ _ => 0) ⟨#[], #[.string .empty], []⟩).memory :=
  laidMet_of_run' 8 (by kernel_rfl) (by kernel_rfl)
theorem glob {W : World} (h : W.ShapedOpen Tryd.prog) : Glob W.heap.size W := by
  intro x hx
  simp only [Go.Abs.glCells, List.mem_cons, List.not_mem_nil, or_false] at hx
  subst hx
  obtain ⟨m, hm⟩ := cell_of_shapedOpen_int (P := Tryd.prog) (g := 0) (t := 3) (zero := #[.int .i64 0]) (k := .i64) h (of_decide_eq_true (by kernel_rfl)) (by kernel_rfl) rfl (by kernel_rfl) (by kernel_rfl) Tryd.underlying3
  refine ⟨?_, .int .i64 m, hm, m, rfl⟩
  exact Go.Abs.block_lt hm
theorem str_arg {a : Go.Abs.AVal} (h : TyV Tryd.prog 9 a) : ∃ s, a = .str s := by
  obtain ⟨h1, n, h2⟩ := h
  obtain ⟨s, h3, _⟩ := Go.Abs.TyT_str (by kernel_rfl) h2
  exact ⟨s, Go.Abs.lone_cells (h1.trans (by kernel_rfl)) h3⟩
end Go.Proofs.YtngbclnedkmiaaaDoor.parseRows

/- The law of brackets. -/
set_option linter.unusedSimpArgs false
namespace Go.Proofs
open Go Go.Abs

theorem formR_err {s : By} (h : (formR s).2.2 ≠ 0) : (formR s).1 = .agg zF := by
  unfold formR at h ⊢
  split
  split
  · rfl
  · rename_i l at0 e hx he
    rw [hx] at h
    simp only [he, if_false] at h
    split
    · rename_i f l' hf
      rw [hf] at h
      exact absurd rfl h
    · rfl
theorem formR_cs (s : By) : isAggA (formR s).1 = true ∧ (formR s).1.cells.length = 9 ∧ (formR s).1.cells.all AVal.isCell = true ∧ (formR s).1.low 0 := by
  unfold formR
  split
  split
  · exact ⟨rfl, rfl, rfl, zF_low 0⟩
  · split
    · rename_i f _ _
      rw [fo_cells, fo_agg]; exact ⟨rfl, rfl, rfl, fo_low0 f⟩
    · exact ⟨rfl, rfl, rfl, zF_low 0⟩
theorem br_str (s : ByteArray) : (⟨#[40]⟩ : ByteArray) ++ s ++ ⟨#[10, 41]⟩ = ofB (brB (bs s)) := by
  rw [← ofB_bs (_ ++ _)]; congr 1
theorem not_str (s : ByteArray) : (⟨#[126, 40]⟩ : ByteArray) ++ s ++ ⟨#[10, 41]⟩ = ofB (126 :: brB (bs s)) := by
  rw [← ofB_bs (_ ++ _)]; congr 1

theorem ParseBrackets_calls (s : ByteArray) {W : World} {vs : Array Value} (hg : Glob W.heap.size W) (h2 : vs.size = ([.str s] : List AVal).length)
    (h3 : ∀ k, k < ([.str s] : List AVal).length → Rep W noM noB (vs.getD k undef) (([.str s] : List AVal).getD k .undef)) :
    Calls Tryd.prog 3 vs W fun e w' => e = .returned (.bool true) ∧ RowKit.Below W.heap.size W w' := by
  refine calls_true (args := [.str s]) (rs := [.tmp 2]) (m := 89) 1000 Tryd.func3 rfl rfl rfl rfl ?_ hg h2 h3
  clear hg h2 h3
  by_cases h : 1000 < (s.size : Int)
  · simp only [go_sem, Nat.reduceAdd, Nat.reduceSub, Nat.reduceMul, Nat.reduceLeDiff, Nat.reduceEqDiff, Nat.reduceBEq, h]
  have hs : (bs s).length ≤ 1000 := by rw [bs_len]; omega
  have hA := FormS_eq s (by omega)
  by_cases h0 : (formR (bs s)).2.2 = 0
  · obtain ⟨L, f, hL, hf, hR⟩ := formR_ok (by omega) h0
    obtain ⟨b1, b2⟩ := br_law (by omega) hL hf
    have hsz : f.size < 10000000 := by
      have := (formula_fine (unary_fine 50) hf).2
      have := lex_count hL
      simp only [List.length_map, List.length_nil] at *
      omega
    have hB := FormS_eq (ofB (brB (bs s))) (by rw [ofB_size, brB_len]; omega)
    have hN := FormS_eq (ofB (126 :: brB (bs s))) (by rw [ofB_size, List.length_cons, brB_len]; omega)
    rw [bs_ofB] at hB hN
    rw [hR] at hA
    simp only [formT] at hA
    simp only [go_sem, Nat.reduceAdd, Nat.reduceSub, Nat.reduceMul, Nat.reduceLeDiff, Nat.reduceEqDiff, Nat.reduceBEq, h]
    refine VCall.isoT [] hA (pTL_refl _ _ _) ⟨trivial, trivial⟩ ?_
    rw [frzI_nil]
    simp only [ite_self]
    refine EvK.go 1000 ?_
    simp only [go_sem, Nat.reduceAdd, Nat.reduceSub, Nat.reduceMul, Nat.reduceLeDiff, Nat.reduceEqDiff, Nat.reduceBEq, fo_c9, fo_all, fo_take, Fo.cs, fo_cells, fo_agg, Nat.le_refl, br_str]
    have z1 : (⟨#[40]⟩ : ByteArray).size + s.size ≤ 1000000000 := by show 1 + s.size ≤ _; omega
    have z2 : (⟨#[40]⟩ : ByteArray).size + s.size + (⟨#[10, 41]⟩ : ByteArray).size ≤ 1000000000 := by show 1 + s.size + 2 ≤ _; omega
    have z3 : (⟨#[126, 40]⟩ : ByteArray).size + s.size ≤ 1000000000 := by show 2 + s.size ≤ _; omega
    have z4 : (⟨#[126, 40]⟩ : ByteArray).size + s.size + (⟨#[10, 41]⟩ : ByteArray).size ≤ 1000000000 := by show 2 + s.size + 2 ≤ _; omega
    refine ⟨z1, z2, ?_⟩
    have h7 : ¬ (0 : Int) = 7 := by decide
    by_cases hd : (formR (brB (bs s))).2.2 = 7
    · have hv := formR_err (s := brB (bs s)) (by rw [hd]; decide)
      generalize formR (brB (bs s)) = R at *
      obtain ⟨v, q, e⟩ := R
      simp only at hv hd
      subst hv hd
      simp only [formT] at hB
      refine VCall.isoT [] hB (pTL_refl _ _ _) ⟨trivial, trivial⟩ ?_
      rw [frzI_nil]
      simp only [ite_self]
      refine EvK.go 1000 ?_
      simp only [go_sem, Nat.reduceAdd, Nat.reduceSub, Nat.reduceMul, Nat.reduceLeDiff, Nat.reduceEqDiff, Nat.reduceBEq, fo_c9, fo_all, fo_take, Fo.cs, fo_cells, fo_agg, Nat.le_refl, zF, not_str]
      refine ⟨z3, z4, ?_⟩
      obtain ⟨c1, c2, c3, c4⟩ := formR_cs (126 :: brB (bs s))
      generalize formR (126 :: brB (bs s)) = R2 at *
      obtain ⟨v2, q2, e2⟩ := R2
      simp only at c1 c2 c3 c4
      simp only [formT] at hN
      refine VCall.isoT [] hN (pTL_refl _ _ _) ⟨trivial, trivial⟩ ?_
      rw [frzI_nil]
      simp only [ite_self]
      refine EvK.go 1000 ?_
      simp only [go_sem, Nat.reduceAdd, Nat.reduceSub, Nat.reduceMul, Nat.reduceLeDiff, Nat.reduceEqDiff, Nat.reduceBEq, c1, c2, c3, lt09, Nat.le_refl]
      refine VCall.isoT [] AwakeP_eq rfl trivial ?_
      rw [frzI_nil]
      simp only [ite_self]
      refine EvK.go 1000 ?_
      simp only [go_sem, Nat.reduceAdd, Nat.reduceSub, Nat.reduceMul, Nat.reduceLeDiff, Nat.reduceEqDiff, Nat.reduceBEq]
    · rcases b1 with b1 | b1
      · rw [b1] at hB
        simp only [formT] at hB
        refine VCall.isoT [] hB (pTL_refl _ _ _) ⟨trivial, trivial⟩ ?_
        rw [frzI_nil]
        simp only [ite_self]
        refine EvK.go 1000 ?_
        simp only [go_sem, Nat.reduceAdd, Nat.reduceSub, Nat.reduceMul, Nat.reduceLeDiff, Nat.reduceEqDiff, Nat.reduceBEq, fo_c9, fo_all, fo_take, Fo.cs, fo_cells, fo_agg, Nat.le_refl, not_str]
        refine ⟨z3, z4, ?_⟩
        by_cases hd2 : (formR (126 :: brB (bs s))).2.2 = 7
        · obtain ⟨c1, c2, c3, c4⟩ := formR_cs (126 :: brB (bs s))
          generalize formR (126 :: brB (bs s)) = R2 at *
          obtain ⟨v2, q2, e2⟩ := R2
          simp only at c1 c2 c3 c4 hd2
          subst hd2
          simp only [formT] at hN
          refine VCall.isoT [] hN (pTL_refl _ _ _) ⟨trivial, trivial⟩ ?_
          rw [frzI_nil]
          simp only [ite_self]
          refine EvK.go 1000 ?_
          simp only [go_sem, Nat.reduceAdd, Nat.reduceSub, Nat.reduceMul, Nat.reduceLeDiff, Nat.reduceEqDiff, Nat.reduceBEq, c1, c2, c3, lt09, Nat.le_refl, h7]
          refine VCall.isoT [] AwakeP_eq rfl trivial ?_
          rw [frzI_nil]
          simp only [ite_self]
          refine EvK.go 1000 ?_
          simp only [go_sem, Nat.reduceAdd, Nat.reduceSub, Nat.reduceMul, Nat.reduceLeDiff, Nat.reduceEqDiff, Nat.reduceBEq]
        · rcases b2 with b2 | b2
          · rw [b2] at hN
            simp only [formT] at hN
            refine VCall.isoT [] hN (pTL_refl _ _ _) ⟨trivial, trivial⟩ ?_
            rw [frzI_nil]
            simp only [ite_self]
            refine EvK.go 1000 ?_
            simp only [go_sem, Nat.reduceAdd, Nat.reduceSub, Nat.reduceMul, Nat.reduceLeDiff, Nat.reduceEqDiff, Nat.reduceBEq, fo_c9, fo_all, fo_take, Fo.cs, fo_cells, fo_agg, Nat.le_refl, h7]
            refine EvK.draw [] 3 3 mixed rfl rfl (Nat.le_refl _) ?_
            simp only [go_sem, Nat.reduceAdd, Nat.reduceSub, Nat.reduceMul, Nat.reduceLeDiff, Nat.reduceEqDiff, Nat.reduceBEq, padS]
            refine draw_iso AwakeP_eq rfl trivial ?_
            simp only [merge_same]
            simp only [go_sem, Nat.reduceAdd, Nat.reduceSub, Nat.reduceMul, Nat.reduceLeDiff, Nat.reduceEqDiff, Nat.reduceBEq]
            have hsm := Same_eq f hsz
            rw [← fo_eq f]
            refine draw_iso hsm (pTL_refl _ _ _) ⟨fo_low0 _, fo_low0 _, trivial⟩ ?_
            simp only [merge_same]
            have n1 : (notF f).kind = 2 := rfl
            have n2 : (notF f).parts.map Fo.toA = [f.toA] := rfl
            simp only [go_sem, Nat.reduceAdd, Nat.reduceSub, Nat.reduceMul, Nat.reduceLeDiff, Nat.reduceEqDiff, Nat.reduceBEq, n1, n2, one1, lt01, le00, Int.toNat_zero, List.getD_cons_zero, fo_cells, Nat.le_refl]
            rw [← fo_eq f]
            refine draw_iso hsm (pTL_refl _ _ _) ⟨fo_low0 _, fo_low0 _, trivial⟩ ?_
            simp only [merge_same]
            simp only [go_sem, Nat.reduceAdd, Nat.reduceSub, Nat.reduceMul, Nat.reduceLeDiff, Nat.reduceEqDiff, Nat.reduceBEq]
            refine EvK.go 1000 ?_
            simp only [go_sem, Nat.reduceAdd, Nat.reduceSub, Nat.reduceMul, Nat.reduceLeDiff, Nat.reduceEqDiff, Nat.reduceBEq]
          · exact absurd b2 hd2
      · exact absurd b1 hd
  · have hE := formR_err h0
    obtain ⟨p1, p2⟩ := formR_at (bs s) (by omega)
    generalize formR (bs s) = R at *
    obtain ⟨v, p, e⟩ := R
    simp only at hE h0 p1 p2
    subst hE
    simp only [formT] at hA
    rw [bs_len] at p2
    simp only [go_sem, Nat.reduceAdd, Nat.reduceSub, Nat.reduceMul, Nat.reduceLeDiff, Nat.reduceEqDiff, Nat.reduceBEq, h]
    refine VCall.isoT [] hA (pTL_refl _ _ _) ⟨trivial, trivial⟩ ?_
    rw [frzI_nil]
    simp only [ite_self]
    refine EvK.go 1000 ?_
    simp only [go_sem, Nat.reduceAdd, Nat.reduceSub, Nat.reduceMul, Nat.reduceLeDiff, Nat.reduceEqDiff, Nat.reduceBEq, zF, h0, Nat.le_refl]
    refine VCall.isoT [] AwakeP_eq rfl trivial ?_
    rw [frzI_nil]
    simp only [ite_self]
    refine EvK.go 1000 ?_
    simp only [go_sem, Nat.reduceAdd, Nat.reduceSub, Nat.reduceMul, Nat.reduceLeDiff, Nat.reduceEqDiff, Nat.reduceBEq, p1, p2]
end Go.Proofs

/- Two formulas in brackets, joined by a sign. -/
set_option linter.unusedSimpArgs false
namespace Go.Proofs
open Go Go.Abs

/-- Two texts in brackets, and a sign between them. -/
def joinB (s sg t : By) : By := 40 :: (s ++ 10 :: (41 :: (sg ++ brB t)))
def jSigns : List By := [[124], [38], [61, 62], [60, 61, 62], [60, 61]]
def joinF (sg : By) (a b : Fo) : Fo :=
  if sg = [124] then twoF 4 a b else if sg = [38] then twoF 3 a b else if sg = [61, 62] then twoF 5 a b else if sg = [60, 61] then twoF 5 b a else twoF 6 a b

theorem more_two {sg : By} {u : List Tok → PR Fo} {f g : Fo} {Z : List Tok} {p : Int} (h : u Z = .ok (g, [])) : moreP sg u ((⟨3, p, sg⟩ :: Z : List Tok).length) [f] (⟨3, p, sg⟩ :: Z) = .ok ([f, g], []) := by
  rw [List.length_cons, more_go (by simp [isP]), List.tail_cons, h]
  show moreP sg u Z.length [f, g] [] = _
  exact more_stop rfl
theorem more_deep {sg : By} {u : List Tok → PR Fo} {f : Fo} {Z : List Tok} {p : Int} (h : Deep (u Z)) : Deep (moreP sg u ((⟨3, p, sg⟩ :: Z : List Tok).length) [f] (⟨3, p, sg⟩ :: Z)) := by
  rw [List.length_cons, more_go (by simp [isP]), List.tail_cons]
  exact deep_bind h
theorem join_formula {u : List Tok → PR Fo} {l Z : List Tok} {f g : Fo} {sg : By} {p : Int} (hsg : sg ∈ jSigns) (h1 : u l = .ok (f, ⟨3, p, sg⟩ :: Z)) (h2 : u Z = .ok (g, []) ∨ Deep (u Z)) : formulaP u l = .ok (joinF sg f g, []) ∨ Deep (formulaP u l) := by
  simp only [jSigns, List.mem_cons, List.not_mem_nil, or_false] at hsg
  have he : formulaP u l = (fun (a : Fo) (l : List Tok) =>
    if isP [124] l = true then chainP u [124] 4 a l else
    if isP [38] l = true then chainP u [38] 3 a l else
    if isP [61, 62] l = true then PR.bind (u l.tail) fun b l => .ok (twoF 5 a b, l) else
    if isP [60, 61] l = true then PR.bind (u l.tail) fun b l => .ok (twoF 5 b a, l) else
    if isP [60, 61, 62] l = true then PR.bind (u l.tail) fun b l => .ok (twoF 6 a b, l) else
    if isP [60, 126, 62] l = true then PR.bind (u l.tail) fun b l => .ok (notF (twoF 6 a b), l) else .ok (a, l)) f (⟨3, p, sg⟩ :: Z) := by
    rw [formulaP, h1]; rfl
  rw [he]
  rcases hsg with rfl | rfl | rfl | rfl | rfl
  · show chainP u [124] 4 f (⟨3, p, [124]⟩ :: Z) = _ ∨ Deep (chainP u [124] 4 f (⟨3, p, [124]⟩ :: Z))
    unfold chainP
    rcases h2 with h2 | h2
    · rw [more_two h2]; exact .inl rfl
    · exact .inr (deep_bind (more_deep h2))
  · show chainP u [38] 3 f (⟨3, p, [38]⟩ :: Z) = _ ∨ Deep (chainP u [38] 3 f (⟨3, p, [38]⟩ :: Z))
    unfold chainP
    rcases h2 with h2 | h2
    · rw [more_two h2]; exact .inl rfl
    · exact .inr (deep_bind (more_deep h2))
  · show (PR.bind (u Z) fun b l => .ok (twoF 5 f b, l)) = _ ∨ Deep (PR.bind (u Z) fun b l => .ok (twoF 5 f b, l))
    rcases h2 with h2 | h2
    · rw [h2]; exact .inl rfl
    · exact .inr (deep_bind h2)
  · show (PR.bind (u Z) fun b l => .ok (twoF 6 f b, l)) = _ ∨ Deep (PR.bind (u Z) fun b l => .ok (twoF 6 f b, l))
    rcases h2 with h2 | h2
    · rw [h2]; exact .inl rfl
    · exact .inr (deep_bind h2)
  · show (PR.bind (u Z) fun b l => .ok (twoF 5 b f, l)) = _ ∨ Deep (PR.bind (u Z) fun b l => .ok (twoF 5 b f, l))
    rcases h2 with h2 | h2
    · rw [h2]; exact .inl rfl
    · exact .inr (deep_bind h2)

theorem lex_sg {sg : By} (hsg : sg ∈ jSigns) (u : By) : lex (sg ++ 40 :: u) = (lex (40 :: u)).map (((sg ++ 40 :: u).length, 3, sg) :: ·) := by
  simp only [jSigns, List.mem_cons, List.not_mem_nil, or_false] at hsg
  rcases hsg with rfl | rfl | rfl | rfl | rfl <;> exact sign_lex _ (skip_stop rfl (by decide) (by rintro ⟨h, _⟩; cases h)) rfl

theorem joinB_len (s sg t : By) : (joinB s sg t).length = s.length + sg.length + t.length + 6 := by
  simp [joinB, brB]; omega
theorem join_law {s t sg : By} (hsg : sg ∈ jSigns) (hs : s.length ≤ 20000) (ht : t.length ≤ 20000) {L M : List (Nat × Int × By)} {f g : Fo} (h : lex s = some L) (hf : formulaP (unaryP s.length 50) (L.map (tokAt s.length)) = .ok (f, []))
    (h' : lex t = some M) (hg : formulaP (unaryP t.length 50) (M.map (tokAt t.length)) = .ok (g, [])) :
    formR (joinB s sg t) = ((joinF sg f g).toA, ((joinB s sg t).length : Int), 0) ∨ (formR (joinB s sg t)).2.2 = 7 := by
  have hsl : sg.length ≤ 3 := by
    simp only [jSigns, List.mem_cons, List.not_mem_nil, or_false] at hsg
    rcases hsg with rfl | rfl | rfl | rfl | rfl <;> decide
  have hl := joinB_len s sg t
  have hlb := brB_len t
  have hL2 : lex (joinB s sg t) = some (((s ++ 10 :: (41 :: (sg ++ brB t))).length + 1, 3, [40]) :: (L.map (fun a => (a.1 + ((41 :: (sg ++ brB t)).length + 1), a.2)) ++ ((sg ++ brB t).length + 1, 3, [41]) :: ((sg ++ brB t).length, 3, sg) :: (t.length + 3, 3, [40]) :: (M.map (fun a => (a.1 + 2, a.2)) ++ [(1, 3, [41])]))) := by
    have hb : brB t = 40 :: (t ++ [10, 41]) := rfl
    rw [joinB, lex_open, lex_app _ s L (Nat.le_refl _) h, lex_close, hb, lex_sg hsg, ← hb, lex_br h']
    rfl
  obtain ⟨p1, p2, p3, p4, p5, hA⟩ : ∃ p1 p2 p3 p4 p5 : Int, allB (joinB s sg t) = (opT p1 :: ap (gAt 1) (clT p2 :: ⟨3, p3, sg⟩ :: opT p4 :: ap (gAt (s.length + sg.length + 4)) [clT p5] (M.map (tokAt t.length))) (L.map (tokAt s.length)), ((joinB s sg t).length : Int), 0) := by
    refine ⟨((joinB s sg t).length : Int) - (((s ++ 10 :: (41 :: (sg ++ brB t))).length + 1 : Nat) : Int), ((joinB s sg t).length : Int) - (((sg ++ brB t).length + 1 : Nat) : Int), ((joinB s sg t).length : Int) - ((sg ++ brB t).length : Nat), ((joinB s sg t).length : Int) - ((t.length + 3 : Nat) : Int), ((joinB s sg t).length : Int) - ((1 : Nat) : Int), ?_⟩
    rw [allB_some (by omega) hL2, List.map_cons, List.map_append, List.map_cons, List.map_cons, List.map_cons, List.map_append]
    rw [tok_shift (m := s.length) (c := 1) (by simp only [List.length_cons, List.length_append]; omega), tok_shift (m := t.length) (c := s.length + sg.length + 4) (by omega)]
    rfl
  refine formR_of (f := joinF sg f g) hA ?_
  have e1 := br_unary (E' := (joinB s sg t).length) hf (gAt_ok 1) 49 (by decide) p1 p2 (⟨3, p3, sg⟩ :: opT p4 :: ap (gAt (s.length + sg.length + 4)) [clT p5] (M.map (tokAt t.length)))
  have e2 := br_unary (E' := (joinB s sg t).length) hg (gAt_ok (s.length + sg.length + 4)) 49 (by decide) p4 p5 []
  rcases e1 with e1 | e1
  · rcases join_formula hsg e1 e2 with e3 | e3
    · left; rw [formP, e3]; rfl
    · right; unfold formP; exact deep_bind e3
  · right; unfold formP formulaP; exact deep_bind (deep_bind e1)
end Go.Proofs

/- The law of joined formulas. -/
set_option linter.unusedSimpArgs false
namespace Go.Proofs
open Go Go.Abs

theorem join_str (s sg t : ByteArray) : (⟨#[40]⟩ : ByteArray) ++ s ++ ⟨#[10, 41]⟩ ++ sg ++ ⟨#[40]⟩ ++ t ++ ⟨#[10, 41]⟩ = ofB (joinB (bs s) (bs sg) (bs t)) := by
  rw [← ofB_bs (_ ++ _)]; congr 1; simp [bs, joinB, brB]
theorem back_str (s t : ByteArray) : (⟨#[40]⟩ : ByteArray) ++ s ++ ⟨#[10, 41, 60, 61, 40]⟩ ++ t ++ ⟨#[10, 41]⟩ = ofB (joinB (bs s) [60, 61] (bs t)) := by
  rw [← ofB_bs (_ ++ _)]; congr 1; simp [bs, joinB, brB]
def sgA (i : Nat) : By := [[124], [38], [61, 62], [60, 61, 62]].getD i []
def kdA (i : Nat) : Int := [4, 3, 5, 6].getD i 0
def sgRow : List AVal := [.str ⟨#[124]⟩, .str ⟨#[38]⟩, .str ⟨#[61, 62]⟩, .str ⟨#[60, 61, 62]⟩]
def kdRow : List AVal := [.int .i64 4, .int .i64 3, .int .i64 5, .int .i64 6]
theorem sg_get {i : Nat} (h : i < 4) : [AVal.str ⟨#[124]⟩, .str ⟨#[38]⟩, .str ⟨#[61, 62]⟩, .str ⟨#[60, 61, 62]⟩].getD i .undef = .str (ofB (sgA i)) := by
  match i, h with
  | 0, _ => rfl
  | 1, _ => rfl
  | 2, _ => rfl
  | 3, _ => rfl
theorem kd_get {i : Nat} (h : i < 4) : [AVal.int .i64 4, .int .i64 3, .int .i64 5, .int .i64 6].getD i .undef = .int .i64 (kdA i) := by
  match i, h with
  | 0, _ => rfl
  | 1, _ => rfl
  | 2, _ => rfl
  | 3, _ => rfl
theorem sg_mem {i : Nat} (h : i < 4) : sgA i ∈ jSigns ∧ (sgA i).length ≤ 3 ∧ ∀ f g, joinF (sgA i) f g = twoF (kdA i) f g := by
  match i, h with
  | 0, _ => exact ⟨by decide, by decide, fun _ _ => rfl⟩
  | 1, _ => exact ⟨by decide, by decide, fun _ _ => rfl⟩
  | 2, _ => exact ⟨by decide, by decide, fun _ _ => rfl⟩
  | 3, _ => exact ⟨by decide, by decide, fun _ _ => rfl⟩
theorem form_size {s : By} {L : List (Nat × Int × By)} {f : Fo} (hs : s.length ≤ 65536) (hL : lex s = some L) (hf : formulaP (unaryP s.length 50) (L.map (tokAt s.length)) = .ok (f, [])) : f.size < 10000000 := by
  have := (formula_fine (unary_fine 50) hf).2
  have := lex_count hL
  simp only [List.length_map, List.length_nil] at *
  omega

theorem two2 : (((2 : Nat) : Int) = 2) = True := eq_true rfl
theorem lt02 : ((0 : Int) < ((2 : Nat) : Int)) = True := eq_true (by decide)
theorem lt12 : ((1 : Int) < ((2 : Nat) : Int)) = True := eq_true (by decide)
set_option maxRecDepth 10000 in
set_option maxHeartbeats 3200000 in
theorem ParseJoins_calls (s t : ByteArray) {W : World} {vs : Array Value} (hg : Glob W.heap.size W) (h2 : vs.size = ([.str s, .str t] : List AVal).length)
    (h3 : ∀ k, k < ([.str s, .str t] : List AVal).length → Rep W noM noB (vs.getD k undef) (([.str s, .str t] : List AVal).getD k .undef)) :
    Calls Tryd.prog 5 vs W fun e w' => e = .returned (.bool true) ∧ RowKit.Below W.heap.size W w' := by
  refine calls_true (args := [.str s, .str t]) (rs := [.tmp 4]) (m := 146) 1000 Tryd.func5 rfl rfl rfl rfl ?_ hg h2 h3
  clear hg h2 h3
  by_cases h : 800 < (s.size : Int)
  · simp only [go_sem, Nat.reduceAdd, Nat.reduceSub, Nat.reduceMul, Nat.reduceLeDiff, Nat.reduceEqDiff, Nat.reduceBEq, h]
  by_cases h' : 800 < (t.size : Int)
  · simp only [go_sem, Nat.reduceAdd, Nat.reduceSub, Nat.reduceMul, Nat.reduceLeDiff, Nat.reduceEqDiff, Nat.reduceBEq, h, h']
  have hs : (bs s).length ≤ 800 := by rw [bs_len]; omega
  have ht : (bs t).length ≤ 800 := by rw [bs_len]; omega
  have hA := FormS_eq s (by omega)
  have hB := FormS_eq t (by omega)
  obtain ⟨a1, a2, a3, a4⟩ := formR_cs (bs s)
  obtain ⟨b1, b2, b3, b4⟩ := formR_cs (bs t)
  by_cases h0 : (formR (bs s)).2.2 = 0
  · by_cases h0' : (formR (bs t)).2.2 = 0
    · obtain ⟨L, f, hL, hf, hR⟩ := formR_ok (by omega) h0
      obtain ⟨M, g, hM, hg, hR'⟩ := formR_ok (by omega) h0'
      have hfs := form_size (by omega) hL hf
      have hgs := form_size (by omega) hM hg
      rw [hR] at hA
      rw [hR'] at hB
      simp only [formT] at hA hB
      clear a1 a2 a3 a4 b1 b2 b3 b4
      simp only [go_sem, Nat.reduceAdd, Nat.reduceSub, Nat.reduceMul, Nat.reduceLeDiff, Nat.reduceEqDiff, Nat.reduceBEq, h, h']
      refine VCall.isoT [] hA (pTL_refl _ _ _) ⟨trivial, trivial⟩ ?_
      rw [frzI_nil]
      simp only [ite_self]
      refine EvK.go 1000 ?_
      simp only [go_sem, Nat.reduceAdd, Nat.reduceSub, Nat.reduceMul, Nat.reduceLeDiff, Nat.reduceEqDiff, Nat.reduceBEq, fo_c9, fo_all, fo_take, Fo.cs, fo_cells, fo_agg, Nat.le_refl]
      refine VCall.isoT [] hB (pTL_refl _ _ _) ⟨trivial, trivial⟩ ?_
      rw [frzI_nil]
      simp only [ite_self]
      refine EvK.go 1000 ?_
      simp only [go_sem, Nat.reduceAdd, Nat.reduceSub, Nat.reduceMul, Nat.reduceLeDiff, Nat.reduceEqDiff, Nat.reduceBEq, fo_c9, fo_all, fo_take, Fo.cs, fo_cells, fo_agg, Nat.le_refl]
      refine ⟨Nat.one_pos, Nat.one_pos, ?_⟩
      refine EvK.loopI (ι := {i : Nat // i ≤ 4}) 1000 (fun i => mkT 148 [(0, .str s), (1, .str t), (4, .bool false), (5, .ptr 0 0), (8, .ptr 1 0), (11, .os 2 0 4 1), (12, .os 3 0 4 1), (13, .int .i64 i.1)])
        (fun _ => [some (.var [.int .i64 f.kind, .bool f.l.var, .str f.l.name, .ps 3 (f.l.args.map Wd.toA), .bool f.r.var, .str f.r.name, .ps 3 (f.r.args.map Wd.toA), .ps 1 (strs f.names), .ps 9 (f.parts.map Fo.toA)]), some (.var [.int .i64 g.kind, .bool g.l.var, .str g.l.name, .ps 3 (g.l.args.map Wd.toA), .bool g.r.var, .str g.r.name, .ps 3 (g.r.args.map Wd.toA), .ps 1 (strs g.names), .ps 9 (g.parts.map Fo.toA)]), some (.row [.str ⟨#[124]⟩, .str ⟨#[38]⟩, .str ⟨#[61, 62]⟩, .str ⟨#[60, 61, 62]⟩] 0), some (.row [.int .i64 4, .int .i64 3, .int .i64 5, .int .i64 6] 0)]) (fun i => 4 - i.1) ⟨0, Nat.zero_le _⟩ ?_ (fun _ => Nat.zero_le _) ?_
      · simp only [go_sem, Nat.reduceAdd, Nat.reduceSub, Nat.reduceMul, Nat.reduceLeDiff, Nat.reduceEqDiff, Nat.reduceBEq, wds_low, strs_low, fos_low, Int.natCast_zero]
        decide
      · rintro ⟨i, hi⟩
        by_cases hlt : (i : Int) < ((4 : Nat) : Int)
        · have hlt' : i < 4 := by omega
          obtain ⟨m1, m2, m3⟩ := sg_mem hlt'
          have hJ := FormS_eq (ofB (joinB (bs s) (sgA i) (bs t))) (by rw [ofB_size, joinB_len]; omega)
          have hlaw := join_law m1 (by omega) (by omega) hL hf hM hg
          rw [bs_ofB] at hJ
          obtain ⟨c1, c2, c3, c4⟩ := formR_cs (joinB (bs s) (sgA i) (bs t))
          have hzs : (ofB (sgA i)).size ≤ 3 := by rw [ofB_size]; exact m2
          by_cases hd : (formR (joinB (bs s) (sgA i) (bs t))).2.2 = 7
          · generalize formR (joinB (bs s) (sgA i) (bs t)) = R2 at *
            obtain ⟨v2, q2, e2⟩ := R2
            simp only at c1 c2 c3 c4 hd
            subst hd
            simp only [formT] at hJ
            simp only [go_sem, Nat.reduceAdd, Nat.reduceSub, Nat.reduceMul, Nat.reduceLeDiff, Nat.reduceEqDiff, Nat.reduceBEq, hlt, Int.toNat_natCast, sg_get hlt', join_str, bs_ofB]
            refine ⟨(by simp only [List.size_toArray, List.length_cons, List.length_nil]; omega), (by simp only [List.size_toArray, List.length_cons, List.length_nil]; omega), by omega, hlt', (by simp only [List.size_toArray, List.length_cons, List.length_nil]; omega), (by simp only [List.size_toArray, List.length_cons, List.length_nil]; omega), (by simp only [List.size_toArray, List.length_cons, List.length_nil]; omega), (by simp only [List.size_toArray, List.length_cons, List.length_nil]; omega), ?_⟩
            refine VCall.isoT [] hJ (pTL_refl _ _ _) ⟨trivial, trivial⟩ ?_
            rw [frzI_nil]
            simp only [ite_self]
            refine EvK.go 1000 ?_
            simp only [go_sem, Nat.reduceAdd, Nat.reduceSub, Nat.reduceMul, Nat.reduceLeDiff, Nat.reduceEqDiff, Nat.reduceBEq, c1, c2, c3, lt09, Nat.le_refl]
            refine ⟨⟨i + 1, hlt'⟩, ?_, by simp only; omega⟩
            simp only [go_sem, Nat.reduceAdd, Nat.reduceSub, Nat.reduceMul, Nat.reduceLeDiff, Nat.reduceEqDiff, Nat.reduceBEq, wds_low, strs_low, fos_low]
            exact ⟨by rw [i64_id (by omega)]; rfl, by decide⟩
          · rcases hlaw with hlaw | hlaw
            · rw [hlaw] at hJ
              rw [m3] at hJ
              simp only [formT] at hJ
              have h7 : ¬ (0 : Int) = 7 := by decide
              have n1 : (twoF (kdA i) f g).kind = kdA i := rfl
              have n2 : (twoF (kdA i) f g).parts.map Fo.toA = [f.toA, g.toA] := rfl
              simp only [go_sem, Nat.reduceAdd, Nat.reduceSub, Nat.reduceMul, Nat.reduceLeDiff, Nat.reduceEqDiff, Nat.reduceBEq, hlt, Int.toNat_natCast, sg_get hlt', join_str, bs_ofB]
              refine ⟨(by simp only [List.size_toArray, List.length_cons, List.length_nil]; omega), (by simp only [List.size_toArray, List.length_cons, List.length_nil]; omega), by omega, hlt', (by simp only [List.size_toArray, List.length_cons, List.length_nil]; omega), (by simp only [List.size_toArray, List.length_cons, List.length_nil]; omega), (by simp only [List.size_toArray, List.length_cons, List.length_nil]; omega), (by simp only [List.size_toArray, List.length_cons, List.length_nil]; omega), ?_⟩
              refine VCall.isoT [] hJ (pTL_refl _ _ _) ⟨trivial, trivial⟩ ?_
              rw [frzI_nil]
              simp only [ite_self]
              refine EvK.go 1000 ?_
              simp only [go_sem, Nat.reduceAdd, Nat.reduceSub, Nat.reduceMul, Nat.reduceLeDiff, Nat.reduceEqDiff, Nat.reduceBEq, fo_c9, fo_all, fo_take, Fo.cs, fo_cells, fo_agg, Nat.le_refl, n1, n2, h7]
              refine EvK.draw [] 5 5 mixed rfl rfl (Nat.le_refl _) ?_
              simp only [go_sem, Nat.reduceAdd, Nat.reduceSub, Nat.reduceMul, Nat.reduceLeDiff, Nat.reduceEqDiff, Nat.reduceBEq, padS, Int.toNat_natCast, kd_get hlt', hlt, two2, lt02, lt12, le00, le01, Int.toNat_zero, Int.toNat_one, List.getD_cons_zero, List.getD_cons_succ, fo_cells, Nat.le_refl]
              refine ⟨by omega, hlt', ?_⟩
              rw [← fo_eq f]
              refine draw_iso (Same_eq f hfs) (pTL_refl _ _ _) ⟨fo_low0 _, fo_low0 _, trivial⟩ ?_
              simp only [merge_same]
              simp only [go_sem, Nat.reduceAdd, Nat.reduceSub, Nat.reduceMul, Nat.reduceLeDiff, Nat.reduceEqDiff, Nat.reduceBEq, one1, two2, lt02, lt12, le00, le01, Int.toNat_zero, Int.toNat_one, List.getD_cons_zero, List.getD_cons_succ, fo_cells, Nat.le_refl]
              rw [← fo_eq g]
              refine draw_iso (Same_eq g hgs) (pTL_refl _ _ _) ⟨fo_low0 _, fo_low0 _, trivial⟩ ?_
              simp only [merge_same]
              simp only [go_sem, Nat.reduceAdd, Nat.reduceSub, Nat.reduceMul, Nat.reduceLeDiff, Nat.reduceEqDiff, Nat.reduceBEq, one1, two2, lt02, lt12, le00, le01, Int.toNat_zero, Int.toNat_one, List.getD_cons_zero, List.getD_cons_succ, fo_cells, Nat.le_refl]
              refine EvK.go 1000 ?_
              simp only [go_sem, Nat.reduceAdd, Nat.reduceSub, Nat.reduceMul, Nat.reduceLeDiff, Nat.reduceEqDiff, Nat.reduceBEq]
              refine ⟨⟨i + 1, hlt'⟩, ?_, by simp only; omega⟩
              simp only [go_sem, Nat.reduceAdd, Nat.reduceSub, Nat.reduceMul, Nat.reduceLeDiff, Nat.reduceEqDiff, Nat.reduceBEq, wds_low, strs_low, fos_low]
              exact ⟨by rw [i64_id (by omega)]; rfl, by decide⟩
            · exact absurd hlaw hd
        · simp only [go_sem, Nat.reduceAdd, Nat.reduceSub, Nat.reduceMul, Nat.reduceLeDiff, Nat.reduceEqDiff, Nat.reduceBEq, hlt]
          refine EvK.go 1000 ?_
          simp only [go_sem, Nat.reduceAdd, Nat.reduceSub, Nat.reduceMul, Nat.reduceLeDiff, Nat.reduceEqDiff, Nat.reduceBEq, back_str]
          refine ⟨(by simp only [List.size_toArray, List.length_cons, List.length_nil]; omega), (by simp only [List.size_toArray, List.length_cons, List.length_nil]; omega), (by simp only [List.size_toArray, List.length_cons, List.length_nil]; omega), (by simp only [List.size_toArray, List.length_cons, List.length_nil]; omega), ?_⟩
          have hJ := FormS_eq (ofB (joinB (bs s) [60, 61] (bs t))) (by rw [ofB_size, joinB_len]; simp only [List.length_cons, List.length_nil]; omega)
          have hlaw := join_law (sg := [60, 61]) (by decide) (by omega) (by omega) hL hf hM hg
          rw [bs_ofB] at hJ
          obtain ⟨c1, c2, c3, c4⟩ := formR_cs (joinB (bs s) [60, 61] (bs t))
          by_cases hd : (formR (joinB (bs s) [60, 61] (bs t))).2.2 = 7
          · generalize formR (joinB (bs s) [60, 61] (bs t)) = R2 at *
            obtain ⟨v2, q2, e2⟩ := R2
            simp only at c1 c2 c3 c4 hd
            subst hd
            simp only [formT] at hJ
            refine VCall.isoT [] hJ (pTL_refl _ _ _) ⟨trivial, trivial⟩ ?_
            rw [frzI_nil]
            simp only [ite_self]
            refine EvK.go 1000 ?_
            simp only [go_sem, Nat.reduceAdd, Nat.reduceSub, Nat.reduceMul, Nat.reduceLeDiff, Nat.reduceEqDiff, Nat.reduceBEq, c1, c2, c3, lt09, Nat.le_refl]
            refine EvK.draw [] 5 5 mixed rfl rfl (Nat.le_refl _) ?_
            simp only [go_sem, Nat.reduceAdd, Nat.reduceSub, Nat.reduceMul, Nat.reduceLeDiff, Nat.reduceEqDiff, Nat.reduceBEq, padS]
            refine draw_iso AwakeP_eq rfl trivial ?_
            simp only [merge_same]
            simp only [go_sem, Nat.reduceAdd, Nat.reduceSub, Nat.reduceMul, Nat.reduceLeDiff, Nat.reduceEqDiff, Nat.reduceBEq]
            refine EvK.go 1000 ?_
            simp only [go_sem, Nat.reduceAdd, Nat.reduceSub, Nat.reduceMul, Nat.reduceLeDiff, Nat.reduceEqDiff, Nat.reduceBEq]
          · rcases hlaw with hlaw | hlaw
            · rw [hlaw] at hJ
              have h7 : ¬ (0 : Int) = 7 := by decide
              have hj : joinF [60, 61] f g = twoF 5 g f := rfl
              rw [hj] at hJ
              simp only [formT] at hJ
              have n1 : (twoF 5 g f).kind = 5 := rfl
              have n2 : (twoF 5 g f).parts.map Fo.toA = [g.toA, f.toA] := rfl
              refine VCall.isoT [] hJ (pTL_refl _ _ _) ⟨trivial, trivial⟩ ?_
              rw [frzI_nil]
              simp only [ite_self]
              refine EvK.go 1000 ?_
              simp only [go_sem, Nat.reduceAdd, Nat.reduceSub, Nat.reduceMul, Nat.reduceLeDiff, Nat.reduceEqDiff, Nat.reduceBEq, fo_c9, fo_all, fo_take, Fo.cs, fo_cells, fo_agg, Nat.le_refl, n1, n2]
              refine EvK.draw [] 5 5 mixed rfl rfl (Nat.le_refl _) ?_
              simp only [go_sem, Nat.reduceAdd, Nat.reduceSub, Nat.reduceMul, Nat.reduceLeDiff, Nat.reduceEqDiff, Nat.reduceBEq, padS]
              refine draw_iso AwakeP_eq rfl trivial ?_
              simp only [merge_same]
              simp only [go_sem, Nat.reduceAdd, Nat.reduceSub, Nat.reduceMul, Nat.reduceLeDiff, Nat.reduceEqDiff, Nat.reduceBEq, h7, two2, lt02, lt12, le00, le01, Int.toNat_zero, Int.toNat_one, List.getD_cons_zero, List.getD_cons_succ, fo_cells, Nat.le_refl]
              rw [← fo_eq g]
              refine draw_iso (Same_eq g hgs) (pTL_refl _ _ _) ⟨fo_low0 _, fo_low0 _, trivial⟩ ?_
              simp only [merge_same]
              simp only [go_sem, Nat.reduceAdd, Nat.reduceSub, Nat.reduceMul, Nat.reduceLeDiff, Nat.reduceEqDiff, Nat.reduceBEq, one1, two2, lt02, lt12, le00, le01, Int.toNat_zero, Int.toNat_one, List.getD_cons_zero, List.getD_cons_succ, fo_cells, Nat.le_refl]
              refine EvK.go 1000 ?_
              simp only [go_sem, Nat.reduceAdd, Nat.reduceSub, Nat.reduceMul, Nat.reduceLeDiff, Nat.reduceEqDiff, Nat.reduceBEq]
            · exact absurd hlaw hd
    · generalize formR (bs t) = R2 at *
      obtain ⟨v2, q2, e2⟩ := R2
      generalize formR (bs s) = R at *
      obtain ⟨v, q, e⟩ := R
      simp only at a1 a2 a3 a4 b1 b2 b3 b4 h0 h0'
      subst h0
      simp only [formT] at hA hB
      simp only [go_sem, Nat.reduceAdd, Nat.reduceSub, Nat.reduceMul, Nat.reduceLeDiff, Nat.reduceEqDiff, Nat.reduceBEq, h, h']
      refine VCall.isoT [] hA (pTL_refl _ _ _) ⟨trivial, trivial⟩ ?_
      rw [frzI_nil]
      simp only [ite_self]
      refine EvK.go 1000 ?_
      simp only [go_sem, Nat.reduceAdd, Nat.reduceSub, Nat.reduceMul, Nat.reduceLeDiff, Nat.reduceEqDiff, Nat.reduceBEq, a1, a2, a3, lt09, Nat.le_refl]
      refine VCall.isoT [] hB (pTL_refl _ _ _) ⟨trivial, trivial⟩ ?_
      rw [frzI_nil]
      simp only [ite_self]
      refine EvK.go 1000 ?_
      simp only [go_sem, Nat.reduceAdd, Nat.reduceSub, Nat.reduceMul, Nat.reduceLeDiff, Nat.reduceEqDiff, Nat.reduceBEq, b1, b2, b3, lt09, Nat.le_refl, h0']
      refine VCall.isoT [] AwakeP_eq rfl trivial ?_
      rw [frzI_nil]
      simp only [ite_self]
      refine EvK.go 1000 ?_
      simp only [go_sem, Nat.reduceAdd, Nat.reduceSub, Nat.reduceMul, Nat.reduceLeDiff, Nat.reduceEqDiff, Nat.reduceBEq]
  · generalize formR (bs t) = R2 at *
    obtain ⟨v2, q2, e2⟩ := R2
    generalize formR (bs s) = R at *
    obtain ⟨v, q, e⟩ := R
    simp only at a1 a2 a3 a4 b1 b2 b3 b4 h0
    simp only [formT] at hA hB
    simp only [go_sem, Nat.reduceAdd, Nat.reduceSub, Nat.reduceMul, Nat.reduceLeDiff, Nat.reduceEqDiff, Nat.reduceBEq, h, h']
    refine VCall.isoT [] hA (pTL_refl _ _ _) ⟨trivial, trivial⟩ ?_
    rw [frzI_nil]
    simp only [ite_self]
    refine EvK.go 1000 ?_
    simp only [go_sem, Nat.reduceAdd, Nat.reduceSub, Nat.reduceMul, Nat.reduceLeDiff, Nat.reduceEqDiff, Nat.reduceBEq, a1, a2, a3, lt09, Nat.le_refl]
    refine VCall.isoT [] hB (pTL_refl _ _ _) ⟨trivial, trivial⟩ ?_
    rw [frzI_nil]
    simp only [ite_self]
    refine EvK.go 1000 ?_
    simp only [go_sem, Nat.reduceAdd, Nat.reduceSub, Nat.reduceMul, Nat.reduceLeDiff, Nat.reduceEqDiff, Nat.reduceBEq, b1, b2, b3, lt09, Nat.le_refl, h0]
    refine VCall.isoT [] AwakeP_eq rfl trivial ?_
    rw [frzI_nil]
    simp only [ite_self]
    refine EvK.go 1000 ?_
    simp only [go_sem, Nat.reduceAdd, Nat.reduceSub, Nat.reduceMul, Nat.reduceLeDiff, Nat.reduceEqDiff, Nat.reduceBEq]
end Go.Proofs
