/- Part 44 of my own framework and of the walks of functions: Py, Mk, Pz, Qa, Qb, Qc. -/
import Derived.Test.YtcbheeddfginoaaOwn43
import Derived.KernelRfl
set_option linter.unusedVariables false
set_option linter.unusedSimpArgs false

/- What words are in a world, as the program tells it. -/
set_option linter.unusedSimpArgs false
namespace Go.Proofs
open Go Go.Abs

set_option maxHeartbeats 800000 in
theorem Word_eq (g : List Sy) (w : Wo) (hw : worldOk g w = true) (b0 b1 : Option Blk) (h0 : lowO 4 b0) (h1 : lowO 4 b1) (ns : List ByteArray) (vs : List Int) (hnv : vs.length = ns.length) (hv : ∀ v ∈ vs, 0 ≤ v ∧ v < w.size) (x : Wd) :
    x.size < 2 ^ 62 → ∀ truth wr, VCall Try.prog (.fn 75 [] []) [.ptr 3 0, x.toA, .bool truth, .pm (strs ns) (ints vs)] [b0, b1, some (.map (strs (names g)) (ints (idxs g.length)) false), some (.var [.int .i64 w.size, .ps 1 (rowsA w.rows), .ps 4 (syms g), .map 2, .bool (wr)])]
      (fun r σ' => r = .int .i64 (x.rd g w ns vs truth).1 ∧ σ' = [b0, b1, some (.map (strs (names g)) (ints (idxs g.length)) false), some (.var [.int .i64 w.size, .ps 1 (rowsA w.rows), .ps 4 (syms g), .map 2, .bool (wr || (x.rd g w ns vs truth).2)])]) := by
  have hlow : ∀ wr, lowSo 4 [b0, b1, some (.map (strs (names g)) (ints (idxs g.length)) false), some (.var [.int .i64 w.size, .ps 1 (rowsA w.rows), .ps 4 (syms g), .map 2, .bool (wr)])] := fun wr => ⟨h0, h1, ⟨strs_low _, ints_low _⟩, ⟨trivial, rowsA_low _, syms_low _, by simp [go_sem], trivial, trivial⟩, trivial⟩
  obtain ⟨q1, q2, q3, q4, q5, q6⟩ := worldOk_size hw
  induction x using Wd.rec_args with
  | h v n l ih =>
  intro hsz truth wr
  simp only [Wd.size] at hsz
  have hlen := wlen_le l
  refine VCall.begin (rs := [.tmp 8]) (m := 108) 1000 Try.func75 rfl rfl rfl rfl rfl ?_
  cases v with
  | true =>
    have hrd : Wd.rd g w ns vs (.mk true n l) truth = (lookS ns vs n, !(posS ns n).isSome || truth) := by simp only [Wd.rd, if_true]
    rw [hrd]
    generalize hps : (posS ns n).isSome = known
    have hlk := lookupIn_S ns vs n hnv
    rw [hps] at hlk
    cases truth <;> cases wr <;> cases known <;>
    · simp only [go_sem, Nat.reduceAdd, Nat.reduceSub, Nat.reduceMul, Nat.reduceLeDiff, Nat.reduceEqDiff, Nat.reduceBEq, Int.toNat_zero, decide_eq_true_eq, decide_eq_false_iff_not, Bool.not_eq_true, Bool.not_eq_false, Decidable.not_not, List.contains_cons, List.contains_nil, wd_eq, Wd.var, Wd.name, Wd.args, strs_same, hlk]
      rw [dK_eq]
      exact ⟨[b0, b1, some (.map (strs (names g)) (ints (idxs g.length)) false), some (.var [.int .i64 w.size, .ps 1 (rowsA w.rows), .ps 4 (syms g), .map 2, .bool (_)])], by simp [go_sem], Nat.le_refl _, hlow _, trivial, rfl, rfl⟩
  | false =>
    have hrd : Wd.rd g w ns vs (.mk false n l) truth = match posS (names g) n with
        | none => (0, true)
        | some k => if (g.getD k Sy.dflt).arity ≠ (l.length : Int) ∨ (g.getD k Sy.dflt).truth ≠ truth then (0, true) else
          ((w.rows.getD k []).getD (Wd.rds g w ns vs l (0, false)).1.toNat 0, (Wd.rds g w ns vs l (0, false)).2) := by rw [Wd.rd]; simp only [Bool.false_eq_true, if_false]; rfl
    generalize hV : Wd.rd g w ns vs (.mk false n l) truth = V
    rw [hrd] at hV
    simp only [go_sem, Nat.reduceAdd, Nat.reduceSub, Nat.reduceMul, Nat.reduceLeDiff, Nat.reduceEqDiff, Nat.reduceBEq, Int.toNat_zero, decide_eq_true_eq, decide_eq_false_iff_not, Bool.not_eq_true, Bool.not_eq_false, Decidable.not_not, List.contains_cons, List.contains_nil, wd_eq, Wd.var, Wd.name, Wd.args]
    refine EvK.draw [] 5 5 mixed rfl rfl (Nat.le_refl _) ?_
    have hli := lookupIn_S (names g) (idxs g.length) n (by rw [idxs_len, names_len])
    simp only [go_sem, Nat.reduceAdd, Nat.reduceSub, Nat.reduceMul, Nat.reduceLeDiff, Nat.reduceEqDiff, Nat.reduceBEq, Int.toNat_zero, decide_eq_true_eq, decide_eq_false_iff_not, Bool.not_eq_true, Bool.not_eq_false, Decidable.not_not, List.contains_cons, List.contains_nil, padS, strs_same, hli]
    refine EvK.go 1000 ?_
    cases hp : posS (names g) n with
    | none =>
      rw [hp] at hV
      subst hV
      simp only [go_sem, Nat.reduceAdd, Nat.reduceSub, Nat.reduceMul, Nat.reduceLeDiff, Nat.reduceEqDiff, Nat.reduceBEq, Int.toNat_zero, decide_eq_true_eq, decide_eq_false_iff_not, Bool.not_eq_true, Bool.not_eq_false, Decidable.not_not, List.contains_cons, List.contains_nil, hp, Option.isSome_none]
      refine EvK.draw [] 5 5 mixed rfl rfl (Nat.le_refl _) ?_
      simp only [go_sem, Nat.reduceAdd, Nat.reduceSub, Nat.reduceMul, Nat.reduceLeDiff, Nat.reduceEqDiff, Nat.reduceBEq, Int.toNat_zero, decide_eq_true_eq, decide_eq_false_iff_not, Bool.not_eq_true, Bool.not_eq_false, Decidable.not_not, List.contains_cons, List.contains_nil, padS]
      refine EvK.go 1000 ?_
      simp only [go_sem, Nat.reduceAdd, Nat.reduceSub, Nat.reduceMul, Nat.reduceLeDiff, Nat.reduceEqDiff, Nat.reduceBEq, Int.toNat_zero, decide_eq_true_eq, decide_eq_false_iff_not, Bool.not_eq_true, Bool.not_eq_false, Decidable.not_not, List.contains_cons, List.contains_nil, Bool.or_true]
      rw [dK_eq]
      exact ⟨[b0, b1, some (.map (strs (names g)) (ints (idxs g.length)) false), some (.var [.int .i64 w.size, .ps 1 (rowsA w.rows), .ps 4 (syms g), .map 2, .bool (true)])], by simp [go_sem], Nat.le_refl _, hlow _, trivial, rfl, rfl⟩
    | some k =>
      have hk := posS_lt hp
      rw [names_len] at hk
      obtain ⟨r1, r2, r3, r4, r5⟩ := row_of hw hk
      have hlx := look_idx hp
      have hkl : (k : Int) < g.length := by omega
      rw [hp] at hV
      simp only [getD_at hk] at hV
      by_cases hc1 : g[k].arity = (l.length : Int)
      case neg =>
        rw [if_pos (.inl hc1)] at hV
        subst hV
        simp only [go_sem, Nat.reduceAdd, Nat.reduceSub, Nat.reduceMul, Nat.reduceLeDiff, Nat.reduceEqDiff, Nat.reduceBEq, Int.toNat_zero, decide_eq_true_eq, decide_eq_false_iff_not, Bool.not_eq_true, Bool.not_eq_false, Decidable.not_not, List.contains_cons, List.contains_nil, hp, Option.isSome_some, hlx, Bool.or_true]
        refine EvK.draw [] 5 5 mixed rfl rfl (Nat.le_refl _) ?_
        simp only [go_sem, Nat.reduceAdd, Nat.reduceSub, Nat.reduceMul, Nat.reduceLeDiff, Nat.reduceEqDiff, Nat.reduceBEq, Int.toNat_zero, decide_eq_true_eq, decide_eq_false_iff_not, Bool.not_eq_true, Bool.not_eq_false, Decidable.not_not, List.contains_cons, List.contains_nil, padS, syms_len, hkl, List.length_map, syms_get hk, sy_cells, hc1, Int.toNat_natCast, Nat.le_refl]
        (repeat ((with_reducible refine And.intro ?_ ?_); · omega))
        refine EvK.go 1000 ?_
        simp only [go_sem, Nat.reduceAdd, Nat.reduceSub, Nat.reduceMul, Nat.reduceLeDiff, Nat.reduceEqDiff, Nat.reduceBEq, Int.toNat_zero, decide_eq_true_eq, decide_eq_false_iff_not, Bool.not_eq_true, Bool.not_eq_false, Decidable.not_not, List.contains_cons, List.contains_nil, hc1]
        rw [dK_eq]
        exact ⟨[b0, b1, some (.map (strs (names g)) (ints (idxs g.length)) false), some (.var [.int .i64 w.size, .ps 1 (rowsA w.rows), .ps 4 (syms g), .map 2, .bool (true)])], by simp [go_sem], Nat.le_refl _, hlow _, trivial, rfl, rfl⟩
      by_cases hc2 : g[k].truth = truth
      case neg =>
        rw [if_pos (.inr hc2)] at hV
        subst hV
        simp only [go_sem, Nat.reduceAdd, Nat.reduceSub, Nat.reduceMul, Nat.reduceLeDiff, Nat.reduceEqDiff, Nat.reduceBEq, Int.toNat_zero, decide_eq_true_eq, decide_eq_false_iff_not, Bool.not_eq_true, Bool.not_eq_false, Decidable.not_not, List.contains_cons, List.contains_nil, hp, Option.isSome_some, hlx, Bool.or_true]
        refine EvK.draw [] 5 5 mixed rfl rfl (Nat.le_refl _) ?_
        have hb : (!(g[k].truth == truth)) = true := by cases hh : g[k].truth <;> cases truth <;> first | rfl | exact absurd hh hc2
        simp only [go_sem, Nat.reduceAdd, Nat.reduceSub, Nat.reduceMul, Nat.reduceLeDiff, Nat.reduceEqDiff, Nat.reduceBEq, Int.toNat_zero, decide_eq_true_eq, decide_eq_false_iff_not, Bool.not_eq_true, Bool.not_eq_false, Decidable.not_not, List.contains_cons, List.contains_nil, padS, syms_len, hkl, List.length_map, syms_get hk, sy_cells, hc1, Int.toNat_natCast, Nat.le_refl, hb]
        (repeat ((with_reducible refine And.intro ?_ ?_); · omega))
        refine EvK.go 1000 ?_
        simp only [go_sem, Nat.reduceAdd, Nat.reduceSub, Nat.reduceMul, Nat.reduceLeDiff, Nat.reduceEqDiff, Nat.reduceBEq, Int.toNat_zero, decide_eq_true_eq, decide_eq_false_iff_not, Bool.not_eq_true, Bool.not_eq_false, Decidable.not_not, List.contains_cons, List.contains_nil, hc1]
        rw [dK_eq]
        exact ⟨[b0, b1, some (.map (strs (names g)) (ints (idxs g.length)) false), some (.var [.int .i64 w.size, .ps 1 (rowsA w.rows), .ps 4 (syms g), .map 2, .bool (true)])], by simp [go_sem], Nat.le_refl _, hlow _, trivial, rfl, rfl⟩
      rw [if_neg (by rintro (h | h); · exact h hc1
                     · exact h hc2)] at hV
      subst hV
      simp only [go_sem, Nat.reduceAdd, Nat.reduceSub, Nat.reduceMul, Nat.reduceLeDiff, Nat.reduceEqDiff, Nat.reduceBEq, Int.toNat_zero, decide_eq_true_eq, decide_eq_false_iff_not, Bool.not_eq_true, Bool.not_eq_false, Decidable.not_not, List.contains_cons, List.contains_nil, hp, Option.isSome_some, hlx]
      refine EvK.draw [] 5 5 mixed rfl rfl (Nat.le_refl _) ?_
      have hb : (!(g[k].truth == truth)) = false := by rw [hc2]; cases truth <;> rfl
      simp only [go_sem, Nat.reduceAdd, Nat.reduceSub, Nat.reduceMul, Nat.reduceLeDiff, Nat.reduceEqDiff, Nat.reduceBEq, Int.toNat_zero, decide_eq_true_eq, decide_eq_false_iff_not, Bool.not_eq_true, Bool.not_eq_false, Decidable.not_not, List.contains_cons, List.contains_nil, padS, syms_len, hkl, List.length_map, syms_get hk, sy_cells, hc1, Int.toNat_natCast, Nat.le_refl, hb]
      (repeat ((with_reducible refine And.intro ?_ ?_); · omega))
      refine EvK.go 1000 ?_
      simp only [go_sem, Nat.reduceAdd, Nat.reduceSub, Nat.reduceMul, Nat.reduceLeDiff, Nat.reduceEqDiff, Nat.reduceBEq, Int.toNat_zero, decide_eq_true_eq, decide_eq_false_iff_not, Bool.not_eq_true, Bool.not_eq_false, Decidable.not_not, List.contains_cons, List.contains_nil, List.length_map]
      have hl4 : l.length ≤ 4 := by omega
      refine EvK.loopI (ι := {i : Nat // i ≤ l.length}) 1000 (fun i => mkT 112 [(0, .ptr 3 0), (3, .pm (strs ns) (ints vs)), (5, .ptr 4 0), (11, .int .i64 k), (13, .int .i64 (Wd.rds g w ns vs (l.take i.1) (0, false)).1), (82, .ps 3 (l.map Wd.toA)), (83, .int .i64 l.length), (84, .int .i64 i.1)]) (fun i => [b0, b1, some (.map (strs (names g)) (ints (idxs g.length)) false), some (.var [.int .i64 w.size, .ps 1 (rowsA w.rows), .ps 4 (syms g), .map 2, .bool (wr || (Wd.rds g w ns vs (l.take i.1) (0, false)).2)]), some (.var [.bool false, .str n, .ps 3 (l.map Wd.toA)])])
        (fun i => l.length - i.1) ⟨0, by omega⟩ ?_ (fun _ => Nat.le_add_right 4 1) ?_
      · have h9 := lowSo_mono (m := 5) (by decide) (hlow wr)
        simp only [lowSo_cons, lowSo_nil, and_true] at h9
        simp only [go_sem, Nat.reduceAdd, Nat.reduceSub, Nat.reduceMul, Nat.reduceLeDiff, Nat.reduceEqDiff, Nat.reduceBEq, Int.toNat_zero, decide_eq_true_eq, decide_eq_false_iff_not, Bool.not_eq_true, Bool.not_eq_false, Decidable.not_not, List.contains_cons, List.contains_nil, lowSo_cons, h9, lowO_some, strs_low, ints_low, wds_low, List.take_zero, Wd.rds, Int.natCast_zero, Bool.or_false, rowsA_low, syms_low]
        decide
      · rintro ⟨i, hi⟩
        by_cases hlt : (i : Int) < l.length
        · have hlt' : i < l.length := by omega
          have hsz2 := wsize_le l i hlt'
          have hsn := rds_snoc (g := g) (w := w) (ns := ns) (vs := vs) l i hlt' (0, false)
          obtain ⟨a1, a2⟩ := rds_small (ns := ns) hw hv hl4 i
          obtain ⟨v1, v2⟩ := rd_range (ns := ns) hw hv l[i]
          have ihi := ih i hlt' (by omega) false
          generalize Wd.rds g w ns vs (l.take i) (0, false) = A at *
          generalize Wd.rd g w ns vs l[i] false = V at *
          have m1 : 0 ≤ A.1 * w.size := Int.mul_nonneg a1 (by omega)
          have m2 : A.1 * w.size ≤ 256 * 4 := Int.mul_le_mul (by omega) q3 (by omega) (by omega)
          simp only [go_sem, Nat.reduceAdd, Nat.reduceSub, Nat.reduceMul, Nat.reduceLeDiff, Nat.reduceEqDiff, Nat.reduceBEq, Int.toNat_zero, decide_eq_true_eq, decide_eq_false_iff_not, Bool.not_eq_true, Bool.not_eq_false, Decidable.not_not, List.contains_cons, List.contains_nil, hlt, List.length_map, Int.toNat_natCast, map_getD hlt', wd_cells, Nat.le_refl]
          (repeat ((with_reducible refine And.intro ?_ ?_); · omega))
          refine EvK.drawF [⟨none, [], [3]⟩, ⟨none, [], [3]⟩, ⟨none, [], [3]⟩, ⟨none, [], [3]⟩, ⟨none, [], [3]⟩, ⟨none, [], [3]⟩, ⟨none, [], [3]⟩, .no, .no, .no, ⟨none, [3], []⟩] 6 6 mixed rfl rfl (Nat.le_refl _) 5 rfl rfl rfl 3 0 10 rfl lay3 (.int .i64 w.size) ?_ ?_
          · simp only [go_sem, Nat.reduceAdd, Nat.reduceSub, Nat.reduceMul, Nat.reduceLeDiff, Nat.reduceEqDiff, Nat.reduceBEq, Int.toNat_zero, decide_eq_true_eq, decide_eq_false_iff_not, Bool.not_eq_true, Bool.not_eq_false, Decidable.not_not, List.contains_cons, List.contains_nil, padS]
          simp only [go_sem, Nat.reduceAdd, Nat.reduceSub, Nat.reduceMul, Nat.reduceLeDiff, Nat.reduceEqDiff, Nat.reduceBEq, Int.toNat_zero, decide_eq_true_eq, decide_eq_false_iff_not, Bool.not_eq_true, Bool.not_eq_false, Decidable.not_not, List.contains_cons, List.contains_nil, padS, Nat.le_refl]
          rw [← wd_eq]
          refine ⟨.int .i64 V.1, [b0, b1, some (.map (strs (names g)) (ints (idxs g.length)) false), some (.var [.int .i64 w.size, .ps 1 (rowsA w.rows), .ps 4 (syms g), .map 2, .bool ((wr || A.2) || V.2)]), some (.var [.bool false, .str n, .ps 3 (l.map Wd.toA)]), some (.var [.bool l[i].var, .str l[i].name, .ps 3 (l[i].args.map Wd.toA)])], ?_, ?_, ?_⟩
          · refine VCall.tail (σ := [b0, b1, some (.map (strs (names g)) (ints (idxs g.length)) false), some (.var [.int .i64 w.size, .ps 1 (rowsA w.rows), .ps 4 (syms g), .map 2, .bool (wr || A.2)])]) (τ := [some (.var [.bool false, .str n, .ps 3 (l.map Wd.toA)]), some (.var [.bool l[i].var, .str l[i].name, .ps 3 (l[i].args.map Wd.toA)])]) ⟨trivial, trivial⟩ (by simp [go_sem, wd_low, strs_low, ints_low]) (hlow _) ?_
            refine (ihi (wr || A.2)).mono ?_
            rintro r' σ' ⟨rfl, rfl⟩
            exact ⟨rfl, rfl, rfl⟩
          · simp only [go_sem, Nat.reduceAdd, Nat.reduceSub, Nat.reduceMul, Nat.reduceLeDiff, Nat.reduceEqDiff, Nat.reduceBEq, Int.toNat_zero, decide_eq_true_eq, decide_eq_false_iff_not, Bool.not_eq_true, Bool.not_eq_false, Decidable.not_not, List.contains_cons, List.contains_nil]
          simp only [go_sem, Nat.reduceAdd, Nat.reduceSub, Nat.reduceMul, Nat.reduceLeDiff, Nat.reduceEqDiff, Nat.reduceBEq, Int.toNat_zero, decide_eq_true_eq, decide_eq_false_iff_not, Bool.not_eq_true, Bool.not_eq_false, Decidable.not_not, List.contains_cons, List.contains_nil]
          refine EvK.fact ⟨⟨?_, ?_⟩, ?_⟩
          · rfl
          · simp only [go_sem, Nat.reduceAdd, Nat.reduceSub, Nat.reduceMul, Nat.reduceLeDiff, Nat.reduceEqDiff, Nat.reduceBEq, Int.toNat_zero, decide_eq_true_eq, decide_eq_false_iff_not, Bool.not_eq_true, Bool.not_eq_false, Decidable.not_not, List.contains_cons, List.contains_nil]
          refine EvK.go 1000 ?_
          simp only [go_sem, Nat.reduceAdd, Nat.reduceSub, Nat.reduceMul, Nat.reduceLeDiff, Nat.reduceEqDiff, Nat.reduceBEq, Int.toNat_zero, decide_eq_true_eq, decide_eq_false_iff_not, Bool.not_eq_true, Bool.not_eq_false, Decidable.not_not, List.contains_cons, List.contains_nil]
          refine ⟨⟨i + 1, hlt'⟩, ?_, by simp only; omega⟩
          have h9 := lowSo_mono (m := 5) (by decide) (hlow wr)
          simp only [lowSo_cons, lowSo_nil, and_true] at h9
          rw [i64_id (n := A.1 * w.size) (by omega), i64_id (n := A.1 * w.size + V.1) (by omega), i64_id (by omega)]
          simp only [go_sem, Nat.reduceAdd, Nat.reduceSub, Nat.reduceMul, Nat.reduceLeDiff, Nat.reduceEqDiff, Nat.reduceBEq, Int.toNat_zero, decide_eq_true_eq, decide_eq_false_iff_not, Bool.not_eq_true, Bool.not_eq_false, Decidable.not_not, List.contains_cons, List.contains_nil, lowSo_cons, h9, lowO_some, strs_low, ints_low, wds_low, hsn, Bool.or_assoc, rowsA_low, syms_low]
          exact ⟨rfl, by decide⟩
        · have hi' : i = l.length := by omega
          subst hi'
          rw [List.take_length] at *
          obtain ⟨a1, a2⟩ := rds_range (ns := ns) hw hv l (0, false) (Int.le_refl 0)
          generalize Wd.rds g w ns vs l (0, false) = A at *
          have hat : A.1.toNat < (w.rows.getD k []).length := by
            have e : g[k].arity.toNat = l.length := by omega
            rw [e] at r4
            simp only [Int.zero_add, Int.one_mul] at a2
            omega
          have hrk : w.rows.getD k [] = w.rows[k] := by simp [List.getD, r3]
          rw [hrk] at hat ⊢
          have hrl : (k : Int) < w.rows.length := by omega
          have hal : A.1 < (w.rows[k].length : Int) := by omega
          simp only [go_sem, Nat.reduceAdd, Nat.reduceSub, Nat.reduceMul, Nat.reduceLeDiff, Nat.reduceEqDiff, Nat.reduceBEq, Int.toNat_zero, decide_eq_true_eq, decide_eq_false_iff_not, Bool.not_eq_true, Bool.not_eq_false, Decidable.not_not, List.contains_cons, List.contains_nil, hlt, hrk]
          refine EvK.go 1000 ?_
          simp only [go_sem, Nat.reduceAdd, Nat.reduceSub, Nat.reduceMul, Nat.reduceLeDiff, Nat.reduceEqDiff, Nat.reduceBEq, Int.toNat_zero, decide_eq_true_eq, decide_eq_false_iff_not, Bool.not_eq_true, Bool.not_eq_false, Decidable.not_not, List.contains_cons, List.contains_nil, rowsA_len, hrl, Int.toNat_natCast, rowsA_get r3, ints_len, hal, ints_get hat]
          (repeat ((with_reducible refine And.intro ?_ ?_); · omega))
          rw [dK_eq]
          exact ⟨[b0, b1, some (.map (strs (names g)) (ints (idxs g.length)) false), some (.var [.int .i64 w.size, .ps 1 (rowsA w.rows), .ps 4 (syms g), .map 2, .bool (wr || A.2)])], by simp [go_sem], Nat.le_refl _, hlow _, trivial, by rw [getD_at' hat], rfl⟩
end Go.Proofs

/- Formulas in worlds: what is so. -/
namespace Go.Proofs
open Go Go.Abs

/-- Names and the things that stand for them. -/
abbrev Nms := List ByteArray × List Int
def putN (E : Nms) (n : ByteArray) (v : Int) : Nms := match posS E.1 n with
  | some i => (E.1, E.2.set i v)
  | none => (E.1 ++ [n], E.2 ++ [v])
theorem mapSet_S (E : Nms) (n : ByteArray) (v : Int) : mapSet (strs E.1) (ints E.2) (.str n) (.int .i64 v) = (strs (putN E n v).1, ints (putN E n v).2) := by
  simp only [mapSet, putN]
  cases hp : posS E.1 n with
  | none => simp only [posS] at hp; rw [hp]; simp [strs, ints]
  | some i => simp only [posS] at hp; rw [hp]; simp only [ints_set]
def putsN : Nms → List ByteArray → List Int → Nms
  | E, n :: ns, v :: vs => putsN (putN E n v) ns vs
  | E, _, _ => E
theorem putsN_nil (E : Nms) (vs : List Int) : putsN E [] vs = E := by cases vs <;> rfl
theorem putsN_snoc : ∀ (ns : List ByteArray) (vs : List Int) (i : Nat) (h1 : i < ns.length) (h2 : i < vs.length) (E : Nms), putsN E (ns.take (i + 1)) (vs.take (i + 1)) = putN (putsN E (ns.take i) (vs.take i)) ns[i] vs[i]
  | n :: ns, v :: vs, 0, _, _, E => by simp [putsN]
  | n :: ns, v :: vs, i + 1, h1, h2, E => by
    simp only [List.take_succ_cons, putsN, List.getElem_cons_succ]
    exact putsN_snoc ns vs i (by simpa using h1) (by simpa using h2) _

def okN (s : Int) (E : Nms) : Prop := E.2.length = E.1.length ∧ ∀ v ∈ E.2, 0 ≤ v ∧ v < s
theorem okN_nil (s : Int) : okN s ([], []) := ⟨rfl, fun v h => by cases h⟩
theorem okN_put {s : Int} {E : Nms} (h : okN s E) (n : ByteArray) {v : Int} (hv : 0 ≤ v ∧ v < s) : okN s (putN E n v) := by
  unfold putN
  split
  · refine ⟨by simpa using h.1, fun x hx => ?_⟩
    rcases List.mem_or_eq_of_mem_set hx with hx | rfl
    · exact h.2 x hx
    · exact hv
  · refine ⟨by simp [h.1], fun x hx => ?_⟩
    rcases List.mem_append.1 hx with hx | hx
    · exact h.2 x hx
    · rw [List.mem_singleton.1 hx]; exact hv
theorem okN_puts {s : Int} : ∀ (ns : List ByteArray) (vs : List Int) {E : Nms}, okN s E → (∀ v ∈ vs, 0 ≤ v ∧ v < s) → okN s (putsN E ns vs)
  | [], vs, E, h, _ => by rw [putsN_nil]; exact h
  | n :: ns, [], E, h, _ => h
  | n :: ns, v :: vs, E, h, hv => okN_puts ns vs (okN_put h n (hv v List.mem_cons_self)) fun x hx => hv x (List.mem_cons_of_mem _ hx)

def soStep (k : Int) (o x : Bool × Bool) : Bool × Bool := (if k = 7 then o.1 && x.1 else o.1 || x.1, o.2 || x.2)
/-- The rows up to n. -/
def soRows (k : Int) (s : Int) (nm : List ByteArray) (so : Nms → Bool × Bool) (E : Nms) (n : Nat) : Bool × Bool :=
  (List.range n).foldl (fun o (i : Nat) => soStep k o (so (putsN E nm (digL s nm.length i)))) (decide (k = 7), false)
theorem soRows_zero (k s : Int) (nm : List ByteArray) (so : Nms → Bool × Bool) (E : Nms) : soRows k s nm so E 0 = (decide (k = 7), false) := rfl
theorem soRows_succ (k s : Int) (nm : List ByteArray) (so : Nms → Bool × Bool) (E : Nms) (n : Nat) : soRows k s nm so E (n + 1) = soStep k (soRows k s nm so E n) (so (putsN E nm (digL s nm.length n))) := by
  simp only [soRows, List.range_succ, List.foldl_append, List.foldl_cons, List.foldl_nil]

/-- Of a formula without bound names, by its parts. -/
def soKind (k : Int) (a b : Int × Bool) (t : Int × Bool) (l : List (Bool × Bool)) : Bool × Bool :=
  let bad := l.any (·.2)
  if k = 0 then (decide (t.1 = 1), bad || t.2)
  else if k = 1 then (decide (a.1 = b.1), (bad || a.2) || b.2)
  else if k = 2 then (!(l.getD 0 (false, false)).1, bad)
  else if k = 5 then (!(l.getD 0 (false, false)).1 || (l.getD 1 (false, false)).1, bad)
  else if k = 6 then ((l.getD 0 (false, false)).1 == (l.getD 1 (false, false)).1, bad)
  else if k = 9 then (true, bad)
  else if k = 10 then (false, bad)
  else if k = 3 then (l.all (·.1), bad) else (l.any (·.1), bad)

mutual
def Fo.so (g : List Sy) (w : Wo) : Fo → Nms → Bool × Bool
  | .mk k l r nm ps, E => if k = 7 ∨ k = 8 then soRows k w.size nm (fun E' => (Fo.soL g w ps E').headD (false, false)) E (w.size ^ nm.length).toNat
    else soKind k (l.rd g w E.1 E.2 false) (r.rd g w E.1 E.2 false) (l.rd g w E.1 E.2 true) (Fo.soL g w ps E)
def Fo.soL (g : List Sy) (w : Wo) : List Fo → Nms → List (Bool × Bool)
  | [], _ => []
  | p :: ps, E => p.so g w E :: Fo.soL g w ps E
end
theorem soL_map (g : List Sy) (w : Wo) (E : Nms) : ∀ ps : List Fo, Fo.soL g w ps E = ps.map fun p => p.so g w E
  | [] => rfl
  | p :: ps => by simp only [Fo.soL, List.map_cons, soL_map g w E ps]

mutual
theorem bound_le : ∀ f : Fo, f.size < 2 ^ 62 → 0 ≤ f.bound ∧ f.bound ≤ f.size
  | .mk k l r nm ps => fun h => by
    simp only [Fo.size] at h
    obtain ⟨h1, h2⟩ := bounds_le ps 0 (by omega) (Int.le_refl 0)
    simp only [Fo.bound, Fo.size]
    split
    · rw [i64_id (by omega)]; omega
    · omega
theorem bounds_le : ∀ (ps : List Fo) (n : Int), Fo.sizes ps < 2 ^ 62 → 0 ≤ n → 0 ≤ Fo.bounds ps n ∧ Fo.bounds ps n ≤ max n (Fo.sizes ps)
  | [], n => fun _ hn => by simp only [Fo.bounds]; omega
  | p :: ps, n => fun h hn => by
    simp only [Fo.sizes] at h
    obtain ⟨h1, h2⟩ := bound_le p (by omega)
    obtain ⟨h3, h4⟩ := bounds_le ps (max n p.bound) (by omega) (by omega)
    simp only [Fo.bounds, Fo.sizes]
    omega
end

theorem posS_none {ns : List ByteArray} {x : ByteArray} (h : ∀ n ∈ ns, (x.toList == n.toList) = false) : posS ns x = none := by
  have key : ∀ (l : List ByteArray) (i : Nat), (∀ n ∈ l, (x.toList == n.toList) = false) → findK (.str x) (strs l) i = none := by
    intro l
    induction l with
    | nil => intro i _; rfl
    | cons n l ih =>
      intro i hl
      have : strs (n :: l) = .str n :: strs l := rfl
      simp only [this, findK]
      rw [show eqCell (.str x) (.str n) = false from hl n List.mem_cons_self]
      exact ih _ fun m hm => hl m (List.mem_cons_of_mem _ hm)
  exact key ns 0 h
theorem posS_fresh {g : List Sy} (h : sigOk g = true) {i : Nat} (hi : i < g.length) : posS (names (g.take i)) g[i].name = none := by
  simp only [sigOk, Bool.and_eq_true] at h
  have h1 := List.all_eq_true.1 h.1.2 i (by simpa using hi)
  simp only [okAt, Bool.and_eq_true, getD_at hi, fresh, List.all_eq_true, Bool.not_eq_true'] at h1
  refine posS_none fun n hn => ?_
  obtain ⟨s, hs, rfl⟩ := List.mem_map.1 hn
  have := h1.2 s hs
  rw [Bool.eq_false_iff] at this ⊢
  intro e
  exact this (by rw [beq_iff_eq] at e ⊢; exact e.symm)
theorem names_take {g : List Sy} {i : Nat} (hi : i < g.length) : names (g.take (i + 1)) = names (g.take i) ++ [g[i].name] := by
  rw [take_snoc hi, names, List.map_append]; rfl
theorem idxs_succ (n : Nat) : idxs (n + 1) = idxs n ++ [(n : Int)] := by simp [idxs, List.range_succ]
theorem place_step {g : List Sy} (h : sigOk g = true) {i : Nat} (hi : i < g.length) : mapSet (strs (names (g.take i))) (ints (idxs i)) (.str g[i].name) (.int .i64 i) = (strs (names (g.take (i + 1))), ints (idxs (i + 1))) := by
  have := mapSet_S (names (g.take i), idxs i) g[i].name i
  simp only at this
  rw [this]
  simp only [putN, posS_fresh h hi, names_take hi, idxs_succ]

/-- Is a formula true? -/
def trueM (g : List Sy) (w : Wo) (f : Fo) : Bool × Int :=
  if worldOk g w = false then (false, 1) else if f.check ≠ 0 then (false, f.check)
  else if 20000 < manyL w.size 20000 f.bound.toNat 1 ∨ (1 < w.size ∧ 20 < f.bound) then (false, 2)
  else if (f.so g w ([], [])).2 = true then (false, 8) else ((f.so g w ([], [])).1, 0)
theorem check_right {f : Fo} (h : f.check = 0) : f.right = true := by
  unfold Fo.check at h
  split at h
  · cases h
  · split at h
    · assumption
    · cases h
end Go.Proofs

/- A map is copied; what is so of each, or of one, thing in place of names, as the program tells it. -/
set_option linter.unusedSimpArgs false
namespace Go.Proofs
open Go Go.Abs

theorem Clone_eq (ks vs : List AVal) (σ : Store) (hs : lowSo σ.length σ) (hk : lowL 0 ks) (hv : lowL 0 vs) : VCall Try.prog (.fn 101 [] []) [.pm ks vs] σ
    (fun r σ' => r = .map σ.length ∧ σ' = σ ++ [some (.map ks vs false)]) := by
  have hkn : ∀ {n}, lowL n ks := fun {n} => lowL_mono (Nat.zero_le n) hk
  have hvn : ∀ {n}, lowL n vs := fun {n} => lowL_mono (Nat.zero_le n) hv
  refine VCall.begin (rs := [.tmp 2]) (m := 8) 1000 Try.func101 rfl rfl rfl rfl rfl ?_
  simp only [go_sem, Nat.reduceAdd, Nat.reduceSub, Nat.reduceMul, Nat.reduceLeDiff, Nat.reduceEqDiff, Nat.reduceBEq, Int.toNat_zero, decide_eq_true_eq, decide_eq_false_iff_not, Bool.not_eq_true, Bool.not_eq_false, Decidable.not_not, List.contains_cons, List.contains_nil]
  refine VCall.mapsClone Try.func111 (by kernel_rfl) (by kernel_rfl) (by kernel_rfl) (by kernel_rfl) ?_
  refine EvK.go 1000 ?_
  simp only [go_sem, Nat.reduceAdd, Nat.reduceSub, Nat.reduceMul, Nat.reduceLeDiff, Nat.reduceEqDiff, Nat.reduceBEq, Int.toNat_zero, decide_eq_true_eq, decide_eq_false_iff_not, Bool.not_eq_true, Bool.not_eq_false, Decidable.not_not, List.contains_cons, List.contains_nil]
  rw [dK_eq]
  refine ⟨_, leSo_refl _, by simp, lowSo_app (lowSo_mono (by simp) hs) ?_, ?_, rfl, rfl⟩
  · simp [go_sem, hkn, hvn]
  · simp [go_sem]
theorem RowsP_eq (s m : Int) : CallEq Try.prog 37 [.int .i64 s, .int .i64 m] (.fn 68 [] [.pp [.int .i64 m], .pp [.int .i64 s]]) := by
  refine CallEq.beginX (rs := [.tmp 4]) (m := 4) [0, 1] 1000 Try.func37 rfl rfl rfl (by decide) (by simp [go_sem]) ?_
  simp only [go_sem, Nat.reduceAdd, Nat.reduceSub, Nat.reduceMul, Nat.reduceLeDiff, Nat.reduceEqDiff, Nat.reduceBEq, Int.toNat_zero, decide_eq_true_eq, decide_eq_false_iff_not, Bool.not_eq_true, Bool.not_eq_false, Decidable.not_not, List.contains_cons, List.contains_nil]
  refine ⟨_, rfl, _, rfl, ?_⟩
  simp only [isX, isT, exA, exP, List.map_cons, List.map_nil]
  exact pT_refl _ _ _

set_option maxRecDepth 10000 in
set_option maxHeartbeats 800000 in
theorem RowsP1_eq (s : Int) (k : Nat) (hs1 : 1 ≤ s) (hs4 : s ≤ 4) (hk : k < 1000000000) (N : Nat) (hN : (N : Int) = s ^ k) (b0 b1 b2 b3 b4 b5 b6 b7 b8 b9 b10 b11 b12 b13 b14 b15 : Nat → Option Blk) (y : AVal) (go : Nat → Bool) (F : Nat → Store)
    (hlow : ∀ n, lowSo 16 [b0 (n), b1 (n), b2 (n), b3 (n), b4 (n), b5 (n), b6 (n), b7 (n), b8 (n), b9 (n), b10 (n), b11 (n), b12 (n), b13 (n), b14 (n), b15 (n)]) (hyl : y.low 16)
    (hF : ∀ n, n < N → go n = false → 16 ≤ (F n).length ∧ lowSo (F n).length (F n))
    (hy : ∀ n, n < N → VCall Try.prog y [.os 16 0 k 1] [b0 (n), b1 (n), b2 (n), b3 (n), b4 (n), b5 (n), b6 (n), b7 (n), b8 (n), b9 (n), b10 (n), b11 (n), b12 (n), b13 (n), b14 (n), b15 (n), some (.row (ints (digL s k n)) 0)] (fun r σ' => r = .bool (go n) ∧ σ' = if go n = true then [b0 (n + 1), b1 (n + 1), b2 (n + 1), b3 (n + 1), b4 (n + 1), b5 (n + 1), b6 (n + 1), b7 (n + 1), b8 (n + 1), b9 (n + 1), b10 (n + 1), b11 (n + 1), b12 (n + 1), b13 (n + 1), b14 (n + 1), b15 (n + 1), some (.row (ints (digL s k n)) 0)] else F n)) :
    VCall Try.prog (.fn 68 [] [.pp [.int .i64 k], .pp [.int .i64 s]]) [y] [b0 (0), b1 (0), b2 (0), b3 (0), b4 (0), b5 (0), b6 (0), b7 (0), b8 (0), b9 (0), b10 (0), b11 (0), b12 (0), b13 (0), b14 (0), b15 (0)] (fun r σ' => r = .tup [] ∧ ((∃ n, n < N ∧ (∀ m, m < n → go m = true) ∧ go n = false ∧ σ' = F n) ∨ ((∀ m, m < N → go m = true) ∧ σ' = [b0 (N), b1 (N), b2 (N), b3 (N), b4 (N), b5 (N), b6 (N), b7 (N), b8 (N), b9 (N), b10 (N), b11 (N), b12 (N), b13 (N), b14 (N), b15 (N)]))) := by
  have hN1 : 1 ≤ N := by have := Int.pow_pos (n := s) (m := k) (by omega); omega
  refine VCall.begin (rs := []) (m := 35) 1000 Try.func68 rfl rfl rfl rfl rfl ?_
  simp only [go_sem, Nat.reduceAdd, Nat.reduceSub, Nat.reduceMul, Nat.reduceLeDiff, Nat.reduceEqDiff, Nat.reduceBEq, Int.toNat_zero, decide_eq_true_eq, decide_eq_false_iff_not, Bool.not_eq_true, Bool.not_eq_false, Decidable.not_not, List.contains_cons, List.contains_nil, Nat.le_refl, ints_rep, -List.reduceReplicate]
  refine ⟨by omega, ?_⟩
  refine EvK.loopI (ι := {n : Nat // n < N ∧ ∀ m, m < n → go m = true}) 1000 (fun n => mkT 38 [(0, y), (1, .pp [.int .i64 k]), (2, .pp [.int .i64 s]), (4, .os 16 0 k 1)]) (fun n => [b0 (n.1), b1 (n.1), b2 (n.1), b3 (n.1), b4 (n.1), b5 (n.1), b6 (n.1), b7 (n.1), b8 (n.1), b9 (n.1), b10 (n.1), b11 (n.1), b12 (n.1), b13 (n.1), b14 (n.1), b15 (n.1), some (.row (ints (digL s k n.1)) 0)]) (fun n => N - n.1) ⟨0, by omega, fun m hm => by omega⟩ ?_ (fun _ => Nat.le_add_right 16 1) ?_
  · have h9 := lowSo_mono (m := 17) (by decide) (hlow 0)
    have hy17 := low_mono (m := 17) (by decide) hyl
    simp only [lowSo_cons, lowSo_nil, and_true] at h9
    simp only [go_sem, Nat.reduceAdd, Nat.reduceSub, Nat.reduceMul, Nat.reduceLeDiff, Nat.reduceEqDiff, Nat.reduceBEq, Int.toNat_zero, decide_eq_true_eq, decide_eq_false_iff_not, Bool.not_eq_true, Bool.not_eq_false, Decidable.not_not, List.contains_cons, List.contains_nil, hy17, lowSo_cons, h9, lowO_some, ints_low, digL_init s hs1 k, Int.natCast_zero]
    exact ⟨rfl, rfl, by omega⟩
  · rintro ⟨n, hn, hpre⟩
    simp only [go_sem, Nat.reduceAdd, Nat.reduceSub, Nat.reduceMul, Nat.reduceLeDiff, Nat.reduceEqDiff, Nat.reduceBEq, Int.toNat_zero, decide_eq_true_eq, decide_eq_false_iff_not, Bool.not_eq_true, Bool.not_eq_false, Decidable.not_not, List.contains_cons, List.contains_nil]
    refine (hy n hn).mono ?_
    rintro r σ' ⟨rfl, rfl⟩
    refine EvK.go 1000 ?_
    cases hgo : go n with
    | false =>
      simp only [go_sem, Nat.reduceAdd, Nat.reduceSub, Nat.reduceMul, Nat.reduceLeDiff, Nat.reduceEqDiff, Nat.reduceBEq, Int.toNat_zero, decide_eq_true_eq, decide_eq_false_iff_not, Bool.not_eq_true, Bool.not_eq_false, Decidable.not_not, List.contains_cons, List.contains_nil, Bool.false_eq_true]
      refine EvK.go 1000 ?_
      simp only [go_sem, Nat.reduceAdd, Nat.reduceSub, Nat.reduceMul, Nat.reduceLeDiff, Nat.reduceEqDiff, Nat.reduceBEq, Int.toNat_zero, decide_eq_true_eq, decide_eq_false_iff_not, Bool.not_eq_true, Bool.not_eq_false, Decidable.not_not, List.contains_cons, List.contains_nil]
      rw [dK_eq]
      obtain ⟨f1, f2⟩ := hF n hn hgo
      exact ⟨F n, leSo_refl _, f1, f2, trivial, rfl, .inl ⟨n, hn, hpre, hgo, rfl⟩⟩
    | true =>
      have hpre' : ∀ m, m < n + 1 → go m = true := fun m hm => by
        by_cases e : m = n
        · rw [e]; exact hgo
        · exact hpre m (by omega)
      have hn0 : (0 : Int) ≤ n := by omega
      have hdig := digL_range hs1 k n
      simp only [go_sem, Nat.reduceAdd, Nat.reduceSub, Nat.reduceMul, Nat.reduceLeDiff, Nat.reduceEqDiff, Nat.reduceBEq, Int.toNat_zero, decide_eq_true_eq, decide_eq_false_iff_not, Bool.not_eq_true, Bool.not_eq_false, Decidable.not_not, List.contains_cons, List.contains_nil]
      rw [i64_id (by omega)]
      refine EvK.loopI (ι := {j : Nat // j ≤ k ∧ (n : Int) + 1 = s ^ j * ((n : Int) / s ^ j + 1)}) 1000 (fun j => mkT 38 [(0, y), (1, .pp [.int .i64 k]), (2, .pp [.int .i64 s]), (4, .os 16 0 k 1), (5, .int .i64 ((k : Int) - 1 - j.1))]) (fun j => [b0 (n + 1), b1 (n + 1), b2 (n + 1), b3 (n + 1), b4 (n + 1), b5 (n + 1), b6 (n + 1), b7 (n + 1), b8 (n + 1), b9 (n + 1), b10 (n + 1), b11 (n + 1), b12 (n + 1), b13 (n + 1), b14 (n + 1), b15 (n + 1), some (.row (ints (digL s (k - j.1) ((n : Int) / s ^ j.1) ++ List.replicate j.1 0)) 0)]) (fun j => k - j.1) ⟨0, by omega, by simp⟩ ?_ (fun _ => Nat.le_add_right 16 1) ?_
      · have h9 := lowSo_mono (m := 17) (by decide) (hlow (n + 1))
        have hy17 := low_mono (m := 17) (by decide) hyl
        simp only [lowSo_cons, lowSo_nil, and_true] at h9
        simp only [go_sem, Nat.reduceAdd, Nat.reduceSub, Nat.reduceMul, Nat.reduceLeDiff, Nat.reduceEqDiff, Nat.reduceBEq, Int.toNat_zero, decide_eq_true_eq, decide_eq_false_iff_not, Bool.not_eq_true, Bool.not_eq_false, Decidable.not_not, List.contains_cons, List.contains_nil, hy17, lowSo_cons, h9, lowO_some, ints_low, Int.natCast_zero, Int.pow_zero, Int.ediv_one, Nat.sub_zero, List.replicate_zero, List.append_nil, Int.sub_zero]
        omega
      · rintro ⟨j, hj, hinv⟩
        by_cases hjl : 0 ≤ (k : Int) - 1 - j
        case neg =>
          have hje : j = k := by omega
          subst hje
          have hlast := carry_all hs1 hn0 (by omega) hinv
          have hnN : n + 1 = N := by omega
          simp only [go_sem, Nat.reduceAdd, Nat.reduceSub, Nat.reduceMul, Nat.reduceLeDiff, Nat.reduceEqDiff, Nat.reduceBEq, Int.toNat_zero, decide_eq_true_eq, decide_eq_false_iff_not, Bool.not_eq_true, Bool.not_eq_false, Decidable.not_not, List.contains_cons, List.contains_nil, hjl]
          refine EvK.draw [] 17 17 mixed rfl rfl (Nat.le_refl _) ?_
          simp only [go_sem, Nat.reduceAdd, Nat.reduceSub, Nat.reduceMul, Nat.reduceLeDiff, Nat.reduceEqDiff, Nat.reduceBEq, Int.toNat_zero, decide_eq_true_eq, decide_eq_false_iff_not, Bool.not_eq_true, Bool.not_eq_false, Decidable.not_not, List.contains_cons, List.contains_nil, padS, hjl]
          refine EvK.go 1000 ?_
          simp only [go_sem, Nat.reduceAdd, Nat.reduceSub, Nat.reduceMul, Nat.reduceLeDiff, Nat.reduceEqDiff, Nat.reduceBEq, Int.toNat_zero, decide_eq_true_eq, decide_eq_false_iff_not, Bool.not_eq_true, Bool.not_eq_false, Decidable.not_not, List.contains_cons, List.contains_nil, hjl]
          refine EvK.go 1000 ?_
          have hneg : (j : Int) - 1 - j < 0 := by omega
          simp only [go_sem, Nat.reduceAdd, Nat.reduceSub, Nat.reduceMul, Nat.reduceLeDiff, Nat.reduceEqDiff, Nat.reduceBEq, Int.toNat_zero, decide_eq_true_eq, decide_eq_false_iff_not, Bool.not_eq_true, Bool.not_eq_false, Decidable.not_not, List.contains_cons, List.contains_nil, hneg]
          refine EvK.go 1000 ?_
          simp only [go_sem, Nat.reduceAdd, Nat.reduceSub, Nat.reduceMul, Nat.reduceLeDiff, Nat.reduceEqDiff, Nat.reduceBEq, Int.toNat_zero, decide_eq_true_eq, decide_eq_false_iff_not, Bool.not_eq_true, Bool.not_eq_false, Decidable.not_not, List.contains_cons, List.contains_nil]
          rw [dK_eq]
          refine ⟨[b0 (N), b1 (N), b2 (N), b3 (N), b4 (N), b5 (N), b6 (N), b7 (N), b8 (N), b9 (N), b10 (N), b11 (N), b12 (N), b13 (N), b14 (N), b15 (N)], ?_, Nat.le_refl _, hlow N, trivial, rfl, .inr ⟨by rw [← hnN]; exact hpre', rfl⟩⟩
          rw [← hnN]
          simp [go_sem]
        obtain ⟨a, ha⟩ : ∃ a, k - j = a + 1 := ⟨k - j - 1, by omega⟩
        have hi : ((k : Int) - 1 - j).toNat = a := by omega
        have hrow : digL s (k - j) ((n : Int) / s ^ j) ++ List.replicate j 0 = digL s a ((n : Int) / s ^ j / s) ++ ((n : Int) / s ^ j % s) :: List.replicate j 0 := by
          rw [ha, digL_head s hs1]; simp
        have hgd : (ints (digL s a ((n : Int) / s ^ j / s) ++ ((n : Int) / s ^ j % s) :: List.replicate j 0)).getD a .undef = .int .i64 ((n : Int) / s ^ j % s) := by
          rw [ints_get (by simp [digL_len])]
          simp [List.getElem_append_right, digL_len]
        have hln : (digL s a ((n : Int) / s ^ j / s) ++ ((n : Int) / s ^ j % s) :: List.replicate j 0).length = k := by simp [digL_len]; omega
        have hm0 := Int.emod_nonneg ((n : Int) / s ^ j) (show s ≠ 0 by omega)
        have hm1 := Int.emod_lt_of_pos ((n : Int) / s ^ j) (show 0 < s by omega)
        have hset : ∀ v, (digL s a ((n : Int) / s ^ j / s) ++ ((n : Int) / s ^ j % s) :: List.replicate j 0).set a v = digL s a ((n : Int) / s ^ j / s) ++ v :: List.replicate j 0 := fun v => by
          rw [List.set_append_right _ _ (by rw [digL_len]; exact Nat.le_refl _), digL_len, Nat.sub_self]; rfl
        by_cases hd : (n : Int) / s ^ j % s = s - 1
        · simp only [go_sem, Nat.reduceAdd, Nat.reduceSub, Nat.reduceMul, Nat.reduceLeDiff, Nat.reduceEqDiff, Nat.reduceBEq, Int.toNat_zero, decide_eq_true_eq, decide_eq_false_iff_not, Bool.not_eq_true, Bool.not_eq_false, Decidable.not_not, List.contains_cons, List.contains_nil, hjl]
          refine EvK.draw [] 17 17 mixed rfl rfl (Nat.le_refl _) ?_
          have hw : IntKind.i64.wrap (s - 1) = s - 1 := i64_id (by omega)
          rw [hd] at hset hgd hln hrow
          simp only [go_sem, Nat.reduceAdd, Nat.reduceSub, Nat.reduceMul, Nat.reduceLeDiff, Nat.reduceEqDiff, Nat.reduceBEq, Int.toNat_zero, decide_eq_true_eq, decide_eq_false_iff_not, Bool.not_eq_true, Bool.not_eq_false, Decidable.not_not, List.contains_cons, List.contains_nil, padS, hjl, hi, hrow, ints_len, hln, hgd, hw]
          (repeat ((with_reducible refine And.intro ?_ ?_); · omega))
          refine EvK.go 1000 ?_
          simp only [go_sem, Nat.reduceAdd, Nat.reduceSub, Nat.reduceMul, Nat.reduceLeDiff, Nat.reduceEqDiff, Nat.reduceBEq, Int.toNat_zero, decide_eq_true_eq, decide_eq_false_iff_not, Bool.not_eq_true, Bool.not_eq_false, Decidable.not_not, List.contains_cons, List.contains_nil, hjl, hi, hrow, ints_len, hln, hgd, ints_set, hset]
          (repeat ((with_reducible refine And.intro ?_ ?_); · omega))
          have hcs := carry_step hs1 hinv hd
          have hnx : digL s a ((n : Int) / s ^ j / s) ++ 0 :: List.replicate j 0 = digL s (k - (j + 1)) ((n : Int) / s ^ (j + 1)) ++ List.replicate (j + 1) 0 := by
            rw [show k - (j + 1) = a by omega, Int.pow_succ, Int.ediv_ediv_of_nonneg (Int.le_of_lt (Int.pow_pos (by omega))), List.replicate_succ]
          refine ⟨⟨j + 1, by omega, hcs⟩, ?_, by simp only; omega⟩
          have h9 := lowSo_mono (m := 17) (by decide) (hlow (n + 1))
          have hy17 := low_mono (m := 17) (by decide) hyl
          simp only [lowSo_cons, lowSo_nil, and_true] at h9
          simp only [go_sem, Nat.reduceAdd, Nat.reduceSub, Nat.reduceMul, Nat.reduceLeDiff, Nat.reduceEqDiff, Nat.reduceBEq, Int.toNat_zero, decide_eq_true_eq, decide_eq_false_iff_not, Bool.not_eq_true, Bool.not_eq_false, Decidable.not_not, List.contains_cons, List.contains_nil, hy17, lowSo_cons, h9, lowO_some, ints_low, hnx]
          rw [i64_id (by omega)]
          exact ⟨by rw [show (k : Int) - 1 - ((j + 1 : Nat) : Int) = k - 1 - j - 1 by omega], by omega⟩
        · simp only [go_sem, Nat.reduceAdd, Nat.reduceSub, Nat.reduceMul, Nat.reduceLeDiff, Nat.reduceEqDiff, Nat.reduceBEq, Int.toNat_zero, decide_eq_true_eq, decide_eq_false_iff_not, Bool.not_eq_true, Bool.not_eq_false, Decidable.not_not, List.contains_cons, List.contains_nil, hjl]
          refine EvK.draw [] 17 17 mixed rfl rfl (Nat.le_refl _) ?_
          have hw : IntKind.i64.wrap (s - 1) = s - 1 := i64_id (by omega)
          have hw2 : IntKind.i64.wrap ((n : Int) / s ^ j % s + 1) = (n : Int) / s ^ j % s + 1 := i64_id (by omega)
          have hnn : ¬ (k : Int) - 1 - j < 0 := by omega
          simp only [go_sem, Nat.reduceAdd, Nat.reduceSub, Nat.reduceMul, Nat.reduceLeDiff, Nat.reduceEqDiff, Nat.reduceBEq, Int.toNat_zero, decide_eq_true_eq, decide_eq_false_iff_not, Bool.not_eq_true, Bool.not_eq_false, Decidable.not_not, List.contains_cons, List.contains_nil, padS, hjl, hi, hrow, ints_len, hln, hgd, hw, hd]
          (repeat ((with_reducible refine And.intro ?_ ?_); · omega))
          refine EvK.go 1000 ?_
          simp only [go_sem, Nat.reduceAdd, Nat.reduceSub, Nat.reduceMul, Nat.reduceLeDiff, Nat.reduceEqDiff, Nat.reduceBEq, Int.toNat_zero, decide_eq_true_eq, decide_eq_false_iff_not, Bool.not_eq_true, Bool.not_eq_false, Decidable.not_not, List.contains_cons, List.contains_nil]
          refine EvK.go 1000 ?_
          simp only [go_sem, Nat.reduceAdd, Nat.reduceSub, Nat.reduceMul, Nat.reduceLeDiff, Nat.reduceEqDiff, Nat.reduceBEq, Int.toNat_zero, decide_eq_true_eq, decide_eq_false_iff_not, Bool.not_eq_true, Bool.not_eq_false, Decidable.not_not, List.contains_cons, List.contains_nil, hnn, hi, hrow, ints_len, hln, hgd, ints_set, hset, hw2]
          (repeat ((with_reducible refine And.intro ?_ ?_); · omega))
          have hce := carry_end (a := a) (j := j) hs1 hn0 hinv hd
          rw [show a + 1 + j = k by omega] at hce
          have hnN : n + 1 < N := by
            have := carry_lt (a := a) (j := j) (n := (n : Int)) hs1 (by rw [show a + 1 + j = k by omega]; omega) hinv hd
            rw [show a + 1 + j = k by omega] at this; omega
          refine ⟨⟨n + 1, hnN, hpre'⟩, ?_, by simp only; omega⟩
          have h9 := lowSo_mono (m := 17) (by decide) (hlow (n + 1))
          have hy17 := low_mono (m := 17) (by decide) hyl
          simp only [lowSo_cons, lowSo_nil, and_true] at h9
          simp only [go_sem, Nat.reduceAdd, Nat.reduceSub, Nat.reduceMul, Nat.reduceLeDiff, Nat.reduceEqDiff, Nat.reduceBEq, Int.toNat_zero, decide_eq_true_eq, decide_eq_false_iff_not, Bool.not_eq_true, Bool.not_eq_false, Decidable.not_not, List.contains_cons, List.contains_nil, hy17, lowSo_cons, h9, lowO_some, ints_low, Int.natCast_add, Int.natCast_one, hce]
          omega

theorem lowO_none {n : Nat} : lowO n none = True := rfl

set_option maxRecDepth 20000 in
set_option maxHeartbeats 1600000 in
theorem Bind_eq (g : List Sy) (w : Wo) (hw : worldOk g w = true) (b0 b1 : Option Blk) (h0 : lowO 4 b0) (h1 : lowO 4 b1) (k : Int) (l r : Wd) (nm : List ByteArray) (pt : List Fo) (hpt : 0 < pt.length) (hnm : nm.length < 1000000000) (so : Nms → Bool × Bool)
    (hy : ∀ (E : Nms) wr, okN w.size E → VCall Try.prog (.fn 49 [] []) [.ptr 3 0, pt[0].toA, .pm (strs E.1) (ints E.2)] [b0, b1, some (.map (strs (names g)) (ints (idxs g.length)) false), some (.var [.int .i64 w.size, .ps 1 (rowsA w.rows), .ps 4 (syms g), .map 2, .bool (wr)])] (fun r σ' => r = .bool (so E).1 ∧ σ' = [b0, b1, some (.map (strs (names g)) (ints (idxs g.length)) false), some (.var [.int .i64 w.size, .ps 1 (rowsA w.rows), .ps 4 (syms g), .map 2, .bool (wr || (so E).2)])]))
    (E : Nms) (hE : okN w.size E) (wr : Bool) : VCall Try.prog (.fn 76 [] []) [.ptr 3 0, (Fo.mk k l r nm pt).toA, .pm (strs E.1) (ints E.2)] [b0, b1, some (.map (strs (names g)) (ints (idxs g.length)) false), some (.var [.int .i64 w.size, .ps 1 (rowsA w.rows), .ps 4 (syms g), .map 2, .bool (wr)])]
      (fun r σ' => r = .bool (soRows k w.size nm so E (w.size ^ nm.length).toNat).1 ∧ σ' = [b0, b1, some (.map (strs (names g)) (ints (idxs g.length)) false), some (.var [.int .i64 w.size, .ps 1 (rowsA w.rows), .ps 4 (syms g), .map 2, .bool (wr || (soRows k w.size nm so E (w.size ^ nm.length).toNat).2)])]) := by
  obtain ⟨q1, q2, q3, q4, q5, q6⟩ := worldOk_size hw
  have hpos : 1 ≤ w.size ^ nm.length := Int.pow_pos (by omega)
  have hR0 := soRows_zero k w.size nm so E
  have hRs := soRows_succ k w.size nm so E
  generalize hN : (w.size ^ nm.length).toNat = N
  have hN' : (N : Int) = w.size ^ nm.length := by omega
  have hstep : ∀ o x, soStep k o x = (if decide (k = 7) = true then o.1 && x.1 else o.1 || x.1, o.2 || x.2) := fun o x => by simp [soStep]
  generalize soRows k w.size nm so E = R at *
  have hb03 : ∀ {m : Nat}, 4 ≤ m → lowO m b0 ∧ lowO m b1 := fun hm => by
    have h9 := lowSo_mono (m := _) hm (show lowSo 4 [b0, b1] from ⟨h0, h1, trivial⟩)
    exact ⟨h9.1, h9.2.1⟩
  refine VCall.begin (rs := [.tmp 6]) (m := 67) 1000 Try.func76 rfl rfl rfl rfl rfl ?_
  simp only [go_sem, Nat.reduceAdd, Nat.reduceSub, Nat.reduceMul, Nat.reduceLeDiff, Nat.reduceEqDiff, Nat.reduceBEq, Int.toNat_zero, decide_eq_true_eq, decide_eq_false_iff_not, Bool.not_eq_true, Bool.not_eq_false, Decidable.not_not, List.contains_cons, List.contains_nil, fo_eq, Fo.kind, Fo.l, Fo.r, Fo.names, Fo.parts, strs_len]
  generalize hal : decide (k = 7) = al at *
  refine EvK.draw [] 9 9 mixed rfl rfl (Nat.le_refl _) ?_
  simp only [go_sem, Nat.reduceAdd, Nat.reduceSub, Nat.reduceMul, Nat.reduceLeDiff, Nat.reduceEqDiff, Nat.reduceBEq, Int.toNat_zero, decide_eq_true_eq, decide_eq_false_iff_not, Bool.not_eq_true, Bool.not_eq_false, Decidable.not_not, List.contains_cons, List.contains_nil, padS, strs_len]
  refine draw_iso (RowsP_eq w.size nm.length) (pTL_refl _ _ _) (by simp [go_sem, ]) ?_
  simp only [go_sem, Nat.reduceAdd, Nat.reduceSub, Nat.reduceMul, Nat.reduceLeDiff, Nat.reduceEqDiff, Nat.reduceBEq, Int.toNat_zero, decide_eq_true_eq, decide_eq_false_iff_not, Bool.not_eq_true, Bool.not_eq_false, Decidable.not_not, List.contains_cons, List.contains_nil]
  refine EvK.go 1000 ?_
  simp only [go_sem, Nat.reduceAdd, Nat.reduceSub, Nat.reduceMul, Nat.reduceLeDiff, Nat.reduceEqDiff, Nat.reduceBEq, Int.toNat_zero, decide_eq_true_eq, decide_eq_false_iff_not, Bool.not_eq_true, Bool.not_eq_false, Decidable.not_not, List.contains_cons, List.contains_nil]
  refine EvK.rangeFunc (mkT 70 [(3, .ptr 4 0), (4, .ptr 5 0), (5, .ptr 6 0), (7, .ptr 7 0), (8, .ptr 8 0)]) ?_ ?_ (fun ρ ht hpa hat hbo => ?_)
  · simp only [go_sem, Nat.reduceAdd, Nat.reduceSub, Nat.reduceMul, Nat.reduceLeDiff, Nat.reduceEqDiff, Nat.reduceBEq, Int.toNat_zero, decide_eq_true_eq, decide_eq_false_iff_not, Bool.not_eq_true, Bool.not_eq_false, Decidable.not_not, List.contains_cons, List.contains_nil]
  · exact fun b hb => by cases hb
  simp only [go_sem, Nat.reduceAdd, Nat.reduceSub, Nat.reduceMul, Nat.reduceLeDiff, Nat.reduceEqDiff, Nat.reduceBEq, Int.toNat_zero, decide_eq_true_eq, decide_eq_false_iff_not, Bool.not_eq_true, Bool.not_eq_false, Decidable.not_not, List.contains_cons, List.contains_nil]
  have hρl : lowL 9 ρ.tm := by rw [ht]; simp [go_sem, mkT_cons, mkT_nil]
  have hρ : ∀ {m : Nat}, 9 ≤ m → lowL m ρ.tm := fun hm => lowL_mono hm hρl
  have hB : ∀ n, lowSo 16 [b0, b1, some (.map (strs (names g)) (ints (idxs g.length)) false), some (.var [.int .i64 w.size, .ps 1 (rowsA w.rows), .ps 4 (syms g), .map 2, .bool (wr || (R (n)).2)]), some (.var [.ptr 3 0]), some (.var [.int .i64 k, .bool l.var, .str l.name, .ps 3 (l.args.map Wd.toA), .bool r.var, .str r.name, .ps 3 (r.args.map Wd.toA), .ps 1 (strs nm), .ps 9 (pt.map Fo.toA)]), some (.var [.pm (strs E.1) (ints E.2)]), some (.var [.bool al]), some (.var [.bool (R (n)).1]), some (.loop (ρ.at .ready)), none, none, none, none, none, none] := fun n => ⟨(hb03 (by decide)).1, (hb03 (by decide)).2, ⟨strs_low _, ints_low _⟩, ⟨trivial, rowsA_low _, syms_low _, by simp [go_sem], trivial, trivial⟩, ⟨by simp [go_sem], trivial⟩, ⟨trivial, trivial, trivial, wds_low _, trivial, trivial, wds_low _, strs_low _, fos_low _, trivial⟩, ⟨⟨strs_low _, ints_low _⟩, trivial⟩, ⟨trivial, trivial⟩, ⟨trivial, trivial⟩, hρ (by decide), trivial, trivial, trivial, trivial, trivial, trivial, trivial⟩
  have hz : ([b0, b1, some (.map (strs (names g)) (ints (idxs g.length)) false), some (.var [.int .i64 w.size, .ps 1 (rowsA w.rows), .ps 4 (syms g), .map 2, .bool (wr)]), some (.var [.ptr 3 0]), some (.var [.int .i64 k, .bool l.var, .str l.name, .ps 3 (l.args.map Wd.toA), .bool r.var, .str r.name, .ps 3 (r.args.map Wd.toA), .ps 1 (strs nm), .ps 9 (pt.map Fo.toA)]), some (.var [.pm (strs E.1) (ints E.2)]), some (.var [.bool al]), some (.var [.bool al]), some (.loop (ρ.at .ready))] : Store) = [b0, b1, some (.map (strs (names g)) (ints (idxs g.length)) false), some (.var [.int .i64 w.size, .ps 1 (rowsA w.rows), .ps 4 (syms g), .map 2, .bool (wr || (R 0).2)]), some (.var [.ptr 3 0]), some (.var [.int .i64 k, .bool l.var, .str l.name, .ps 3 (l.args.map Wd.toA), .bool r.var, .str r.name, .ps 3 (r.args.map Wd.toA), .ps 1 (strs nm), .ps 9 (pt.map Fo.toA)]), some (.var [.pm (strs E.1) (ints E.2)]), some (.var [.bool al]), some (.var [.bool (R 0).1]), some (.loop (ρ.at .ready))] := by rw [hR0, Bool.or_false]
  rw [hz]
  refine VCall.pad 6 ?_
  refine (RowsP1_eq w.size nm.length q2 q3 hnm N hN' (fun _ => b0) (fun _ => b1) (fun _ => some (.map (strs (names g)) (ints (idxs g.length)) false)) (fun n => some (.var [.int .i64 w.size, .ps 1 (rowsA w.rows), .ps 4 (syms g), .map 2, .bool (wr || (R n).2)])) (fun _ => some (.var [.ptr 3 0])) (fun _ => some (.var [.int .i64 k, .bool l.var, .str l.name, .ps 3 (l.args.map Wd.toA), .bool r.var, .str r.name, .ps 3 (r.args.map Wd.toA), .ps 1 (strs nm), .ps 9 (pt.map Fo.toA)])) (fun _ => some (.var [.pm (strs E.1) (ints E.2)])) (fun _ => some (.var [.bool al])) (fun n => some (.var [.bool (R n).1])) (fun _ => some (.loop (ρ.at .ready))) (fun _ => none) (fun _ => none) (fun _ => none) (fun _ => none) (fun _ => none) (fun _ => none) (.yld 9)
    (fun _ => true) (fun _ => []) hB (by simp [go_sem]) (fun _ _ h => by cases h) (fun n hn => ?_)).mono ?_
  · refine VCall.yieldK 1000 ht hpa hat hbo rfl rfl ?_
    have hrl := digL_len w.size nm.length n
    have hrr := digL_range q2 nm.length n
    have hRn := hRs n
    generalize digL w.size nm.length n = row at *
    simp only [go_sem, Nat.reduceAdd, Nat.reduceSub, Nat.reduceMul, Nat.reduceLeDiff, Nat.reduceEqDiff, Nat.reduceBEq, Int.toNat_zero, decide_eq_true_eq, decide_eq_false_iff_not, Bool.not_eq_true, Bool.not_eq_false, Decidable.not_not, List.contains_cons, List.contains_nil, ints_len]
    refine (Clone_eq (strs E.1) (ints E.2) _ ?_ (strs_low _) (ints_low _)).mono ?_
    · exact ⟨(hb03 (show 4 ≤ 17 by decide)).1, (hb03 (show 4 ≤ 17 by decide)).2, ⟨strs_low _, ints_low _⟩, ⟨trivial, rowsA_low _, syms_low _, by simp [go_sem], trivial, trivial⟩, ⟨by simp [go_sem], trivial⟩, ⟨trivial, trivial, trivial, wds_low _, trivial, trivial, wds_low _, strs_low _, fos_low _, trivial⟩, ⟨⟨strs_low _, ints_low _⟩, trivial⟩, ⟨trivial, trivial⟩, ⟨trivial, trivial⟩, hρ (show 9 ≤ 17 by decide), trivial, trivial, trivial, trivial, trivial, trivial, ints_low _, trivial⟩
    rintro _ _ ⟨rfl, rfl⟩
    refine EvK.go 1000 ?_
    simp only [go_sem, Nat.reduceAdd, Nat.reduceSub, Nat.reduceMul, Nat.reduceLeDiff, Nat.reduceEqDiff, Nat.reduceBEq, Int.toNat_zero, decide_eq_true_eq, decide_eq_false_iff_not, Bool.not_eq_true, Bool.not_eq_false, Decidable.not_not, List.contains_cons, List.contains_nil, strs_len]
    refine EvK.loopI (ι := {i : Nat // i ≤ nm.length}) 1000 (fun i => mkT 70 [(3, .ptr 4 0), (4, .ptr 5 0), (5, .ptr 6 0), (7, .ptr 7 0), (8, .ptr 8 0), (9, .os 16 0 nm.length 1), (10, .map 17), (31, .ps 1 (strs nm)), (32, .int .i64 nm.length), (33, .int .i64 i.1)]) (fun i => [b0, b1, some (.map (strs (names g)) (ints (idxs g.length)) false), some (.var [.int .i64 w.size, .ps 1 (rowsA w.rows), .ps 4 (syms g), .map 2, .bool (wr || (R (n)).2)]), some (.var [.ptr 3 0]), some (.var [.int .i64 k, .bool l.var, .str l.name, .ps 3 (l.args.map Wd.toA), .bool r.var, .str r.name, .ps 3 (r.args.map Wd.toA), .ps 1 (strs nm), .ps 9 (pt.map Fo.toA)]), some (.var [.pm (strs E.1) (ints E.2)]), some (.var [.bool al]), some (.var [.bool (R (n)).1]), some (.loop (ρ.at .busy)), none, none, none, none, none, none, some (.row (ints row) 0), some (.map (strs (putsN E (nm.take i.1) (row.take i.1)).1) (ints (putsN E (nm.take i.1) (row.take i.1)).2) false)]) (fun i => nm.length - i.1) ⟨0, by omega⟩ ?_ (fun _ => Nat.le_add_right 17 1) ?_
    · simp only [go_sem, Nat.reduceAdd, Nat.reduceSub, Nat.reduceMul, Nat.reduceLeDiff, Nat.reduceEqDiff, Nat.reduceBEq, Int.toNat_zero, decide_eq_true_eq, decide_eq_false_iff_not, Bool.not_eq_true, Bool.not_eq_false, Decidable.not_not, List.contains_cons, List.contains_nil, ints_low, strs_low, wds_low, fos_low, syms_low, lowO_some, lowSo_cons, hb03 (show 4 ≤ 18 by decide), List.take_zero, putsN_nil, Int.natCast_zero, rowsA_low, hρ (show 9 ≤ 18 by decide), lowO_none]
      decide
    · rintro ⟨i, hi⟩
      by_cases hlt : (i : Int) < nm.length
      · have hlt' : i < nm.length := by omega
        have hlr : i < row.length := by omega
        have hsn := putsN_snoc nm row i hlt' hlr E
        generalize putsN E (nm.take i) (row.take i) = Ei at *
        have hms := mapSet_S Ei nm[i] row[i]
        simp only [go_sem, Nat.reduceAdd, Nat.reduceSub, Nat.reduceMul, Nat.reduceLeDiff, Nat.reduceEqDiff, Nat.reduceBEq, Int.toNat_zero, decide_eq_true_eq, decide_eq_false_iff_not, Bool.not_eq_true, Bool.not_eq_false, Decidable.not_not, List.contains_cons, List.contains_nil, hlt, strs_len, Int.toNat_natCast, strs_get hlt', ints_len, ints_get hlr, hrl, strs_same, hms]
        (repeat ((with_reducible refine And.intro ?_ ?_); · omega))
        refine ⟨⟨i + 1, hlt'⟩, ?_, by simp only; omega⟩
        simp only [go_sem, Nat.reduceAdd, Nat.reduceSub, Nat.reduceMul, Nat.reduceLeDiff, Nat.reduceEqDiff, Nat.reduceBEq, Int.toNat_zero, decide_eq_true_eq, decide_eq_false_iff_not, Bool.not_eq_true, Bool.not_eq_false, Decidable.not_not, List.contains_cons, List.contains_nil, ints_low, strs_low, wds_low, fos_low, syms_low, lowO_some, lowSo_cons, hb03 (show 4 ≤ 18 by decide), rowsA_low, hρ (show 9 ≤ 18 by decide), lowO_none, hsn]
        rw [i64_id (by omega)]
        exact ⟨rfl, by decide⟩
      · have hi' : i = nm.length := by omega
        subst hi'
        simp only [go_sem, Nat.reduceAdd, Nat.reduceSub, Nat.reduceMul, Nat.reduceLeDiff, Nat.reduceEqDiff, Nat.reduceBEq, Int.toNat_zero, decide_eq_true_eq, decide_eq_false_iff_not, Bool.not_eq_true, Bool.not_eq_false, Decidable.not_not, List.contains_cons, List.contains_nil, hlt]
        refine EvK.go 1000 ?_
        have ht2 : row.take nm.length = row := by rw [← hrl, List.take_length]
        have hEp := okN_puts nm row hE hrr
        rw [List.take_length, ht2]
        generalize putsN E nm row = E' at *
        have hp0 : (0 : Int) < pt.length := by omega
        refine EvK.draw [.no, .no, .no, .no, .no, .no, ⟨none, [3, 17], []⟩] 18 18 mixed rfl rfl (Nat.le_refl _) ?_
        simp only [go_sem, Nat.reduceAdd, Nat.reduceSub, Nat.reduceMul, Nat.reduceLeDiff, Nat.reduceEqDiff, Nat.reduceBEq, Int.toNat_zero, decide_eq_true_eq, decide_eq_false_iff_not, Bool.not_eq_true, Bool.not_eq_false, Decidable.not_not, List.contains_cons, List.contains_nil, padS, List.length_map, hp0, map_getD hpt, fo_cells, Nat.le_refl]
        (repeat ((with_reducible refine And.intro ?_ ?_); · omega))
        rw [← fo_eq]
        have hyE := hy E' (wr || (R n).2) hEp
        rw [hstep] at hRn
        have hRn1 : (R (n + 1)).1 = if al = true then (R n).1 && (so E').1 else (R n).1 || (so E').1 := by rw [hRn]
        have hRn2 : (R (n + 1)).2 = ((R n).2 || (so E').2) := by rw [hRn]
        rw [hRn1, hRn2, ← Bool.or_assoc]
        have hρ17 := hρ (show 9 ≤ 17 by decide)
        clear hRn hRn1 hRn2 hRs hz hB hR0
        generalize R n = O at *
        obtain ⟨o1, o2⟩ := O
        generalize so E' = V at *
        obtain ⟨v1, v2⟩ := V
        refine ⟨.bool v1, [b0, b1, some (.map (strs (names g)) (ints (idxs g.length)) false), some (.var [.int .i64 w.size, .ps 1 (rowsA w.rows), .ps 4 (syms g), .map 2, .bool ((wr || o2) || v2)]), some (.var [.ptr 3 0]), some (.var [.int .i64 k, .bool l.var, .str l.name, .ps 3 (l.args.map Wd.toA), .bool r.var, .str r.name, .ps 3 (r.args.map Wd.toA), .ps 1 (strs nm), .ps 9 (pt.map Fo.toA)]), some (.var [.pm (strs E.1) (ints E.2)]), some (.var [.bool al]), some (.var [.bool o1]), some (.loop (ρ.at .busy)), none, none, none, none, none, none, some (.row (ints row) 0), none], ?_, ?_, ?_⟩
        · refine VCall.frzM (q := 17) (ks := strs E'.1) (vs := ints E'.2) (fz := false) rfl ?_
          have hfr : frM 17 (strs E'.1) (ints E'.2) pt[0].toA = pt[0].toA := by rw [fo_eq]; rfl
          change VCall _ _ [.ptr 3 0, frM 17 (strs E'.1) (ints E'.2) pt[0].toA, .pm (strs E'.1) (ints E'.2)] _ _
          rw [hfr]
          refine VCall.tail (σ := [b0, b1, some (.map (strs (names g)) (ints (idxs g.length)) false), some (.var [.int .i64 w.size, .ps 1 (rowsA w.rows), .ps 4 (syms g), .map 2, .bool (wr || o2)])]) (τ := [some (.var [.ptr 3 0]), some (.var [.int .i64 k, .bool l.var, .str l.name, .ps 3 (l.args.map Wd.toA), .bool r.var, .str r.name, .ps 3 (r.args.map Wd.toA), .ps 1 (strs nm), .ps 9 (pt.map Fo.toA)]), some (.var [.pm (strs E.1) (ints E.2)]), some (.var [.bool al]), some (.var [.bool o1]), some (.loop (ρ.at .busy)), none, none, none, none, none, none, some (.row (ints row) 0), none]) ⟨trivial, trivial⟩ (by simp [go_sem, fo_low, strs_low, ints_low]) ⟨h0, h1, ⟨strs_low _, ints_low _⟩, ⟨trivial, rowsA_low _, syms_low _, by simp [go_sem], trivial, trivial⟩, trivial⟩ ?_
          refine hyE.mono ?_
          rintro r' σ' ⟨rfl, rfl⟩
          exact ⟨rfl, rfl, rfl⟩
        · simp only [go_sem, Nat.reduceAdd, Nat.reduceSub, Nat.reduceMul, Nat.reduceLeDiff, Nat.reduceEqDiff, Nat.reduceBEq, Int.toNat_zero, decide_eq_true_eq, decide_eq_false_iff_not, Bool.not_eq_true, Bool.not_eq_false, Decidable.not_not, List.contains_cons, List.contains_nil]
        simp only [go_sem, Nat.reduceAdd, Nat.reduceSub, Nat.reduceMul, Nat.reduceLeDiff, Nat.reduceEqDiff, Nat.reduceBEq, Int.toNat_zero, decide_eq_true_eq, decide_eq_false_iff_not, Bool.not_eq_true, Bool.not_eq_false, Decidable.not_not, List.contains_cons, List.contains_nil]
        refine EvK.go 1000 ?_
        have hend : lowSo ([b0, b1, some (.map (strs (names g)) (ints (idxs g.length)) false), some (.var [.int .i64 w.size, .ps 1 (rowsA w.rows), .ps 4 (syms g), .map 2, .bool (wr || o2 || v2)]), some (.var [.ptr 3 0]), some (.var [.int .i64 k, .bool l.var, .str l.name, .ps 3 (l.args.map Wd.toA), .bool r.var, .str r.name, .ps 3 (r.args.map Wd.toA), .ps 1 (strs nm), .ps 9 (pt.map Fo.toA)]), some (.var [.pm (strs E.1) (ints E.2)]), some (.var [.bool al]), some (.var [.bool (if al = true then o1 && v1 else o1 || v1)]), some (.loop (ρ.at .ready)), none, none, none, none, none, none, some (.row (ints row) 0)] : Store).length [b0, b1, some (.map (strs (names g)) (ints (idxs g.length)) false), some (.var [.int .i64 w.size, .ps 1 (rowsA w.rows), .ps 4 (syms g), .map 2, .bool (wr || o2 || v2)]), some (.var [.ptr 3 0]), some (.var [.int .i64 k, .bool l.var, .str l.name, .ps 3 (l.args.map Wd.toA), .bool r.var, .str r.name, .ps 3 (r.args.map Wd.toA), .ps 1 (strs nm), .ps 9 (pt.map Fo.toA)]), some (.var [.pm (strs E.1) (ints E.2)]), some (.var [.bool al]), some (.var [.bool (if al = true then o1 && v1 else o1 || v1)]), some (.loop (ρ.at .ready)), none, none, none, none, none, none, some (.row (ints row) 0)] := ⟨(hb03 (show 4 ≤ 17 by decide)).1, (hb03 (show 4 ≤ 17 by decide)).2, ⟨strs_low _, ints_low _⟩, ⟨trivial, rowsA_low _, syms_low _, by simp [go_sem], trivial, trivial⟩, ⟨by simp [go_sem], trivial⟩, ⟨trivial, trivial, trivial, wds_low _, trivial, trivial, wds_low _, strs_low _, fos_low _, trivial⟩, ⟨⟨strs_low _, ints_low _⟩, trivial⟩, ⟨trivial, trivial⟩, ⟨trivial, trivial⟩, hρ17, trivial, trivial, trivial, trivial, trivial, trivial, ints_low _, trivial⟩
        cases al <;> cases o1 <;> cases v1 <;>
        · simp only [go_sem, Nat.reduceAdd, Nat.reduceSub, Nat.reduceMul, Nat.reduceLeDiff, Nat.reduceEqDiff, Nat.reduceBEq, Int.toNat_zero, decide_eq_true_eq, decide_eq_false_iff_not, Bool.not_eq_true, Bool.not_eq_false, Decidable.not_not, List.contains_cons, List.contains_nil]
          rw [rE_eq]
          refine ⟨rfl, _, ?_, ?_, hend, rfl, rfl⟩
          · simp [go_sem]
          · exact Nat.le_refl 17
  · rintro r' σ' ⟨rfl, (⟨n, hn, hpre, hstop, rfl⟩ | ⟨hpre, rfl⟩)⟩
    · cases hstop
    rw [dK_eq]
    refine ⟨[b0, b1, some (.map (strs (names g)) (ints (idxs g.length)) false), some (.var [.int .i64 w.size, .ps 1 (rowsA w.rows), .ps 4 (syms g), .map 2, .bool (wr || (R N).2)]), some (.var [.ptr 3 0]), some (.var [.int .i64 k, .bool l.var, .str l.name, .ps 3 (l.args.map Wd.toA), .bool r.var, .str r.name, .ps 3 (r.args.map Wd.toA), .ps 1 (strs nm), .ps 9 (pt.map Fo.toA)]), some (.var [.pm (strs E.1) (ints E.2)]), some (.var [.bool al]), some (.var [.bool (R N).1]), some (.loop (ρ.at .ready))], by simp [go_sem], Nat.le_refl 10, ?_, trivial, ?_⟩
    · exact ⟨(hb03 (show 4 ≤ 10 by decide)).1, (hb03 (show 4 ≤ 10 by decide)).2, ⟨strs_low _, ints_low _⟩, ⟨trivial, rowsA_low _, syms_low _, by simp [go_sem], trivial, trivial⟩, ⟨by simp [go_sem], trivial⟩, ⟨trivial, trivial, trivial, wds_low _, trivial, trivial, wds_low _, strs_low _, fos_low _, trivial⟩, ⟨⟨strs_low _, ints_low _⟩, trivial⟩, ⟨trivial, trivial⟩, ⟨trivial, trivial⟩, hρ (show 9 ≤ 10 by decide), trivial⟩
    rw [rK_eq]
    refine ⟨.ready, rfl, ?_⟩
    rw [rD_ready]
    refine EvK.go 1000 ?_
    simp only [go_sem, Nat.reduceAdd, Nat.reduceSub, Nat.reduceMul, Nat.reduceLeDiff, Nat.reduceEqDiff, Nat.reduceBEq, Int.toNat_zero, decide_eq_true_eq, decide_eq_false_iff_not, Bool.not_eq_true, Bool.not_eq_false, Decidable.not_not, List.contains_cons, List.contains_nil]
    rw [dK_eq]
    exact ⟨[b0, b1, some (.map (strs (names g)) (ints (idxs g.length)) false), some (.var [.int .i64 w.size, .ps 1 (rowsA w.rows), .ps 4 (syms g), .map 2, .bool (wr || (R N).2)])], by simp [go_sem], Nat.le_refl 4, ⟨h0, h1, ⟨strs_low _, ints_low _⟩, ⟨trivial, rowsA_low _, syms_low _, by simp [go_sem], trivial, trivial⟩, trivial⟩, trivial, rfl, rfl⟩
end Go.Proofs

/- What is so in a world, as the program tells it. -/
set_option linter.unusedSimpArgs false
namespace Go.Proofs
open Go Go.Abs

def bools (l : List Bool) : List AVal := l.map AVal.bool
theorem bools_len (l : List Bool) : (bools l).length = l.length := by simp [bools]
theorem bools_low {n : Nat} (l : List Bool) : lowL n (bools l) := lowL_map fun _ _ => trivial
theorem bools_get {l : List Bool} {i : Nat} (h : i < l.length) : (bools l).getD i .undef = .bool l[i] := map_getD h
theorem bools_snoc (l : List Bool) (b : Bool) : bools (l ++ [b]) = bools l ++ [.bool b] := by simp [bools]
theorem bools_nil : bools [] = [] := rfl
theorem bools_cons (b : Bool) (l : List Bool) : bools (b :: l) = .bool b :: bools l := rfl

theorem any_take_snoc {α : Type} (p : α → Bool) (l : List α) (i : Nat) (h : i < l.length) : (l.take (i + 1)).any p = ((l.take i).any p || p l[i]) := by
  rw [List.take_add_one, List.any_append, List.getElem?_eq_getElem h]; simp
theorem map_take_snoc {α β : Type} (p : α → β) (l : List α) (i : Nat) (h : i < l.length) : (l.take (i + 1)).map p = (l.take i).map p ++ [p l[i]] := by
  rw [List.take_add_one, List.map_append, List.getElem?_eq_getElem h]; simp

theorem andor_stop (a : Bool) (L : List Bool) (j : Nat) (hj : j < L.length) (h : ¬ L[j] = a) : (if a = true then L.all id else L.any id) = L[j] := by
  cases a with
  | true =>
    have e : L[j] = false := by simpa using h
    rw [e, if_pos rfl, List.all_eq_false]
    exact ⟨L[j], List.getElem_mem hj, by simp [e]⟩
  | false =>
    have e : L[j] = true := by simpa using h
    rw [e, if_neg (by decide), List.any_eq_true]
    exact ⟨L[j], List.getElem_mem hj, by simp [e]⟩
theorem andor_end (a : Bool) (L : List Bool) (h : ∀ (j : Nat) (hj : j < L.length), L[j] = a) : (if a = true then L.all id else L.any id) = a := by
  have h' : ∀ x ∈ L, x = a := fun x hx => by obtain ⟨j, hj, rfl⟩ := List.mem_iff_getElem.1 hx; exact h j hj
  cases a with
  | true => rw [if_pos rfl, List.all_eq_true]; exact fun x hx => by simp [h' x hx]
  | false => rw [if_neg (by decide), List.any_eq_false]; exact fun x hx => by simp [h' x hx]

set_option maxRecDepth 20000 in
set_option maxHeartbeats 1600000 in
theorem Is_eq (g : List Sy) (w : Wo) (hw : worldOk g w = true) (c0 c1 : List AVal) (h0 : lowL 0 c0) (h1 : lowL 0 c1) (f : Fo) : f.size < 1000000000 → f.right = true → ∀ (E : Nms) (wr : Bool), okN w.size E →
    VCall Try.prog (.fn 49 [] []) [.ptr 3 0, f.toA, .pm (strs E.1) (ints E.2)] [some (.var c0), some (.var c1), some (.map (strs (names g)) (ints (idxs g.length)) false), some (.var [.int .i64 w.size, .ps 1 (rowsA w.rows), .ps 4 (syms g), .map 2, .bool (wr)])] (fun r σ' => r = .bool (f.so g w E).1 ∧ σ' = [some (.var c0), some (.var c1), some (.map (strs (names g)) (ints (idxs g.length)) false), some (.var [.int .i64 w.size, .ps 1 (rowsA w.rows), .ps 4 (syms g), .map 2, .bool (wr || (f.so g w E).2)])]) := by
  have hc0 : ∀ {n}, lowL n c0 := fun {n} => lowL_mono (Nat.zero_le n) h0
  have hc1 : ∀ {n}, lowL n c1 := fun {n} => lowL_mono (Nat.zero_le n) h1
  have hlow : ∀ wr, lowSo 4 [some (.var c0), some (.var c1), some (.map (strs (names g)) (ints (idxs g.length)) false), some (.var [.int .i64 w.size, .ps 1 (rowsA w.rows), .ps 4 (syms g), .map 2, .bool (wr)])] := fun wr => ⟨hc0, hc1, ⟨strs_low _, ints_low _⟩, ⟨trivial, rowsA_low _, syms_low _, by simp [go_sem], trivial, trivial⟩, trivial⟩
  induction f using Fo.rec_parts with
  | h k l r nm ps ih =>
  intro hsz hright E wr hE
  simp only [Fo.size] at hsz
  have hlen := flen_le ps
  have hrp : (Fo.mk k l r nm ps).shape = true ∧ ps.all Fo.right = true := by
    have : Fo.right (.mk k l r nm ps) = (((Fo.mk k l r nm ps).shape && (Fo.mk k l r nm ps).own.all Wd.ok) && ps.all Fo.right) := by rw [Fo.right, rights_all]
    rw [this] at hright
    simp only [Bool.and_eq_true] at hright
    exact ⟨hright.1.1, hright.2⟩
  obtain ⟨hshape, hrights⟩ := hrp
  have hri : ∀ (i : Nat) (hi : i < ps.length), ps[i].right = true := fun i hi => List.all_eq_true.1 hrights _ (List.getElem_mem hi)
  have ih' : ∀ (i : Nat) (hi : i < ps.length) (E : Nms) (wr : Bool), okN w.size E → VCall Try.prog (.fn 49 [] []) [.ptr 3 0, ps[i].toA, .pm (strs E.1) (ints E.2)] [some (.var c0), some (.var c1), some (.map (strs (names g)) (ints (idxs g.length)) false), some (.var [.int .i64 w.size, .ps 1 (rowsA w.rows), .ps 4 (syms g), .map 2, .bool (wr)])] (fun r σ' => r = .bool (ps[i].so g w E).1 ∧ σ' = [some (.var c0), some (.var c1), some (.map (strs (names g)) (ints (idxs g.length)) false), some (.var [.int .i64 w.size, .ps 1 (rowsA w.rows), .ps 4 (syms g), .map 2, .bool (wr || (ps[i].so g w E).2)])]) := fun i hi => ih i hi (by have := fsize_le ps i hi; omega) (hri i hi)
  clear ih
  refine VCall.begin (rs := [.tmp 6]) (m := 112) 1000 Try.func49 rfl rfl rfl rfl rfl ?_
  by_cases k78 : k = 7 ∨ k = 8
  · have hone : ps.length = 1 := by
      simp only [Fo.shape, Fo.kind, Fo.parts] at hshape
      rcases k78 with rfl | rfl <;> (simp at hshape; exact of_decide_eq_true hshape)
    have hp0 : 0 < ps.length := by omega
    have hso : Fo.so g w (.mk k l r nm ps) E = soRows k w.size nm (fun E' => ps[0].so g w E') E (w.size ^ nm.length).toNat := by
      rw [Fo.so, if_pos k78]
      congr 1
      funext E'
      rw [soL_map]
      obtain ⟨p, rfl⟩ := List.length_eq_one_iff.1 hone
      rfl
    rw [hso]
    have hbind := Bind_eq g w hw (some (.var c0)) (some (.var c1)) hc0 hc1 k l r nm ps hp0 (by omega) (fun E' => ps[0].so g w E') (fun E wr hE => ih' 0 hp0 E wr hE) E hE wr
    generalize soRows k w.size nm (fun E' => ps[0].so g w E') E (w.size ^ nm.length).toNat = V at *
    rw [fo_eq] at hbind
    simp only [Fo.kind, Fo.l, Fo.r, Fo.names, Fo.parts] at hbind
    rcases k78 with rfl | rfl
    all_goals
      simp only [go_sem, Nat.reduceAdd, Nat.reduceSub, Nat.reduceMul, Nat.reduceLeDiff, Nat.reduceEqDiff, Nat.reduceBEq, Int.toNat_zero, decide_eq_true_eq, decide_eq_false_iff_not, Bool.not_eq_true, Bool.not_eq_false, Decidable.not_not, List.contains_cons, List.contains_nil, fo_eq, Fo.kind, Fo.l, Fo.r, Fo.names, Fo.parts, strs_len, Int.reduceEq, Nat.le_refl]
      refine VCall.tail (σ := [some (.var c0), some (.var c1), some (.map (strs (names g)) (ints (idxs g.length)) false), some (.var [.int .i64 w.size, .ps 1 (rowsA w.rows), .ps 4 (syms g), .map 2, .bool (wr)])]) (τ := [_]) ⟨trivial, trivial⟩ (by simp [go_sem, strs_low, ints_low, wds_low, fos_low]) (hlow wr) ?_
      refine hbind.mono ?_
      rintro r' σ' ⟨rfl, rfl⟩
      refine ⟨rfl, ?_⟩
      refine EvK.go 1000 ?_
      simp only [go_sem, Nat.reduceAdd, Nat.reduceSub, Nat.reduceMul, Nat.reduceLeDiff, Nat.reduceEqDiff, Nat.reduceBEq, Int.toNat_zero, decide_eq_true_eq, decide_eq_false_iff_not, Bool.not_eq_true, Bool.not_eq_false, Decidable.not_not, List.contains_cons, List.contains_nil]
      rw [dK_eq]
      exact ⟨[some (.var c0), some (.var c1), some (.map (strs (names g)) (ints (idxs g.length)) false), some (.var [.int .i64 w.size, .ps 1 (rowsA w.rows), .ps 4 (syms g), .map 2, .bool (wr || V.2)])], by simp [go_sem], Nat.le_refl 4, hlow _, trivial, rfl, rfl⟩
  · have k7 : ¬ k = 7 := fun h => k78 (.inl h)
    have k8 : ¬ k = 8 := fun h => k78 (.inr h)
    have hso : Fo.so g w (.mk k l r nm ps) E = soKind k (l.rd g w E.1 E.2 false) (r.rd g w E.1 E.2 false) (l.rd g w E.1 E.2 true) (ps.map fun p => p.so g w E) := by rw [Fo.so, if_neg k78, soL_map]
    rw [hso]
    clear hso
    simp only [go_sem, Nat.reduceAdd, Nat.reduceSub, Nat.reduceMul, Nat.reduceLeDiff, Nat.reduceEqDiff, Nat.reduceBEq, Int.toNat_zero, decide_eq_true_eq, decide_eq_false_iff_not, Bool.not_eq_true, Bool.not_eq_false, Decidable.not_not, List.contains_cons, List.contains_nil, fo_eq, Fo.kind, Fo.l, Fo.r, Fo.names, Fo.parts, k7, k8, List.length_map]
    refine EvK.loopR (ι := {i : Nat // i ≤ ps.length}) 1000 (fun i => mkT 115 [(0, .ptr 3 0), (2, .pm (strs E.1) (ints E.2)), (4, .ptr 4 0), (7, slA 5 1 (bools ((ps.take i.1).map fun p => (p.so g w E).1))), (24, .ps 9 (ps.map Fo.toA)), (25, .int .i64 ps.length), (26, .int .i64 i.1)]) (fun i => [some (.var c0), some (.var c1), some (.map (strs (names g)) (ints (idxs g.length)) false), some (.var [.int .i64 w.size, .ps 1 (rowsA w.rows), .ps 4 (syms g), .map 2, .bool (wr || (ps.take i.1).any fun p => (p.so g w E).2)]), some (.var [.int .i64 (k), .bool l.var, .str l.name, .ps 3 (l.args.map Wd.toA), .bool r.var, .str r.name, .ps 3 (r.args.map Wd.toA), .ps 1 (strs nm), .ps 9 (ps.map Fo.toA)]), slB (bools ((ps.take i.1).map fun p => (p.so g w E).1))])
      (fun i => ps.length - i.1) ⟨0, by omega⟩ [] ?_ (fun _ => Nat.le_add_right 4 2) ?_
    · refine leR_mk rfl ?_
      simp only [go_sem, Nat.reduceAdd, Nat.reduceSub, Nat.reduceMul, Nat.reduceLeDiff, Nat.reduceEqDiff, Nat.reduceBEq, Int.toNat_zero, decide_eq_true_eq, decide_eq_false_iff_not, Bool.not_eq_true, Bool.not_eq_false, Decidable.not_not, List.contains_cons, List.contains_nil, List.take_zero, List.map_nil, bools_nil, slA_nil, slB_nil, List.any_nil, Bool.or_false, strs_low, ints_low, wds_low, fos_low, rowsA_low, syms_low, renL_low0, h0, h1, hc0, hc1, Int.natCast_zero]
      decide
    · rintro ⟨i, hi⟩
      have hlt2 : (ps.take i).length ≤ ps.length := by rw [List.length_take]; omega
      have hL1 := map_take_snoc (fun p => (p.so g w E).1) ps i
      have hL2 := any_take_snoc (fun p => (p.so g w E).2) ps i
      have hLn : ((ps.take i).map fun p => (p.so g w E).1).length ≤ ps.length := by rw [List.length_map]; exact hlt2
      by_cases hlt : (i : Int) < ps.length
      · have hlt' : i < ps.length := by omega
        have hip := ih' i hlt' E
        replace hL1 := hL1 hlt'
        replace hL2 := hL2 hlt'
        generalize hB : (ps.take i).any (fun p => (p.so g w E).2) = B at *
        generalize hL : ((ps.take i).map fun p => (p.so g w E).1) = L at *
        generalize hV : ps[i].so g w E = V at *
        simp only [go_sem, Nat.reduceAdd, Nat.reduceSub, Nat.reduceMul, Nat.reduceLeDiff, Nat.reduceEqDiff, Nat.reduceBEq, Int.toNat_zero, decide_eq_true_eq, decide_eq_false_iff_not, Bool.not_eq_true, Bool.not_eq_false, Decidable.not_not, List.contains_cons, List.contains_nil, hlt, List.length_map, Int.toNat_natCast, map_getD hlt', fo_cells, Nat.le_refl, hB, hL]
        rw [← fo_eq]
        (repeat ((with_reducible refine And.intro ?_ ?_); · omega))
        refine VCall.tail (σ := [some (.var c0), some (.var c1), some (.map (strs (names g)) (ints (idxs g.length)) false), some (.var [.int .i64 w.size, .ps 1 (rowsA w.rows), .ps 4 (syms g), .map 2, .bool (wr || B)])]) (τ := [some (.var [.int .i64 (k), .bool l.var, .str l.name, .ps 3 (l.args.map Wd.toA), .bool r.var, .str r.name, .ps 3 (r.args.map Wd.toA), .ps 1 (strs nm), .ps 9 (ps.map Fo.toA)]), slB (bools L), some (.var [.int .i64 ps[i].kind, .bool ps[i].l.var, .str ps[i].l.name, .ps 3 (ps[i].l.args.map Wd.toA), .bool ps[i].r.var, .str ps[i].r.name, .ps 3 (ps[i].r.args.map Wd.toA), .ps 1 (strs ps[i].names), .ps 9 (ps[i].parts.map Fo.toA)])]) ⟨trivial, trivial⟩ (by simp [go_sem, fo_low, strs_low, ints_low]) (hlow _) ?_
        refine (hip (wr || B) hE).mono ?_
        rintro r' σ' ⟨rfl, rfl⟩
        refine ⟨rfl, ?_⟩
        refine EvK.go 1000 ?_
        simp only [go_sem, Nat.reduceAdd, Nat.reduceSub, Nat.reduceMul, Nat.reduceLeDiff, Nat.reduceEqDiff, Nat.reduceBEq, Int.toNat_zero, decide_eq_true_eq, decide_eq_false_iff_not, Bool.not_eq_true, Bool.not_eq_false, Decidable.not_not, List.contains_cons, List.contains_nil, appOk, List.mem_singleton, forall_eq, Nat.zero_lt_one, app_slA, bools_len]
        (repeat ((with_reducible refine And.intro ?_ ?_); · omega))
        refine ⟨⟨i + 1, hlt'⟩, [(5, 8), (8, 5)], leR_mk rfl ?_, by simp only; omega⟩
        simp only [hL1, hL2]
        rw [i64_id (by omega), bools_snoc, slA_snoc, slB_snoc, ← Bool.or_assoc]
        simp only [go_sem, Nat.reduceAdd, Nat.reduceSub, Nat.reduceMul, Nat.reduceLeDiff, Nat.reduceEqDiff, Nat.reduceBEq, Int.toNat_zero, decide_eq_true_eq, decide_eq_false_iff_not, Bool.not_eq_true, Bool.not_eq_false, Decidable.not_not, List.contains_cons, List.contains_nil, bools_len, strs_low, ints_low, wds_low, fos_low, rowsA_low, syms_low, renL_low0, h0, h1, hc0, hc1]
        rw [← bools_snoc, renL_low0 (bools_low _)]
        exact ⟨rfl, rfl, ⟨by decide, by decide, by decide⟩, by decide, bools_low _⟩
      · have hie : i = ps.length := by omega
        subst hie
        rw [List.take_length] at *
        simp only [go_sem, Nat.reduceAdd, Nat.reduceSub, Nat.reduceMul, Nat.reduceLeDiff, Nat.reduceEqDiff, Nat.reduceBEq, Int.toNat_zero, decide_eq_true_eq, decide_eq_false_iff_not, Bool.not_eq_true, Bool.not_eq_false, Decidable.not_not, List.contains_cons, List.contains_nil, hlt]
        refine EvK.go 1000 ?_
        clear hL1 hL2 hlt hi hlt2
        have hsh : (Fo.mk k l r nm ps).shape = if k = 0 then decide ((ps.length : Int) = 0) && !l.var else if k = 1 ∨ k = 9 ∨ k = 10 then decide ((ps.length : Int) = 0) else if k = 2 ∨ k = 7 ∨ k = 8 then decide ((ps.length : Int) = 1) else if k = 5 ∨ k = 6 then decide ((ps.length : Int) = 2) else decide (k = 3 ∨ k = 4) := by
          simp only [Fo.shape, Fo.kind, Fo.parts, Fo.l, show ((ps.length : Int) = 0) ↔ (ps.length = 0) by omega, show ((ps.length : Int) = 1) ↔ (ps.length = 1) by omega, show ((ps.length : Int) = 2) ↔ (ps.length = 2) by omega]; rfl
        rw [hsh] at hshape
        clear hsh
        have hS1 : (ps.map fun p => (p.so g w E).1) = (ps.map fun p => p.so g w E).map (·.1) := by rw [List.map_map]; rfl
        have hS2 : (ps.any fun p => (p.so g w E).2) = (ps.map fun p => p.so g w E).any (·.2) := by rw [List.any_map]; rfl
        have hSn : (ps.map fun p => p.so g w E).length = ps.length := List.length_map ..
        rw [hS1, hS2]
        rw [hS1] at hLn
        clear hS1 hS2
        generalize (ps.map fun p => p.so g w E) = S at *
        have hword := fun x hx truth wr => Word_eq g w hw (some (.var c0)) (some (.var c1)) hc0 hc1 E.1 E.2 hE.1 hE.2 x hx truth wr
        have hl := wsize_pos l
        by_cases k0 : k = 0
        · have hk : soKind k (l.rd g w E.1 E.2 false) (r.rd g w E.1 E.2 false) (l.rd g w E.1 E.2 true) S = (decide ((l.rd g w E.1 E.2 true).1 = 1), S.any (·.2) || (l.rd g w E.1 E.2 true).2) := by rw [soKind, if_pos k0]
          rw [hk]
          simp only [go_sem, Nat.reduceAdd, Nat.reduceSub, Nat.reduceMul, Nat.reduceLeDiff, Nat.reduceEqDiff, Nat.reduceBEq, Int.toNat_zero, decide_eq_true_eq, decide_eq_false_iff_not, Bool.not_eq_true, Bool.not_eq_false, Decidable.not_not, List.contains_cons, List.contains_nil, k0]
          rw [← wd_eq]
          refine VCall.tail (σ := [some (.var c0), some (.var c1), some (.map (strs (names g)) (ints (idxs g.length)) false), some (.var [.int .i64 w.size, .ps 1 (rowsA w.rows), .ps 4 (syms g), .map 2, .bool (wr || S.any (·.2))])]) (τ := [_, _]) ⟨trivial, trivial⟩ (by simp [go_sem, wd_low, strs_low, ints_low]) (hlow _) ?_
          refine (hword l (by omega) true _).mono ?_
          rintro r' σ' ⟨rfl, rfl⟩
          refine ⟨rfl, ?_⟩
          refine EvK.go 1000 ?_
          simp only [go_sem, Nat.reduceAdd, Nat.reduceSub, Nat.reduceMul, Nat.reduceLeDiff, Nat.reduceEqDiff, Nat.reduceBEq, Int.toNat_zero, decide_eq_true_eq, decide_eq_false_iff_not, Bool.not_eq_true, Bool.not_eq_false, Decidable.not_not, List.contains_cons, List.contains_nil]
          rw [dK_eq]
          exact ⟨[some (.var c0), some (.var c1), some (.map (strs (names g)) (ints (idxs g.length)) false), some (.var [.int .i64 w.size, .ps 1 (rowsA w.rows), .ps 4 (syms g), .map 2, .bool ((wr || S.any (·.2)) || (l.rd g w E.1 E.2 true).2)])], by simp [go_sem], Nat.le_refl 4, hlow _, trivial, rfl, by rw [Bool.or_assoc]⟩
        by_cases k1 : k = 1
        · have hk : soKind k (l.rd g w E.1 E.2 false) (r.rd g w E.1 E.2 false) (l.rd g w E.1 E.2 true) S = (decide ((l.rd g w E.1 E.2 false).1 = (r.rd g w E.1 E.2 false).1), (S.any (·.2) || (l.rd g w E.1 E.2 false).2) || (r.rd g w E.1 E.2 false).2) := by rw [soKind, if_neg k0, if_pos k1]
          rw [hk]
          simp only [go_sem, Nat.reduceAdd, Nat.reduceSub, Nat.reduceMul, Nat.reduceLeDiff, Nat.reduceEqDiff, Nat.reduceBEq, Int.toNat_zero, decide_eq_true_eq, decide_eq_false_iff_not, Bool.not_eq_true, Bool.not_eq_false, Decidable.not_not, List.contains_cons, List.contains_nil, k0, k1, Int.reduceEq]
          refine EvK.draw [.no, .no, .no, .no, ⟨none, [3], []⟩, ⟨none, [], [3]⟩, ⟨none, [], [3]⟩, ⟨none, [], [3]⟩, ⟨none, [], [3]⟩, ⟨none, [3], []⟩] 6 6 mixed rfl rfl (Nat.le_refl _) ?_
          simp only [go_sem, Nat.reduceAdd, Nat.reduceSub, Nat.reduceMul, Nat.reduceLeDiff, Nat.reduceEqDiff, Nat.reduceBEq, Int.toNat_zero, decide_eq_true_eq, decide_eq_false_iff_not, Bool.not_eq_true, Bool.not_eq_false, Decidable.not_not, List.contains_cons, List.contains_nil, padS, Nat.le_refl]
          rw [← wd_eq]
          refine ⟨.int .i64 (l.rd g w E.1 E.2 false).1, [some (.var c0), some (.var c1), some (.map (strs (names g)) (ints (idxs g.length)) false), some (.var [.int .i64 w.size, .ps 1 (rowsA w.rows), .ps 4 (syms g), .map 2, .bool ((wr || S.any (·.2)) || (l.rd g w E.1 E.2 false).2)]), some (.var [.int .i64 (1), .bool l.var, .str l.name, .ps 3 (l.args.map Wd.toA), .bool r.var, .str r.name, .ps 3 (r.args.map Wd.toA), .ps 1 (strs nm), .ps 9 (ps.map Fo.toA)]), slB (bools (S.map (·.1)))], ?_, ?_, ?_⟩
          · refine VCall.tail (σ := [some (.var c0), some (.var c1), some (.map (strs (names g)) (ints (idxs g.length)) false), some (.var [.int .i64 w.size, .ps 1 (rowsA w.rows), .ps 4 (syms g), .map 2, .bool (wr || S.any (·.2))])]) (τ := [_, _]) ⟨trivial, trivial⟩ (by simp [go_sem, wd_low, strs_low, ints_low]) (hlow _) ?_
            refine (hword l (by omega) false _).mono ?_
            rintro r' σ' ⟨rfl, rfl⟩
            exact ⟨rfl, rfl, rfl⟩
          · simp only [go_sem, Nat.reduceAdd, Nat.reduceSub, Nat.reduceMul, Nat.reduceLeDiff, Nat.reduceEqDiff, Nat.reduceBEq, Int.toNat_zero, decide_eq_true_eq, decide_eq_false_iff_not, Bool.not_eq_true, Bool.not_eq_false, Decidable.not_not, List.contains_cons, List.contains_nil]
          simp only [go_sem, Nat.reduceAdd, Nat.reduceSub, Nat.reduceMul, Nat.reduceLeDiff, Nat.reduceEqDiff, Nat.reduceBEq, Int.toNat_zero, decide_eq_true_eq, decide_eq_false_iff_not, Bool.not_eq_true, Bool.not_eq_false, Decidable.not_not, List.contains_cons, List.contains_nil, Nat.le_refl]
          rw [← wd_eq]
          refine ⟨.int .i64 (r.rd g w E.1 E.2 false).1, [some (.var c0), some (.var c1), some (.map (strs (names g)) (ints (idxs g.length)) false), some (.var [.int .i64 w.size, .ps 1 (rowsA w.rows), .ps 4 (syms g), .map 2, .bool (((wr || S.any (·.2)) || (l.rd g w E.1 E.2 false).2) || (r.rd g w E.1 E.2 false).2)]), some (.var [.int .i64 (1), .bool l.var, .str l.name, .ps 3 (l.args.map Wd.toA), .bool r.var, .str r.name, .ps 3 (r.args.map Wd.toA), .ps 1 (strs nm), .ps 9 (ps.map Fo.toA)]), slB (bools (S.map (·.1)))], ?_, ?_, ?_⟩
          · refine VCall.tail (σ := [some (.var c0), some (.var c1), some (.map (strs (names g)) (ints (idxs g.length)) false), some (.var [.int .i64 w.size, .ps 1 (rowsA w.rows), .ps 4 (syms g), .map 2, .bool ((wr || S.any (·.2)) || (l.rd g w E.1 E.2 false).2)])]) (τ := [_, _]) ⟨trivial, trivial⟩ (by simp [go_sem, wd_low, strs_low, ints_low]) (hlow _) ?_
            refine (hword r (by omega) false _).mono ?_
            rintro r' σ' ⟨rfl, rfl⟩
            exact ⟨rfl, rfl, rfl⟩
          · simp only [go_sem, Nat.reduceAdd, Nat.reduceSub, Nat.reduceMul, Nat.reduceLeDiff, Nat.reduceEqDiff, Nat.reduceBEq, Int.toNat_zero, decide_eq_true_eq, decide_eq_false_iff_not, Bool.not_eq_true, Bool.not_eq_false, Decidable.not_not, List.contains_cons, List.contains_nil]
          simp only [go_sem, Nat.reduceAdd, Nat.reduceSub, Nat.reduceMul, Nat.reduceLeDiff, Nat.reduceEqDiff, Nat.reduceBEq, Int.toNat_zero, decide_eq_true_eq, decide_eq_false_iff_not, Bool.not_eq_true, Bool.not_eq_false, Decidable.not_not, List.contains_cons, List.contains_nil]
          refine EvK.go 1000 ?_
          simp only [go_sem, Nat.reduceAdd, Nat.reduceSub, Nat.reduceMul, Nat.reduceLeDiff, Nat.reduceEqDiff, Nat.reduceBEq, Int.toNat_zero, decide_eq_true_eq, decide_eq_false_iff_not, Bool.not_eq_true, Bool.not_eq_false, Decidable.not_not, List.contains_cons, List.contains_nil]
          rw [dK_eq]
          exact ⟨[some (.var c0), some (.var c1), some (.map (strs (names g)) (ints (idxs g.length)) false), some (.var [.int .i64 w.size, .ps 1 (rowsA w.rows), .ps 4 (syms g), .map 2, .bool (((wr || S.any (·.2)) || (l.rd g w E.1 E.2 false).2) || (r.rd g w E.1 E.2 false).2)])], by simp [go_sem], Nat.le_refl 4, hlow _, trivial, rfl, by simp only [Bool.or_assoc]⟩
        by_cases k2 : k = 2
        · have hn : S.length = 1 := by rw [hSn]; subst k2; simp at hshape; omega
          obtain ⟨x, rfl⟩ := List.length_eq_one_iff.1 hn
          have hk : soKind k (l.rd g w E.1 E.2 false) (r.rd g w E.1 E.2 false) (l.rd g w E.1 E.2 true) [x] = (!x.1, [x].any (·.2)) := by rw [soKind, if_neg k0, if_neg k1, if_pos k2]; rfl
          rw [hk]
          simp only [go_sem, Nat.reduceAdd, Nat.reduceSub, Nat.reduceMul, Nat.reduceLeDiff, Nat.reduceEqDiff, Nat.reduceBEq, Int.toNat_zero, decide_eq_true_eq, decide_eq_false_iff_not, Bool.not_eq_true, Bool.not_eq_false, Decidable.not_not, List.contains_cons, List.contains_nil, k0, k1, k2, Int.reduceEq, List.map_cons, List.map_nil, bools_cons, bools_nil, slA_cons, slB_cons, Nat.zero_lt_one]
          refine ⟨by decide, ?_⟩
          rw [dK_eq]
          exact ⟨[some (.var c0), some (.var c1), some (.map (strs (names g)) (ints (idxs g.length)) false), some (.var [.int .i64 w.size, .ps 1 (rowsA w.rows), .ps 4 (syms g), .map 2, .bool (_)])], by simp [go_sem], Nat.le_refl 4, hlow _, trivial, rfl, rfl⟩
        by_cases k56 : k = 5 ∨ k = 6
        · have hn : S.length = 2 := by rw [hSn]; rcases k56 with rfl | rfl <;> simp at hshape <;> omega
          obtain ⟨⟨x1, x2⟩, ⟨y1, y2⟩, rfl⟩ : ∃ x y, S = [x, y] := by
            match S, hn with
            | [x, y], _ => exact ⟨x, y, rfl⟩
          by_cases k5 : k = 5
          · have hk : soKind k (l.rd g w E.1 E.2 false) (r.rd g w E.1 E.2 false) (l.rd g w E.1 E.2 true) [(x1, x2), (y1, y2)] = (!x1 || y1, [(x1, x2), (y1, y2)].any (·.2)) := by rw [soKind, if_neg k0, if_neg k1, if_neg k2, if_pos k5]; rfl
            rw [hk]
            cases x1
            all_goals
              simp only [go_sem, Nat.reduceAdd, Nat.reduceSub, Nat.reduceMul, Nat.reduceLeDiff, Nat.reduceEqDiff, Nat.reduceBEq, Int.toNat_zero, decide_eq_true_eq, decide_eq_false_iff_not, Bool.not_eq_true, Bool.not_eq_false, Decidable.not_not, List.contains_cons, List.contains_nil, k0, k1, k2, k5, Int.reduceEq, List.map_cons, List.map_nil, bools_cons, bools_nil, slA_cons, slB_cons, Nat.zero_lt_one, Int.toNat_one]
              (repeat ((with_reducible refine And.intro ?_ ?_); · omega))
              rw [dK_eq]
              exact ⟨[some (.var c0), some (.var c1), some (.map (strs (names g)) (ints (idxs g.length)) false), some (.var [.int .i64 w.size, .ps 1 (rowsA w.rows), .ps 4 (syms g), .map 2, .bool (_)])], by simp [go_sem], Nat.le_refl 4, hlow _, trivial, rfl, rfl⟩
          · have k6 : k = 6 := k56.resolve_left k5
            have hk : soKind k (l.rd g w E.1 E.2 false) (r.rd g w E.1 E.2 false) (l.rd g w E.1 E.2 true) [(x1, x2), (y1, y2)] = (x1 == y1, [(x1, x2), (y1, y2)].any (·.2)) := by rw [soKind, if_neg k0, if_neg k1, if_neg k2, if_neg k5, if_pos k6]; rfl
            rw [hk]
            simp only [go_sem, Nat.reduceAdd, Nat.reduceSub, Nat.reduceMul, Nat.reduceLeDiff, Nat.reduceEqDiff, Nat.reduceBEq, Int.toNat_zero, decide_eq_true_eq, decide_eq_false_iff_not, Bool.not_eq_true, Bool.not_eq_false, Decidable.not_not, List.contains_cons, List.contains_nil, k0, k1, k2, k5, k6, Int.reduceEq, List.map_cons, List.map_nil, bools_cons, bools_nil, slA_cons, slB_cons, Nat.zero_lt_one, Int.toNat_one]
            refine EvK.draw [] 6 6 mixed rfl rfl (Nat.le_refl _) ?_
            simp only [go_sem, Nat.reduceAdd, Nat.reduceSub, Nat.reduceMul, Nat.reduceLeDiff, Nat.reduceEqDiff, Nat.reduceBEq, Int.toNat_zero, decide_eq_true_eq, decide_eq_false_iff_not, Bool.not_eq_true, Bool.not_eq_false, Decidable.not_not, List.contains_cons, List.contains_nil, padS, Int.toNat_one]
            (repeat ((with_reducible refine And.intro ?_ ?_); · omega))
            refine EvK.go 1000 ?_
            simp only [go_sem, Nat.reduceAdd, Nat.reduceSub, Nat.reduceMul, Nat.reduceLeDiff, Nat.reduceEqDiff, Nat.reduceBEq, Int.toNat_zero, decide_eq_true_eq, decide_eq_false_iff_not, Bool.not_eq_true, Bool.not_eq_false, Decidable.not_not, List.contains_cons, List.contains_nil]
            rw [dK_eq]
            exact ⟨[some (.var c0), some (.var c1), some (.map (strs (names g)) (ints (idxs g.length)) false), some (.var [.int .i64 w.size, .ps 1 (rowsA w.rows), .ps 4 (syms g), .map 2, .bool (_)])], by simp [go_sem], Nat.le_refl 4, hlow _, trivial, rfl, rfl⟩
        have k5 : ¬ k = 5 := fun h => k56 (.inl h)
        have k6 : ¬ k = 6 := fun h => k56 (.inr h)
        by_cases k9 : k = 9
        · have hk : soKind k (l.rd g w E.1 E.2 false) (r.rd g w E.1 E.2 false) (l.rd g w E.1 E.2 true) S = (true, S.any (·.2)) := by rw [soKind, if_neg k0, if_neg k1, if_neg k2, if_neg k5, if_neg k6, if_pos k9]
          rw [hk]
          simp only [go_sem, Nat.reduceAdd, Nat.reduceSub, Nat.reduceMul, Nat.reduceLeDiff, Nat.reduceEqDiff, Nat.reduceBEq, Int.toNat_zero, decide_eq_true_eq, decide_eq_false_iff_not, Bool.not_eq_true, Bool.not_eq_false, Decidable.not_not, List.contains_cons, List.contains_nil, k9, Int.reduceEq]
          rw [dK_eq]
          exact ⟨[some (.var c0), some (.var c1), some (.map (strs (names g)) (ints (idxs g.length)) false), some (.var [.int .i64 w.size, .ps 1 (rowsA w.rows), .ps 4 (syms g), .map 2, .bool (_)])], by simp [go_sem], Nat.le_refl 4, hlow _, trivial, rfl, rfl⟩
        by_cases k10 : k = 10
        · have hk : soKind k (l.rd g w E.1 E.2 false) (r.rd g w E.1 E.2 false) (l.rd g w E.1 E.2 true) S = (false, S.any (·.2)) := by rw [soKind, if_neg k0, if_neg k1, if_neg k2, if_neg k5, if_neg k6, if_neg k9, if_pos k10]
          rw [hk]
          simp only [go_sem, Nat.reduceAdd, Nat.reduceSub, Nat.reduceMul, Nat.reduceLeDiff, Nat.reduceEqDiff, Nat.reduceBEq, Int.toNat_zero, decide_eq_true_eq, decide_eq_false_iff_not, Bool.not_eq_true, Bool.not_eq_false, Decidable.not_not, List.contains_cons, List.contains_nil, k10, Int.reduceEq]
          rw [dK_eq]
          exact ⟨[some (.var c0), some (.var c1), some (.map (strs (names g)) (ints (idxs g.length)) false), some (.var [.int .i64 w.size, .ps 1 (rowsA w.rows), .ps 4 (syms g), .map 2, .bool (_)])], by simp [go_sem], Nat.le_refl 4, hlow _, trivial, rfl, rfl⟩
        have hk : soKind k (l.rd g w E.1 E.2 false) (r.rd g w E.1 E.2 false) (l.rd g w E.1 E.2 true) S = (if decide (k = 3) = true then (S.map (·.1)).all id else (S.map (·.1)).any id, S.any (·.2)) := by
          rw [soKind, if_neg k0, if_neg k1, if_neg k2, if_neg k5, if_neg k6, if_neg k9, if_neg k10, List.all_map, List.any_map]
          by_cases k3 : k = 3
          · rw [if_pos k3, if_pos (decide_eq_true k3)]; rfl
          · rw [if_neg k3, if_neg (by simpa using k3)]; rfl
        rw [hk]
        clear hk hshape
        generalize hAny : S.any (·.2) = B at *
        generalize hLL : S.map (·.1) = L at *
        have hstop := andor_stop (decide (k = 3)) L
        have hall := andor_end (decide (k = 3)) L
        generalize (if decide (k = 3) = true then L.all id else L.any id) = X at *
        by_cases hL : L = []
        · subst hL
          have hX := hall (fun j hj => by simp at hj)
          simp only [go_sem, Nat.reduceAdd, Nat.reduceSub, Nat.reduceMul, Nat.reduceLeDiff, Nat.reduceEqDiff, Nat.reduceBEq, Int.toNat_zero, decide_eq_true_eq, decide_eq_false_iff_not, Bool.not_eq_true, Bool.not_eq_false, Decidable.not_not, List.contains_cons, List.contains_nil, k0, k1, k2, k5, k6, k7, k8, k9, k10, bools_nil, slA_nil, slB_nil]
          generalize decide (k = 3) = an at *
          refine EvK.loopI (ι := Unit) 1000 (fun _ => mkT 115 [(12, .bool an), (103, .nils), (104, .int .i64 0), (105, .int .i64 0)]) (fun _ => [some (.var c0), some (.var c1), some (.map (strs (names g)) (ints (idxs g.length)) false), some (.var [.int .i64 w.size, .ps 1 (rowsA w.rows), .ps 4 (syms g), .map 2, .bool (wr || B)]), some (.var [.int .i64 (k), .bool l.var, .str l.name, .ps 3 (l.args.map Wd.toA), .bool r.var, .str r.name, .ps 3 (r.args.map Wd.toA), .ps 1 (strs nm), .ps 9 (ps.map Fo.toA)]), none]) (fun _ => 0) () ?_ (fun _ => Nat.le_add_right 4 2) ?_
          · simp only [go_sem, Nat.reduceAdd, Nat.reduceSub, Nat.reduceMul, Nat.reduceLeDiff, Nat.reduceEqDiff, Nat.reduceBEq, Int.toNat_zero, decide_eq_true_eq, decide_eq_false_iff_not, Bool.not_eq_true, Bool.not_eq_false, Decidable.not_not, List.contains_cons, List.contains_nil, strs_low, ints_low, wds_low, fos_low, rowsA_low, syms_low, h0, h1, hc0, hc1]
            exact ⟨rfl, by decide⟩
          · rintro ⟨⟩
            simp only [go_sem, Nat.reduceAdd, Nat.reduceSub, Nat.reduceMul, Nat.reduceLeDiff, Nat.reduceEqDiff, Nat.reduceBEq, Int.toNat_zero, decide_eq_true_eq, decide_eq_false_iff_not, Bool.not_eq_true, Bool.not_eq_false, Decidable.not_not, List.contains_cons, List.contains_nil, Int.lt_irrefl]
            refine EvK.go 1000 ?_
            simp only [go_sem, Nat.reduceAdd, Nat.reduceSub, Nat.reduceMul, Nat.reduceLeDiff, Nat.reduceEqDiff, Nat.reduceBEq, Int.toNat_zero, decide_eq_true_eq, decide_eq_false_iff_not, Bool.not_eq_true, Bool.not_eq_false, Decidable.not_not, List.contains_cons, List.contains_nil]
            rw [dK_eq]
            exact ⟨[some (.var c0), some (.var c1), some (.map (strs (names g)) (ints (idxs g.length)) false), some (.var [.int .i64 w.size, .ps 1 (rowsA w.rows), .ps 4 (syms g), .map 2, .bool (_)])], by simp [go_sem], Nat.le_refl 4, hlow _, trivial, by rw [hX], rfl⟩
        · have hLb : bools L ≠ [] := by simpa [bools] using hL
          rw [slA_ne hLb, slB_ne hLb, bools_len]
          simp only [go_sem, Nat.reduceAdd, Nat.reduceSub, Nat.reduceMul, Nat.reduceLeDiff, Nat.reduceEqDiff, Nat.reduceBEq, Int.toNat_zero, decide_eq_true_eq, decide_eq_false_iff_not, Bool.not_eq_true, Bool.not_eq_false, Decidable.not_not, List.contains_cons, List.contains_nil, k0, k1, k2, k5, k6, k7, k8, k9, k10, bools_len]
          generalize decide (k = 3) = an at *
          refine EvK.loopI (ι := {j : Nat // j ≤ L.length ∧ ∀ (m : Nat) (hm : m < L.length), m < j → L[m] = an}) 1000 (fun j => mkT 115 [(12, .bool an), (103, .os 5 0 L.length 1), (104, .int .i64 L.length), (105, .int .i64 j.1)]) (fun _ => [some (.var c0), some (.var c1), some (.map (strs (names g)) (ints (idxs g.length)) false), some (.var [.int .i64 w.size, .ps 1 (rowsA w.rows), .ps 4 (syms g), .map 2, .bool (wr || B)]), some (.var [.int .i64 (k), .bool l.var, .str l.name, .ps 3 (l.args.map Wd.toA), .bool r.var, .str r.name, .ps 3 (r.args.map Wd.toA), .ps 1 (strs nm), .ps 9 (ps.map Fo.toA)]), some (.row (bools L) 0)]) (fun j => L.length - j.1) ⟨0, by omega, fun m _ hm => by omega⟩ ?_ (fun _ => Nat.le_add_right 4 2) ?_
          · simp only [go_sem, Nat.reduceAdd, Nat.reduceSub, Nat.reduceMul, Nat.reduceLeDiff, Nat.reduceEqDiff, Nat.reduceBEq, Int.toNat_zero, decide_eq_true_eq, decide_eq_false_iff_not, Bool.not_eq_true, Bool.not_eq_false, Decidable.not_not, List.contains_cons, List.contains_nil, strs_low, ints_low, wds_low, fos_low, rowsA_low, syms_low, h0, h1, hc0, hc1, bools_low, Int.natCast_zero]
            decide
          · rintro ⟨j, hj, hpre⟩
            by_cases hlt : (j : Int) < L.length
            · have hlt' : j < L.length := by omega
              have hst := hstop j hlt'
              by_cases he : L[j] = an
              · have hb : (!(L[j] == an)) = false := by rw [he]; simp
                simp only [go_sem, Nat.reduceAdd, Nat.reduceSub, Nat.reduceMul, Nat.reduceLeDiff, Nat.reduceEqDiff, Nat.reduceBEq, Int.toNat_zero, decide_eq_true_eq, decide_eq_false_iff_not, Bool.not_eq_true, Bool.not_eq_false, Decidable.not_not, List.contains_cons, List.contains_nil, hlt, Int.toNat_natCast, bools_len, bools_get hlt', hb]
                (repeat ((with_reducible refine And.intro ?_ ?_); · omega))
                refine ⟨⟨j + 1, by omega, fun m hm hmj => ?_⟩, ?_, by simp only; omega⟩
                · by_cases e : m = j
                  · subst e; exact he
                  · exact hpre m hm (by omega)
                simp only [go_sem, Nat.reduceAdd, Nat.reduceSub, Nat.reduceMul, Nat.reduceLeDiff, Nat.reduceEqDiff, Nat.reduceBEq, Int.toNat_zero, decide_eq_true_eq, decide_eq_false_iff_not, Bool.not_eq_true, Bool.not_eq_false, Decidable.not_not, List.contains_cons, List.contains_nil, strs_low, ints_low, wds_low, fos_low, rowsA_low, syms_low, h0, h1, hc0, hc1, bools_low]
                rw [i64_id (by omega)]
                exact ⟨rfl, by decide⟩
              · have hb : (!(L[j] == an)) = true := by simpa using he
                simp only [go_sem, Nat.reduceAdd, Nat.reduceSub, Nat.reduceMul, Nat.reduceLeDiff, Nat.reduceEqDiff, Nat.reduceBEq, Int.toNat_zero, decide_eq_true_eq, decide_eq_false_iff_not, Bool.not_eq_true, Bool.not_eq_false, Decidable.not_not, List.contains_cons, List.contains_nil, hlt, Int.toNat_natCast, bools_len, bools_get hlt', hb]
                (repeat ((with_reducible refine And.intro ?_ ?_); · omega))
                refine EvK.go 1000 ?_
                simp only [go_sem, Nat.reduceAdd, Nat.reduceSub, Nat.reduceMul, Nat.reduceLeDiff, Nat.reduceEqDiff, Nat.reduceBEq, Int.toNat_zero, decide_eq_true_eq, decide_eq_false_iff_not, Bool.not_eq_true, Bool.not_eq_false, Decidable.not_not, List.contains_cons, List.contains_nil]
                rw [dK_eq]
                exact ⟨[some (.var c0), some (.var c1), some (.map (strs (names g)) (ints (idxs g.length)) false), some (.var [.int .i64 w.size, .ps 1 (rowsA w.rows), .ps 4 (syms g), .map 2, .bool (_)])], by simp [go_sem], Nat.le_refl 4, hlow _, trivial, by rw [hst he], rfl⟩
            · have hje : j = L.length := by omega
              have hX := hall (fun m hm => hpre m hm (by omega))
              simp only [go_sem, Nat.reduceAdd, Nat.reduceSub, Nat.reduceMul, Nat.reduceLeDiff, Nat.reduceEqDiff, Nat.reduceBEq, Int.toNat_zero, decide_eq_true_eq, decide_eq_false_iff_not, Bool.not_eq_true, Bool.not_eq_false, Decidable.not_not, List.contains_cons, List.contains_nil, hlt]
              refine EvK.go 1000 ?_
              simp only [go_sem, Nat.reduceAdd, Nat.reduceSub, Nat.reduceMul, Nat.reduceLeDiff, Nat.reduceEqDiff, Nat.reduceBEq, Int.toNat_zero, decide_eq_true_eq, decide_eq_false_iff_not, Bool.not_eq_true, Bool.not_eq_false, Decidable.not_not, List.contains_cons, List.contains_nil]
              rw [dK_eq]
              exact ⟨[some (.var c0), some (.var c1), some (.map (strs (names g)) (ints (idxs g.length)) false), some (.var [.int .i64 w.size, .ps 1 (rowsA w.rows), .ps 4 (syms g), .map 2, .bool (_)])], by simp [go_sem], Nat.le_refl 4, hlow _, trivial, by rw [hX], rfl⟩
end Go.Proofs

/- Whether a formula is true in a world, as the program tells it. -/
set_option linter.unusedSimpArgs false
namespace Go.Proofs
open Go Go.Abs

set_option maxRecDepth 20000 in
set_option maxHeartbeats 1600000 in
theorem TrueM_eq (g : List Sy) (w : Wo) (f : Fo) (hsz : f.size < 1000000000) : CallEq Try.prog 19 [.ps 4 (syms g), w.toA, f.toA] (.tup [.bool (trueM g w f).1, .int .i64 (trueM g w f).2]) := by
  refine CallEq.begin (rs := [.tmp 6, .tmp 7]) (m := 68) 1000 Try.func19 rfl rfl rfl (by decide) (by simp [go_sem]) ?_
  simp only [go_sem, Nat.reduceAdd, Nat.reduceSub, Nat.reduceMul, Nat.reduceLeDiff, Nat.reduceEqDiff, Nat.reduceBEq, Int.toNat_zero, decide_eq_true_eq, decide_eq_false_iff_not, Bool.not_eq_true, Bool.not_eq_false, Decidable.not_not, List.contains_cons, List.contains_nil, wo_eq, fo_eq, Nat.le_refl]
  rw [← wo_eq]
  refine VCall.isoT [] (CheckM_eq g w) (pTL_refl _ _ _) (by simp [go_sem, syms_low, wo_low]) ?_; simp only [flatR, flatA, flatC, if_true]; refine EvK.go 1000 ?_
  cases c1 : worldOk g w with
  | false => simp only [go_sem, Nat.reduceAdd, Nat.reduceSub, Nat.reduceMul, Nat.reduceLeDiff, Nat.reduceEqDiff, Nat.reduceBEq, Int.toNat_zero, decide_eq_true_eq, decide_eq_false_iff_not, Bool.not_eq_true, Bool.not_eq_false, Decidable.not_not, List.contains_cons, List.contains_nil, trueM, c1, Int.reduceEq]
  | true =>
  have hb := bound_le f (by omega)
  simp only [go_sem, Nat.reduceAdd, Nat.reduceSub, Nat.reduceMul, Nat.reduceLeDiff, Nat.reduceEqDiff, Nat.reduceBEq, Int.toNat_zero, decide_eq_true_eq, decide_eq_false_iff_not, Bool.not_eq_true, Bool.not_eq_false, Decidable.not_not, List.contains_cons, List.contains_nil, Nat.le_refl]
  rw [← fo_eq]
  refine VCall.isoT [] (CheckF_eq f (by omega)) (pTL_refl _ _ _) (by simp [go_sem, fo_low]) ?_; simp only [flatR, flatA, flatC, if_true]; refine EvK.go 1000 ?_
  by_cases c2 : f.check = 0
  case neg => simp only [go_sem, Nat.reduceAdd, Nat.reduceSub, Nat.reduceMul, Nat.reduceLeDiff, Nat.reduceEqDiff, Nat.reduceBEq, Int.toNat_zero, decide_eq_true_eq, decide_eq_false_iff_not, Bool.not_eq_true, Bool.not_eq_false, Decidable.not_not, List.contains_cons, List.contains_nil, trueM, c1, c2]
  simp only [go_sem, Nat.reduceAdd, Nat.reduceSub, Nat.reduceMul, Nat.reduceLeDiff, Nat.reduceEqDiff, Nat.reduceBEq, Int.toNat_zero, decide_eq_true_eq, decide_eq_false_iff_not, Bool.not_eq_true, Bool.not_eq_false, Decidable.not_not, List.contains_cons, List.contains_nil, c2, Nat.le_refl]
  rw [← fo_eq]
  refine VCall.isoT [] (BoundF_eq f (by omega)) (pTL_refl _ _ _) (by simp [go_sem, fo_low]) ?_; simp only [flatR, flatA, flatC, if_true]; refine EvK.go 1000 ?_
  simp only [go_sem, Nat.reduceAdd, Nat.reduceSub, Nat.reduceMul, Nat.reduceLeDiff, Nat.reduceEqDiff, Nat.reduceBEq, Int.toNat_zero, decide_eq_true_eq, decide_eq_false_iff_not, Bool.not_eq_true, Bool.not_eq_false, Decidable.not_not, List.contains_cons, List.contains_nil]
  refine VCall.isoT [] (PowerM_eq w.size f.bound 20000 (by omega)) (pTL_refl _ _ _) (by simp [go_sem, ]) ?_; simp only [flatR, flatA, flatC, if_true]; refine EvK.go 1000 ?_
  by_cases c3 : 20000 < manyL w.size 20000 f.bound.toNat 1
  · simp only [go_sem, Nat.reduceAdd, Nat.reduceSub, Nat.reduceMul, Nat.reduceLeDiff, Nat.reduceEqDiff, Nat.reduceBEq, Int.toNat_zero, decide_eq_true_eq, decide_eq_false_iff_not, Bool.not_eq_true, Bool.not_eq_false, Decidable.not_not, List.contains_cons, List.contains_nil, c3, trueM, c1, c2, true_or]
  by_cases c45 : 1 < w.size ∧ 20 < f.bound
  · simp only [go_sem, Nat.reduceAdd, Nat.reduceSub, Nat.reduceMul, Nat.reduceLeDiff, Nat.reduceEqDiff, Nat.reduceBEq, Int.toNat_zero, decide_eq_true_eq, decide_eq_false_iff_not, Bool.not_eq_true, Bool.not_eq_false, Decidable.not_not, List.contains_cons, List.contains_nil, c3, c45.1, c45.2, trueM, c1, c2, true_or, false_or]
  have hT : trueM g w f = if (f.so g w ([], [])).2 = true then (false, 8) else ((f.so g w ([], [])).1, 0) := by
    unfold trueM
    rw [if_neg (by rw [c1]; decide), if_neg (by simp [c2]), if_neg (by rintro (h | h); · exact c3 h
                                                                       · exact c45 h)]
  rw [hT]
  obtain ⟨q1, q2, q3, q4, q5, q6⟩ := worldOk_size c1
  have hgl : (g.length : Int) ≤ 256 := by
    have h := q1
    simp only [sigOk, Bool.and_eq_true, Bool.not_eq_true', Bool.or_eq_false_iff, decide_eq_false_iff_not] at h
    omega
  have his := Is_eq g w c1 [.int .i64 w.size, .ps 1 (rowsA w.rows)] f.cs ⟨trivial, rowsA_low _, trivial⟩ ⟨trivial, trivial, trivial, wds_low _, trivial, trivial, wds_low _, strs_low _, fos_low _, trivial⟩ f hsz (check_right c2) ([], []) false (okN_nil _)
  generalize f.so g w ([], []) = V at *
  rcases (by omega : 1 < w.size ∧ ¬ 20 < f.bound ∨ ¬ 1 < w.size) with ⟨c4, c5⟩ | c4
  case' inl => simp only [go_sem, Nat.reduceAdd, Nat.reduceSub, Nat.reduceMul, Nat.reduceLeDiff, Nat.reduceEqDiff, Nat.reduceBEq, Int.toNat_zero, decide_eq_true_eq, decide_eq_false_iff_not, Bool.not_eq_true, Bool.not_eq_false, Decidable.not_not, List.contains_cons, List.contains_nil, c3, c4, c5, syms_len]
  case' inr => simp only [go_sem, Nat.reduceAdd, Nat.reduceSub, Nat.reduceMul, Nat.reduceLeDiff, Nat.reduceEqDiff, Nat.reduceBEq, Int.toNat_zero, decide_eq_true_eq, decide_eq_false_iff_not, Bool.not_eq_true, Bool.not_eq_false, Decidable.not_not, List.contains_cons, List.contains_nil, c3, c4, syms_len]
  all_goals
    refine EvK.loopI (ι := {i : Nat // i ≤ g.length}) 1000 (fun i => mkT 71 [(5, .ptr 1 0), (11, .ptr 3 0), (47, .ps 4 (syms g)), (48, .int .i64 g.length), (49, .int .i64 i.1)]) (fun i => [some (.var [.int .i64 w.size, .ps 1 (rowsA w.rows)]), some (.var f.cs), some (.map (strs (names (g.take i.1))) (ints (idxs i.1)) false), some (.var [.int .i64 w.size, .ps 1 (rowsA w.rows), .ps 4 (syms g), .map 2, .bool false])])
      (fun i => g.length - i.1) ⟨0, by omega⟩ ?_ (fun _ => Nat.zero_le _) ?_
    · simp only [go_sem, Nat.reduceAdd, Nat.reduceSub, Nat.reduceMul, Nat.reduceLeDiff, Nat.reduceEqDiff, Nat.reduceBEq, Int.toNat_zero, decide_eq_true_eq, decide_eq_false_iff_not, Bool.not_eq_true, Bool.not_eq_false, Decidable.not_not, List.contains_cons, List.contains_nil, syms_low, rowsA_low, wds_low, strs_low, fos_low, Fo.cs, ints_low, Int.natCast_zero]
      exact ⟨rfl, by decide⟩
    · rintro ⟨i, hi⟩
      by_cases hlt : (i : Int) < g.length
      · have hlt' : i < g.length := by omega
        have hpl := place_step q1 hlt'
        simp only [go_sem, Nat.reduceAdd, Nat.reduceSub, Nat.reduceMul, Nat.reduceLeDiff, Nat.reduceEqDiff, Nat.reduceBEq, Int.toNat_zero, decide_eq_true_eq, decide_eq_false_iff_not, Bool.not_eq_true, Bool.not_eq_false, Decidable.not_not, List.contains_cons, List.contains_nil, hlt, syms_len, Int.toNat_natCast, syms_get hlt', sy_cells, Nat.le_refl]
        (repeat ((with_reducible refine And.intro ?_ ?_); · omega))
        refine EvK.draw [.no, .no, .no, .no, .no, .no, .no, ⟨none, [2], []⟩] 5 5 mixed rfl rfl (Nat.le_refl _) ?_
        simp only [go_sem, Nat.reduceAdd, Nat.reduceSub, Nat.reduceMul, Nat.reduceLeDiff, Nat.reduceEqDiff, Nat.reduceBEq, Int.toNat_zero, decide_eq_true_eq, decide_eq_false_iff_not, Bool.not_eq_true, Bool.not_eq_false, Decidable.not_not, List.contains_cons, List.contains_nil, padS, strs_same, hpl]
        refine EvK.go 1000 ?_
        simp only [go_sem, Nat.reduceAdd, Nat.reduceSub, Nat.reduceMul, Nat.reduceLeDiff, Nat.reduceEqDiff, Nat.reduceBEq, Int.toNat_zero, decide_eq_true_eq, decide_eq_false_iff_not, Bool.not_eq_true, Bool.not_eq_false, Decidable.not_not, List.contains_cons, List.contains_nil]
        refine ⟨⟨i + 1, hlt'⟩, ?_, by simp only; omega⟩
        simp only [go_sem, Nat.reduceAdd, Nat.reduceSub, Nat.reduceMul, Nat.reduceLeDiff, Nat.reduceEqDiff, Nat.reduceBEq, Int.toNat_zero, decide_eq_true_eq, decide_eq_false_iff_not, Bool.not_eq_true, Bool.not_eq_false, Decidable.not_not, List.contains_cons, List.contains_nil, syms_low, rowsA_low, wds_low, strs_low, fos_low, Fo.cs, ints_low]
        rw [i64_id (by omega)]
        exact ⟨rfl, by decide⟩
      · have hie : i = g.length := by omega
        subst hie
        rw [List.take_length]
        simp only [go_sem, Nat.reduceAdd, Nat.reduceSub, Nat.reduceMul, Nat.reduceLeDiff, Nat.reduceEqDiff, Nat.reduceBEq, Int.toNat_zero, decide_eq_true_eq, decide_eq_false_iff_not, Bool.not_eq_true, Bool.not_eq_false, Decidable.not_not, List.contains_cons, List.contains_nil, hlt]
        refine EvK.go 1000 ?_
        simp only [go_sem, Nat.reduceAdd, Nat.reduceSub, Nat.reduceMul, Nat.reduceLeDiff, Nat.reduceEqDiff, Nat.reduceBEq, Int.toNat_zero, decide_eq_true_eq, decide_eq_false_iff_not, Bool.not_eq_true, Bool.not_eq_false, Decidable.not_not, List.contains_cons, List.contains_nil]
        refine ⟨Nat.le_refl 9, ?_⟩
        have hf0 : AVal.agg (List.take 9 f.cs) = f.toA := by rw [fo_eq]; rfl
        rw [hf0]
        refine VCall.frzM (q := 4) (ks := []) (vs := []) (fz := false) rfl ?_
        have hfr : frM 4 [] [] f.toA = f.toA := by rw [fo_eq]; rfl
        change VCall _ _ [.ptr 3 0, frM 4 [] [] f.toA, .pm [] []] _ _
        rw [hfr]
        refine VCall.tail (σ := [some (.var [.int .i64 w.size, .ps 1 (rowsA w.rows)]), some (.var f.cs), some (.map (strs (names g)) (ints (idxs g.length)) false), some (.var [.int .i64 w.size, .ps 1 (rowsA w.rows), .ps 4 (syms g), .map 2, .bool false])]) (τ := [none]) ⟨trivial, trivial⟩ (by simp [go_sem, fo_low]) ⟨⟨trivial, rowsA_low _, trivial⟩, ⟨trivial, trivial, trivial, wds_low _, trivial, trivial, wds_low _, strs_low _, fos_low _, trivial⟩, ⟨strs_low _, ints_low _⟩, ⟨trivial, rowsA_low _, syms_low _, by simp [go_sem], trivial, trivial⟩, trivial⟩ ?_
        refine his.mono ?_
        obtain ⟨v1, v2⟩ := V
        rintro r' σ' ⟨rfl, rfl⟩
        refine ⟨rfl, ?_⟩
        refine EvK.go 1000 ?_
        cases v2
        · simp only [go_sem, Nat.reduceAdd, Nat.reduceSub, Nat.reduceMul, Nat.reduceLeDiff, Nat.reduceEqDiff, Nat.reduceBEq, Int.toNat_zero, decide_eq_true_eq, decide_eq_false_iff_not, Bool.not_eq_true, Bool.not_eq_false, Decidable.not_not, List.contains_cons, List.contains_nil, Bool.or_false]
        · simp only [go_sem, Nat.reduceAdd, Nat.reduceSub, Nat.reduceMul, Nat.reduceLeDiff, Nat.reduceEqDiff, Nat.reduceBEq, Int.toNat_zero, decide_eq_true_eq, decide_eq_false_iff_not, Bool.not_eq_true, Bool.not_eq_false, Decidable.not_not, List.contains_cons, List.contains_nil, Bool.or_true]
end Go.Proofs

/- The example that is always asked for; what is few. -/
set_option linter.unusedSimpArgs false
namespace Go.Proofs
open Go Go.Abs

theorem Few28_eq (g : List Sy) (w : Wo) (c : List Li) : CallEq Try.prog 6 [.ps 4 (syms g), w.toA, .ps 5 (lits c)] (.bool (symsFew g && (w.few && litsFew c))) := by
  refine CallEq.begin (rs := [.tmp 6]) (m := 14) 1000 Try.func6 rfl rfl rfl (by decide) trivial ?_
  simp only [go_sem, Nat.reduceAdd, Nat.reduceSub, Nat.reduceMul, Nat.reduceLeDiff, Nat.reduceEqDiff, Nat.reduceBEq, Int.toNat_zero, decide_eq_true_eq, decide_eq_false_iff_not, Bool.not_eq_true, Bool.not_eq_false, Decidable.not_not, List.contains_cons, List.contains_nil, wo_eq]
  refine VCall.isoT [] (SymsFew_eq g) (pTL_refl _ _ _) (by simp [go_sem, syms_low]) ?_; simp only [flatR, flatA, flatC, if_true]; refine EvK.go 1000 ?_
  cases symsFew g with
  | false => simp only [go_sem, Nat.reduceAdd, Nat.reduceSub, Nat.reduceMul, Nat.reduceLeDiff, Nat.reduceEqDiff, Nat.reduceBEq, Int.toNat_zero, decide_eq_true_eq, decide_eq_false_iff_not, Bool.not_eq_true, Bool.not_eq_false, Decidable.not_not, List.contains_cons, List.contains_nil, Bool.false_and]
  | true =>
  simp only [go_sem, Nat.reduceAdd, Nat.reduceSub, Nat.reduceMul, Nat.reduceLeDiff, Nat.reduceEqDiff, Nat.reduceBEq, Int.toNat_zero, decide_eq_true_eq, decide_eq_false_iff_not, Bool.not_eq_true, Bool.not_eq_false, Decidable.not_not, List.contains_cons, List.contains_nil, Nat.le_refl]
  rw [← wo_eq]
  refine VCall.isoT [] (WorldFew_eq w) (pTL_refl _ _ _) (by simp [go_sem, wo_low]) ?_; simp only [flatR, flatA, flatC, if_true]; refine EvK.go 1000 ?_
  cases w.few with
  | false => simp only [go_sem, Nat.reduceAdd, Nat.reduceSub, Nat.reduceMul, Nat.reduceLeDiff, Nat.reduceEqDiff, Nat.reduceBEq, Int.toNat_zero, decide_eq_true_eq, decide_eq_false_iff_not, Bool.not_eq_true, Bool.not_eq_false, Decidable.not_not, List.contains_cons, List.contains_nil, Bool.false_and, Bool.true_and]
  | true =>
  simp only [go_sem, Nat.reduceAdd, Nat.reduceSub, Nat.reduceMul, Nat.reduceLeDiff, Nat.reduceEqDiff, Nat.reduceBEq, Int.toNat_zero, decide_eq_true_eq, decide_eq_false_iff_not, Bool.not_eq_true, Bool.not_eq_false, Decidable.not_not, List.contains_cons, List.contains_nil]
  refine VCall.isoT [] (LitsFew_eq c) (pTL_refl _ _ _) (by simp [go_sem, lits_low]) ?_; simp only [flatR, flatA, flatC, if_true]; refine EvK.go 1000 ?_
  simp only [go_sem, Nat.reduceAdd, Nat.reduceSub, Nat.reduceMul, Nat.reduceLeDiff, Nat.reduceEqDiff, Nat.reduceBEq, Int.toNat_zero, decide_eq_true_eq, decide_eq_false_iff_not, Bool.not_eq_true, Bool.not_eq_false, Decidable.not_not, List.contains_cons, List.contains_nil, Bool.true_and]

theorem Var_eq (v : Int) : CallEq Try.prog 43 [.int .i64 v] (Tm.mk (IntKind.i64.wrap (-1 - v)) []).toA := by
  refine CallEq.begin (rs := [.cell 2 28]) (m := 5) 1000 Try.func43 rfl rfl rfl (by decide) (toA_low _) ?_
  simp only [go_sem, Nat.reduceAdd, Nat.reduceSub, Nat.reduceMul, Nat.reduceLeDiff, Nat.reduceEqDiff, Nat.reduceBEq, Int.toNat_zero, decide_eq_true_eq, decide_eq_false_iff_not, Bool.not_eq_true, Bool.not_eq_false, Decidable.not_not, List.contains_cons, List.contains_nil, toA_eq, Tm.head, Tm.args, List.map_nil]
theorem Fun_eq (h : Int) (ts : List Tm) : CallEq Try.prog 44 [.int .i64 h, .ps 2 (ts.map Tm.toA)] (Tm.mk h ts).toA := by
  refine CallEq.begin (rs := [.cell 4 28]) (m := 6) 1000 Try.func44 rfl rfl rfl (by decide) (toA_low _) ?_
  simp only [go_sem, Nat.reduceAdd, Nat.reduceSub, Nat.reduceMul, Nat.reduceLeDiff, Nat.reduceEqDiff, Nat.reduceBEq, Int.toNat_zero, decide_eq_true_eq, decide_eq_false_iff_not, Bool.not_eq_true, Bool.not_eq_false, Decidable.not_not, List.contains_cons, List.contains_nil, toA_eq, Tm.head, Tm.args]

def toyG : List Sy := [⟨⟨#[36, 116, 114, 117, 101]⟩, 0, 1, true⟩, ⟨⟨#[102]⟩, 1, 1, false⟩, ⟨⟨#[112]⟩, 1, 1, true⟩]
def toyW : Wo := ⟨2, [[1], [1, 0], [0, 1]]⟩

theorem Toy_eq : CallEq Try.prog 42 [] (.tup [.ps 4 (syms toyG), toyW.toA]) := by
  refine CallEq.begin (rs := [.tmp 0, .cell 1 25]) (m := 13) 1000 Try.func42 rfl rfl rfl (by decide) (by simp [go_sem, syms_low, wo_low]) ?_
  have e1 : syms toyG = [.agg [.str ⟨#[36, 116, 114, 117, 101]⟩, .int .i64 0, .int .i64 1, .bool true], .agg [.str ⟨#[102]⟩, .int .i64 1, .int .i64 1, .bool false], .agg [.str ⟨#[112]⟩, .int .i64 1, .int .i64 1, .bool true]] := rfl
  have e2 : rowsA toyW.rows = [.ps 1 [.int .i64 1], .ps 1 [.int .i64 1, .int .i64 0], .ps 1 [.int .i64 0, .int .i64 1]] := rfl
  have e3 : toyW.size = 2 := rfl
  simp only [go_sem, Nat.reduceAdd, Nat.reduceSub, Nat.reduceMul, Nat.reduceLeDiff, Nat.reduceEqDiff, Nat.reduceBEq, Int.toNat_zero, decide_eq_true_eq, decide_eq_false_iff_not, Bool.not_eq_true, Bool.not_eq_false, Decidable.not_not, List.contains_cons, List.contains_nil, wo_eq, Nat.le_refl, e1, e2, e3]
  decide

def toyX : Tm := .mk (-1) []
def toyA : Li := ⟨false, .mk 2 [toyX], .mk 0 []⟩
def toyB : Li := ⟨false, .mk 2 [.mk 1 [toyX]], .mk 0 []⟩
def noneW : Wd := .mk false ⟨#[]⟩ []
def toyP : Fo := .mk 0 (.mk false ⟨#[112]⟩ [.mk true ⟨#[88]⟩ []]) noneW [] []
def toyF : Fo := .mk 8 noneW noneW [⟨#[88]⟩] [toyP]
theorem toy_1 : worldOk toyG toyW = true := by kernel_rfl
theorem toy_2 : fails toyG toyW [toyA] = ([0], true, 0) := by kernel_rfl
theorem toy_3 : fails toyG toyW [toyA, toyB] = ([], false, 0) := by kernel_rfl
theorem toy_4 : valueOf toyG toyW (.mk 1 [toyX]) [1] = (0, 0) := by kernel_rfl
theorem toy_5 : trueM toyG toyW toyF = (true, 0) := by kernel_rfl

set_option maxRecDepth 10000 in
theorem Awake_eq : CallEq Try.prog 13 [] (.bool true) := by
  refine CallEq.begin (rs := [.tmp 0]) (m := 120) 1000 Try.func13 rfl rfl rfl (by decide) trivial ?_
  simp only [go_sem, Nat.reduceAdd, Nat.reduceSub, Nat.reduceMul, Nat.reduceLeDiff, Nat.reduceEqDiff, Nat.reduceBEq, Int.toNat_zero, decide_eq_true_eq, decide_eq_false_iff_not, Bool.not_eq_true, Bool.not_eq_false, Decidable.not_not, List.contains_cons, List.contains_nil]
  refine VCall.isoT [] (Toy_eq) (pTL_refl _ _ _) (by simp [go_sem, ]) ?_; rw [frzI_nil]; simp only [ite_self]; refine EvK.go 1000 ?_
  simp only [go_sem, Nat.reduceAdd, Nat.reduceSub, Nat.reduceMul, Nat.reduceLeDiff, Nat.reduceEqDiff, Nat.reduceBEq, Int.toNat_zero, decide_eq_true_eq, decide_eq_false_iff_not, Bool.not_eq_true, Bool.not_eq_false, Decidable.not_not, List.contains_cons, List.contains_nil, wo_cells, Nat.le_refl]
  have hv := Var_eq 0
  rw [show Tm.mk (IntKind.i64.wrap (-1 - 0)) [] = toyX from rfl] at hv
  refine VCall.isoT [] (hv) (pTL_refl _ _ _) (by simp [go_sem, ]) ?_; rw [frzI_nil]; simp only [ite_self]; refine EvK.go 1000 ?_
  simp only [go_sem, Nat.reduceAdd, Nat.reduceSub, Nat.reduceMul, Nat.reduceLeDiff, Nat.reduceEqDiff, Nat.reduceBEq, Int.toNat_zero, decide_eq_true_eq, decide_eq_false_iff_not, Bool.not_eq_true, Bool.not_eq_false, Decidable.not_not, List.contains_cons, List.contains_nil, toA_cells, Nat.le_refl]
  refine ⟨by decide, ?_⟩
  refine VCall.isoT [2] (Fun_eq 2 [toyX]) ?_ (by simp [go_sem, toA_low]) ?_
  · simp only [go_sem, Nat.reduceAdd, Nat.reduceSub, Nat.reduceMul, Nat.reduceLeDiff, Nat.reduceEqDiff, Nat.reduceBEq, Int.toNat_zero, decide_eq_true_eq, decide_eq_false_iff_not, Bool.not_eq_true, Bool.not_eq_false, Decidable.not_not, List.contains_cons, List.contains_nil, among_cons, among_nil, List.map_cons, List.map_nil, toA_eq]
  rw [show flatR (Tm.mk 2 [toyX]).toA = false from rfl]
  refine EvK.go 1000 ?_
  have hf0 := Fun_eq 0 []
  simp only [go_sem, Nat.reduceAdd, Nat.reduceSub, Nat.reduceMul, Nat.reduceLeDiff, Nat.reduceEqDiff, Nat.reduceBEq, Int.toNat_zero, decide_eq_true_eq, decide_eq_false_iff_not, Bool.not_eq_true, Bool.not_eq_false, Decidable.not_not, List.contains_cons, List.contains_nil, Nat.le_refl, among_cons, among_nil]
  refine VCall.isoT [] hf0 ?_ (by simp [go_sem]) ?_
  · simp only [go_sem, Nat.reduceAdd, Nat.reduceSub, Nat.reduceMul, Nat.reduceLeDiff, Nat.reduceEqDiff, Nat.reduceBEq, Int.toNat_zero, decide_eq_true_eq, decide_eq_false_iff_not, Bool.not_eq_true, Bool.not_eq_false, Decidable.not_not, List.contains_cons, List.contains_nil, among_cons, among_nil, List.map_cons, List.map_nil, toA_eq]
  rw [frzI_nil]; simp only [ite_self]
  refine EvK.go 1000 ?_
  simp only [go_sem, Nat.reduceAdd, Nat.reduceSub, Nat.reduceMul, Nat.reduceLeDiff, Nat.reduceEqDiff, Nat.reduceBEq, Int.toNat_zero, decide_eq_true_eq, decide_eq_false_iff_not, Bool.not_eq_true, Bool.not_eq_false, Decidable.not_not, List.contains_cons, List.contains_nil, toA_cells, Nat.le_refl]
  refine ⟨by decide, ?_⟩
  refine VCall.isoT [4] (Fun_eq 1 [toyX]) ?_ (by simp [go_sem, toA_low]) ?_
  · simp only [go_sem, Nat.reduceAdd, Nat.reduceSub, Nat.reduceMul, Nat.reduceLeDiff, Nat.reduceEqDiff, Nat.reduceBEq, Int.toNat_zero, decide_eq_true_eq, decide_eq_false_iff_not, Bool.not_eq_true, Bool.not_eq_false, Decidable.not_not, List.contains_cons, List.contains_nil, among_cons, among_nil, List.map_cons, List.map_nil, toA_eq]
  rw [show flatR (Tm.mk 1 [toyX]).toA = false from rfl]
  refine EvK.go 1000 ?_
  simp only [go_sem, Nat.reduceAdd, Nat.reduceSub, Nat.reduceMul, Nat.reduceLeDiff, Nat.reduceEqDiff, Nat.reduceBEq, Int.toNat_zero, decide_eq_true_eq, decide_eq_false_iff_not, Bool.not_eq_true, Bool.not_eq_false, Decidable.not_not, List.contains_cons, List.contains_nil, toA_cells, Nat.le_refl, among_cons, among_nil]
  refine ⟨by decide, ?_⟩
  refine ⟨by decide, ?_⟩
  refine VCall.isoT [5] (Fun_eq 2 [.mk 1 [toyX]]) ?_ (by simp [go_sem, toA_low]) ?_
  · simp only [go_sem, Nat.reduceAdd, Nat.reduceSub, Nat.reduceMul, Nat.reduceLeDiff, Nat.reduceEqDiff, Nat.reduceBEq, Int.toNat_zero, decide_eq_true_eq, decide_eq_false_iff_not, Bool.not_eq_true, Bool.not_eq_false, Decidable.not_not, List.contains_cons, List.contains_nil, among_cons, among_nil, List.map_cons, List.map_nil, toA_eq]
  rw [show flatR (Tm.mk 2 [.mk 1 [toyX]]).toA = false from rfl]
  refine EvK.go 1000 ?_
  simp only [go_sem, Nat.reduceAdd, Nat.reduceSub, Nat.reduceMul, Nat.reduceLeDiff, Nat.reduceEqDiff, Nat.reduceBEq, Int.toNat_zero, decide_eq_true_eq, decide_eq_false_iff_not, Bool.not_eq_true, Bool.not_eq_false, Decidable.not_not, List.contains_cons, List.contains_nil, toA_cells, Nat.le_refl, among_cons, among_nil]
  refine VCall.isoT [] hf0 ?_ (by simp [go_sem]) ?_
  · simp only [go_sem, Nat.reduceAdd, Nat.reduceSub, Nat.reduceMul, Nat.reduceLeDiff, Nat.reduceEqDiff, Nat.reduceBEq, Int.toNat_zero, decide_eq_true_eq, decide_eq_false_iff_not, Bool.not_eq_true, Bool.not_eq_false, Decidable.not_not, List.contains_cons, List.contains_nil, among_cons, among_nil, List.map_cons, List.map_nil, toA_eq]
  rw [frzI_nil]; simp only [ite_self]
  refine EvK.go 1000 ?_
  simp only [go_sem, Nat.reduceAdd, Nat.reduceSub, Nat.reduceMul, Nat.reduceLeDiff, Nat.reduceEqDiff, Nat.reduceBEq, Int.toNat_zero, decide_eq_true_eq, decide_eq_false_iff_not, Bool.not_eq_true, Bool.not_eq_false, Decidable.not_not, List.contains_cons, List.contains_nil, toA_cells, Nat.le_refl]
  have hF1 := FailsM_eq toyG toyW [toyA] (by decide) (by simp [sides, toyA, toyX, Tm.fits, Tm.fit, In64]) (by decide)
  rw [toy_2] at hF1
  have hF2 := FailsM_eq toyG toyW [toyA, toyB] (by decide) (by simp [sides, toyA, toyB, toyX, Tm.fits, Tm.fit, In64]) (by decide)
  rw [toy_3] at hF2
  have eA : lits [toyA] = [.agg [.bool false, .int .i64 (Tm.mk 2 [toyX]).head, .ps 2 ((Tm.mk 2 [toyX]).args.map Tm.toA), .int .i64 (Tm.mk 0 []).head, .ps 2 ((Tm.mk 0 []).args.map Tm.toA)]] := rfl
  have eB : lits [toyA, toyB] = [.agg [.bool false, .int .i64 (Tm.mk 2 [toyX]).head, .ps 2 ((Tm.mk 2 [toyX]).args.map Tm.toA), .int .i64 (Tm.mk 0 []).head, .ps 2 ((Tm.mk 0 []).args.map Tm.toA)], .agg [.bool false, .int .i64 (Tm.mk 2 [Tm.mk 1 [toyX]]).head, .ps 2 ((Tm.mk 2 [Tm.mk 1 [toyX]]).args.map Tm.toA), .int .i64 (Tm.mk 0 []).head, .ps 2 ((Tm.mk 0 []).args.map Tm.toA)]] := rfl
  refine ⟨by decide, ?_⟩
  refine VCall.isoT [7] hF1 ?_ (by simp [go_sem, syms_low, wo_low, lits_low]) ?_
  · simp only [go_sem, Nat.reduceAdd, Nat.reduceSub, Nat.reduceMul, Nat.reduceLeDiff, Nat.reduceEqDiff, Nat.reduceBEq, Int.toNat_zero, decide_eq_true_eq, decide_eq_false_iff_not, Bool.not_eq_true, Bool.not_eq_false, Decidable.not_not, List.contains_cons, List.contains_nil, among_cons, among_nil, eA, wo_eq]
  rw [show flatR (failsA ([0], true, 0)) = false from rfl]
  refine EvK.go 1000 ?_
  simp only [go_sem, Nat.reduceAdd, Nat.reduceSub, Nat.reduceMul, Nat.reduceLeDiff, Nat.reduceEqDiff, Nat.reduceBEq, Int.toNat_zero, decide_eq_true_eq, decide_eq_false_iff_not, Bool.not_eq_true, Bool.not_eq_false, Decidable.not_not, List.contains_cons, List.contains_nil, failsA_eq, Nat.le_refl, among_cons, among_nil]
  refine ⟨by decide, ?_⟩
  refine VCall.isoT [8] hF2 ?_ (by simp [go_sem, syms_low, wo_low, lits_low]) ?_
  · simp only [go_sem, Nat.reduceAdd, Nat.reduceSub, Nat.reduceMul, Nat.reduceLeDiff, Nat.reduceEqDiff, Nat.reduceBEq, Int.toNat_zero, decide_eq_true_eq, decide_eq_false_iff_not, Bool.not_eq_true, Bool.not_eq_false, Decidable.not_not, List.contains_cons, List.contains_nil, among_cons, among_nil, eB, wo_eq]
  rw [show flatR (failsA ([], false, 0)) = true from rfl]
  refine EvK.go 1000 ?_
  simp only [go_sem, Nat.reduceAdd, Nat.reduceSub, Nat.reduceMul, Nat.reduceLeDiff, Nat.reduceEqDiff, Nat.reduceBEq, Int.toNat_zero, decide_eq_true_eq, decide_eq_false_iff_not, Bool.not_eq_true, Bool.not_eq_false, Decidable.not_not, List.contains_cons, List.contains_nil, failsA_eq, Nat.le_refl, among_cons, among_nil]
  have hTr := TrueM_eq toyG toyW toyF (by decide)
  rw [toy_5] at hTr
  have eF : toyF.toA = .agg [.int .i64 8, .bool false, .str ⟨#[]⟩, .ps 3 [], .bool false, .str ⟨#[]⟩, .ps 3 [], .ps 1 [.str ⟨#[88]⟩], .ps 9 [.agg [.int .i64 0, .bool false, .str ⟨#[112]⟩, .ps 3 [.agg [.bool true, .str ⟨#[88]⟩, .ps 3 []]], .bool false, .str ⟨#[]⟩, .ps 3 [], .ps 1 [], .ps 9 []]]] := rfl
  refine ⟨by decide, by decide, by decide, ?_⟩
  refine VCall.isoT [10, 11, 12] hTr ?_ (by simp [go_sem, syms_low, wo_low, fo_low]) ?_
  · simp only [go_sem, Nat.reduceAdd, Nat.reduceSub, Nat.reduceMul, Nat.reduceLeDiff, Nat.reduceEqDiff, Nat.reduceBEq, Int.toNat_zero, decide_eq_true_eq, decide_eq_false_iff_not, Bool.not_eq_true, Bool.not_eq_false, Decidable.not_not, List.contains_cons, List.contains_nil, among_cons, among_nil, eF, wo_eq]
  rw [show flatR (.tup [.bool (true, (0 : Int)).1, .int .i64 (true, (0 : Int)).2]) = true from rfl]
  refine EvK.go 1000 ?_
  simp only [go_sem, Nat.reduceAdd, Nat.reduceSub, Nat.reduceMul, Nat.reduceLeDiff, Nat.reduceEqDiff, Nat.reduceBEq, Int.toNat_zero, decide_eq_true_eq, decide_eq_false_iff_not, Bool.not_eq_true, Bool.not_eq_false, Decidable.not_not, List.contains_cons, List.contains_nil]
  refine EvK.draw [⟨none, [], [13, 14]⟩, ⟨none, [], [13, 14]⟩, ⟨none, [], [14]⟩, ⟨some 13, [13], [14]⟩, ⟨none, [13], [14]⟩, ⟨some 14, [14], [13]⟩, ⟨none, [14], []⟩] 13 15 mixed rfl rfl (by decide) ?_
  simp only [go_sem, Nat.reduceAdd, Nat.reduceSub, Nat.reduceMul, Nat.reduceLeDiff, Nat.reduceEqDiff, Nat.reduceBEq, Int.toNat_zero, decide_eq_true_eq, decide_eq_false_iff_not, Bool.not_eq_true, Bool.not_eq_false, Decidable.not_not, List.contains_cons, List.contains_nil, padS, Nat.le_refl]
  refine ⟨by decide, ?_⟩
  refine ⟨_, _, VCall.isoT [13] (Fun_eq 1 [toyX]) ?_ (by simp [go_sem, toA_low]) ⟨rfl, rfl⟩, ?_, ?_⟩
  · simp only [go_sem, Nat.reduceAdd, Nat.reduceSub, Nat.reduceMul, Nat.reduceLeDiff, Nat.reduceEqDiff, Nat.reduceBEq, Int.toNat_zero, decide_eq_true_eq, decide_eq_false_iff_not, Bool.not_eq_true, Bool.not_eq_false, Decidable.not_not, List.contains_cons, List.contains_nil, among_cons, among_nil, List.map_cons, List.map_nil, toA_eq]
  · rw [show flatR (Tm.mk 1 [toyX]).toA = false from rfl]
    simp only [go_sem, Nat.reduceAdd, Nat.reduceSub, Nat.reduceMul, Nat.reduceLeDiff, Nat.reduceEqDiff, Nat.reduceBEq, Int.toNat_zero, decide_eq_true_eq, decide_eq_false_iff_not, Bool.not_eq_true, Bool.not_eq_false, Decidable.not_not, List.contains_cons, List.contains_nil, among_cons, among_nil, Bool.false_eq_true]
  rw [show flatR (Tm.mk 1 [toyX]).toA = false from rfl]
  simp only [go_sem, Nat.reduceAdd, Nat.reduceSub, Nat.reduceMul, Nat.reduceLeDiff, Nat.reduceEqDiff, Nat.reduceBEq, Int.toNat_zero, decide_eq_true_eq, decide_eq_false_iff_not, Bool.not_eq_true, Bool.not_eq_false, Decidable.not_not, List.contains_cons, List.contains_nil, among_cons, among_nil, Bool.false_eq_true, Nat.le_refl]
  have hVa := ValueM_eq toyG toyW (.mk 1 [toyX]) [1] (by simp [toyX, Tm.fits, Tm.fit, In64]) (by decide)
  rw [toy_4] at hVa
  refine ⟨by decide, ?_⟩
  refine ⟨_, _, VCall.isoT [14] hVa ?_ (by simp [go_sem, syms_low, wo_low, toA_low, ints_low]) ⟨rfl, rfl⟩, ?_, ?_⟩
  · have e1 : ints [1] = [.int .i64 1] := rfl
    simp only [go_sem, Nat.reduceAdd, Nat.reduceSub, Nat.reduceMul, Nat.reduceLeDiff, Nat.reduceEqDiff, Nat.reduceBEq, Int.toNat_zero, decide_eq_true_eq, decide_eq_false_iff_not, Bool.not_eq_true, Bool.not_eq_false, Decidable.not_not, List.contains_cons, List.contains_nil, among_cons, among_nil, wo_eq, e1]
  · rw [show flatR (.tup [.int .i64 ((0 : Int), (0 : Int)).1, .int .i64 ((0 : Int), (0 : Int)).2]) = true from rfl]
    simp only [go_sem, Nat.reduceAdd, Nat.reduceSub, Nat.reduceMul, Nat.reduceLeDiff, Nat.reduceEqDiff, Nat.reduceBEq, Int.toNat_zero, decide_eq_true_eq, decide_eq_false_iff_not, Bool.not_eq_true, Bool.not_eq_false, Decidable.not_not, List.contains_cons, List.contains_nil]
  rw [show flatR (.tup [.int .i64 ((0 : Int), (0 : Int)).1, .int .i64 ((0 : Int), (0 : Int)).2]) = true from rfl]
  simp only [go_sem, Nat.reduceAdd, Nat.reduceSub, Nat.reduceMul, Nat.reduceLeDiff, Nat.reduceEqDiff, Nat.reduceBEq, Int.toNat_zero, decide_eq_true_eq, decide_eq_false_iff_not, Bool.not_eq_true, Bool.not_eq_false, Decidable.not_not, List.contains_cons, List.contains_nil]
  refine EvK.go 1000 ?_
  simp only [go_sem, Nat.reduceAdd, Nat.reduceSub, Nat.reduceMul, Nat.reduceLeDiff, Nat.reduceEqDiff, Nat.reduceBEq, Int.toNat_zero, decide_eq_true_eq, decide_eq_false_iff_not, Bool.not_eq_true, Bool.not_eq_false, Decidable.not_not, List.contains_cons, List.contains_nil]
  refine ⟨by decide, ?_⟩
  refine VCall.isoT [15] (Ints_eq [0] [0] (by decide)) ?_ (by simp [go_sem, ints_low]) ?_
  · have e0 : ints [0] = [.int .i64 0] := rfl
    simp only [go_sem, Nat.reduceAdd, Nat.reduceSub, Nat.reduceMul, Nat.reduceLeDiff, Nat.reduceEqDiff, Nat.reduceBEq, Int.toNat_zero, decide_eq_true_eq, decide_eq_false_iff_not, Bool.not_eq_true, Bool.not_eq_false, Decidable.not_not, List.contains_cons, List.contains_nil, among_cons, among_nil, e0]
  rw [show flatR (.bool (decide (([0] : List Int) = [0]))) = true from rfl, show decide (([0] : List Int) = [0]) = true from rfl]
  refine EvK.go 1000 ?_
  simp only [go_sem, Nat.reduceAdd, Nat.reduceSub, Nat.reduceMul, Nat.reduceLeDiff, Nat.reduceEqDiff, Nat.reduceBEq, Int.toNat_zero, decide_eq_true_eq, decide_eq_false_iff_not, Bool.not_eq_true, Bool.not_eq_false, Decidable.not_not, List.contains_cons, List.contains_nil, Nat.le_refl]
  have hCh := CheckM_eq toyG toyW
  rw [toy_1] at hCh
  rw [← wo_eq]
  refine VCall.isoT [] (hCh) (pTL_refl _ _ _) (by simp [go_sem, syms_low, wo_low]) ?_; simp only [flatR, flatA, flatC, if_true]; refine EvK.go 1000 ?_
  simp only [go_sem, Nat.reduceAdd, Nat.reduceSub, Nat.reduceMul, Nat.reduceLeDiff, Nat.reduceEqDiff, Nat.reduceBEq, Int.toNat_zero, decide_eq_true_eq, decide_eq_false_iff_not, Bool.not_eq_true, Bool.not_eq_false, Decidable.not_not, List.contains_cons, List.contains_nil, Int.reduceEq]
end Go.Proofs
