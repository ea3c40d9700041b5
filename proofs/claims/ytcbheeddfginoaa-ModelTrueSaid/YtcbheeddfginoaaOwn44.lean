/- Part 44 of my own framework and of the walks of functions: Py, Pz, Qa, Qb, Qg, Qh, Qi, Qc, Qj. -/
import Derived.Test.YtcbheeddfginoaaOwn43
import Derived.KernelRfl
set_option linter.unusedVariables false
set_option linter.unusedSimpArgs false

/- What words are in a world, as the program tells it. -/
set_option linter.unusedSimpArgs false
namespace Go.Proofs
open Go Go.Abs

set_option maxHeartbeats 800000 in
theorem Word_eq (g : List Sy) (w : Wo) (hw : worldOk g w = true) (b0 b1 : Option Blk) (h0 : lowO 4 b0) (h1 : lowO 4 b1) (ns : List ByteArray) (vs : List Int) (hnv : vs.length = ns.length) (hv : ∀ v ∈ vs, 0 ≤ v ∧ v < w.size) (x : Wd) :
    x.size < 2 ^ 62 → ∀ truth wr, VCall Try.prog (.fn 75 [] []) [.ptr 3 0, x.toA, .bool truth, .pm (strs ns) (ints vs)] [b0, b1, some (.map (strs (names g)) (ints (idxs g.length)) false), some (.var [.int .i64 w.size, .ps 1 (rowsA w.rows), .ps 4 (syms g), .map 2, .bool (wr)])]
      (fun r σ' => r = .int .i64 (x.rd g w ns vs truth).1 ∧ σ' = [b0, b1, some (.map (strs (names g)) (ints (idxs g.length)) false), some (.var [.int .i64 w.size, .ps 1 (rowsA w.rows), .ps 4 (syms g), .map 2, .bool (wr || (x.rd g w ns vs truth).2)])]) := by
  have hlow : ∀ wr, lowSo 4 [b0, b1, some (.map (strs (names g)) (ints (idxs g.length)) false), some (.var [.int .i64 w.size, .ps 1 (rowsA w.rows), .ps 4 (syms g), .map 2, .bool (wr)])] := fun wr => ⟨h0, h1, ⟨strs_low _, ints_low _⟩, ⟨trivial, rowsA_low _, syms_low _, by simp [go_sem], trivial, trivial⟩, trivial⟩
  obtain ⟨q1, q2, q3, q4, q5, q6⟩ := worldOk_size hw
  induction x using Wd.rec_args with
  | h v n l ih =>
  intro hsz truth wr
  simp only [Wd.size] at hsz
  have hlen := wlen_le l
  refine VCall.begin (rs := [.tmp 8]) (m := 108) 1000 Try.func75 rfl rfl rfl rfl rfl ?_
  cases v with
  | true =>
    have hrd : Wd.rd g w ns vs (.mk true n l) truth = (lookS ns vs n, !(posS ns n).isSome || truth) := by simp only [Wd.rd, if_true]
    rw [hrd]
    generalize hps : (posS ns n).isSome = known
    have hlk := lookupIn_S ns vs n hnv
    rw [hps] at hlk
    cases truth <;> cases wr <;> cases known <;>
    · simp only [go_sem, Nat.reduceAdd, Nat.reduceSub, Nat.reduceMul, Nat.reduceLeDiff, Nat.reduceEqDiff, Nat.reduceBEq, wd_eq, Wd.var, Wd.name, Wd.args, strs_same, hlk]
      rw [dK_eq]
      exact ⟨[b0, b1, some (.map (strs (names g)) (ints (idxs g.length)) false), some (.var [.int .i64 w.size, .ps 1 (rowsA w.rows), .ps 4 (syms g), .map 2, .bool (_)])], by simp [go_sem], Nat.le_refl _, hlow _, trivial, rfl, rfl⟩
  | false =>
    have hrd : Wd.rd g w ns vs (.mk false n l) truth = match posS (names g) n with
        | none => (0, true)
        | some k => if (g.getD k Sy.dflt).arity ≠ (l.length : Int) ∨ (g.getD k Sy.dflt).truth ≠ truth then (0, true) else
          ((w.rows.getD k []).getD (Wd.rds g w ns vs l (0, false)).1.toNat 0, (Wd.rds g w ns vs l (0, false)).2) := by rw [Wd.rd]; simp only [Bool.false_eq_true, if_false]; rfl
    generalize hV : Wd.rd g w ns vs (.mk false n l) truth = V
    rw [hrd] at hV
    simp only [go_sem, Nat.reduceAdd, Nat.reduceSub, Nat.reduceMul, Nat.reduceLeDiff, Nat.reduceEqDiff, Nat.reduceBEq, wd_eq, Wd.var, Wd.name, Wd.args]
    refine EvK.draw [] 5 5 mixed rfl rfl (Nat.le_refl _) ?_
    have hli := lookupIn_S (names g) (idxs g.length) n (by rw [idxs_len, names_len])
    simp only [go_sem, Nat.reduceAdd, Nat.reduceSub, Nat.reduceMul, Nat.reduceLeDiff, Nat.reduceEqDiff, Nat.reduceBEq, padS, strs_same, hli]
    refine EvK.go 1000 ?_
    cases hp : posS (names g) n with
    | none =>
      rw [hp] at hV
      subst hV
      simp only [go_sem, Nat.reduceAdd, Nat.reduceSub, Nat.reduceMul, Nat.reduceLeDiff, Nat.reduceEqDiff, Nat.reduceBEq, hp, Option.isSome_none]
      refine EvK.draw [] 5 5 mixed rfl rfl (Nat.le_refl _) ?_
      simp only [go_sem, Nat.reduceAdd, Nat.reduceSub, Nat.reduceMul, Nat.reduceLeDiff, Nat.reduceEqDiff, Nat.reduceBEq, padS]
      refine EvK.go 1000 ?_
      simp only [go_sem, Nat.reduceAdd, Nat.reduceSub, Nat.reduceMul, Nat.reduceLeDiff, Nat.reduceEqDiff, Nat.reduceBEq, Bool.or_true]
      rw [dK_eq]
      exact ⟨[b0, b1, some (.map (strs (names g)) (ints (idxs g.length)) false), some (.var [.int .i64 w.size, .ps 1 (rowsA w.rows), .ps 4 (syms g), .map 2, .bool (true)])], by simp [go_sem], Nat.le_refl _, hlow _, trivial, rfl, rfl⟩
    | some k =>
      have hk := posS_lt hp
      rw [names_len] at hk
      obtain ⟨r1, r2, r3, r4, r5⟩ := row_of hw hk
      have hlx := look_idx hp
      have hkl : (k : Int) < g.length := by omega
      rw [hp] at hV
      simp only [getD_at hk] at hV
      by_cases hc1 : g[k].arity = (l.length : Int)
      case neg =>
        rw [if_pos (.inl hc1)] at hV
        subst hV
        simp only [go_sem, Nat.reduceAdd, Nat.reduceSub, Nat.reduceMul, Nat.reduceLeDiff, Nat.reduceEqDiff, Nat.reduceBEq, hp, Option.isSome_some, hlx, Bool.or_true]
        refine EvK.draw [] 5 5 mixed rfl rfl (Nat.le_refl _) ?_
        simp only [go_sem, Nat.reduceAdd, Nat.reduceSub, Nat.reduceMul, Nat.reduceLeDiff, Nat.reduceEqDiff, Nat.reduceBEq, padS, syms_len, hkl, List.length_map, syms_get hk, sy_cells, hc1, Int.toNat_natCast, Nat.le_refl]
        (repeat ((with_reducible refine And.intro ?_ ?_); · omega))
        refine EvK.go 1000 ?_
        simp only [go_sem, Nat.reduceAdd, Nat.reduceSub, Nat.reduceMul, Nat.reduceLeDiff, Nat.reduceEqDiff, Nat.reduceBEq, hc1]
        rw [dK_eq]
        exact ⟨[b0, b1, some (.map (strs (names g)) (ints (idxs g.length)) false), some (.var [.int .i64 w.size, .ps 1 (rowsA w.rows), .ps 4 (syms g), .map 2, .bool (true)])], by simp [go_sem], Nat.le_refl _, hlow _, trivial, rfl, rfl⟩
      by_cases hc2 : g[k].truth = truth
      case neg =>
        rw [if_pos (.inr hc2)] at hV
        subst hV
        simp only [go_sem, Nat.reduceAdd, Nat.reduceSub, Nat.reduceMul, Nat.reduceLeDiff, Nat.reduceEqDiff, Nat.reduceBEq, hp, Option.isSome_some, hlx, Bool.or_true]
        refine EvK.draw [] 5 5 mixed rfl rfl (Nat.le_refl _) ?_
        have hb : (!(g[k].truth == truth)) = true := by cases hh : g[k].truth <;> cases truth <;> first | rfl | exact absurd hh hc2
        simp only [go_sem, Nat.reduceAdd, Nat.reduceSub, Nat.reduceMul, Nat.reduceLeDiff, Nat.reduceEqDiff, Nat.reduceBEq, padS, syms_len, hkl, List.length_map, syms_get hk, sy_cells, hc1, Int.toNat_natCast, Nat.le_refl, hb]
        (repeat ((with_reducible refine And.intro ?_ ?_); · omega))
        refine EvK.go 1000 ?_
        simp only [go_sem, Nat.reduceAdd, Nat.reduceSub, Nat.reduceMul, Nat.reduceLeDiff, Nat.reduceEqDiff, Nat.reduceBEq, hc1]
        rw [dK_eq]
        exact ⟨[b0, b1, some (.map (strs (names g)) (ints (idxs g.length)) false), some (.var [.int .i64 w.size, .ps 1 (rowsA w.rows), .ps 4 (syms g), .map 2, .bool (true)])], by simp [go_sem], Nat.le_refl _, hlow _, trivial, rfl, rfl⟩
      rw [if_neg (by rintro (h | h); · exact h hc1
                     · exact h hc2)] at hV
      subst hV
      simp only [go_sem, Nat.reduceAdd, Nat.reduceSub, Nat.reduceMul, Nat.reduceLeDiff, Nat.reduceEqDiff, Nat.reduceBEq, hp, Option.isSome_some, hlx]
      refine EvK.draw [] 5 5 mixed rfl rfl (Nat.le_refl _) ?_
      have hb : (!(g[k].truth == truth)) = false := by rw [hc2]; cases truth <;> rfl
      simp only [go_sem, Nat.reduceAdd, Nat.reduceSub, Nat.reduceMul, Nat.reduceLeDiff, Nat.reduceEqDiff, Nat.reduceBEq, padS, syms_len, hkl, List.length_map, syms_get hk, sy_cells, hc1, Int.toNat_natCast, Nat.le_refl, hb]
      (repeat ((with_reducible refine And.intro ?_ ?_); · omega))
      refine EvK.go 1000 ?_
      simp only [go_sem, Nat.reduceAdd, Nat.reduceSub, Nat.reduceMul, Nat.reduceLeDiff, Nat.reduceEqDiff, Nat.reduceBEq, List.length_map]
      have hl4 : l.length ≤ 4 := by omega
      refine EvK.loopI (ι := {i : Nat // i ≤ l.length}) 1000 (fun i => mkT 112 [(0, .ptr 3 0), (3, .pm (strs ns) (ints vs)), (5, .ptr 4 0), (11, .int .i64 k), (13, .int .i64 (Wd.rds g w ns vs (l.take i.1) (0, false)).1), (82, .ps 3 (l.map Wd.toA)), (83, .int .i64 l.length), (84, .int .i64 i.1)]) (fun i => [b0, b1, some (.map (strs (names g)) (ints (idxs g.length)) false), some (.var [.int .i64 w.size, .ps 1 (rowsA w.rows), .ps 4 (syms g), .map 2, .bool (wr || (Wd.rds g w ns vs (l.take i.1) (0, false)).2)]), some (.var [.bool false, .str n, .ps 3 (l.map Wd.toA)])])
        (fun i => l.length - i.1) ⟨0, by omega⟩ ?_ (fun _ => Nat.le_add_right 4 1) ?_
      · have h9 := lowSo_mono (m := 5) (by decide) (hlow wr)
        simp only [lowSo_cons, lowSo_nil, and_true] at h9
        simp only [go_sem, Nat.reduceAdd, Nat.reduceSub, Nat.reduceMul, Nat.reduceLeDiff, Nat.reduceEqDiff, Nat.reduceBEq, lowSo_cons, h9, lowO_some, strs_low, ints_low, wds_low, List.take_zero, Wd.rds, Int.natCast_zero, Bool.or_false, rowsA_low, syms_low]
        decide
      · rintro ⟨i, hi⟩
        by_cases hlt : (i : Int) < l.length
        · have hlt' : i < l.length := by omega
          have hsz2 := wsize_le l i hlt'
          have hsn := rds_snoc (g := g) (w := w) (ns := ns) (vs := vs) l i hlt' (0, false)
          obtain ⟨a1, a2⟩ := rds_small (ns := ns) hw hv hl4 i
          obtain ⟨v1, v2⟩ := rd_range (ns := ns) hw hv l[i]
          have ihi := ih i hlt' (by omega) false
          generalize Wd.rds g w ns vs (l.take i) (0, false) = A at *
          generalize Wd.rd g w ns vs l[i] false = V at *
          have m1 : 0 ≤ A.1 * w.size := Int.mul_nonneg a1 (by omega)
          have m2 : A.1 * w.size ≤ 256 * 4 := Int.mul_le_mul (by omega) q3 (by omega) (by omega)
          simp only [go_sem, Nat.reduceAdd, Nat.reduceSub, Nat.reduceMul, Nat.reduceLeDiff, Nat.reduceEqDiff, Nat.reduceBEq, hlt, List.length_map, Int.toNat_natCast, map_getD hlt', wd_cells, Nat.le_refl]
          (repeat ((with_reducible refine And.intro ?_ ?_); · omega))
          refine EvK.drawF [⟨none, [], [3]⟩, ⟨none, [], [3]⟩, ⟨none, [], [3]⟩, ⟨none, [], [3]⟩, ⟨none, [], [3]⟩, ⟨none, [], [3]⟩, ⟨none, [], [3]⟩, .no, .no, .no, ⟨none, [3], []⟩] 6 6 mixed rfl rfl (Nat.le_refl _) 5 rfl rfl rfl 3 0 10 rfl lay3 (.int .i64 w.size) ?_ ?_
          · simp only [go_sem, Nat.reduceAdd, Nat.reduceSub, Nat.reduceMul, Nat.reduceLeDiff, Nat.reduceEqDiff, Nat.reduceBEq, padS]
          simp only [go_sem, Nat.reduceAdd, Nat.reduceSub, Nat.reduceMul, Nat.reduceLeDiff, Nat.reduceEqDiff, Nat.reduceBEq, padS, Nat.le_refl]
          rw [← wd_eq]
          refine ⟨.int .i64 V.1, [b0, b1, some (.map (strs (names g)) (ints (idxs g.length)) false), some (.var [.int .i64 w.size, .ps 1 (rowsA w.rows), .ps 4 (syms g), .map 2, .bool ((wr || A.2) || V.2)]), some (.var [.bool false, .str n, .ps 3 (l.map Wd.toA)]), some (.var [.bool l[i].var, .str l[i].name, .ps 3 (l[i].args.map Wd.toA)])], ?_, ?_, ?_⟩
          · refine VCall.tail (σ := [b0, b1, some (.map (strs (names g)) (ints (idxs g.length)) false), some (.var [.int .i64 w.size, .ps 1 (rowsA w.rows), .ps 4 (syms g), .map 2, .bool (wr || A.2)])]) (τ := [some (.var [.bool false, .str n, .ps 3 (l.map Wd.toA)]), some (.var [.bool l[i].var, .str l[i].name, .ps 3 (l[i].args.map Wd.toA)])]) ⟨trivial, trivial⟩ (by simp [go_sem, wd_low, strs_low, ints_low]) (hlow _) ?_
            refine (ihi (wr || A.2)).mono ?_
            rintro r' σ' ⟨rfl, rfl⟩
            exact ⟨rfl, rfl, rfl⟩
          · simp only [go_sem, Nat.reduceAdd, Nat.reduceSub, Nat.reduceMul, Nat.reduceLeDiff, Nat.reduceEqDiff, Nat.reduceBEq]
          simp only [go_sem, Nat.reduceAdd, Nat.reduceSub, Nat.reduceMul, Nat.reduceLeDiff, Nat.reduceEqDiff, Nat.reduceBEq]
          refine EvK.fact ⟨⟨?_, ?_⟩, ?_⟩
          · rfl
          · simp only [go_sem, Nat.reduceAdd, Nat.reduceSub, Nat.reduceMul, Nat.reduceLeDiff, Nat.reduceEqDiff, Nat.reduceBEq]
          refine EvK.go 1000 ?_
          simp only [go_sem, Nat.reduceAdd, Nat.reduceSub, Nat.reduceMul, Nat.reduceLeDiff, Nat.reduceEqDiff, Nat.reduceBEq]
          refine ⟨⟨i + 1, hlt'⟩, ?_, by simp only; omega⟩
          have h9 := lowSo_mono (m := 5) (by decide) (hlow wr)
          simp only [lowSo_cons, lowSo_nil, and_true] at h9
          rw [i64_id (n := A.1 * w.size) (by omega), i64_id (n := A.1 * w.size + V.1) (by omega), i64_id (by omega)]
          simp only [go_sem, Nat.reduceAdd, Nat.reduceSub, Nat.reduceMul, Nat.reduceLeDiff, Nat.reduceEqDiff, Nat.reduceBEq, lowSo_cons, h9, lowO_some, strs_low, ints_low, wds_low, hsn, Bool.or_assoc, rowsA_low, syms_low]
          exact ⟨rfl, by decide⟩
        · have hi' : i = l.length := by omega
          subst hi'
          rw [List.take_length] at *
          obtain ⟨a1, a2⟩ := rds_range (ns := ns) hw hv l (0, false) (Int.le_refl 0)
          generalize Wd.rds g w ns vs l (0, false) = A at *
          have hat : A.1.toNat < (w.rows.getD k []).length := by
            have e : g[k].arity.toNat = l.length := by omega
            rw [e] at r4
            simp only [Int.zero_add, Int.one_mul] at a2
            omega
          have hrk : w.rows.getD k [] = w.rows[k] := by simp [List.getD, r3]
          rw [hrk] at hat ⊢
          have hrl : (k : Int) < w.rows.length := by omega
          have hal : A.1 < (w.rows[k].length : Int) := by omega
          simp only [go_sem, Nat.reduceAdd, Nat.reduceSub, Nat.reduceMul, Nat.reduceLeDiff, Nat.reduceEqDiff, Nat.reduceBEq, hlt, hrk]
          refine EvK.go 1000 ?_
          simp only [go_sem, Nat.reduceAdd, Nat.reduceSub, Nat.reduceMul, Nat.reduceLeDiff, Nat.reduceEqDiff, Nat.reduceBEq, rowsA_len, hrl, Int.toNat_natCast, rowsA_get r3, ints_len, hal, ints_get hat]
          (repeat ((with_reducible refine And.intro ?_ ?_); · omega))
          rw [dK_eq]
          exact ⟨[b0, b1, some (.map (strs (names g)) (ints (idxs g.length)) false), some (.var [.int .i64 w.size, .ps 1 (rowsA w.rows), .ps 4 (syms g), .map 2, .bool (wr || A.2)])], by simp [go_sem], Nat.le_refl _, hlow _, trivial, by rw [getD_at' hat], rfl⟩
end Go.Proofs

/- A map is copied; what is so of each, or of one, thing in place of names, as the program tells it. -/
set_option linter.unusedSimpArgs false
namespace Go.Proofs
open Go Go.Abs

theorem Clone_eq (ks vs : List AVal) (σ : Store) (hs : lowSo σ.length σ) (hk : lowL 0 ks) (hv : lowL 0 vs) : VCall Try.prog (.fn 101 [] []) [.pm ks vs] σ
    (fun r σ' => r = .map σ.length ∧ σ' = σ ++ [some (.map ks vs false)]) := by
  have hkn : ∀ {n}, lowL n ks := fun {n} => lowL_mono (Nat.zero_le n) hk
  have hvn : ∀ {n}, lowL n vs := fun {n} => lowL_mono (Nat.zero_le n) hv
  refine VCall.begin (rs := [.tmp 2]) (m := 8) 1000 Try.func101 rfl rfl rfl rfl rfl ?_
  simp only [go_sem, Nat.reduceAdd, Nat.reduceSub, Nat.reduceMul, Nat.reduceLeDiff, Nat.reduceEqDiff, Nat.reduceBEq]
  refine VCall.mapsClone Try.func111 (by kernel_rfl) (by kernel_rfl) (by kernel_rfl) (by kernel_rfl) ?_
  refine EvK.go 1000 ?_
  simp only [go_sem, Nat.reduceAdd, Nat.reduceSub, Nat.reduceMul, Nat.reduceLeDiff, Nat.reduceEqDiff, Nat.reduceBEq]
  rw [dK_eq]
  refine ⟨_, leSo_refl _, by simp, lowSo_app (lowSo_mono (by simp) hs) ?_, ?_, rfl, rfl⟩
  · simp [go_sem, hkn, hvn]
  · simp [go_sem]
theorem RowsP_eq (s m : Int) : CallEq Try.prog 37 [.int .i64 s, .int .i64 m] (.fn 68 [] [.pp [.int .i64 m], .pp [.int .i64 s]]) := by
  refine CallEq.beginX (rs := [.tmp 4]) (m := 4) [0, 1] 1000 Try.func37 rfl rfl rfl (by decide) (by simp [go_sem]) ?_
  simp only [go_sem, Nat.reduceAdd, Nat.reduceSub, Nat.reduceMul, Nat.reduceLeDiff, Nat.reduceEqDiff, Nat.reduceBEq]
  refine ⟨_, rfl, _, rfl, ?_⟩
  simp only [isX, isT, exA, exP, List.map_cons, List.map_nil]
  exact pT_refl _ _ _

set_option maxRecDepth 10000 in
set_option maxHeartbeats 800000 in
theorem RowsP1_eq (s : Int) (k : Nat) (hs1 : 1 ≤ s) (hs4 : s ≤ 4) (hk : k < 1000000000) (N : Nat) (hN : (N : Int) = s ^ k) (b0 b1 b2 b3 b4 b5 b6 b7 b8 b9 b10 b11 b12 b13 b14 b15 : Nat → Option Blk) (y : AVal) (go : Nat → Bool) (F : Nat → Store)
    (hlow : ∀ n, lowSo 16 [b0 (n), b1 (n), b2 (n), b3 (n), b4 (n), b5 (n), b6 (n), b7 (n), b8 (n), b9 (n), b10 (n), b11 (n), b12 (n), b13 (n), b14 (n), b15 (n)]) (hyl : y.low 16)
    (hF : ∀ n, n < N → go n = false → 16 ≤ (F n).length ∧ lowSo (F n).length (F n))
    (hy : ∀ n, n < N → VCall Try.prog y [.os 16 0 k 1] [b0 (n), b1 (n), b2 (n), b3 (n), b4 (n), b5 (n), b6 (n), b7 (n), b8 (n), b9 (n), b10 (n), b11 (n), b12 (n), b13 (n), b14 (n), b15 (n), some (.row (ints (digL s k n)) 0)] (fun r σ' => r = .bool (go n) ∧ σ' = if go n = true then [b0 (n + 1), b1 (n + 1), b2 (n + 1), b3 (n + 1), b4 (n + 1), b5 (n + 1), b6 (n + 1), b7 (n + 1), b8 (n + 1), b9 (n + 1), b10 (n + 1), b11 (n + 1), b12 (n + 1), b13 (n + 1), b14 (n + 1), b15 (n + 1), some (.row (ints (digL s k n)) 0)] else F n)) :
    VCall Try.prog (.fn 68 [] [.pp [.int .i64 k], .pp [.int .i64 s]]) [y] [b0 (0), b1 (0), b2 (0), b3 (0), b4 (0), b5 (0), b6 (0), b7 (0), b8 (0), b9 (0), b10 (0), b11 (0), b12 (0), b13 (0), b14 (0), b15 (0)] (fun r σ' => r = .tup [] ∧ ((∃ n, n < N ∧ (∀ m, m < n → go m = true) ∧ go n = false ∧ σ' = F n) ∨ ((∀ m, m < N → go m = true) ∧ σ' = [b0 (N), b1 (N), b2 (N), b3 (N), b4 (N), b5 (N), b6 (N), b7 (N), b8 (N), b9 (N), b10 (N), b11 (N), b12 (N), b13 (N), b14 (N), b15 (N)]))) := by
  have hN1 : 1 ≤ N := by have := Int.pow_pos (n := s) (m := k) (by omega); omega
  refine VCall.begin (rs := []) (m := 35) 1000 Try.func68 rfl rfl rfl rfl rfl ?_
  simp only [go_sem, Nat.reduceAdd, Nat.reduceSub, Nat.reduceMul, Nat.reduceLeDiff, Nat.reduceEqDiff, Nat.reduceBEq, Nat.le_refl, ints_rep, -List.reduceReplicate]
  refine ⟨by omega, ?_⟩
  refine EvK.loopI (ι := {n : Nat // n < N ∧ ∀ m, m < n → go m = true}) 1000 (fun n => mkT 38 [(0, y), (1, .pp [.int .i64 k]), (2, .pp [.int .i64 s]), (4, .os 16 0 k 1)]) (fun n => [b0 (n.1), b1 (n.1), b2 (n.1), b3 (n.1), b4 (n.1), b5 (n.1), b6 (n.1), b7 (n.1), b8 (n.1), b9 (n.1), b10 (n.1), b11 (n.1), b12 (n.1), b13 (n.1), b14 (n.1), b15 (n.1), some (.row (ints (digL s k n.1)) 0)]) (fun n => N - n.1) ⟨0, by omega, fun m hm => by omega⟩ ?_ (fun _ => Nat.le_add_right 16 1) ?_
  · have h9 := lowSo_mono (m := 17) (by decide) (hlow 0)
    have hy17 := low_mono (m := 17) (by decide) hyl
    simp only [lowSo_cons, lowSo_nil, and_true] at h9
    simp only [go_sem, Nat.reduceAdd, Nat.reduceSub, Nat.reduceMul, Nat.reduceLeDiff, Nat.reduceEqDiff, Nat.reduceBEq, hy17, lowSo_cons, h9, lowO_some, ints_low, digL_init s hs1 k, Int.natCast_zero]
    exact ⟨rfl, rfl, by omega⟩
  · rintro ⟨n, hn, hpre⟩
    simp only [go_sem, Nat.reduceAdd, Nat.reduceSub, Nat.reduceMul, Nat.reduceLeDiff, Nat.reduceEqDiff, Nat.reduceBEq]
    refine (hy n hn).mono ?_
    rintro r σ' ⟨rfl, rfl⟩
    refine EvK.go 1000 ?_
    cases hgo : go n with
    | false =>
      simp only [go_sem, Nat.reduceAdd, Nat.reduceSub, Nat.reduceMul, Nat.reduceLeDiff, Nat.reduceEqDiff, Nat.reduceBEq, Bool.false_eq_true]
      refine EvK.go 1000 ?_
      simp only [go_sem, Nat.reduceAdd, Nat.reduceSub, Nat.reduceMul, Nat.reduceLeDiff, Nat.reduceEqDiff, Nat.reduceBEq]
      rw [dK_eq]
      obtain ⟨f1, f2⟩ := hF n hn hgo
      exact ⟨F n, leSo_refl _, f1, f2, trivial, rfl, .inl ⟨n, hn, hpre, hgo, rfl⟩⟩
    | true =>
      have hpre' : ∀ m, m < n + 1 → go m = true := fun m hm => by
        by_cases e : m = n
        · rw [e]; exact hgo
        · exact hpre m (by omega)
      have hn0 : (0 : Int) ≤ n := by omega
      have hdig := digL_range hs1 k n
      simp only [go_sem, Nat.reduceAdd, Nat.reduceSub, Nat.reduceMul, Nat.reduceLeDiff, Nat.reduceEqDiff, Nat.reduceBEq]
      rw [i64_id (by omega)]
      refine EvK.loopI (ι := {j : Nat // j ≤ k ∧ (n : Int) + 1 = s ^ j * ((n : Int) / s ^ j + 1)}) 1000 (fun j => mkT 38 [(0, y), (1, .pp [.int .i64 k]), (2, .pp [.int .i64 s]), (4, .os 16 0 k 1), (5, .int .i64 ((k : Int) - 1 - j.1))]) (fun j => [b0 (n + 1), b1 (n + 1), b2 (n + 1), b3 (n + 1), b4 (n + 1), b5 (n + 1), b6 (n + 1), b7 (n + 1), b8 (n + 1), b9 (n + 1), b10 (n + 1), b11 (n + 1), b12 (n + 1), b13 (n + 1), b14 (n + 1), b15 (n + 1), some (.row (ints (digL s (k - j.1) ((n : Int) / s ^ j.1) ++ List.replicate j.1 0)) 0)]) (fun j => k - j.1) ⟨0, by omega, by simp⟩ ?_ (fun _ => Nat.le_add_right 16 1) ?_
      · have h9 := lowSo_mono (m := 17) (by decide) (hlow (n + 1))
        have hy17 := low_mono (m := 17) (by decide) hyl
        simp only [lowSo_cons, lowSo_nil, and_true] at h9
        simp only [go_sem, Nat.reduceAdd, Nat.reduceSub, Nat.reduceMul, Nat.reduceLeDiff, Nat.reduceEqDiff, Nat.reduceBEq, hy17, lowSo_cons, h9, lowO_some, ints_low, Int.natCast_zero, Int.pow_zero, Int.ediv_one, Nat.sub_zero, List.replicate_zero, List.append_nil, Int.sub_zero]
        omega
      · rintro ⟨j, hj, hinv⟩
        by_cases hjl : 0 ≤ (k : Int) - 1 - j
        case neg =>
          have hje : j = k := by omega
          subst hje
          have hlast := carry_all hs1 hn0 (by omega) hinv
          have hnN : n + 1 = N := by omega
          simp only [go_sem, Nat.reduceAdd, Nat.reduceSub, Nat.reduceMul, Nat.reduceLeDiff, Nat.reduceEqDiff, Nat.reduceBEq, hjl]
          refine EvK.draw [] 17 17 mixed rfl rfl (Nat.le_refl _) ?_
          simp only [go_sem, Nat.reduceAdd, Nat.reduceSub, Nat.reduceMul, Nat.reduceLeDiff, Nat.reduceEqDiff, Nat.reduceBEq, padS, hjl]
          refine EvK.go 1000 ?_
          simp only [go_sem, Nat.reduceAdd, Nat.reduceSub, Nat.reduceMul, Nat.reduceLeDiff, Nat.reduceEqDiff, Nat.reduceBEq, hjl]
          refine EvK.go 1000 ?_
          have hneg : (j : Int) - 1 - j < 0 := by omega
          simp only [go_sem, Nat.reduceAdd, Nat.reduceSub, Nat.reduceMul, Nat.reduceLeDiff, Nat.reduceEqDiff, Nat.reduceBEq, hneg]
          refine EvK.go 1000 ?_
          simp only [go_sem, Nat.reduceAdd, Nat.reduceSub, Nat.reduceMul, Nat.reduceLeDiff, Nat.reduceEqDiff, Nat.reduceBEq]
          rw [dK_eq]
          refine ⟨[b0 (N), b1 (N), b2 (N), b3 (N), b4 (N), b5 (N), b6 (N), b7 (N), b8 (N), b9 (N), b10 (N), b11 (N), b12 (N), b13 (N), b14 (N), b15 (N)], ?_, Nat.le_refl _, hlow N, trivial, rfl, .inr ⟨by rw [← hnN]; exact hpre', rfl⟩⟩
          rw [← hnN]
          simp [go_sem]
        obtain ⟨a, ha⟩ : ∃ a, k - j = a + 1 := ⟨k - j - 1, by omega⟩
        have hi : ((k : Int) - 1 - j).toNat = a := by omega
        have hrow : digL s (k - j) ((n : Int) / s ^ j) ++ List.replicate j 0 = digL s a ((n : Int) / s ^ j / s) ++ ((n : Int) / s ^ j % s) :: List.replicate j 0 := by
          rw [ha, digL_head s hs1]; simp
        have hgd : (ints (digL s a ((n : Int) / s ^ j / s) ++ ((n : Int) / s ^ j % s) :: List.replicate j 0)).getD a .undef = .int .i64 ((n : Int) / s ^ j % s) := by
          rw [ints_get (by simp [digL_len])]
          simp [List.getElem_append_right, digL_len]
        have hln : (digL s a ((n : Int) / s ^ j / s) ++ ((n : Int) / s ^ j % s) :: List.replicate j 0).length = k := by simp [digL_len]; omega
        have hm0 := Int.emod_nonneg ((n : Int) / s ^ j) (show s ≠ 0 by omega)
        have hm1 := Int.emod_lt_of_pos ((n : Int) / s ^ j) (show 0 < s by omega)
        have hset : ∀ v, (digL s a ((n : Int) / s ^ j / s) ++ ((n : Int) / s ^ j % s) :: List.replicate j 0).set a v = digL s a ((n : Int) / s ^ j / s) ++ v :: List.replicate j 0 := fun v => by
          rw [List.set_append_right _ _ (by rw [digL_len]; exact Nat.le_refl _), digL_len, Nat.sub_self]; rfl
        by_cases hd : (n : Int) / s ^ j % s = s - 1
        · simp only [go_sem, Nat.reduceAdd, Nat.reduceSub, Nat.reduceMul, Nat.reduceLeDiff, Nat.reduceEqDiff, Nat.reduceBEq, hjl]
          refine EvK.draw [] 17 17 mixed rfl rfl (Nat.le_refl _) ?_
          have hw : IntKind.i64.wrap (s - 1) = s - 1 := i64_id (by omega)
          rw [hd] at hset hgd hln hrow
          simp only [go_sem, Nat.reduceAdd, Nat.reduceSub, Nat.reduceMul, Nat.reduceLeDiff, Nat.reduceEqDiff, Nat.reduceBEq, padS, hjl, hi, hrow, ints_len, hln, hgd, hw]
          (repeat ((with_reducible refine And.intro ?_ ?_); · omega))
          refine EvK.go 1000 ?_
          simp only [go_sem, Nat.reduceAdd, Nat.reduceSub, Nat.reduceMul, Nat.reduceLeDiff, Nat.reduceEqDiff, Nat.reduceBEq, hjl, hi, hrow, ints_len, hln, hgd, ints_set, hset]
          (repeat ((with_reducible refine And.intro ?_ ?_); · omega))
          have hcs := carry_step hs1 hinv hd
          have hnx : digL s a ((n : Int) / s ^ j / s) ++ 0 :: List.replicate j 0 = digL s (k - (j + 1)) ((n : Int) / s ^ (j + 1)) ++ List.replicate (j + 1) 0 := by
            rw [show k - (j + 1) = a by omega, Int.pow_succ, Int.ediv_ediv_of_nonneg (Int.le_of_lt (Int.pow_pos (by omega))), List.replicate_succ]
          refine ⟨⟨j + 1, by omega, hcs⟩, ?_, by simp only; omega⟩
          have h9 := lowSo_mono (m := 17) (by decide) (hlow (n + 1))
          have hy17 := low_mono (m := 17) (by decide) hyl
          simp only [lowSo_cons, lowSo_nil, and_true] at h9
          simp only [go_sem, Nat.reduceAdd, Nat.reduceSub, Nat.reduceMul, Nat.reduceLeDiff, Nat.reduceEqDiff, Nat.reduceBEq, hy17, lowSo_cons, h9, lowO_some, ints_low, hnx]
          rw [i64_id (by omega)]
          exact ⟨by rw [show (k : Int) - 1 - ((j + 1 : Nat) : Int) = k - 1 - j - 1 by omega], by omega⟩
        · simp only [go_sem, Nat.reduceAdd, Nat.reduceSub, Nat.reduceMul, Nat.reduceLeDiff, Nat.reduceEqDiff, Nat.reduceBEq, hjl]
          refine EvK.draw [] 17 17 mixed rfl rfl (Nat.le_refl _) ?_
          have hw : IntKind.i64.wrap (s - 1) = s - 1 := i64_id (by omega)
          have hw2 : IntKind.i64.wrap ((n : Int) / s ^ j % s + 1) = (n : Int) / s ^ j % s + 1 := i64_id (by omega)
          have hnn : ¬ (k : Int) - 1 - j < 0 := by omega
          simp only [go_sem, Nat.reduceAdd, Nat.reduceSub, Nat.reduceMul, Nat.reduceLeDiff, Nat.reduceEqDiff, Nat.reduceBEq, padS, hjl, hi, hrow, ints_len, hln, hgd, hw, hd]
          (repeat ((with_reducible refine And.intro ?_ ?_); · omega))
          refine EvK.go 1000 ?_
          simp only [go_sem, Nat.reduceAdd, Nat.reduceSub, Nat.reduceMul, Nat.reduceLeDiff, Nat.reduceEqDiff, Nat.reduceBEq]
          refine EvK.go 1000 ?_
          simp only [go_sem, Nat.reduceAdd, Nat.reduceSub, Nat.reduceMul, Nat.reduceLeDiff, Nat.reduceEqDiff, Nat.reduceBEq, hnn, hi, hrow, ints_len, hln, hgd, ints_set, hset, hw2]
          (repeat ((with_reducible refine And.intro ?_ ?_); · omega))
          have hce := carry_end (a := a) (j := j) hs1 hn0 hinv hd
          rw [show a + 1 + j = k by omega] at hce
          have hnN : n + 1 < N := by
            have := carry_lt (a := a) (j := j) (n := (n : Int)) hs1 (by rw [show a + 1 + j = k by omega]; omega) hinv hd
            rw [show a + 1 + j = k by omega] at this; omega
          refine ⟨⟨n + 1, hnN, hpre'⟩, ?_, by simp only; omega⟩
          have h9 := lowSo_mono (m := 17) (by decide) (hlow (n + 1))
          have hy17 := low_mono (m := 17) (by decide) hyl
          simp only [lowSo_cons, lowSo_nil, and_true] at h9
          simp only [go_sem, Nat.reduceAdd, Nat.reduceSub, Nat.reduceMul, Nat.reduceLeDiff, Nat.reduceEqDiff, Nat.reduceBEq, hy17, lowSo_cons, h9, lowO_some, ints_low, Int.natCast_add, Int.natCast_one, hce]
          omega

theorem lowO_none {n : Nat} : lowO n none = True := rfl

set_option maxRecDepth 20000 in
set_option maxHeartbeats 1600000 in
theorem Bind_eq (g : List Sy) (w : Wo) (hw : worldOk g w = true) (b0 b1 : Option Blk) (h0 : lowO 4 b0) (h1 : lowO 4 b1) (k : Int) (l r : Wd) (nm : List ByteArray) (pt : List Fo) (hpt : 0 < pt.length) (hnm : nm.length < 1000000000) (so : Nms → Bool × Bool)
    (hy : ∀ (E : Nms) wr, okN w.size E → VCall Try.prog (.fn 49 [] []) [.ptr 3 0, pt[0].toA, .pm (strs E.1) (ints E.2)] [b0, b1, some (.map (strs (names g)) (ints (idxs g.length)) false), some (.var [.int .i64 w.size, .ps 1 (rowsA w.rows), .ps 4 (syms g), .map 2, .bool (wr)])] (fun r σ' => r = .bool (so E).1 ∧ σ' = [b0, b1, some (.map (strs (names g)) (ints (idxs g.length)) false), some (.var [.int .i64 w.size, .ps 1 (rowsA w.rows), .ps 4 (syms g), .map 2, .bool (wr || (so E).2)])]))
    (E : Nms) (hE : okN w.size E) (wr : Bool) : VCall Try.prog (.fn 76 [] []) [.ptr 3 0, (Fo.mk k l r nm pt).toA, .pm (strs E.1) (ints E.2)] [b0, b1, some (.map (strs (names g)) (ints (idxs g.length)) false), some (.var [.int .i64 w.size, .ps 1 (rowsA w.rows), .ps 4 (syms g), .map 2, .bool (wr)])]
      (fun r σ' => r = .bool (soRows k w.size nm so E (w.size ^ nm.length).toNat).1 ∧ σ' = [b0, b1, some (.map (strs (names g)) (ints (idxs g.length)) false), some (.var [.int .i64 w.size, .ps 1 (rowsA w.rows), .ps 4 (syms g), .map 2, .bool (wr || (soRows k w.size nm so E (w.size ^ nm.length).toNat).2)])]) := by
  obtain ⟨q1, q2, q3, q4, q5, q6⟩ := worldOk_size hw
  have hpos : 1 ≤ w.size ^ nm.length := Int.pow_pos (by omega)
  have hR0 := soRows_zero k w.size nm so E
  have hRs := soRows_succ k w.size nm so E
  generalize hN : (w.size ^ nm.length).toNat = N
  have hN' : (N : Int) = w.size ^ nm.length := by omega
  have hstep : ∀ o x, soStep k o x = (if decide (k = 7) = true then o.1 && x.1 else o.1 || x.1, o.2 || x.2) := fun o x => by simp [soStep]
  generalize soRows k w.size nm so E = R at *
  have hb03 : ∀ {m : Nat}, 4 ≤ m → lowO m b0 ∧ lowO m b1 := fun hm => by
    have h9 := lowSo_mono (m := _) hm (show lowSo 4 [b0, b1] from ⟨h0, h1, trivial⟩)
    exact ⟨h9.1, h9.2.1⟩
  refine VCall.begin (rs := [.tmp 6]) (m := 67) 1000 Try.func76 rfl rfl rfl rfl rfl ?_
  simp only [go_sem, Nat.reduceAdd, Nat.reduceSub, Nat.reduceMul, Nat.reduceLeDiff, Nat.reduceEqDiff, Nat.reduceBEq, fo_eq, Fo.kind, Fo.l, Fo.r, Fo.names, Fo.parts, strs_len]
  generalize hal : decide (k = 7) = al at *
  refine EvK.draw [] 9 9 mixed rfl rfl (Nat.le_refl _) ?_
  simp only [go_sem, Nat.reduceAdd, Nat.reduceSub, Nat.reduceMul, Nat.reduceLeDiff, Nat.reduceEqDiff, Nat.reduceBEq, padS, strs_len]
  refine draw_iso (RowsP_eq w.size nm.length) (pTL_refl _ _ _) (by simp [go_sem, ]) ?_
  simp only [go_sem, Nat.reduceAdd, Nat.reduceSub, Nat.reduceMul, Nat.reduceLeDiff, Nat.reduceEqDiff, Nat.reduceBEq]
  refine EvK.go 1000 ?_
  simp only [go_sem, Nat.reduceAdd, Nat.reduceSub, Nat.reduceMul, Nat.reduceLeDiff, Nat.reduceEqDiff, Nat.reduceBEq]
  refine EvK.rangeFunc (mkT 70 [(3, .ptr 4 0), (4, .ptr 5 0), (5, .ptr 6 0), (7, .ptr 7 0), (8, .ptr 8 0)]) ?_ ?_ (fun ρ ht hpa hat hbo => ?_)
  · simp only [go_sem, Nat.reduceAdd, Nat.reduceSub, Nat.reduceMul, Nat.reduceLeDiff, Nat.reduceEqDiff, Nat.reduceBEq]
  · exact fun b hb => by cases hb
  simp only [go_sem, Nat.reduceAdd, Nat.reduceSub, Nat.reduceMul, Nat.reduceLeDiff, Nat.reduceEqDiff, Nat.reduceBEq]
  have hρl : lowL 9 ρ.tm := by rw [ht]; simp [go_sem, mkT_cons, mkT_nil]
  have hρ : ∀ {m : Nat}, 9 ≤ m → lowL m ρ.tm := fun hm => lowL_mono hm hρl
  have hB : ∀ n, lowSo 16 [b0, b1, some (.map (strs (names g)) (ints (idxs g.length)) false), some (.var [.int .i64 w.size, .ps 1 (rowsA w.rows), .ps 4 (syms g), .map 2, .bool (wr || (R (n)).2)]), some (.var [.ptr 3 0]), some (.var [.int .i64 k, .bool l.var, .str l.name, .ps 3 (l.args.map Wd.toA), .bool r.var, .str r.name, .ps 3 (r.args.map Wd.toA), .ps 1 (strs nm), .ps 9 (pt.map Fo.toA)]), some (.var [.pm (strs E.1) (ints E.2)]), some (.var [.bool al]), some (.var [.bool (R (n)).1]), some (.loop (ρ.at .ready)), none, none, none, none, none, none] := fun n => ⟨(hb03 (by decide)).1, (hb03 (by decide)).2, ⟨strs_low _, ints_low _⟩, ⟨trivial, rowsA_low _, syms_low _, by simp [go_sem], trivial, trivial⟩, ⟨by simp [go_sem], trivial⟩, ⟨trivial, trivial, trivial, wds_low _, trivial, trivial, wds_low _, strs_low _, fos_low _, trivial⟩, ⟨⟨strs_low _, ints_low _⟩, trivial⟩, ⟨trivial, trivial⟩, ⟨trivial, trivial⟩, hρ (by decide), trivial, trivial, trivial, trivial, trivial, trivial, trivial⟩
  have hz : ([b0, b1, some (.map (strs (names g)) (ints (idxs g.length)) false), some (.var [.int .i64 w.size, .ps 1 (rowsA w.rows), .ps 4 (syms g), .map 2, .bool (wr)]), some (.var [.ptr 3 0]), some (.var [.int .i64 k, .bool l.var, .str l.name, .ps 3 (l.args.map Wd.toA), .bool r.var, .str r.name, .ps 3 (r.args.map Wd.toA), .ps 1 (strs nm), .ps 9 (pt.map Fo.toA)]), some (.var [.pm (strs E.1) (ints E.2)]), some (.var [.bool al]), some (.var [.bool al]), some (.loop (ρ.at .ready))] : Store) = [b0, b1, some (.map (strs (names g)) (ints (idxs g.length)) false), some (.var [.int .i64 w.size, .ps 1 (rowsA w.rows), .ps 4 (syms g), .map 2, .bool (wr || (R 0).2)]), some (.var [.ptr 3 0]), some (.var [.int .i64 k, .bool l.var, .str l.name, .ps 3 (l.args.map Wd.toA), .bool r.var, .str r.name, .ps 3 (r.args.map Wd.toA), .ps 1 (strs nm), .ps 9 (pt.map Fo.toA)]), some (.var [.pm (strs E.1) (ints E.2)]), some (.var [.bool al]), some (.var [.bool (R 0).1]), some (.loop (ρ.at .ready))] := by rw [hR0, Bool.or_false]
  rw [hz]
  refine VCall.pad 6 ?_
  refine (RowsP1_eq w.size nm.length q2 q3 hnm N hN' (fun _ => b0) (fun _ => b1) (fun _ => some (.map (strs (names g)) (ints (idxs g.length)) false)) (fun n => some (.var [.int .i64 w.size, .ps 1 (rowsA w.rows), .ps 4 (syms g), .map 2, .bool (wr || (R n).2)])) (fun _ => some (.var [.ptr 3 0])) (fun _ => some (.var [.int .i64 k, .bool l.var, .str l.name, .ps 3 (l.args.map Wd.toA), .bool r.var, .str r.name, .ps 3 (r.args.map Wd.toA), .ps 1 (strs nm), .ps 9 (pt.map Fo.toA)])) (fun _ => some (.var [.pm (strs E.1) (ints E.2)])) (fun _ => some (.var [.bool al])) (fun n => some (.var [.bool (R n).1])) (fun _ => some (.loop (ρ.at .ready))) (fun _ => none) (fun _ => none) (fun _ => none) (fun _ => none) (fun _ => none) (fun _ => none) (.yld 9)
    (fun _ => true) (fun _ => []) hB (by simp [go_sem]) (fun _ _ h => by cases h) (fun n hn => ?_)).mono ?_
  · refine VCall.yieldK 1000 ht hpa hat hbo rfl rfl ?_
    have hrl := digL_len w.size nm.length n
    have hrr := digL_range q2 nm.length n
    have hRn := hRs n
    generalize digL w.size nm.length n = row at *
    simp only [go_sem, Nat.reduceAdd, Nat.reduceSub, Nat.reduceMul, Nat.reduceLeDiff, Nat.reduceEqDiff, Nat.reduceBEq, ints_len]
    refine (Clone_eq (strs E.1) (ints E.2) _ ?_ (strs_low _) (ints_low _)).mono ?_
    · exact ⟨(hb03 (show 4 ≤ 17 by decide)).1, (hb03 (show 4 ≤ 17 by decide)).2, ⟨strs_low _, ints_low _⟩, ⟨trivial, rowsA_low _, syms_low _, by simp [go_sem], trivial, trivial⟩, ⟨by simp [go_sem], trivial⟩, ⟨trivial, trivial, trivial, wds_low _, trivial, trivial, wds_low _, strs_low _, fos_low _, trivial⟩, ⟨⟨strs_low _, ints_low _⟩, trivial⟩, ⟨trivial, trivial⟩, ⟨trivial, trivial⟩, hρ (show 9 ≤ 17 by decide), trivial, trivial, trivial, trivial, trivial, trivial, ints_low _, trivial⟩
    rintro _ _ ⟨rfl, rfl⟩
    refine EvK.go 1000 ?_
    simp only [go_sem, Nat.reduceAdd, Nat.reduceSub, Nat.reduceMul, Nat.reduceLeDiff, Nat.reduceEqDiff, Nat.reduceBEq, strs_len]
    refine EvK.loopI (ι := {i : Nat // i ≤ nm.length}) 1000 (fun i => mkT 70 [(3, .ptr 4 0), (4, .ptr 5 0), (5, .ptr 6 0), (7, .ptr 7 0), (8, .ptr 8 0), (9, .os 16 0 nm.length 1), (10, .map 17), (31, .ps 1 (strs nm)), (32, .int .i64 nm.length), (33, .int .i64 i.1)]) (fun i => [b0, b1, some (.map (strs (names g)) (ints (idxs g.length)) false), some (.var [.int .i64 w.size, .ps 1 (rowsA w.rows), .ps 4 (syms g), .map 2, .bool (wr || (R (n)).2)]), some (.var [.ptr 3 0]), some (.var [.int .i64 k, .bool l.var, .str l.name, .ps 3 (l.args.map Wd.toA), .bool r.var, .str r.name, .ps 3 (r.args.map Wd.toA), .ps 1 (strs nm), .ps 9 (pt.map Fo.toA)]), some (.var [.pm (strs E.1) (ints E.2)]), some (.var [.bool al]), some (.var [.bool (R (n)).1]), some (.loop (ρ.at .busy)), none, none, none, none, none, none, some (.row (ints row) 0), some (.map (strs (putsN E (nm.take i.1) (row.take i.1)).1) (ints (putsN E (nm.take i.1) (row.take i.1)).2) false)]) (fun i => nm.length - i.1) ⟨0, by omega⟩ ?_ (fun _ => Nat.le_add_right 17 1) ?_
    · simp only [go_sem, Nat.reduceAdd, Nat.reduceSub, Nat.reduceMul, Nat.reduceLeDiff, Nat.reduceEqDiff, Nat.reduceBEq, ints_low, strs_low, wds_low, fos_low, syms_low, lowO_some, lowSo_cons, hb03 (show 4 ≤ 18 by decide), List.take_zero, putsN_nil, Int.natCast_zero, rowsA_low, hρ (show 9 ≤ 18 by decide), lowO_none]
      decide
    · rintro ⟨i, hi⟩
      by_cases hlt : (i : Int) < nm.length
      · have hlt' : i < nm.length := by omega
        have hlr : i < row.length := by omega
        have hsn := putsN_snoc nm row i hlt' hlr E
        generalize putsN E (nm.take i) (row.take i) = Ei at *
        have hms := mapSet_S Ei nm[i] row[i]
        simp only [go_sem, Nat.reduceAdd, Nat.reduceSub, Nat.reduceMul, Nat.reduceLeDiff, Nat.reduceEqDiff, Nat.reduceBEq, hlt, strs_len, Int.toNat_natCast, strs_get hlt', ints_len, ints_get hlr, hrl, strs_same, hms]
        (repeat ((with_reducible refine And.intro ?_ ?_); · omega))
        refine ⟨⟨i + 1, hlt'⟩, ?_, by simp only; omega⟩
        simp only [go_sem, Nat.reduceAdd, Nat.reduceSub, Nat.reduceMul, Nat.reduceLeDiff, Nat.reduceEqDiff, Nat.reduceBEq, ints_low, strs_low, wds_low, fos_low, syms_low, lowO_some, lowSo_cons, hb03 (show 4 ≤ 18 by decide), rowsA_low, hρ (show 9 ≤ 18 by decide), lowO_none, hsn]
        rw [i64_id (by omega)]
        exact ⟨rfl, by decide⟩
      · have hi' : i = nm.length := by omega
        subst hi'
        simp only [go_sem, Nat.reduceAdd, Nat.reduceSub, Nat.reduceMul, Nat.reduceLeDiff, Nat.reduceEqDiff, Nat.reduceBEq, hlt]
        refine EvK.go 1000 ?_
        have ht2 : row.take nm.length = row := by rw [← hrl, List.take_length]
        have hEp := okN_puts nm row hE hrr
        rw [List.take_length, ht2]
        generalize putsN E nm row = E' at *
        have hp0 : (0 : Int) < pt.length := by omega
        refine EvK.draw [.no, .no, .no, .no, .no, .no, ⟨none, [3, 17], []⟩] 18 18 mixed rfl rfl (Nat.le_refl _) ?_
        simp only [go_sem, Nat.reduceAdd, Nat.reduceSub, Nat.reduceMul, Nat.reduceLeDiff, Nat.reduceEqDiff, Nat.reduceBEq, padS, List.length_map, hp0, map_getD hpt, fo_cells, Nat.le_refl]
        (repeat ((with_reducible refine And.intro ?_ ?_); · omega))
        rw [← fo_eq]
        have hyE := hy E' (wr || (R n).2) hEp
        rw [hstep] at hRn
        have hRn1 : (R (n + 1)).1 = if al = true then (R n).1 && (so E').1 else (R n).1 || (so E').1 := by rw [hRn]
        have hRn2 : (R (n + 1)).2 = ((R n).2 || (so E').2) := by rw [hRn]
        rw [hRn1, hRn2, ← Bool.or_assoc]
        have hρ17 := hρ (show 9 ≤ 17 by decide)
        clear hRn hRn1 hRn2 hRs hz hB hR0
        generalize R n = O at *
        obtain ⟨o1, o2⟩ := O
        generalize so E' = V at *
        obtain ⟨v1, v2⟩ := V
        refine ⟨.bool v1, [b0, b1, some (.map (strs (names g)) (ints (idxs g.length)) false), some (.var [.int .i64 w.size, .ps 1 (rowsA w.rows), .ps 4 (syms g), .map 2, .bool ((wr || o2) || v2)]), some (.var [.ptr 3 0]), some (.var [.int .i64 k, .bool l.var, .str l.name, .ps 3 (l.args.map Wd.toA), .bool r.var, .str r.name, .ps 3 (r.args.map Wd.toA), .ps 1 (strs nm), .ps 9 (pt.map Fo.toA)]), some (.var [.pm (strs E.1) (ints E.2)]), some (.var [.bool al]), some (.var [.bool o1]), some (.loop (ρ.at .busy)), none, none, none, none, none, none, some (.row (ints row) 0), none], ?_, ?_, ?_⟩
        · refine VCall.frzM (q := 17) (ks := strs E'.1) (vs := ints E'.2) (fz := false) rfl ?_
          have hfr : frM 17 (strs E'.1) (ints E'.2) pt[0].toA = pt[0].toA := by rw [fo_eq]; rfl
          change VCall _ _ [.ptr 3 0, frM 17 (strs E'.1) (ints E'.2) pt[0].toA, .pm (strs E'.1) (ints E'.2)] _ _
          rw [hfr]
          refine VCall.tail (σ := [b0, b1, some (.map (strs (names g)) (ints (idxs g.length)) false), some (.var [.int .i64 w.size, .ps 1 (rowsA w.rows), .ps 4 (syms g), .map 2, .bool (wr || o2)])]) (τ := [some (.var [.ptr 3 0]), some (.var [.int .i64 k, .bool l.var, .str l.name, .ps 3 (l.args.map Wd.toA), .bool r.var, .str r.name, .ps 3 (r.args.map Wd.toA), .ps 1 (strs nm), .ps 9 (pt.map Fo.toA)]), some (.var [.pm (strs E.1) (ints E.2)]), some (.var [.bool al]), some (.var [.bool o1]), some (.loop (ρ.at .busy)), none, none, none, none, none, none, some (.row (ints row) 0), none]) ⟨trivial, trivial⟩ (by simp [go_sem, fo_low, strs_low, ints_low]) ⟨h0, h1, ⟨strs_low _, ints_low _⟩, ⟨trivial, rowsA_low _, syms_low _, by simp [go_sem], trivial, trivial⟩, trivial⟩ ?_
          refine hyE.mono ?_
          rintro r' σ' ⟨rfl, rfl⟩
          exact ⟨rfl, rfl, rfl⟩
        · simp only [go_sem, Nat.reduceAdd, Nat.reduceSub, Nat.reduceMul, Nat.reduceLeDiff, Nat.reduceEqDiff, Nat.reduceBEq]
        simp only [go_sem, Nat.reduceAdd, Nat.reduceSub, Nat.reduceMul, Nat.reduceLeDiff, Nat.reduceEqDiff, Nat.reduceBEq]
        refine EvK.go 1000 ?_
        have hend : lowSo ([b0, b1, some (.map (strs (names g)) (ints (idxs g.length)) false), some (.var [.int .i64 w.size, .ps 1 (rowsA w.rows), .ps 4 (syms g), .map 2, .bool (wr || o2 || v2)]), some (.var [.ptr 3 0]), some (.var [.int .i64 k, .bool l.var, .str l.name, .ps 3 (l.args.map Wd.toA), .bool r.var, .str r.name, .ps 3 (r.args.map Wd.toA), .ps 1 (strs nm), .ps 9 (pt.map Fo.toA)]), some (.var [.pm (strs E.1) (ints E.2)]), some (.var [.bool al]), some (.var [.bool (if al = true then o1 && v1 else o1 || v1)]), some (.loop (ρ.at .ready)), none, none, none, none, none, none, some (.row (ints row) 0)] : Store).length [b0, b1, some (.map (strs (names g)) (ints (idxs g.length)) false), some (.var [.int .i64 w.size, .ps 1 (rowsA w.rows), .ps 4 (syms g), .map 2, .bool (wr || o2 || v2)]), some (.var [.ptr 3 0]), some (.var [.int .i64 k, .bool l.var, .str l.name, .ps 3 (l.args.map Wd.toA), .bool r.var, .str r.name, .ps 3 (r.args.map Wd.toA), .ps 1 (strs nm), .ps 9 (pt.map Fo.toA)]), some (.var [.pm (strs E.1) (ints E.2)]), some (.var [.bool al]), some (.var [.bool (if al = true then o1 && v1 else o1 || v1)]), some (.loop (ρ.at .ready)), none, none, none, none, none, none, some (.row (ints row) 0)] := ⟨(hb03 (show 4 ≤ 17 by decide)).1, (hb03 (show 4 ≤ 17 by decide)).2, ⟨strs_low _, ints_low _⟩, ⟨trivial, rowsA_low _, syms_low _, by simp [go_sem], trivial, trivial⟩, ⟨by simp [go_sem], trivial⟩, ⟨trivial, trivial, trivial, wds_low _, trivial, trivial, wds_low _, strs_low _, fos_low _, trivial⟩, ⟨⟨strs_low _, ints_low _⟩, trivial⟩, ⟨trivial, trivial⟩, ⟨trivial, trivial⟩, hρ17, trivial, trivial, trivial, trivial, trivial, trivial, ints_low _, trivial⟩
        cases al <;> cases o1 <;> cases v1 <;>
        · simp only [go_sem, Nat.reduceAdd, Nat.reduceSub, Nat.reduceMul, Nat.reduceLeDiff, Nat.reduceEqDiff, Nat.reduceBEq]
          rw [rE_eq]
          refine ⟨rfl, _, ?_, ?_, hend, rfl, rfl⟩
          · simp [go_sem]
          · exact Nat.le_refl 17
  · rintro r' σ' ⟨rfl, (⟨n, hn, hpre, hstop, rfl⟩ | ⟨hpre, rfl⟩)⟩
    · cases hstop
    rw [dK_eq]
    refine ⟨[b0, b1, some (.map (strs (names g)) (ints (idxs g.length)) false), some (.var [.int .i64 w.size, .ps 1 (rowsA w.rows), .ps 4 (syms g), .map 2, .bool (wr || (R N).2)]), some (.var [.ptr 3 0]), some (.var [.int .i64 k, .bool l.var, .str l.name, .ps 3 (l.args.map Wd.toA), .bool r.var, .str r.name, .ps 3 (r.args.map Wd.toA), .ps 1 (strs nm), .ps 9 (pt.map Fo.toA)]), some (.var [.pm (strs E.1) (ints E.2)]), some (.var [.bool al]), some (.var [.bool (R N).1]), some (.loop (ρ.at .ready))], by simp [go_sem], Nat.le_refl 10, ?_, trivial, ?_⟩
    · exact ⟨(hb03 (show 4 ≤ 10 by decide)).1, (hb03 (show 4 ≤ 10 by decide)).2, ⟨strs_low _, ints_low _⟩, ⟨trivial, rowsA_low _, syms_low _, by simp [go_sem], trivial, trivial⟩, ⟨by simp [go_sem], trivial⟩, ⟨trivial, trivial, trivial, wds_low _, trivial, trivial, wds_low _, strs_low _, fos_low _, trivial⟩, ⟨⟨strs_low _, ints_low _⟩, trivial⟩, ⟨trivial, trivial⟩, ⟨trivial, trivial⟩, hρ (show 9 ≤ 10 by decide), trivial⟩
    rw [rK_eq]
    refine ⟨.ready, rfl, ?_⟩
    rw [rD_ready]
    refine EvK.go 1000 ?_
    simp only [go_sem, Nat.reduceAdd, Nat.reduceSub, Nat.reduceMul, Nat.reduceLeDiff, Nat.reduceEqDiff, Nat.reduceBEq]
    rw [dK_eq]
    exact ⟨[b0, b1, some (.map (strs (names g)) (ints (idxs g.length)) false), some (.var [.int .i64 w.size, .ps 1 (rowsA w.rows), .ps 4 (syms g), .map 2, .bool (wr || (R N).2)])], by simp [go_sem], Nat.le_refl 4, ⟨h0, h1, ⟨strs_low _, ints_low _⟩, ⟨trivial, rowsA_low _, syms_low _, by simp [go_sem], trivial, trivial⟩, trivial⟩, trivial, rfl, rfl⟩
end Go.Proofs

/- What is so in a world, as the program tells it. -/
set_option linter.unusedSimpArgs false
namespace Go.Proofs
open Go Go.Abs

def bools (l : List Bool) : List AVal := l.map AVal.bool
theorem bools_len (l : List Bool) : (bools l).length = l.length := by simp [bools]
theorem bools_low {n : Nat} (l : List Bool) : lowL n (bools l) := lowL_map fun _ _ => trivial
theorem bools_get {l : List Bool} {i : Nat} (h : i < l.length) : (bools l).getD i .undef = .bool l[i] := map_getD h
theorem bools_snoc (l : List Bool) (b : Bool) : bools (l ++ [b]) = bools l ++ [.bool b] := by simp [bools]
theorem bools_nil : bools [] = [] := rfl
theorem bools_cons (b : Bool) (l : List Bool) : bools (b :: l) = .bool b :: bools l := rfl

theorem any_take_snoc {α : Type} (p : α → Bool) (l : List α) (i : Nat) (h : i < l.length) : (l.take (i + 1)).any p = ((l.take i).any p || p l[i]) := by
  rw [List.take_add_one, List.any_append, List.getElem?_eq_getElem h]; simp
theorem map_take_snoc {α β : Type} (p : α → β) (l : List α) (i : Nat) (h : i < l.length) : (l.take (i + 1)).map p = (l.take i).map p ++ [p l[i]] := by
  rw [List.take_add_one, List.map_append, List.getElem?_eq_getElem h]; simp

theorem andor_stop (a : Bool) (L : List Bool) (j : Nat) (hj : j < L.length) (h : ¬ L[j] = a) : (if a = true then L.all id else L.any id) = L[j] := by
  cases a with
  | true =>
    have e : L[j] = false := by simpa using h
    rw [e, if_pos rfl, List.all_eq_false]
    exact ⟨L[j], List.getElem_mem hj, by simp [e]⟩
  | false =>
    have e : L[j] = true := by simpa using h
    rw [e, if_neg (by decide), List.any_eq_true]
    exact ⟨L[j], List.getElem_mem hj, by simp [e]⟩
theorem andor_end (a : Bool) (L : List Bool) (h : ∀ (j : Nat) (hj : j < L.length), L[j] = a) : (if a = true then L.all id else L.any id) = a := by
  have h' : ∀ x ∈ L, x = a := fun x hx => by obtain ⟨j, hj, rfl⟩ := List.mem_iff_getElem.1 hx; exact h j hj
  cases a with
  | true => rw [if_pos rfl, List.all_eq_true]; exact fun x hx => by simp [h' x hx]
  | false => rw [if_neg (by decide), List.any_eq_false]; exact fun x hx => by simp [h' x hx]

set_option maxRecDepth 20000 in
set_option maxHeartbeats 1600000 in
theorem Is_eq (g : List Sy) (w : Wo) (hw : worldOk g w = true) (c0 c1 : List AVal) (h0 : lowL 0 c0) (h1 : lowL 0 c1) (f : Fo) : f.size < 1000000000 → f.right = true → ∀ (E : Nms) (wr : Bool), okN w.size E →
    VCall Try.prog (.fn 49 [] []) [.ptr 3 0, f.toA, .pm (strs E.1) (ints E.2)] [some (.var c0), some (.var c1), some (.map (strs (names g)) (ints (idxs g.length)) false), some (.var [.int .i64 w.size, .ps 1 (rowsA w.rows), .ps 4 (syms g), .map 2, .bool (wr)])] (fun r σ' => r = .bool (f.so g w E).1 ∧ σ' = [some (.var c0), some (.var c1), some (.map (strs (names g)) (ints (idxs g.length)) false), some (.var [.int .i64 w.size, .ps 1 (rowsA w.rows), .ps 4 (syms g), .map 2, .bool (wr || (f.so g w E).2)])]) := by
  have hc0 : ∀ {n}, lowL n c0 := fun {n} => lowL_mono (Nat.zero_le n) h0
  have hc1 : ∀ {n}, lowL n c1 := fun {n} => lowL_mono (Nat.zero_le n) h1
  have hlow : ∀ wr, lowSo 4 [some (.var c0), some (.var c1), some (.map (strs (names g)) (ints (idxs g.length)) false), some (.var [.int .i64 w.size, .ps 1 (rowsA w.rows), .ps 4 (syms g), .map 2, .bool (wr)])] := fun wr => ⟨hc0, hc1, ⟨strs_low _, ints_low _⟩, ⟨trivial, rowsA_low _, syms_low _, by simp [go_sem], trivial, trivial⟩, trivial⟩
  induction f using Fo.rec_parts with
  | h k l r nm ps ih =>
  intro hsz hright E wr hE
  simp only [Fo.size] at hsz
  have hlen := flen_le ps
  have hrp : (Fo.mk k l r nm ps).shape = true ∧ ps.all Fo.right = true := by
    have : Fo.right (.mk k l r nm ps) = (((Fo.mk k l r nm ps).shape && (Fo.mk k l r nm ps).own.all Wd.ok) && ps.all Fo.right) := by rw [Fo.right, rights_all]
    rw [this] at hright
    simp only [Bool.and_eq_true] at hright
    exact ⟨hright.1.1, hright.2⟩
  obtain ⟨hshape, hrights⟩ := hrp
  have hri : ∀ (i : Nat) (hi : i < ps.length), ps[i].right = true := fun i hi => List.all_eq_true.1 hrights _ (List.getElem_mem hi)
  have ih' : ∀ (i : Nat) (hi : i < ps.length) (E : Nms) (wr : Bool), okN w.size E → VCall Try.prog (.fn 49 [] []) [.ptr 3 0, ps[i].toA, .pm (strs E.1) (ints E.2)] [some (.var c0), some (.var c1), some (.map (strs (names g)) (ints (idxs g.length)) false), some (.var [.int .i64 w.size, .ps 1 (rowsA w.rows), .ps 4 (syms g), .map 2, .bool (wr)])] (fun r σ' => r = .bool (ps[i].so g w E).1 ∧ σ' = [some (.var c0), some (.var c1), some (.map (strs (names g)) (ints (idxs g.length)) false), some (.var [.int .i64 w.size, .ps 1 (rowsA w.rows), .ps 4 (syms g), .map 2, .bool (wr || (ps[i].so g w E).2)])]) := fun i hi => ih i hi (by have := fsize_le ps i hi; omega) (hri i hi)
  clear ih
  refine VCall.begin (rs := [.tmp 6]) (m := 112) 1000 Try.func49 rfl rfl rfl rfl rfl ?_
  by_cases k78 : k = 7 ∨ k = 8
  · have hone : ps.length = 1 := by
      simp only [Fo.shape, Fo.kind, Fo.parts] at hshape
      rcases k78 with rfl | rfl <;> (simp at hshape; exact of_decide_eq_true hshape)
    have hp0 : 0 < ps.length := by omega
    have hso : Fo.so g w (.mk k l r nm ps) E = soRows k w.size nm (fun E' => ps[0].so g w E') E (w.size ^ nm.length).toNat := by
      rw [Fo.so, if_pos k78]
      congr 1
      funext E'
      rw [soL_map]
      obtain ⟨p, rfl⟩ := List.length_eq_one_iff.1 hone
      rfl
    rw [hso]
    have hbind := Bind_eq g w hw (some (.var c0)) (some (.var c1)) hc0 hc1 k l r nm ps hp0 (by omega) (fun E' => ps[0].so g w E') (fun E wr hE => ih' 0 hp0 E wr hE) E hE wr
    generalize soRows k w.size nm (fun E' => ps[0].so g w E') E (w.size ^ nm.length).toNat = V at *
    rw [fo_eq] at hbind
    simp only [Fo.kind, Fo.l, Fo.r, Fo.names, Fo.parts] at hbind
    rcases k78 with rfl | rfl
    all_goals
      simp only [go_sem, Nat.reduceAdd, Nat.reduceSub, Nat.reduceMul, Nat.reduceLeDiff, Nat.reduceEqDiff, Nat.reduceBEq, fo_eq, Fo.kind, Fo.l, Fo.r, Fo.names, Fo.parts, strs_len, Int.reduceEq, Nat.le_refl]
      refine VCall.tail (σ := [some (.var c0), some (.var c1), some (.map (strs (names g)) (ints (idxs g.length)) false), some (.var [.int .i64 w.size, .ps 1 (rowsA w.rows), .ps 4 (syms g), .map 2, .bool (wr)])]) (τ := [_]) ⟨trivial, trivial⟩ (by simp [go_sem, strs_low, ints_low, wds_low, fos_low]) (hlow wr) ?_
      refine hbind.mono ?_
      rintro r' σ' ⟨rfl, rfl⟩
      refine ⟨rfl, ?_⟩
      refine EvK.go 1000 ?_
      simp only [go_sem, Nat.reduceAdd, Nat.reduceSub, Nat.reduceMul, Nat.reduceLeDiff, Nat.reduceEqDiff, Nat.reduceBEq]
      rw [dK_eq]
      exact ⟨[some (.var c0), some (.var c1), some (.map (strs (names g)) (ints (idxs g.length)) false), some (.var [.int .i64 w.size, .ps 1 (rowsA w.rows), .ps 4 (syms g), .map 2, .bool (wr || V.2)])], by simp [go_sem], Nat.le_refl 4, hlow _, trivial, rfl, rfl⟩
  · have k7 : ¬ k = 7 := fun h => k78 (.inl h)
    have k8 : ¬ k = 8 := fun h => k78 (.inr h)
    have hso : Fo.so g w (.mk k l r nm ps) E = soKind k (l.rd g w E.1 E.2 false) (r.rd g w E.1 E.2 false) (l.rd g w E.1 E.2 true) (ps.map fun p => p.so g w E) := by rw [Fo.so, if_neg k78, soL_map]
    rw [hso]
    clear hso
    simp only [go_sem, Nat.reduceAdd, Nat.reduceSub, Nat.reduceMul, Nat.reduceLeDiff, Nat.reduceEqDiff, Nat.reduceBEq, fo_eq, Fo.kind, Fo.l, Fo.r, Fo.names, Fo.parts, k7, k8, List.length_map]
    refine EvK.loopR (ι := {i : Nat // i ≤ ps.length}) 1000 (fun i => mkT 115 [(0, .ptr 3 0), (2, .pm (strs E.1) (ints E.2)), (4, .ptr 4 0), (7, slA 5 1 (bools ((ps.take i.1).map fun p => (p.so g w E).1))), (24, .ps 9 (ps.map Fo.toA)), (25, .int .i64 ps.length), (26, .int .i64 i.1)]) (fun i => [some (.var c0), some (.var c1), some (.map (strs (names g)) (ints (idxs g.length)) false), some (.var [.int .i64 w.size, .ps 1 (rowsA w.rows), .ps 4 (syms g), .map 2, .bool (wr || (ps.take i.1).any fun p => (p.so g w E).2)]), some (.var [.int .i64 (k), .bool l.var, .str l.name, .ps 3 (l.args.map Wd.toA), .bool r.var, .str r.name, .ps 3 (r.args.map Wd.toA), .ps 1 (strs nm), .ps 9 (ps.map Fo.toA)]), slB (bools ((ps.take i.1).map fun p => (p.so g w E).1))])
      (fun i => ps.length - i.1) ⟨0, by omega⟩ [] ?_ (fun _ => Nat.le_add_right 4 2) ?_
    · refine leR_mk rfl ?_
      simp only [go_sem, Nat.reduceAdd, Nat.reduceSub, Nat.reduceMul, Nat.reduceLeDiff, Nat.reduceEqDiff, Nat.reduceBEq, List.take_zero, List.map_nil, bools_nil, slA_nil, slB_nil, List.any_nil, Bool.or_false, strs_low, ints_low, wds_low, fos_low, rowsA_low, syms_low, renL_low0, h0, h1, hc0, hc1, Int.natCast_zero]
      decide
    · rintro ⟨i, hi⟩
      have hlt2 : (ps.take i).length ≤ ps.length := by rw [List.length_take]; omega
      have hL1 := map_take_snoc (fun p => (p.so g w E).1) ps i
      have hL2 := any_take_snoc (fun p => (p.so g w E).2) ps i
      have hLn : ((ps.take i).map fun p => (p.so g w E).1).length ≤ ps.length := by rw [List.length_map]; exact hlt2
      by_cases hlt : (i : Int) < ps.length
      · have hlt' : i < ps.length := by omega
        have hip := ih' i hlt' E
        replace hL1 := hL1 hlt'
        replace hL2 := hL2 hlt'
        generalize hB : (ps.take i).any (fun p => (p.so g w E).2) = B at *
        generalize hL : ((ps.take i).map fun p => (p.so g w E).1) = L at *
        generalize hV : ps[i].so g w E = V at *
        simp only [go_sem, Nat.reduceAdd, Nat.reduceSub, Nat.reduceMul, Nat.reduceLeDiff, Nat.reduceEqDiff, Nat.reduceBEq, hlt, List.length_map, Int.toNat_natCast, map_getD hlt', fo_cells, Nat.le_refl, hB, hL]
        rw [← fo_eq]
        (repeat ((with_reducible refine And.intro ?_ ?_); · omega))
        refine VCall.tail (σ := [some (.var c0), some (.var c1), some (.map (strs (names g)) (ints (idxs g.length)) false), some (.var [.int .i64 w.size, .ps 1 (rowsA w.rows), .ps 4 (syms g), .map 2, .bool (wr || B)])]) (τ := [some (.var [.int .i64 (k), .bool l.var, .str l.name, .ps 3 (l.args.map Wd.toA), .bool r.var, .str r.name, .ps 3 (r.args.map Wd.toA), .ps 1 (strs nm), .ps 9 (ps.map Fo.toA)]), slB (bools L), some (.var [.int .i64 ps[i].kind, .bool ps[i].l.var, .str ps[i].l.name, .ps 3 (ps[i].l.args.map Wd.toA), .bool ps[i].r.var, .str ps[i].r.name, .ps 3 (ps[i].r.args.map Wd.toA), .ps 1 (strs ps[i].names), .ps 9 (ps[i].parts.map Fo.toA)])]) ⟨trivial, trivial⟩ (by simp [go_sem, fo_low, strs_low, ints_low]) (hlow _) ?_
        refine (hip (wr || B) hE).mono ?_
        rintro r' σ' ⟨rfl, rfl⟩
        refine ⟨rfl, ?_⟩
        refine EvK.go 1000 ?_
        simp only [go_sem, Nat.reduceAdd, Nat.reduceSub, Nat.reduceMul, Nat.reduceLeDiff, Nat.reduceEqDiff, Nat.reduceBEq, appOk, List.mem_singleton, forall_eq, Nat.zero_lt_one, app_slA, bools_len]
        (repeat ((with_reducible refine And.intro ?_ ?_); · omega))
        refine ⟨⟨i + 1, hlt'⟩, [(5, 8), (8, 5)], leR_mk rfl ?_, by simp only; omega⟩
        simp only [hL1, hL2]
        rw [i64_id (by omega), bools_snoc, slA_snoc, slB_snoc, ← Bool.or_assoc]
        simp only [go_sem, Nat.reduceAdd, Nat.reduceSub, Nat.reduceMul, Nat.reduceLeDiff, Nat.reduceEqDiff, Nat.reduceBEq, bools_len, strs_low, ints_low, wds_low, fos_low, rowsA_low, syms_low, renL_low0, h0, h1, hc0, hc1]
        rw [← bools_snoc, renL_low0 (bools_low _)]
        exact ⟨rfl, rfl, ⟨by decide, by decide, by decide⟩, by decide, bools_low _⟩
      · have hie : i = ps.length := by omega
        subst hie
        rw [List.take_length] at *
        simp only [go_sem, Nat.reduceAdd, Nat.reduceSub, Nat.reduceMul, Nat.reduceLeDiff, Nat.reduceEqDiff, Nat.reduceBEq, hlt]
        refine EvK.go 1000 ?_
        clear hL1 hL2 hlt hi hlt2
        have hsh : (Fo.mk k l r nm ps).shape = if k = 0 then decide ((ps.length : Int) = 0) && !l.var else if k = 1 ∨ k = 9 ∨ k = 10 then decide ((ps.length : Int) = 0) else if k = 2 ∨ k = 7 ∨ k = 8 then decide ((ps.length : Int) = 1) else if k = 5 ∨ k = 6 then decide ((ps.length : Int) = 2) else decide (k = 3 ∨ k = 4) := by
          simp only [Fo.shape, Fo.kind, Fo.parts, Fo.l, show ((ps.length : Int) = 0) ↔ (ps.length = 0) by omega, show ((ps.length : Int) = 1) ↔ (ps.length = 1) by omega, show ((ps.length : Int) = 2) ↔ (ps.length = 2) by omega]; rfl
        rw [hsh] at hshape
        clear hsh
        have hS1 : (ps.map fun p => (p.so g w E).1) = (ps.map fun p => p.so g w E).map (·.1) := by rw [List.map_map]; rfl
        have hS2 : (ps.any fun p => (p.so g w E).2) = (ps.map fun p => p.so g w E).any (·.2) := by rw [List.any_map]; rfl
        have hSn : (ps.map fun p => p.so g w E).length = ps.length := List.length_map ..
        rw [hS1, hS2]
        rw [hS1] at hLn
        clear hS1 hS2
        generalize (ps.map fun p => p.so g w E) = S at *
        have hword := fun x hx truth wr => Word_eq g w hw (some (.var c0)) (some (.var c1)) hc0 hc1 E.1 E.2 hE.1 hE.2 x hx truth wr
        have hl := wsize_pos l
        by_cases k0 : k = 0
        · have hk : soKind k (l.rd g w E.1 E.2 false) (r.rd g w E.1 E.2 false) (l.rd g w E.1 E.2 true) S = (decide ((l.rd g w E.1 E.2 true).1 = 1), S.any (·.2) || (l.rd g w E.1 E.2 true).2) := by rw [soKind, if_pos k0]
          rw [hk]
          simp only [go_sem, Nat.reduceAdd, Nat.reduceSub, Nat.reduceMul, Nat.reduceLeDiff, Nat.reduceEqDiff, Nat.reduceBEq, k0]
          rw [← wd_eq]
          refine VCall.tail (σ := [some (.var c0), some (.var c1), some (.map (strs (names g)) (ints (idxs g.length)) false), some (.var [.int .i64 w.size, .ps 1 (rowsA w.rows), .ps 4 (syms g), .map 2, .bool (wr || S.any (·.2))])]) (τ := [_, _]) ⟨trivial, trivial⟩ (by simp [go_sem, wd_low, strs_low, ints_low]) (hlow _) ?_
          refine (hword l (by omega) true _).mono ?_
          rintro r' σ' ⟨rfl, rfl⟩
          refine ⟨rfl, ?_⟩
          refine EvK.go 1000 ?_
          simp only [go_sem, Nat.reduceAdd, Nat.reduceSub, Nat.reduceMul, Nat.reduceLeDiff, Nat.reduceEqDiff, Nat.reduceBEq]
          rw [dK_eq]
          exact ⟨[some (.var c0), some (.var c1), some (.map (strs (names g)) (ints (idxs g.length)) false), some (.var [.int .i64 w.size, .ps 1 (rowsA w.rows), .ps 4 (syms g), .map 2, .bool ((wr || S.any (·.2)) || (l.rd g w E.1 E.2 true).2)])], by simp [go_sem], Nat.le_refl 4, hlow _, trivial, rfl, by rw [Bool.or_assoc]⟩
        by_cases k1 : k = 1
        · have hk : soKind k (l.rd g w E.1 E.2 false) (r.rd g w E.1 E.2 false) (l.rd g w E.1 E.2 true) S = (decide ((l.rd g w E.1 E.2 false).1 = (r.rd g w E.1 E.2 false).1), (S.any (·.2) || (l.rd g w E.1 E.2 false).2) || (r.rd g w E.1 E.2 false).2) := by rw [soKind, if_neg k0, if_pos k1]
          rw [hk]
          simp only [go_sem, Nat.reduceAdd, Nat.reduceSub, Nat.reduceMul, Nat.reduceLeDiff, Nat.reduceEqDiff, Nat.reduceBEq, k0, k1, Int.reduceEq]
          refine EvK.draw [.no, .no, .no, .no, ⟨none, [3], []⟩, ⟨none, [], [3]⟩, ⟨none, [], [3]⟩, ⟨none, [], [3]⟩, ⟨none, [], [3]⟩, ⟨none, [3], []⟩] 6 6 mixed rfl rfl (Nat.le_refl _) ?_
          simp only [go_sem, Nat.reduceAdd, Nat.reduceSub, Nat.reduceMul, Nat.reduceLeDiff, Nat.reduceEqDiff, Nat.reduceBEq, padS, Nat.le_refl]
          rw [← wd_eq]
          refine ⟨.int .i64 (l.rd g w E.1 E.2 false).1, [some (.var c0), some (.var c1), some (.map (strs (names g)) (ints (idxs g.length)) false), some (.var [.int .i64 w.size, .ps 1 (rowsA w.rows), .ps 4 (syms g), .map 2, .bool ((wr || S.any (·.2)) || (l.rd g w E.1 E.2 false).2)]), some (.var [.int .i64 (1), .bool l.var, .str l.name, .ps 3 (l.args.map Wd.toA), .bool r.var, .str r.name, .ps 3 (r.args.map Wd.toA), .ps 1 (strs nm), .ps 9 (ps.map Fo.toA)]), slB (bools (S.map (·.1)))], ?_, ?_, ?_⟩
          · refine VCall.tail (σ := [some (.var c0), some (.var c1), some (.map (strs (names g)) (ints (idxs g.length)) false), some (.var [.int .i64 w.size, .ps 1 (rowsA w.rows), .ps 4 (syms g), .map 2, .bool (wr || S.any (·.2))])]) (τ := [_, _]) ⟨trivial, trivial⟩ (by simp [go_sem, wd_low, strs_low, ints_low]) (hlow _) ?_
            refine (hword l (by omega) false _).mono ?_
            rintro r' σ' ⟨rfl, rfl⟩
            exact ⟨rfl, rfl, rfl⟩
          · simp only [go_sem, Nat.reduceAdd, Nat.reduceSub, Nat.reduceMul, Nat.reduceLeDiff, Nat.reduceEqDiff, Nat.reduceBEq]
          simp only [go_sem, Nat.reduceAdd, Nat.reduceSub, Nat.reduceMul, Nat.reduceLeDiff, Nat.reduceEqDiff, Nat.reduceBEq, Nat.le_refl]
          rw [← wd_eq]
          refine ⟨.int .i64 (r.rd g w E.1 E.2 false).1, [some (.var c0), some (.var c1), some (.map (strs (names g)) (ints (idxs g.length)) false), some (.var [.int .i64 w.size, .ps 1 (rowsA w.rows), .ps 4 (syms g), .map 2, .bool (((wr || S.any (·.2)) || (l.rd g w E.1 E.2 false).2) || (r.rd g w E.1 E.2 false).2)]), some (.var [.int .i64 (1), .bool l.var, .str l.name, .ps 3 (l.args.map Wd.toA), .bool r.var, .str r.name, .ps 3 (r.args.map Wd.toA), .ps 1 (strs nm), .ps 9 (ps.map Fo.toA)]), slB (bools (S.map (·.1)))], ?_, ?_, ?_⟩
          · refine VCall.tail (σ := [some (.var c0), some (.var c1), some (.map (strs (names g)) (ints (idxs g.length)) false), some (.var [.int .i64 w.size, .ps 1 (rowsA w.rows), .ps 4 (syms g), .map 2, .bool ((wr || S.any (·.2)) || (l.rd g w E.1 E.2 false).2)])]) (τ := [_, _]) ⟨trivial, trivial⟩ (by simp [go_sem, wd_low, strs_low, ints_low]) (hlow _) ?_
            refine (hword r (by omega) false _).mono ?_
            rintro r' σ' ⟨rfl, rfl⟩
            exact ⟨rfl, rfl, rfl⟩
          · simp only [go_sem, Nat.reduceAdd, Nat.reduceSub, Nat.reduceMul, Nat.reduceLeDiff, Nat.reduceEqDiff, Nat.reduceBEq]
          simp only [go_sem, Nat.reduceAdd, Nat.reduceSub, Nat.reduceMul, Nat.reduceLeDiff, Nat.reduceEqDiff, Nat.reduceBEq]
          refine EvK.go 1000 ?_
          simp only [go_sem, Nat.reduceAdd, Nat.reduceSub, Nat.reduceMul, Nat.reduceLeDiff, Nat.reduceEqDiff, Nat.reduceBEq]
          rw [dK_eq]
          exact ⟨[some (.var c0), some (.var c1), some (.map (strs (names g)) (ints (idxs g.length)) false), some (.var [.int .i64 w.size, .ps 1 (rowsA w.rows), .ps 4 (syms g), .map 2, .bool (((wr || S.any (·.2)) || (l.rd g w E.1 E.2 false).2) || (r.rd g w E.1 E.2 false).2)])], by simp [go_sem], Nat.le_refl 4, hlow _, trivial, rfl, by simp only [Bool.or_assoc]⟩
        by_cases k2 : k = 2
        · have hn : S.length = 1 := by rw [hSn]; subst k2; simp at hshape; omega
          obtain ⟨x, rfl⟩ := List.length_eq_one_iff.1 hn
          have hk : soKind k (l.rd g w E.1 E.2 false) (r.rd g w E.1 E.2 false) (l.rd g w E.1 E.2 true) [x] = (!x.1, [x].any (·.2)) := by rw [soKind, if_neg k0, if_neg k1, if_pos k2]; rfl
          rw [hk]
          simp only [go_sem, Nat.reduceAdd, Nat.reduceSub, Nat.reduceMul, Nat.reduceLeDiff, Nat.reduceEqDiff, Nat.reduceBEq, k0, k1, k2, Int.reduceEq, List.map_cons, List.map_nil, bools_cons, bools_nil, slA_cons, slB_cons, Nat.zero_lt_one]
          refine ⟨by decide, ?_⟩
          rw [dK_eq]
          exact ⟨[some (.var c0), some (.var c1), some (.map (strs (names g)) (ints (idxs g.length)) false), some (.var [.int .i64 w.size, .ps 1 (rowsA w.rows), .ps 4 (syms g), .map 2, .bool (_)])], by simp [go_sem], Nat.le_refl 4, hlow _, trivial, rfl, rfl⟩
        by_cases k56 : k = 5 ∨ k = 6
        · have hn : S.length = 2 := by rw [hSn]; rcases k56 with rfl | rfl <;> simp at hshape <;> omega
          obtain ⟨⟨x1, x2⟩, ⟨y1, y2⟩, rfl⟩ : ∃ x y, S = [x, y] := by
            match S, hn with
            | [x, y], _ => exact ⟨x, y, rfl⟩
          by_cases k5 : k = 5
          · have hk : soKind k (l.rd g w E.1 E.2 false) (r.rd g w E.1 E.2 false) (l.rd g w E.1 E.2 true) [(x1, x2), (y1, y2)] = (!x1 || y1, [(x1, x2), (y1, y2)].any (·.2)) := by rw [soKind, if_neg k0, if_neg k1, if_neg k2, if_pos k5]; rfl
            rw [hk]
            cases x1
            all_goals
              simp only [go_sem, Nat.reduceAdd, Nat.reduceSub, Nat.reduceMul, Nat.reduceLeDiff, Nat.reduceEqDiff, Nat.reduceBEq, k0, k1, k2, k5, Int.reduceEq, List.map_cons, List.map_nil, bools_cons, bools_nil, slA_cons, slB_cons, Nat.zero_lt_one, Int.toNat_one]
              (repeat ((with_reducible refine And.intro ?_ ?_); · omega))
              rw [dK_eq]
              exact ⟨[some (.var c0), some (.var c1), some (.map (strs (names g)) (ints (idxs g.length)) false), some (.var [.int .i64 w.size, .ps 1 (rowsA w.rows), .ps 4 (syms g), .map 2, .bool (_)])], by simp [go_sem], Nat.le_refl 4, hlow _, trivial, rfl, rfl⟩
          · have k6 : k = 6 := k56.resolve_left k5
            have hk : soKind k (l.rd g w E.1 E.2 false) (r.rd g w E.1 E.2 false) (l.rd g w E.1 E.2 true) [(x1, x2), (y1, y2)] = (x1 == y1, [(x1, x2), (y1, y2)].any (·.2)) := by rw [soKind, if_neg k0, if_neg k1, if_neg k2, if_neg k5, if_pos k6]; rfl
            rw [hk]
            simp only [go_sem, Nat.reduceAdd, Nat.reduceSub, Nat.reduceMul, Nat.reduceLeDiff, Nat.reduceEqDiff, Nat.reduceBEq, k0, k1, k2, k5, k6, Int.reduceEq, List.map_cons, List.map_nil, bools_cons, bools_nil, slA_cons, slB_cons, Nat.zero_lt_one, Int.toNat_one]
            refine EvK.draw [] 6 6 mixed rfl rfl (Nat.le_refl _) ?_
            simp only [go_sem, Nat.reduceAdd, Nat.reduceSub, Nat.reduceMul, Nat.reduceLeDiff, Nat.reduceEqDiff, Nat.reduceBEq, padS, Int.toNat_one]
            (repeat ((with_reducible refine And.intro ?_ ?_); · omega))
            refine EvK.go 1000 ?_
            simp only [go_sem, Nat.reduceAdd, Nat.reduceSub, Nat.reduceMul, Nat.reduceLeDiff, Nat.reduceEqDiff, Nat.reduceBEq]
            rw [dK_eq]
            exact ⟨[some (.var c0), some (.var c1), some (.map (strs (names g)) (ints (idxs g.length)) false), some (.var [.int .i64 w.size, .ps 1 (rowsA w.rows), .ps 4 (syms g), .map 2, .bool (_)])], by simp [go_sem], Nat.le_refl 4, hlow _, trivial, rfl, rfl⟩
        have k5 : ¬ k = 5 := fun h => k56 (.inl h)
        have k6 : ¬ k = 6 := fun h => k56 (.inr h)
        by_cases k9 : k = 9
        · have hk : soKind k (l.rd g w E.1 E.2 false) (r.rd g w E.1 E.2 false) (l.rd g w E.1 E.2 true) S = (true, S.any (·.2)) := by rw [soKind, if_neg k0, if_neg k1, if_neg k2, if_neg k5, if_neg k6, if_pos k9]
          rw [hk]
          simp only [go_sem, Nat.reduceAdd, Nat.reduceSub, Nat.reduceMul, Nat.reduceLeDiff, Nat.reduceEqDiff, Nat.reduceBEq, k9, Int.reduceEq]
          rw [dK_eq]
          exact ⟨[some (.var c0), some (.var c1), some (.map (strs (names g)) (ints (idxs g.length)) false), some (.var [.int .i64 w.size, .ps 1 (rowsA w.rows), .ps 4 (syms g), .map 2, .bool (_)])], by simp [go_sem], Nat.le_refl 4, hlow _, trivial, rfl, rfl⟩
        by_cases k10 : k = 10
        · have hk : soKind k (l.rd g w E.1 E.2 false) (r.rd g w E.1 E.2 false) (l.rd g w E.1 E.2 true) S = (false, S.any (·.2)) := by rw [soKind, if_neg k0, if_neg k1, if_neg k2, if_neg k5, if_neg k6, if_neg k9, if_pos k10]
          rw [hk]
          simp only [go_sem, Nat.reduceAdd, Nat.reduceSub, Nat.reduceMul, Nat.reduceLeDiff, Nat.reduceEqDiff, Nat.reduceBEq, k10, Int.reduceEq]
          rw [dK_eq]
          exact ⟨[some (.var c0), some (.var c1), some (.map (strs (names g)) (ints (idxs g.length)) false), some (.var [.int .i64 w.size, .ps 1 (rowsA w.rows), .ps 4 (syms g), .map 2, .bool (_)])], by simp [go_sem], Nat.le_refl 4, hlow _, trivial, rfl, rfl⟩
        have hk : soKind k (l.rd g w E.1 E.2 false) (r.rd g w E.1 E.2 false) (l.rd g w E.1 E.2 true) S = (if decide (k = 3) = true then (S.map (·.1)).all id else (S.map (·.1)).any id, S.any (·.2)) := by
          rw [soKind, if_neg k0, if_neg k1, if_neg k2, if_neg k5, if_neg k6, if_neg k9, if_neg k10, List.all_map, List.any_map]
          by_cases k3 : k = 3
          · rw [if_pos k3, if_pos (decide_eq_true k3)]; rfl
          · rw [if_neg k3, if_neg (by simpa using k3)]; rfl
        rw [hk]
        clear hk hshape
        generalize hAny : S.any (·.2) = B at *
        generalize hLL : S.map (·.1) = L at *
        have hstop := andor_stop (decide (k = 3)) L
        have hall := andor_end (decide (k = 3)) L
        generalize (if decide (k = 3) = true then L.all id else L.any id) = X at *
        by_cases hL : L = []
        · subst hL
          have hX := hall (fun j hj => by simp at hj)
          simp only [go_sem, Nat.reduceAdd, Nat.reduceSub, Nat.reduceMul, Nat.reduceLeDiff, Nat.reduceEqDiff, Nat.reduceBEq, k0, k1, k2, k5, k6, k7, k8, k9, k10, bools_nil, slA_nil, slB_nil]
          generalize decide (k = 3) = an at *
          refine EvK.loopI (ι := Unit) 1000 (fun _ => mkT 115 [(12, .bool an), (103, .nils), (104, .int .i64 0), (105, .int .i64 0)]) (fun _ => [some (.var c0), some (.var c1), some (.map (strs (names g)) (ints (idxs g.length)) false), some (.var [.int .i64 w.size, .ps 1 (rowsA w.rows), .ps 4 (syms g), .map 2, .bool (wr || B)]), some (.var [.int .i64 (k), .bool l.var, .str l.name, .ps 3 (l.args.map Wd.toA), .bool r.var, .str r.name, .ps 3 (r.args.map Wd.toA), .ps 1 (strs nm), .ps 9 (ps.map Fo.toA)]), none]) (fun _ => 0) () ?_ (fun _ => Nat.le_add_right 4 2) ?_
          · simp only [go_sem, Nat.reduceAdd, Nat.reduceSub, Nat.reduceMul, Nat.reduceLeDiff, Nat.reduceEqDiff, Nat.reduceBEq, strs_low, ints_low, wds_low, fos_low, rowsA_low, syms_low, h0, h1, hc0, hc1]
            exact ⟨rfl, by decide⟩
          · rintro ⟨⟩
            simp only [go_sem, Nat.reduceAdd, Nat.reduceSub, Nat.reduceMul, Nat.reduceLeDiff, Nat.reduceEqDiff, Nat.reduceBEq, Int.lt_irrefl]
            refine EvK.go 1000 ?_
            simp only [go_sem, Nat.reduceAdd, Nat.reduceSub, Nat.reduceMul, Nat.reduceLeDiff, Nat.reduceEqDiff, Nat.reduceBEq]
            rw [dK_eq]
            exact ⟨[some (.var c0), some (.var c1), some (.map (strs (names g)) (ints (idxs g.length)) false), some (.var [.int .i64 w.size, .ps 1 (rowsA w.rows), .ps 4 (syms g), .map 2, .bool (_)])], by simp [go_sem], Nat.le_refl 4, hlow _, trivial, by rw [hX], rfl⟩
        · have hLb : bools L ≠ [] := by simpa [bools] using hL
          rw [slA_ne hLb, slB_ne hLb, bools_len]
          simp only [go_sem, Nat.reduceAdd, Nat.reduceSub, Nat.reduceMul, Nat.reduceLeDiff, Nat.reduceEqDiff, Nat.reduceBEq, k0, k1, k2, k5, k6, k7, k8, k9, k10, bools_len]
          generalize decide (k = 3) = an at *
          refine EvK.loopI (ι := {j : Nat // j ≤ L.length ∧ ∀ (m : Nat) (hm : m < L.length), m < j → L[m] = an}) 1000 (fun j => mkT 115 [(12, .bool an), (103, .os 5 0 L.length 1), (104, .int .i64 L.length), (105, .int .i64 j.1)]) (fun _ => [some (.var c0), some (.var c1), some (.map (strs (names g)) (ints (idxs g.length)) false), some (.var [.int .i64 w.size, .ps 1 (rowsA w.rows), .ps 4 (syms g), .map 2, .bool (wr || B)]), some (.var [.int .i64 (k), .bool l.var, .str l.name, .ps 3 (l.args.map Wd.toA), .bool r.var, .str r.name, .ps 3 (r.args.map Wd.toA), .ps 1 (strs nm), .ps 9 (ps.map Fo.toA)]), some (.row (bools L) 0)]) (fun j => L.length - j.1) ⟨0, by omega, fun m _ hm => by omega⟩ ?_ (fun _ => Nat.le_add_right 4 2) ?_
          · simp only [go_sem, Nat.reduceAdd, Nat.reduceSub, Nat.reduceMul, Nat.reduceLeDiff, Nat.reduceEqDiff, Nat.reduceBEq, strs_low, ints_low, wds_low, fos_low, rowsA_low, syms_low, h0, h1, hc0, hc1, bools_low, Int.natCast_zero]
            decide
          · rintro ⟨j, hj, hpre⟩
            by_cases hlt : (j : Int) < L.length
            · have hlt' : j < L.length := by omega
              have hst := hstop j hlt'
              by_cases he : L[j] = an
              · have hb : (!(L[j] == an)) = false := by rw [he]; simp
                simp only [go_sem, Nat.reduceAdd, Nat.reduceSub, Nat.reduceMul, Nat.reduceLeDiff, Nat.reduceEqDiff, Nat.reduceBEq, hlt, Int.toNat_natCast, bools_len, bools_get hlt', hb]
                (repeat ((with_reducible refine And.intro ?_ ?_); · omega))
                refine ⟨⟨j + 1, by omega, fun m hm hmj => ?_⟩, ?_, by simp only; omega⟩
                · by_cases e : m = j
                  · subst e; exact he
                  · exact hpre m hm (by omega)
                simp only [go_sem, Nat.reduceAdd, Nat.reduceSub, Nat.reduceMul, Nat.reduceLeDiff, Nat.reduceEqDiff, Nat.reduceBEq, strs_low, ints_low, wds_low, fos_low, rowsA_low, syms_low, h0, h1, hc0, hc1, bools_low]
                rw [i64_id (by omega)]
                exact ⟨rfl, by decide⟩
              · have hb : (!(L[j] == an)) = true := by simpa using he
                simp only [go_sem, Nat.reduceAdd, Nat.reduceSub, Nat.reduceMul, Nat.reduceLeDiff, Nat.reduceEqDiff, Nat.reduceBEq, hlt, Int.toNat_natCast, bools_len, bools_get hlt', hb]
                (repeat ((with_reducible refine And.intro ?_ ?_); · omega))
                refine EvK.go 1000 ?_
                simp only [go_sem, Nat.reduceAdd, Nat.reduceSub, Nat.reduceMul, Nat.reduceLeDiff, Nat.reduceEqDiff, Nat.reduceBEq]
                rw [dK_eq]
                exact ⟨[some (.var c0), some (.var c1), some (.map (strs (names g)) (ints (idxs g.length)) false), some (.var [.int .i64 w.size, .ps 1 (rowsA w.rows), .ps 4 (syms g), .map 2, .bool (_)])], by simp [go_sem], Nat.le_refl 4, hlow _, trivial, by rw [hst he], rfl⟩
            · have hje : j = L.length := by omega
              have hX := hall (fun m hm => hpre m hm (by omega))
              simp only [go_sem, Nat.reduceAdd, Nat.reduceSub, Nat.reduceMul, Nat.reduceLeDiff, Nat.reduceEqDiff, Nat.reduceBEq, hlt]
              refine EvK.go 1000 ?_
              simp only [go_sem, Nat.reduceAdd, Nat.reduceSub, Nat.reduceMul, Nat.reduceLeDiff, Nat.reduceEqDiff, Nat.reduceBEq]
              rw [dK_eq]
              exact ⟨[some (.var c0), some (.var c1), some (.map (strs (names g)) (ints (idxs g.length)) false), some (.var [.int .i64 w.size, .ps 1 (rowsA w.rows), .ps 4 (syms g), .map 2, .bool (_)])], by simp [go_sem], Nat.le_refl 4, hlow _, trivial, by rw [hX], rfl⟩
end Go.Proofs

/- Whether a formula is true in a world, as the program tells it. -/
set_option linter.unusedSimpArgs false
namespace Go.Proofs
open Go Go.Abs

set_option maxRecDepth 20000 in
set_option maxHeartbeats 1600000 in
theorem TrueM_eq (g : List Sy) (w : Wo) (f : Fo) (hsz : f.size < 1000000000) : CallEq Try.prog 19 [.ps 4 (syms g), w.toA, f.toA] (.tup [.bool (trueM g w f).1, .int .i64 (trueM g w f).2]) := by
  refine CallEq.begin (rs := [.tmp 6, .tmp 7]) (m := 68) 1000 Try.func19 rfl rfl rfl (by decide) (by simp [go_sem]) ?_
  simp only [go_sem, Nat.reduceAdd, Nat.reduceSub, Nat.reduceMul, Nat.reduceLeDiff, Nat.reduceEqDiff, Nat.reduceBEq, wo_eq, fo_eq, Nat.le_refl]
  rw [← wo_eq]
  refine VCall.isoT [] (CheckM_eq g w) (pTL_refl _ _ _) (by simp [go_sem, syms_low, wo_low]) ?_; simp only [flatR, flatA, flatC, if_true]; refine EvK.go 1000 ?_
  cases c1 : worldOk g w with
  | false => simp only [go_sem, Nat.reduceAdd, Nat.reduceSub, Nat.reduceMul, Nat.reduceLeDiff, Nat.reduceEqDiff, Nat.reduceBEq, trueM, c1, Int.reduceEq]
  | true =>
  have hb := bound_le f (by omega)
  simp only [go_sem, Nat.reduceAdd, Nat.reduceSub, Nat.reduceMul, Nat.reduceLeDiff, Nat.reduceEqDiff, Nat.reduceBEq, Nat.le_refl]
  rw [← fo_eq]
  refine VCall.isoT [] (CheckF_eq f (by omega)) (pTL_refl _ _ _) (by simp [go_sem, fo_low]) ?_; simp only [flatR, flatA, flatC, if_true]; refine EvK.go 1000 ?_
  by_cases c2 : f.check = 0
  case neg => simp only [go_sem, Nat.reduceAdd, Nat.reduceSub, Nat.reduceMul, Nat.reduceLeDiff, Nat.reduceEqDiff, Nat.reduceBEq, trueM, c1, c2]
  simp only [go_sem, Nat.reduceAdd, Nat.reduceSub, Nat.reduceMul, Nat.reduceLeDiff, Nat.reduceEqDiff, Nat.reduceBEq, c2, Nat.le_refl]
  rw [← fo_eq]
  refine VCall.isoT [] (BoundF_eq f (by omega)) (pTL_refl _ _ _) (by simp [go_sem, fo_low]) ?_; simp only [flatR, flatA, flatC, if_true]; refine EvK.go 1000 ?_
  simp only [go_sem, Nat.reduceAdd, Nat.reduceSub, Nat.reduceMul, Nat.reduceLeDiff, Nat.reduceEqDiff, Nat.reduceBEq]
  refine VCall.isoT [] (PowerM_eq w.size f.bound 20000 (by omega)) (pTL_refl _ _ _) (by simp [go_sem, ]) ?_; simp only [flatR, flatA, flatC, if_true]; refine EvK.go 1000 ?_
  by_cases c3 : 20000 < manyL w.size 20000 f.bound.toNat 1
  · simp only [go_sem, Nat.reduceAdd, Nat.reduceSub, Nat.reduceMul, Nat.reduceLeDiff, Nat.reduceEqDiff, Nat.reduceBEq, c3, trueM, c1, c2, true_or]
  by_cases c45 : 1 < w.size ∧ 20 < f.bound
  · simp only [go_sem, Nat.reduceAdd, Nat.reduceSub, Nat.reduceMul, Nat.reduceLeDiff, Nat.reduceEqDiff, Nat.reduceBEq, c3, c45.1, c45.2, trueM, c1, c2, true_or, false_or]
  have hT : trueM g w f = if (f.so g w ([], [])).2 = true then (false, 8) else ((f.so g w ([], [])).1, 0) := by
    unfold trueM
    rw [if_neg (by rw [c1]; decide), if_neg (by simp [c2]), if_neg (by rintro (h | h); · exact c3 h
                                                                       · exact c45 h)]
  rw [hT]
  obtain ⟨q1, q2, q3, q4, q5, q6⟩ := worldOk_size c1
  have hgl : (g.length : Int) ≤ 256 := by
    have h := q1
    simp only [sigOk, Bool.and_eq_true, Bool.not_eq_true', Bool.or_eq_false_iff, decide_eq_false_iff_not] at h
    omega
  have his := Is_eq g w c1 [.int .i64 w.size, .ps 1 (rowsA w.rows)] f.cs ⟨trivial, rowsA_low _, trivial⟩ ⟨trivial, trivial, trivial, wds_low _, trivial, trivial, wds_low _, strs_low _, fos_low _, trivial⟩ f hsz (check_right c2) ([], []) false (okN_nil _)
  generalize f.so g w ([], []) = V at *
  rcases (by omega : 1 < w.size ∧ ¬ 20 < f.bound ∨ ¬ 1 < w.size) with ⟨c4, c5⟩ | c4
  case' inl => simp only [go_sem, Nat.reduceAdd, Nat.reduceSub, Nat.reduceMul, Nat.reduceLeDiff, Nat.reduceEqDiff, Nat.reduceBEq, c3, c4, c5, syms_len]
  case' inr => simp only [go_sem, Nat.reduceAdd, Nat.reduceSub, Nat.reduceMul, Nat.reduceLeDiff, Nat.reduceEqDiff, Nat.reduceBEq, c3, c4, syms_len]
  all_goals
    refine EvK.loopI (ι := {i : Nat // i ≤ g.length}) 1000 (fun i => mkT 71 [(5, .ptr 1 0), (11, .ptr 3 0), (47, .ps 4 (syms g)), (48, .int .i64 g.length), (49, .int .i64 i.1)]) (fun i => [some (.var [.int .i64 w.size, .ps 1 (rowsA w.rows)]), some (.var f.cs), some (.map (strs (names (g.take i.1))) (ints (idxs i.1)) false), some (.var [.int .i64 w.size, .ps 1 (rowsA w.rows), .ps 4 (syms g), .map 2, .bool false])])
      (fun i => g.length - i.1) ⟨0, by omega⟩ ?_ (fun _ => Nat.zero_le _) ?_
    · simp only [go_sem, Nat.reduceAdd, Nat.reduceSub, Nat.reduceMul, Nat.reduceLeDiff, Nat.reduceEqDiff, Nat.reduceBEq, syms_low, rowsA_low, wds_low, strs_low, fos_low, Fo.cs, ints_low, Int.natCast_zero]
      exact ⟨rfl, by decide⟩
    · rintro ⟨i, hi⟩
      by_cases hlt : (i : Int) < g.length
      · have hlt' : i < g.length := by omega
        have hpl := place_step q1 hlt'
        simp only [go_sem, Nat.reduceAdd, Nat.reduceSub, Nat.reduceMul, Nat.reduceLeDiff, Nat.reduceEqDiff, Nat.reduceBEq, hlt, syms_len, Int.toNat_natCast, syms_get hlt', sy_cells, Nat.le_refl]
        (repeat ((with_reducible refine And.intro ?_ ?_); · omega))
        refine EvK.draw [.no, .no, .no, .no, .no, .no, .no, ⟨none, [2], []⟩] 5 5 mixed rfl rfl (Nat.le_refl _) ?_
        simp only [go_sem, Nat.reduceAdd, Nat.reduceSub, Nat.reduceMul, Nat.reduceLeDiff, Nat.reduceEqDiff, Nat.reduceBEq, padS, strs_same, hpl]
        refine EvK.go 1000 ?_
        simp only [go_sem, Nat.reduceAdd, Nat.reduceSub, Nat.reduceMul, Nat.reduceLeDiff, Nat.reduceEqDiff, Nat.reduceBEq]
        refine ⟨⟨i + 1, hlt'⟩, ?_, by simp only; omega⟩
        simp only [go_sem, Nat.reduceAdd, Nat.reduceSub, Nat.reduceMul, Nat.reduceLeDiff, Nat.reduceEqDiff, Nat.reduceBEq, syms_low, rowsA_low, wds_low, strs_low, fos_low, Fo.cs, ints_low]
        rw [i64_id (by omega)]
        exact ⟨rfl, by decide⟩
      · have hie : i = g.length := by omega
        subst hie
        rw [List.take_length]
        simp only [go_sem, Nat.reduceAdd, Nat.reduceSub, Nat.reduceMul, Nat.reduceLeDiff, Nat.reduceEqDiff, Nat.reduceBEq, hlt]
        refine EvK.go 1000 ?_
        simp only [go_sem, Nat.reduceAdd, Nat.reduceSub, Nat.reduceMul, Nat.reduceLeDiff, Nat.reduceEqDiff, Nat.reduceBEq]
        refine ⟨Nat.le_refl 9, ?_⟩
        have hf0 : AVal.agg (List.take 9 f.cs) = f.toA := by rw [fo_eq]; rfl
        rw [hf0]
        refine VCall.frzM (q := 4) (ks := []) (vs := []) (fz := false) rfl ?_
        have hfr : frM 4 [] [] f.toA = f.toA := by rw [fo_eq]; rfl
        change VCall _ _ [.ptr 3 0, frM 4 [] [] f.toA, .pm [] []] _ _
        rw [hfr]
        refine VCall.tail (σ := [some (.var [.int .i64 w.size, .ps 1 (rowsA w.rows)]), some (.var f.cs), some (.map (strs (names g)) (ints (idxs g.length)) false), some (.var [.int .i64 w.size, .ps 1 (rowsA w.rows), .ps 4 (syms g), .map 2, .bool false])]) (τ := [none]) ⟨trivial, trivial⟩ (by simp [go_sem, fo_low]) ⟨⟨trivial, rowsA_low _, trivial⟩, ⟨trivial, trivial, trivial, wds_low _, trivial, trivial, wds_low _, strs_low _, fos_low _, trivial⟩, ⟨strs_low _, ints_low _⟩, ⟨trivial, rowsA_low _, syms_low _, by simp [go_sem], trivial, trivial⟩, trivial⟩ ?_
        refine his.mono ?_
        obtain ⟨v1, v2⟩ := V
        rintro r' σ' ⟨rfl, rfl⟩
        refine ⟨rfl, ?_⟩
        refine EvK.go 1000 ?_
        cases v2
        · simp only [go_sem, Nat.reduceAdd, Nat.reduceSub, Nat.reduceMul, Nat.reduceLeDiff, Nat.reduceEqDiff, Nat.reduceBEq, Bool.or_false]
        · simp only [go_sem, Nat.reduceAdd, Nat.reduceSub, Nat.reduceMul, Nat.reduceLeDiff, Nat.reduceEqDiff, Nat.reduceBEq, Bool.or_true]
end Go.Proofs

/- The document's functions over words and formulas: how great, right, bound. -/
namespace Go.Proofs
open Go Go.Abs

theorem WordsC_eq (t : Wd) : ∀ m : Int, 0 ≤ m → m < 2 ^ 62 → CallEq Try.prog 46 [t.toA, .int .i64 m] (.int .i64 (t.cnt m)) := by
  induction t using Wd.rec_args with
  | h v nm ts ih =>
  intro m hm0 hm1
  refine CallEq.begin (rs := [.tmp 4]) (m := 29) 1000 Try.func46 rfl rfl rfl (by decide) trivial ?_
  simp only [go_sem, Nat.reduceAdd, Nat.reduceSub, Nat.reduceMul, Nat.reduceLeDiff, Nat.reduceEqDiff, Nat.reduceBEq, wd_eq, Wd.var, Wd.name, Wd.args]
  refine EvK.loopI (ι := {p : Nat × Int // p.1 ≤ ts.length ∧ 1 ≤ p.2 ∧ p.2 ≤ m + 1 ∧ p.1 ≤ p.2 ∧ Wd.cntL (ts.drop p.1) p.2 m = Wd.cntL ts 1 m}) 1000 (fun p => mkT 31 [(1, .int .i64 m), (2, .ptr 0 0), (5, .int .i64 p.1.2), (6, .int .i64 p.1.1)]) (fun _ => [some (.var [.bool v, .str nm, .ps 3 (ts.map Wd.toA)])]) (fun p => ts.length - p.1.1) ⟨(0, 1), by simp; omega⟩ ?_ (fun _ => by simp) ?_
  · simp only [go_sem, Nat.reduceAdd, Nat.reduceSub, Nat.reduceMul, Nat.reduceLeDiff, Nat.reduceEqDiff, Nat.reduceBEq, wds_low, Int.natCast_zero]
    decide
  · rintro ⟨⟨i, n⟩, hi, h1, h2, h4, h3⟩
    simp only at hi h1 h2 h3 h4
    by_cases hlt : (i : Int) < ts.length
    · have hlt' : i < ts.length := by omega
      by_cases hn : n ≤ m
      · simp only [go_sem, Nat.reduceAdd, Nat.reduceSub, Nat.reduceMul, Nat.reduceLeDiff, Nat.reduceEqDiff, Nat.reduceBEq, List.length_map, hlt, hn]
        refine ⟨by omega, ?_⟩
        simp only [go_sem, Nat.reduceAdd, Nat.reduceSub, Nat.reduceMul, Nat.reduceLeDiff, Nat.reduceEqDiff, Nat.reduceBEq, Int.toNat_natCast, map_getD hlt', wd_cells, Nat.le_refl]
        rw [← wd_eq, i64_id (by omega)]
        refine VCall.isoT [] (ih i hlt' (m - n) (by omega) (by omega)) (pTL_refl _ _ _) (by simp [go_sem, wd_low]) ?_; simp only [flatR, flatA, flatC, if_true]; refine EvK.go 1000 ?_
        simp only [go_sem, Nat.reduceAdd, Nat.reduceSub, Nat.reduceMul, Nat.reduceLeDiff, Nat.reduceEqDiff, Nat.reduceBEq]
        have hb := wcnt_bounds ts[i] (m - n) (by omega)
        refine ⟨⟨(i + 1, n + ts[i].cnt (m - n)), hlt', by omega, by omega, by simp only; omega, ?_⟩, ?_, by simp only; omega⟩
        · simp only
          rw [← h3, List.drop_eq_getElem_cons hlt', Wd.cntL, if_pos hn]
        · simp only [go_sem, Nat.reduceAdd, Nat.reduceSub, Nat.reduceMul, Nat.reduceLeDiff, Nat.reduceEqDiff, Nat.reduceBEq, wds_low]
          rw [i64_id (by omega), i64_id (by omega)]
          simp
      · simp only [go_sem, Nat.reduceAdd, Nat.reduceSub, Nat.reduceMul, Nat.reduceLeDiff, Nat.reduceEqDiff, Nat.reduceBEq, List.length_map, hlt, hn]
        refine EvK.go 1000 ?_
        simp only [go_sem, Nat.reduceAdd, Nat.reduceSub, Nat.reduceMul, Nat.reduceLeDiff, Nat.reduceEqDiff, Nat.reduceBEq]
        rw [Wd.cnt, ← h3, wcntL_stop _ hn]
    · simp only [go_sem, Nat.reduceAdd, Nat.reduceSub, Nat.reduceMul, Nat.reduceLeDiff, Nat.reduceEqDiff, Nat.reduceBEq, List.length_map, hlt]
      refine EvK.go 1000 ?_
      simp only [go_sem, Nat.reduceAdd, Nat.reduceSub, Nat.reduceMul, Nat.reduceLeDiff, Nat.reduceEqDiff, Nat.reduceBEq]
      have : i = ts.length := by omega
      subst this
      rw [Wd.cnt, ← h3, List.drop_length, Wd.cntL]

theorem WordsS_eq (t : Wd) : ∀ m : Int, 0 ≤ m → m < 2 ^ 62 → CallEq Try.prog 102 [t.toA, .int .i64 m] (.int .i64 (t.cnt m)) := by
  induction t using Wd.rec_args with
  | h v nm ts ih =>
  intro m hm0 hm1
  refine CallEq.begin (rs := [.tmp 4]) (m := 29) 1000 Try.func102 rfl rfl rfl (by decide) trivial ?_
  simp only [go_sem, Nat.reduceAdd, Nat.reduceSub, Nat.reduceMul, Nat.reduceLeDiff, Nat.reduceEqDiff, Nat.reduceBEq, wd_eq, Wd.var, Wd.name, Wd.args]
  refine EvK.loopI (ι := {p : Nat × Int // p.1 ≤ ts.length ∧ 1 ≤ p.2 ∧ p.2 ≤ m + 1 ∧ p.1 ≤ p.2 ∧ Wd.cntL (ts.drop p.1) p.2 m = Wd.cntL ts 1 m}) 1000 (fun p => mkT 31 [(1, .int .i64 m), (2, .ptr 0 0), (5, .int .i64 p.1.2), (6, .int .i64 p.1.1)]) (fun _ => [some (.var [.bool v, .str nm, .ps 3 (ts.map Wd.toA)])]) (fun p => ts.length - p.1.1) ⟨(0, 1), by simp; omega⟩ ?_ (fun _ => by simp) ?_
  · simp only [go_sem, Nat.reduceAdd, Nat.reduceSub, Nat.reduceMul, Nat.reduceLeDiff, Nat.reduceEqDiff, Nat.reduceBEq, wds_low, Int.natCast_zero]
    decide
  · rintro ⟨⟨i, n⟩, hi, h1, h2, h4, h3⟩
    simp only at hi h1 h2 h3 h4
    by_cases hlt : (i : Int) < ts.length
    · have hlt' : i < ts.length := by omega
      by_cases hn : n ≤ m
      · simp only [go_sem, Nat.reduceAdd, Nat.reduceSub, Nat.reduceMul, Nat.reduceLeDiff, Nat.reduceEqDiff, Nat.reduceBEq, List.length_map, hlt, hn]
        refine ⟨by omega, ?_⟩
        simp only [go_sem, Nat.reduceAdd, Nat.reduceSub, Nat.reduceMul, Nat.reduceLeDiff, Nat.reduceEqDiff, Nat.reduceBEq, Int.toNat_natCast, map_getD hlt', wd_cells, Nat.le_refl]
        rw [← wd_eq, i64_id (by omega)]
        refine VCall.isoT [] (ih i hlt' (m - n) (by omega) (by omega)) (pTL_refl _ _ _) (by simp [go_sem, wd_low]) ?_; simp only [flatR, flatA, flatC, if_true]; refine EvK.go 1000 ?_
        simp only [go_sem, Nat.reduceAdd, Nat.reduceSub, Nat.reduceMul, Nat.reduceLeDiff, Nat.reduceEqDiff, Nat.reduceBEq]
        have hb := wcnt_bounds ts[i] (m - n) (by omega)
        refine ⟨⟨(i + 1, n + ts[i].cnt (m - n)), hlt', by omega, by omega, by simp only; omega, ?_⟩, ?_, by simp only; omega⟩
        · simp only
          rw [← h3, List.drop_eq_getElem_cons hlt', Wd.cntL, if_pos hn]
        · simp only [go_sem, Nat.reduceAdd, Nat.reduceSub, Nat.reduceMul, Nat.reduceLeDiff, Nat.reduceEqDiff, Nat.reduceBEq, wds_low]
          rw [i64_id (by omega), i64_id (by omega)]
          simp
      · simp only [go_sem, Nat.reduceAdd, Nat.reduceSub, Nat.reduceMul, Nat.reduceLeDiff, Nat.reduceEqDiff, Nat.reduceBEq, List.length_map, hlt, hn]
        refine EvK.go 1000 ?_
        simp only [go_sem, Nat.reduceAdd, Nat.reduceSub, Nat.reduceMul, Nat.reduceLeDiff, Nat.reduceEqDiff, Nat.reduceBEq]
        rw [Wd.cnt, ← h3, wcntL_stop _ hn]
    · simp only [go_sem, Nat.reduceAdd, Nat.reduceSub, Nat.reduceMul, Nat.reduceLeDiff, Nat.reduceEqDiff, Nat.reduceBEq, List.length_map, hlt]
      refine EvK.go 1000 ?_
      simp only [go_sem, Nat.reduceAdd, Nat.reduceSub, Nat.reduceMul, Nat.reduceLeDiff, Nat.reduceEqDiff, Nat.reduceBEq]
      have : i = ts.length := by omega
      subst this
      rw [Wd.cnt, ← h3, List.drop_length, Wd.cntL]

theorem CountR_eq (f : Fo) : f.fit → ∀ m : Int, 0 ≤ m → m < 2 ^ 40 → CallEq Try.prog 17 [f.toA, .int .i64 m] (.int .i64 (f.count m)) := by
  induction f using Fo.rec_parts with
  | h k l r nm ps ih =>
  intro hfit m hm0 hm1
  have hnm := hfit.1
  obtain ⟨l1, l2, _, _⟩ := wcnt_bounds l m hm0
  obtain ⟨r1, r2, _, _⟩ := wcnt_bounds r m hm0
  refine CallEq.begin (rs := [.tmp 4]) (m := 43) 1000 Try.func17 rfl rfl rfl (by decide) trivial ?_
  simp only [go_sem, Nat.reduceAdd, Nat.reduceSub, Nat.reduceMul, Nat.reduceLeDiff, Nat.reduceEqDiff, Nat.reduceBEq, fo_eq, Fo.kind, Fo.l, Fo.r, Fo.names, Fo.parts]
  refine EvK.draw [] 1 1 mixed rfl rfl (Nat.le_refl _) ?_
  simp only [go_sem, Nat.reduceAdd, Nat.reduceSub, Nat.reduceMul, Nat.reduceLeDiff, Nat.reduceEqDiff, Nat.reduceBEq, padS, strs_len, Nat.le_refl]
  rw [← wd_eq]
  refine draw_iso (WordsC_eq l m hm0 (by omega)) (pTL_refl _ _ _) (by simp [go_sem, wd_low]) ?_
  simp only [go_sem, Nat.reduceAdd, Nat.reduceSub, Nat.reduceMul, Nat.reduceLeDiff, Nat.reduceEqDiff, Nat.reduceBEq, padS, strs_len, Nat.le_refl]
  rw [← wd_eq]
  refine draw_iso (WordsC_eq r m hm0 (by omega)) (pTL_refl _ _ _) (by simp [go_sem, wd_low]) ?_
  simp only [go_sem, Nat.reduceAdd, Nat.reduceSub, Nat.reduceMul, Nat.reduceLeDiff, Nat.reduceEqDiff, Nat.reduceBEq]
  rw [i64_id (n := 1 + (nm.length : Int)) (by omega), i64_id (n := 1 + (nm.length : Int) + l.cnt m) (by omega), i64_id (by omega)]
  refine EvK.go 1000 ?_
  simp only [go_sem, Nat.reduceAdd, Nat.reduceSub, Nat.reduceMul, Nat.reduceLeDiff, Nat.reduceEqDiff, Nat.reduceBEq]
  have hc : Fo.count (.mk k l r nm ps) m = Fo.countL ps (1 + nm.length + l.cnt m + r.cnt m) m := rfl
  have hb0 : 1 + (nm.length : Int) + l.cnt m + r.cnt m ≤ 2 ^ 51 + 2 * m := by omega
  have hb1 : 1 ≤ 1 + (nm.length : Int) + l.cnt m + r.cnt m := by omega
  generalize 1 + (nm.length : Int) + l.cnt m + r.cnt m = n0 at *
  rw [hc]
  refine EvK.loopI (ι := {p : Nat × Int // p.1 ≤ ps.length ∧ 1 ≤ p.2 ∧ p.2 ≤ 2 ^ 51 + 2 * m ∧ Fo.countL (ps.drop p.1) p.2 m = Fo.countL ps n0 m ∧ (p.1 : Int) ≤ p.2}) 1000 (fun p => mkT 45 [(1, .int .i64 m), (2, .ptr 0 0), (5, .int .i64 p.1.2), (6, .int .i64 p.1.1)]) (fun _ => [some (.var [.int .i64 k, .bool l.var, .str l.name, .ps 3 (l.args.map Wd.toA), .bool r.var, .str r.name, .ps 3 (r.args.map Wd.toA), .ps 1 (strs nm), .ps 9 (ps.map Fo.toA)])]) (fun p => ps.length - p.1.1) ⟨(0, n0), by simp; omega⟩ ?_ (fun _ => by simp) ?_
  · simp only [go_sem, Nat.reduceAdd, Nat.reduceSub, Nat.reduceMul, Nat.reduceLeDiff, Nat.reduceEqDiff, Nat.reduceBEq, wds_low, strs_low, fos_low, Int.natCast_zero]
    decide
  · rintro ⟨⟨i, n⟩, hi, h1, h2, h3, h4⟩
    simp only at hi h1 h2 h3 h4
    by_cases hlt : (i : Int) < ps.length
    · have hlt' : i < ps.length := by omega
      by_cases hn : n ≤ m
      · simp only [go_sem, Nat.reduceAdd, Nat.reduceSub, Nat.reduceMul, Nat.reduceLeDiff, Nat.reduceEqDiff, Nat.reduceBEq, List.length_map, hlt, hn]
        refine ⟨by omega, ?_⟩
        simp only [go_sem, Nat.reduceAdd, Nat.reduceSub, Nat.reduceMul, Nat.reduceLeDiff, Nat.reduceEqDiff, Nat.reduceBEq, Int.toNat_natCast, map_getD hlt', fo_cells, Nat.le_refl]
        rw [← fo_eq, i64_id (by omega)]
        refine VCall.isoT [] (ih i hlt' (ffits_get hfit.2 i hlt') (m - n) (by omega) (by omega)) (pTL_refl _ _ _) (by simp [go_sem, fo_low]) ?_; simp only [flatR, flatA, flatC, if_true]; refine EvK.go 1000 ?_
        simp only [go_sem, Nat.reduceAdd, Nat.reduceSub, Nat.reduceMul, Nat.reduceLeDiff, Nat.reduceEqDiff, Nat.reduceBEq]
        have hb := count_bounds ps[i] (m - n) (ffits_get hfit.2 i hlt') (by omega)
        refine ⟨⟨(i + 1, n + ps[i].count (m - n)), hlt', by omega, by omega, ?_, by simp only; omega⟩, ?_, by simp only; omega⟩
        · simp only
          rw [← h3, List.drop_eq_getElem_cons hlt', Fo.countL, if_pos hn]
        · simp only [go_sem, Nat.reduceAdd, Nat.reduceSub, Nat.reduceMul, Nat.reduceLeDiff, Nat.reduceEqDiff, Nat.reduceBEq, wds_low, strs_low, fos_low]
          rw [i64_id (by omega), i64_id (by omega)]
          simp
      · simp only [go_sem, Nat.reduceAdd, Nat.reduceSub, Nat.reduceMul, Nat.reduceLeDiff, Nat.reduceEqDiff, Nat.reduceBEq, List.length_map, hlt, hn]
        refine EvK.go 1000 ?_
        simp only [go_sem, Nat.reduceAdd, Nat.reduceSub, Nat.reduceMul, Nat.reduceLeDiff, Nat.reduceEqDiff, Nat.reduceBEq]
        rw [← h3, countL_stop _ hn]
    · simp only [go_sem, Nat.reduceAdd, Nat.reduceSub, Nat.reduceMul, Nat.reduceLeDiff, Nat.reduceEqDiff, Nat.reduceBEq, List.length_map, hlt]
      refine EvK.go 1000 ?_
      simp only [go_sem, Nat.reduceAdd, Nat.reduceSub, Nat.reduceMul, Nat.reduceLeDiff, Nat.reduceEqDiff, Nat.reduceBEq]
      have : i = ps.length := by omega
      subst this
      rw [← h3, List.drop_length, Fo.countL]

theorem Cost_eq (s m : Int) (hm : m < 2 ^ 62) (f : Fo) : f.size < 2 ^ 62 → CallEq Try.prog 18 [.int .i64 s, f.toA, .int .i64 m] (.int .i64 (f.cost s m)) := by
  induction f using Fo.rec_parts with
  | h k l r nm ps ih =>
  intro hsz
  simp only [Fo.size] at hsz
  have hlen := flen_le ps
  refine CallEq.begin (rs := [.tmp 6]) (m := 45) 1000 Try.func18 rfl rfl rfl (by decide) trivial ?_
  simp only [go_sem, Nat.reduceAdd, Nat.reduceSub, Nat.reduceMul, Nat.reduceLeDiff, Nat.reduceEqDiff, Nat.reduceBEq, fo_eq, Fo.kind, Fo.l, Fo.r, Fo.names, Fo.parts]
  have hc : Fo.cost s m (.mk k l r nm ps) = costN s m nm.length (Fo.costL s m ps 1) := rfl
  rw [hc]
  refine EvK.loopI (ι := {p : Nat × Int // p.1 ≤ ps.length ∧ Fo.costL s m (ps.drop p.1) p.2 = Fo.costL s m ps 1}) 1000 (fun p => mkT 48 [(0, .int .i64 s), (2, .int .i64 m), (4, .ptr 0 0), (7, .int .i64 p.1.2), (8, .int .i64 p.1.1)]) (fun _ => [some (.var [.int .i64 k, .bool l.var, .str l.name, .ps 3 (l.args.map Wd.toA), .bool r.var, .str r.name, .ps 3 (r.args.map Wd.toA), .ps 1 (strs nm), .ps 9 (ps.map Fo.toA)])]) (fun p => ps.length - p.1.1) ⟨(0, 1), by simp⟩ ?_ (fun _ => by simp) ?_
  · simp only [go_sem, Nat.reduceAdd, Nat.reduceSub, Nat.reduceMul, Nat.reduceLeDiff, Nat.reduceEqDiff, Nat.reduceBEq, wds_low, strs_low, fos_low, Int.natCast_zero]
    decide
  · rintro ⟨⟨i, n⟩, hi, h3⟩
    simp only at hi h3
    by_cases hlt : (i : Int) < ps.length
    · have hlt' : i < ps.length := by omega
      by_cases hn : n ≤ m
      · have hpz := fsize_le ps i hlt'
        simp only [go_sem, Nat.reduceAdd, Nat.reduceSub, Nat.reduceMul, Nat.reduceLeDiff, Nat.reduceEqDiff, Nat.reduceBEq, List.length_map, hlt, hn]
        refine ⟨by omega, ?_⟩
        simp only [go_sem, Nat.reduceAdd, Nat.reduceSub, Nat.reduceMul, Nat.reduceLeDiff, Nat.reduceEqDiff, Nat.reduceBEq, Int.toNat_natCast, map_getD hlt', fo_cells, Nat.le_refl]
        rw [← fo_eq]
        refine VCall.isoT [] (ih i hlt' (by omega)) (pTL_refl _ _ _) (by simp [go_sem, fo_low]) ?_; simp only [flatR, flatA, flatC, if_true]; refine EvK.go 1000 ?_
        simp only [go_sem, Nat.reduceAdd, Nat.reduceSub, Nat.reduceMul, Nat.reduceLeDiff, Nat.reduceEqDiff, Nat.reduceBEq]
        refine ⟨⟨(i + 1, IntKind.i64.wrap (n + ps[i].cost s m)), hlt', ?_⟩, ?_, by simp only; omega⟩
        · simp only
          rw [← h3, List.drop_eq_getElem_cons hlt', Fo.costL, if_pos hn]
        · simp only [go_sem, Nat.reduceAdd, Nat.reduceSub, Nat.reduceMul, Nat.reduceLeDiff, Nat.reduceEqDiff, Nat.reduceBEq, wds_low, strs_low, fos_low]
          rw [i64_id (n := (i : Int) + 1) (by omega)]
          simp
      · simp only [go_sem, Nat.reduceAdd, Nat.reduceSub, Nat.reduceMul, Nat.reduceLeDiff, Nat.reduceEqDiff, Nat.reduceBEq, List.length_map, hlt, hn]
        have e : Fo.costL s m ps 1 = n := by rw [← h3, costL_stop _ _ hn]
        rw [e]
        refine EvK.go 1000 ?_
        simp only [go_sem, Nat.reduceAdd, Nat.reduceSub, Nat.reduceMul, Nat.reduceLeDiff, Nat.reduceEqDiff, Nat.reduceBEq]
        refine EvK.loopI (ι := {p : Nat × Int // p.1 ≤ nm.length ∧ costN s m (nm.length - p.1) p.2 = costN s m nm.length n}) 1000 (fun p => mkT 48 [(0, .int .i64 s), (2, .int .i64 m), (4, .ptr 0 0), (7, .int .i64 p.1.2), (9, .int .i64 p.1.1)]) (fun _ => [some (.var [.int .i64 k, .bool l.var, .str l.name, .ps 3 (l.args.map Wd.toA), .bool r.var, .str r.name, .ps 3 (r.args.map Wd.toA), .ps 1 (strs nm), .ps 9 (ps.map Fo.toA)])]) (fun p => nm.length - p.1.1) ⟨(0, n), by simp⟩ ?_ (fun _ => by simp) ?_
        · simp only [go_sem, Nat.reduceAdd, Nat.reduceSub, Nat.reduceMul, Nat.reduceLeDiff, Nat.reduceEqDiff, Nat.reduceBEq, wds_low, strs_low, fos_low, Int.natCast_zero]
          decide
        · rintro ⟨⟨j, q⟩, hj, hq⟩
          simp only at hj hq
          by_cases hjt : (j : Int) < nm.length
          · have hjt' : j < nm.length := by omega
            have hsub : nm.length - j = (nm.length - (j + 1)) + 1 := by omega
            by_cases hqm : q ≤ m
            · simp only [go_sem, Nat.reduceAdd, Nat.reduceSub, Nat.reduceMul, Nat.reduceLeDiff, Nat.reduceEqDiff, Nat.reduceBEq, strs_len, hjt, hqm]
              refine ⟨⟨(j + 1, IntKind.i64.wrap (q * s)), hjt', ?_⟩, ?_, by simp only; omega⟩
              · simp only
                rw [← hq, hsub, costN, if_pos hqm]
              · simp only [go_sem, Nat.reduceAdd, Nat.reduceSub, Nat.reduceMul, Nat.reduceLeDiff, Nat.reduceEqDiff, Nat.reduceBEq, wds_low, strs_low, fos_low]
                rw [i64_id (n := (j : Int) + 1) (by omega)]
                simp
            · simp only [go_sem, Nat.reduceAdd, Nat.reduceSub, Nat.reduceMul, Nat.reduceLeDiff, Nat.reduceEqDiff, Nat.reduceBEq, strs_len, hjt, hqm]
              refine EvK.go 1000 ?_
              simp only [go_sem, Nat.reduceAdd, Nat.reduceSub, Nat.reduceMul, Nat.reduceLeDiff, Nat.reduceEqDiff, Nat.reduceBEq]
              rw [← hq, costN_stop _ _ hqm]
          · simp only [go_sem, Nat.reduceAdd, Nat.reduceSub, Nat.reduceMul, Nat.reduceLeDiff, Nat.reduceEqDiff, Nat.reduceBEq, strs_len, hjt]
            refine EvK.go 1000 ?_
            simp only [go_sem, Nat.reduceAdd, Nat.reduceSub, Nat.reduceMul, Nat.reduceLeDiff, Nat.reduceEqDiff, Nat.reduceBEq]
            have : nm.length - j = 0 := by omega
            rw [← hq, this, costN]
    · simp only [go_sem, Nat.reduceAdd, Nat.reduceSub, Nat.reduceMul, Nat.reduceLeDiff, Nat.reduceEqDiff, Nat.reduceBEq, List.length_map, hlt]
      have : i = ps.length := by omega
      have e : Fo.costL s m ps 1 = n := by rw [← h3, this, List.drop_length, Fo.costL]
      rw [e]
      refine EvK.go 1000 ?_
      simp only [go_sem, Nat.reduceAdd, Nat.reduceSub, Nat.reduceMul, Nat.reduceLeDiff, Nat.reduceEqDiff, Nat.reduceBEq]
      refine EvK.loopI (ι := {p : Nat × Int // p.1 ≤ nm.length ∧ costN s m (nm.length - p.1) p.2 = costN s m nm.length n}) 1000 (fun p => mkT 48 [(0, .int .i64 s), (2, .int .i64 m), (4, .ptr 0 0), (7, .int .i64 p.1.2), (9, .int .i64 p.1.1)]) (fun _ => [some (.var [.int .i64 k, .bool l.var, .str l.name, .ps 3 (l.args.map Wd.toA), .bool r.var, .str r.name, .ps 3 (r.args.map Wd.toA), .ps 1 (strs nm), .ps 9 (ps.map Fo.toA)])]) (fun p => nm.length - p.1.1) ⟨(0, n), by simp⟩ ?_ (fun _ => by simp) ?_
      · simp only [go_sem, Nat.reduceAdd, Nat.reduceSub, Nat.reduceMul, Nat.reduceLeDiff, Nat.reduceEqDiff, Nat.reduceBEq, wds_low, strs_low, fos_low, Int.natCast_zero]
        decide
      · rintro ⟨⟨j, q⟩, hj, hq⟩
        simp only at hj hq
        by_cases hjt : (j : Int) < nm.length
        · have hjt' : j < nm.length := by omega
          have hsub : nm.length - j = (nm.length - (j + 1)) + 1 := by omega
          by_cases hqm : q ≤ m
          · simp only [go_sem, Nat.reduceAdd, Nat.reduceSub, Nat.reduceMul, Nat.reduceLeDiff, Nat.reduceEqDiff, Nat.reduceBEq, strs_len, hjt, hqm]
            refine ⟨⟨(j + 1, IntKind.i64.wrap (q * s)), hjt', ?_⟩, ?_, by simp only; omega⟩
            · simp only
              rw [← hq, hsub, costN, if_pos hqm]
            · simp only [go_sem, Nat.reduceAdd, Nat.reduceSub, Nat.reduceMul, Nat.reduceLeDiff, Nat.reduceEqDiff, Nat.reduceBEq, wds_low, strs_low, fos_low]
              rw [i64_id (n := (j : Int) + 1) (by omega)]
              simp
          · simp only [go_sem, Nat.reduceAdd, Nat.reduceSub, Nat.reduceMul, Nat.reduceLeDiff, Nat.reduceEqDiff, Nat.reduceBEq, strs_len, hjt, hqm]
            refine EvK.go 1000 ?_
            simp only [go_sem, Nat.reduceAdd, Nat.reduceSub, Nat.reduceMul, Nat.reduceLeDiff, Nat.reduceEqDiff, Nat.reduceBEq]
            rw [← hq, costN_stop _ _ hqm]
        · simp only [go_sem, Nat.reduceAdd, Nat.reduceSub, Nat.reduceMul, Nat.reduceLeDiff, Nat.reduceEqDiff, Nat.reduceBEq, strs_len, hjt]
          refine EvK.go 1000 ?_
          simp only [go_sem, Nat.reduceAdd, Nat.reduceSub, Nat.reduceMul, Nat.reduceLeDiff, Nat.reduceEqDiff, Nat.reduceBEq]
          have : nm.length - j = 0 := by omega
          rw [← hq, this, costN]
theorem SizeR_eq (f : Fo) : ∀ m : Int, (f.size : Int) ≤ m → m < 2 ^ 40 → CallEq Try.prog 77 [f.toA, .int .i64 m] (.int .i64 f.sz) := by
  induction f using Fo.rec_parts with
  | h k l r nm ps ih =>
  intro m hm0 hm1
  simp only [Fo.size] at hm0
  have hlen := flen_le ps
  have hs : Fo.sz (.mk k l r nm ps) = 1 + nm.length + (if k = 0 ∨ k = 1 then (l.size : Int) else 0) + (if k = 1 then (r.size : Int) else 0) + Fo.szs ps := rfl
  obtain ⟨_, _, _, l4⟩ := wcnt_bounds l m (by omega)
  obtain ⟨_, _, _, r4⟩ := wcnt_bounds r m (by omega)
  refine CallEq.begin (rs := [.tmp 4]) (m := 56) 1000 Try.func77 rfl rfl rfl (by decide) trivial ?_
  simp only [go_sem, Nat.reduceAdd, Nat.reduceSub, Nat.reduceMul, Nat.reduceLeDiff, Nat.reduceEqDiff, Nat.reduceBEq, fo_eq, Fo.kind, Fo.l, Fo.r, Fo.names, Fo.parts, strs_len]
  by_cases k0 : k = 0
  · rw [if_pos (.inl k0), if_neg (by omega)] at hs
    simp only [go_sem, Nat.reduceAdd, Nat.reduceSub, Nat.reduceMul, Nat.reduceLeDiff, Nat.reduceEqDiff, Nat.reduceBEq, k0, Nat.le_refl, Int.reduceEq]
    rw [← wd_eq]
    refine VCall.isoT [] (WordsS_eq l m (by omega) (by omega)) (pTL_refl _ _ _) (by simp [go_sem, wd_low]) ?_; simp only [flatR, flatA, flatC, if_true]; refine EvK.go 1000 ?_
    simp only [go_sem, Nat.reduceAdd, Nat.reduceSub, Nat.reduceMul, Nat.reduceLeDiff, Nat.reduceEqDiff, Nat.reduceBEq, k0, Int.reduceEq]
    rw [l4 (by omega), i64_id (n := 1 + (nm.length : Int)) (by omega), i64_id (by omega)]
    refine EvK.go 1000 ?_
    subst k0
    refine EvK.loopI (ι := {p : Nat × Int // p.1 ≤ ps.length ∧ 1 ≤ p.2 ∧ p.2 + Fo.sizes (ps.drop p.1) ≤ m ∧ p.2 + Fo.szs (ps.drop p.1) = Fo.sz (.mk 0 l r nm ps)}) 1000 (fun p => mkT 58 [(1, .int .i64 m), (2, .ptr 0 0), (5, .int .i64 p.1.2), (6, .int .i64 p.1.1)]) (fun _ => [some (.var [.int .i64 0, .bool l.var, .str l.name, .ps 3 (l.args.map Wd.toA), .bool r.var, .str r.name, .ps 3 (r.args.map Wd.toA), .ps 1 (strs nm), .ps 9 (ps.map Fo.toA)])]) (fun p => ps.length - p.1.1) ⟨(0, 1 + nm.length + l.size), Nat.zero_le _, by simp only; omega, by simp only [List.drop_zero]; omega, by simp only [List.drop_zero]; omega⟩ ?_ (fun _ => by simp) ?_
    · simp only [go_sem, Nat.reduceAdd, Nat.reduceSub, Nat.reduceMul, Nat.reduceLeDiff, Nat.reduceEqDiff, Nat.reduceBEq, wds_low, strs_low, fos_low, Int.natCast_zero]
      decide
    · rintro ⟨⟨i, n⟩, hi, h1, h2, h3⟩
      simp only at hi h1 h2 h3
      by_cases hlt : (i : Int) < ps.length
      · have hlt' : i < ps.length := by omega
        rw [List.drop_eq_getElem_cons hlt'] at h2
        rw [szs_drop ps i hlt'] at h3
        simp only [Fo.sizes] at h2
        have hz := sz_le ps[i]
        have hn : n ≤ m := by omega
        simp only [go_sem, Nat.reduceAdd, Nat.reduceSub, Nat.reduceMul, Nat.reduceLeDiff, Nat.reduceEqDiff, Nat.reduceBEq, List.length_map, hlt, hn]
        refine ⟨by omega, ?_⟩
        simp only [go_sem, Nat.reduceAdd, Nat.reduceSub, Nat.reduceMul, Nat.reduceLeDiff, Nat.reduceEqDiff, Nat.reduceBEq, Int.toNat_natCast, map_getD hlt', fo_cells, Nat.le_refl]
        rw [← fo_eq, i64_id (by omega)]
        refine VCall.isoT [] (ih i hlt' (m - n) (by omega) (by omega)) (pTL_refl _ _ _) (by simp [go_sem, fo_low]) ?_; simp only [flatR, flatA, flatC, if_true]; refine EvK.go 1000 ?_
        simp only [go_sem, Nat.reduceAdd, Nat.reduceSub, Nat.reduceMul, Nat.reduceLeDiff, Nat.reduceEqDiff, Nat.reduceBEq]
        refine ⟨⟨(i + 1, n + ps[i].sz), hlt', by omega, by simp only; omega, by simp only; omega⟩, ?_, by simp only; omega⟩
        simp only [go_sem, Nat.reduceAdd, Nat.reduceSub, Nat.reduceMul, Nat.reduceLeDiff, Nat.reduceEqDiff, Nat.reduceBEq, wds_low, strs_low, fos_low]
        rw [i64_id (by omega), i64_id (by omega)]
        simp
      · simp only [go_sem, Nat.reduceAdd, Nat.reduceSub, Nat.reduceMul, Nat.reduceLeDiff, Nat.reduceEqDiff, Nat.reduceBEq, List.length_map, hlt]
        refine EvK.go 1000 ?_
        simp only [go_sem, Nat.reduceAdd, Nat.reduceSub, Nat.reduceMul, Nat.reduceLeDiff, Nat.reduceEqDiff, Nat.reduceBEq]
        have : i = ps.length := by omega
        rw [this, List.drop_length, Fo.szs] at h3
        rw [← h3, Int.add_zero]
  by_cases k1 : k = 1
  · rw [if_pos (.inr k1), if_pos k1] at hs
    simp only [go_sem, Nat.reduceAdd, Nat.reduceSub, Nat.reduceMul, Nat.reduceLeDiff, Nat.reduceEqDiff, Nat.reduceBEq, k0, k1, Nat.le_refl, Int.reduceEq]
    rw [← wd_eq]
    refine VCall.isoT [] (WordsS_eq l m (by omega) (by omega)) (pTL_refl _ _ _) (by simp [go_sem, wd_low]) ?_; simp only [flatR, flatA, flatC, if_true]; refine EvK.go 1000 ?_
    simp only [go_sem, Nat.reduceAdd, Nat.reduceSub, Nat.reduceMul, Nat.reduceLeDiff, Nat.reduceEqDiff, Nat.reduceBEq, k1, Int.reduceEq, Nat.le_refl]
    rw [← wd_eq]
    refine VCall.isoT [] (WordsS_eq r m (by omega) (by omega)) (pTL_refl _ _ _) (by simp [go_sem, wd_low]) ?_; simp only [flatR, flatA, flatC, if_true]; refine EvK.go 1000 ?_
    simp only [go_sem, Nat.reduceAdd, Nat.reduceSub, Nat.reduceMul, Nat.reduceLeDiff, Nat.reduceEqDiff, Nat.reduceBEq, k1, Int.reduceEq]
    rw [l4 (by omega), r4 (by omega), i64_id (n := 1 + (nm.length : Int)) (by omega), i64_id (n := 1 + (nm.length : Int) + l.size) (by omega), i64_id (by omega)]
    refine EvK.go 1000 ?_
    subst k1
    refine EvK.loopI (ι := {p : Nat × Int // p.1 ≤ ps.length ∧ 1 ≤ p.2 ∧ p.2 + Fo.sizes (ps.drop p.1) ≤ m ∧ p.2 + Fo.szs (ps.drop p.1) = Fo.sz (.mk 1 l r nm ps)}) 1000 (fun p => mkT 58 [(1, .int .i64 m), (2, .ptr 0 0), (5, .int .i64 p.1.2), (6, .int .i64 p.1.1)]) (fun _ => [some (.var [.int .i64 1, .bool l.var, .str l.name, .ps 3 (l.args.map Wd.toA), .bool r.var, .str r.name, .ps 3 (r.args.map Wd.toA), .ps 1 (strs nm), .ps 9 (ps.map Fo.toA)])]) (fun p => ps.length - p.1.1) ⟨(0, 1 + nm.length + l.size + r.size), Nat.zero_le _, by simp only; omega, by simp only [List.drop_zero]; omega, by simp only [List.drop_zero]; omega⟩ ?_ (fun _ => by simp) ?_
    · simp only [go_sem, Nat.reduceAdd, Nat.reduceSub, Nat.reduceMul, Nat.reduceLeDiff, Nat.reduceEqDiff, Nat.reduceBEq, wds_low, strs_low, fos_low, Int.natCast_zero]
      decide
    · rintro ⟨⟨i, n⟩, hi, h1, h2, h3⟩
      simp only at hi h1 h2 h3
      by_cases hlt : (i : Int) < ps.length
      · have hlt' : i < ps.length := by omega
        rw [List.drop_eq_getElem_cons hlt'] at h2
        rw [szs_drop ps i hlt'] at h3
        simp only [Fo.sizes] at h2
        have hz := sz_le ps[i]
        have hn : n ≤ m := by omega
        simp only [go_sem, Nat.reduceAdd, Nat.reduceSub, Nat.reduceMul, Nat.reduceLeDiff, Nat.reduceEqDiff, Nat.reduceBEq, List.length_map, hlt, hn]
        refine ⟨by omega, ?_⟩
        simp only [go_sem, Nat.reduceAdd, Nat.reduceSub, Nat.reduceMul, Nat.reduceLeDiff, Nat.reduceEqDiff, Nat.reduceBEq, Int.toNat_natCast, map_getD hlt', fo_cells, Nat.le_refl]
        rw [← fo_eq, i64_id (by omega)]
        refine VCall.isoT [] (ih i hlt' (m - n) (by omega) (by omega)) (pTL_refl _ _ _) (by simp [go_sem, fo_low]) ?_; simp only [flatR, flatA, flatC, if_true]; refine EvK.go 1000 ?_
        simp only [go_sem, Nat.reduceAdd, Nat.reduceSub, Nat.reduceMul, Nat.reduceLeDiff, Nat.reduceEqDiff, Nat.reduceBEq]
        refine ⟨⟨(i + 1, n + ps[i].sz), hlt', by omega, by simp only; omega, by simp only; omega⟩, ?_, by simp only; omega⟩
        simp only [go_sem, Nat.reduceAdd, Nat.reduceSub, Nat.reduceMul, Nat.reduceLeDiff, Nat.reduceEqDiff, Nat.reduceBEq, wds_low, strs_low, fos_low]
        rw [i64_id (by omega), i64_id (by omega)]
        simp
      · simp only [go_sem, Nat.reduceAdd, Nat.reduceSub, Nat.reduceMul, Nat.reduceLeDiff, Nat.reduceEqDiff, Nat.reduceBEq, List.length_map, hlt]
        refine EvK.go 1000 ?_
        simp only [go_sem, Nat.reduceAdd, Nat.reduceSub, Nat.reduceMul, Nat.reduceLeDiff, Nat.reduceEqDiff, Nat.reduceBEq]
        have : i = ps.length := by omega
        rw [this, List.drop_length, Fo.szs] at h3
        rw [← h3, Int.add_zero]
  · rw [if_neg (by omega), if_neg k1] at hs
    simp only [go_sem, Nat.reduceAdd, Nat.reduceSub, Nat.reduceMul, Nat.reduceLeDiff, Nat.reduceEqDiff, Nat.reduceBEq, k0, k1]
    rw [i64_id (n := 1 + (nm.length : Int)) (by omega)]
    refine EvK.go 1000 ?_
    refine EvK.loopI (ι := {p : Nat × Int // p.1 ≤ ps.length ∧ 1 ≤ p.2 ∧ p.2 + Fo.sizes (ps.drop p.1) ≤ m ∧ p.2 + Fo.szs (ps.drop p.1) = Fo.sz (.mk k l r nm ps)}) 1000 (fun p => mkT 58 [(1, .int .i64 m), (2, .ptr 0 0), (5, .int .i64 p.1.2), (6, .int .i64 p.1.1)]) (fun _ => [some (.var [.int .i64 k, .bool l.var, .str l.name, .ps 3 (l.args.map Wd.toA), .bool r.var, .str r.name, .ps 3 (r.args.map Wd.toA), .ps 1 (strs nm), .ps 9 (ps.map Fo.toA)])]) (fun p => ps.length - p.1.1) ⟨(0, 1 + nm.length), Nat.zero_le _, by simp only; omega, by simp only [List.drop_zero]; omega, by simp only [List.drop_zero]; omega⟩ ?_ (fun _ => by simp) ?_
    · simp only [go_sem, Nat.reduceAdd, Nat.reduceSub, Nat.reduceMul, Nat.reduceLeDiff, Nat.reduceEqDiff, Nat.reduceBEq, wds_low, strs_low, fos_low, Int.natCast_zero]
      decide
    · rintro ⟨⟨i, n⟩, hi, h1, h2, h3⟩
      simp only at hi h1 h2 h3
      by_cases hlt : (i : Int) < ps.length
      · have hlt' : i < ps.length := by omega
        rw [List.drop_eq_getElem_cons hlt'] at h2
        rw [szs_drop ps i hlt'] at h3
        simp only [Fo.sizes] at h2
        have hz := sz_le ps[i]
        have hn : n ≤ m := by omega
        simp only [go_sem, Nat.reduceAdd, Nat.reduceSub, Nat.reduceMul, Nat.reduceLeDiff, Nat.reduceEqDiff, Nat.reduceBEq, List.length_map, hlt, hn]
        refine ⟨by omega, ?_⟩
        simp only [go_sem, Nat.reduceAdd, Nat.reduceSub, Nat.reduceMul, Nat.reduceLeDiff, Nat.reduceEqDiff, Nat.reduceBEq, Int.toNat_natCast, map_getD hlt', fo_cells, Nat.le_refl]
        rw [← fo_eq, i64_id (by omega)]
        refine VCall.isoT [] (ih i hlt' (m - n) (by omega) (by omega)) (pTL_refl _ _ _) (by simp [go_sem, fo_low]) ?_; simp only [flatR, flatA, flatC, if_true]; refine EvK.go 1000 ?_
        simp only [go_sem, Nat.reduceAdd, Nat.reduceSub, Nat.reduceMul, Nat.reduceLeDiff, Nat.reduceEqDiff, Nat.reduceBEq]
        refine ⟨⟨(i + 1, n + ps[i].sz), hlt', by omega, by simp only; omega, by simp only; omega⟩, ?_, by simp only; omega⟩
        simp only [go_sem, Nat.reduceAdd, Nat.reduceSub, Nat.reduceMul, Nat.reduceLeDiff, Nat.reduceEqDiff, Nat.reduceBEq, wds_low, strs_low, fos_low]
        rw [i64_id (by omega), i64_id (by omega)]
        simp
      · simp only [go_sem, Nat.reduceAdd, Nat.reduceSub, Nat.reduceMul, Nat.reduceLeDiff, Nat.reduceEqDiff, Nat.reduceBEq, List.length_map, hlt]
        refine EvK.go 1000 ?_
        simp only [go_sem, Nat.reduceAdd, Nat.reduceSub, Nat.reduceMul, Nat.reduceLeDiff, Nat.reduceEqDiff, Nat.reduceBEq]
        have : i = ps.length := by omega
        rw [this, List.drop_length, Fo.szs] at h3
        rw [← h3, Int.add_zero]

theorem Plain_eq (t : Wd) : t.size < 2 ^ 62 → CallEq Try.prog 103 [t.toA] (.bool t.ok) := by
  induction t using Wd.rec_args with
  | h v nm ts ih =>
  intro hsz
  simp only [Wd.size] at hsz
  have hlen := wlen_le ts
  refine CallEq.begin (rs := [.tmp 2]) (m := 23) 1000 Try.func103 rfl rfl rfl (by decide) trivial ?_
  have ho : Wd.ok (.mk v nm ts) = ((!v || decide (ts.length = 0)) && Wd.oks ts) := rfl
  simp only [go_sem, Nat.reduceAdd, Nat.reduceSub, Nat.reduceMul, Nat.reduceLeDiff, Nat.reduceEqDiff, Nat.reduceBEq, wd_eq, Wd.var, Wd.name, Wd.args]
  cases v with
  | true =>
    have e : Wd.ok (.mk true nm ts) = decide ((ts.length : Int) = 0) := by
      rw [ho]
      cases ts with
      | nil => rfl
      | cons a ts => simp only [Bool.not_true, Bool.false_or, List.length_cons]; rw [decide_eq_false (by omega), decide_eq_false (by omega)]; rfl
    simp only [go_sem, Nat.reduceAdd, Nat.reduceSub, Nat.reduceMul, Nat.reduceLeDiff, Nat.reduceEqDiff, Nat.reduceBEq, List.length_map, e]
  | false =>
    have e : Wd.ok (.mk false nm ts) = Wd.oks ts := by rw [ho]; rfl
    rw [e]
    simp only [go_sem, Nat.reduceAdd, Nat.reduceSub, Nat.reduceMul, Nat.reduceLeDiff, Nat.reduceEqDiff, Nat.reduceBEq]
    refine EvK.go 1000 ?_
    refine EvK.loopI (ι := {i : Nat // i ≤ ts.length ∧ Wd.oks (ts.drop i) = Wd.oks ts}) 1000 (fun i => mkT 24 [(1, .ptr 0 0), (3, .int .i64 i.1)]) (fun _ => [some (.var [.bool false, .str nm, .ps 3 (ts.map Wd.toA)])]) (fun i => ts.length - i.1) ⟨0, Nat.zero_le _, rfl⟩ ?_ (fun _ => by simp) ?_
    · simp only [go_sem, Nat.reduceAdd, Nat.reduceSub, Nat.reduceMul, Nat.reduceLeDiff, Nat.reduceEqDiff, Nat.reduceBEq, wds_low, Int.natCast_zero]
      decide
    · rintro ⟨i, hi, h3⟩
      by_cases hlt : (i : Int) < ts.length
      · have hlt' : i < ts.length := by omega
        have hz := wsize_le ts i hlt'
        rw [List.drop_eq_getElem_cons hlt', Wd.oks] at h3
        simp only [go_sem, Nat.reduceAdd, Nat.reduceSub, Nat.reduceMul, Nat.reduceLeDiff, Nat.reduceEqDiff, Nat.reduceBEq, List.length_map, hlt, Int.toNat_natCast, map_getD hlt', wd_cells, Nat.le_refl]
        rw [← wd_eq]
        (repeat ((with_reducible refine And.intro ?_ ?_); · omega))
        refine VCall.isoT [] (ih i hlt' (by omega)) (pTL_refl _ _ _) (by simp [go_sem, wd_low]) ?_; simp only [flatR, flatA, flatC, if_true]; refine EvK.go 1000 ?_
        cases hc : ts[i].ok with
        | false =>
          rw [hc, Bool.false_and] at h3
          simp only [go_sem, Nat.reduceAdd, Nat.reduceSub, Nat.reduceMul, Nat.reduceLeDiff, Nat.reduceEqDiff, Nat.reduceBEq, ← h3]
          refine EvK.go 1000 ?_
          simp only [go_sem, Nat.reduceAdd, Nat.reduceSub, Nat.reduceMul, Nat.reduceLeDiff, Nat.reduceEqDiff, Nat.reduceBEq]
        | true =>
          rw [hc, Bool.true_and] at h3
          simp only [go_sem, Nat.reduceAdd, Nat.reduceSub, Nat.reduceMul, Nat.reduceLeDiff, Nat.reduceEqDiff, Nat.reduceBEq]
          refine ⟨⟨i + 1, hlt', h3⟩, ?_, by simp only; omega⟩
          simp only [go_sem, Nat.reduceAdd, Nat.reduceSub, Nat.reduceMul, Nat.reduceLeDiff, Nat.reduceEqDiff, Nat.reduceBEq, wds_low]
          rw [i64_id (by omega)]
          simp
      · simp only [go_sem, Nat.reduceAdd, Nat.reduceSub, Nat.reduceMul, Nat.reduceLeDiff, Nat.reduceEqDiff, Nat.reduceBEq, List.length_map, hlt]
        refine EvK.go 1000 ?_
        have : i = ts.length := by omega
        rw [this, List.drop_length, Wd.oks] at h3
        simp only [go_sem, Nat.reduceAdd, Nat.reduceSub, Nat.reduceMul, Nat.reduceLeDiff, Nat.reduceEqDiff, Nat.reduceBEq, ← h3]
set_option maxHeartbeats 800000 in
theorem RightR_eq (f : Fo) : f.size < 2 ^ 62 → CallEq Try.prog 78 [f.toA] (.bool f.right) := by
  induction f using Fo.rec_parts with
  | h k l r nm ps ih =>
  intro hsz
  simp only [Fo.size] at hsz
  have hlen := flen_le ps
  have hr0 : Fo.right (.mk k l r nm ps) = (((if k = 0 then decide (ps.length = 0) && !l.var else if k = 1 ∨ k = 9 ∨ k = 10 then decide (ps.length = 0) else if k = 2 ∨ k = 7 ∨ k = 8 then decide (ps.length = 1) else if k = 5 ∨ k = 6 then decide (ps.length = 2) else decide (k = 3 ∨ k = 4)) && (if k = 0 then [l] else if k = 1 then [l, r] else []).all Wd.ok) && Fo.rights ps) := rfl
  have hr1 : Fo.right (.mk k l r nm ps) = ((if k = 0 then (decide ((ps.length : Int) = 0) && !l.var) && l.ok else if k = 1 then (decide ((ps.length : Int) = 0) && l.ok) && r.ok else if k = 9 ∨ k = 10 then decide ((ps.length : Int) = 0) else if k = 2 ∨ k = 7 ∨ k = 8 then decide ((ps.length : Int) = 1) else if k = 5 ∨ k = 6 then decide ((ps.length : Int) = 2) else decide (k = 3 ∨ k = 4)) && Fo.rights ps) := by
    rw [hr0, show decide ((ps.length : Int) = 0) = decide (ps.length = 0) from decide_eq_decide.2 (by omega), show decide ((ps.length : Int) = 1) = decide (ps.length = 1) from decide_eq_decide.2 (by omega), show decide ((ps.length : Int) = 2) = decide (ps.length = 2) from decide_eq_decide.2 (by omega)]
    by_cases k0 : k = 0
    · simp [k0]
    by_cases k1 : k = 1
    · simp [k1, Bool.and_assoc]
    · simp [k0, k1]
  generalize hX : (if k = 0 then (decide ((ps.length : Int) = 0) && !l.var) && l.ok else if k = 1 then (decide ((ps.length : Int) = 0) && l.ok) && r.ok else if k = 9 ∨ k = 10 then decide ((ps.length : Int) = 0) else if k = 2 ∨ k = 7 ∨ k = 8 then decide ((ps.length : Int) = 1) else if k = 5 ∨ k = 6 then decide ((ps.length : Int) = 2) else decide (k = 3 ∨ k = 4)) = X at hr1
  refine CallEq.beginK (rs := [.tmp 2]) (m := 73) Try.func78 rfl rfl rfl rfl trivial ?_
  refine EvK.split (EvK.upto 1000 ?_)
  simp only [go_sem, Nat.reduceAdd, Nat.reduceSub, Nat.reduceMul, Nat.reduceLeDiff, Nat.reduceEqDiff, Nat.reduceBEq, fo_eq, Fo.kind, Fo.l, Fo.r, Fo.names, Fo.parts, List.length_map]
  refine EvK.split (EvK.upto 1000 ?_)
  simp only [go_sem, Nat.reduceAdd, Nat.reduceSub, Nat.reduceMul, Nat.reduceLeDiff, Nat.reduceEqDiff, Nat.reduceBEq, List.length_map]
  refine EvK.split (EvK.upto 1000 ?_)
  simp only [go_sem, Nat.reduceAdd, Nat.reduceSub, Nat.reduceMul, Nat.reduceLeDiff, Nat.reduceEqDiff, Nat.reduceBEq, List.length_map]
  refine EvK.split ?_
  refine EvK.mid 1000 (mkT 74 [(1, .ptr 0 0), (3, .int .i64 ps.length), (4, .bool X)]) [some (.var [.int .i64 k, .bool l.var, .str l.name, .ps 3 (l.args.map Wd.toA), .bool r.var, .str r.name, .ps 3 (r.args.map Wd.toA), .ps 1 (strs nm), .ps 9 (ps.map Fo.toA)])] ?_ ?_ ?_
  · exact Nat.zero_le _
  · rw [← hX]
    by_cases k0 : k = 0
    · by_cases c1 : (ps.length : Int) = 0
      · cases c2 : l.var with
        | true =>
          simp only [go_sem, Nat.reduceAdd, Nat.reduceSub, Nat.reduceMul, Nat.reduceLeDiff, Nat.reduceEqDiff, Nat.reduceBEq, Bool.false_and, Bool.true_and, Bool.and_true, Bool.not_true, Bool.not_false, List.length_map, wds_low, strs_low, fos_low, Int.reduceEq, or_true, true_or, false_or, or_false, k0, c1, c2]
          decide
        | false =>
          simp only [go_sem, Nat.reduceAdd, Nat.reduceSub, Nat.reduceMul, Nat.reduceLeDiff, Nat.reduceEqDiff, Nat.reduceBEq, k0, c1, c2, Nat.le_refl]
          rw [← c2, ← wd_eq]
          refine VCall.isoT [] (Plain_eq l (by omega)) (pTL_refl _ _ _) (by simp [go_sem, wd_low]) ?_; simp only [flatR, flatA, flatC, if_true]; refine EvK.go 1000 ?_
          simp only [go_sem, Nat.reduceAdd, Nat.reduceSub, Nat.reduceMul, Nat.reduceLeDiff, Nat.reduceEqDiff, Nat.reduceBEq, Bool.false_and, Bool.true_and, Bool.and_true, Bool.not_true, Bool.not_false, List.length_map, wds_low, strs_low, fos_low, Int.reduceEq, or_true, true_or, false_or, or_false, c1, c2]
          decide
      · simp only [go_sem, Nat.reduceAdd, Nat.reduceSub, Nat.reduceMul, Nat.reduceLeDiff, Nat.reduceEqDiff, Nat.reduceBEq, Bool.false_and, Bool.true_and, Bool.and_true, Bool.not_true, Bool.not_false, List.length_map, wds_low, strs_low, fos_low, Int.reduceEq, or_true, true_or, false_or, or_false, k0, c1]
        decide
    by_cases k1 : k = 1
    · by_cases c1 : (ps.length : Int) = 0
      · simp only [go_sem, Nat.reduceAdd, Nat.reduceSub, Nat.reduceMul, Nat.reduceLeDiff, Nat.reduceEqDiff, Nat.reduceBEq, k0, k1, c1, Nat.le_refl, Int.reduceEq]
        rw [← wd_eq]
        refine VCall.isoT [] (Plain_eq l (by omega)) (pTL_refl _ _ _) (by simp [go_sem, wd_low]) ?_; simp only [flatR, flatA, flatC, if_true]; refine EvK.go 1000 ?_
        cases c2 : l.ok with
        | true =>
          simp only [go_sem, Nat.reduceAdd, Nat.reduceSub, Nat.reduceMul, Nat.reduceLeDiff, Nat.reduceEqDiff, Nat.reduceBEq, k0, k1, c1, Nat.le_refl, Int.reduceEq]
          rw [← wd_eq]
          refine VCall.isoT [] (Plain_eq r (by omega)) (pTL_refl _ _ _) (by simp [go_sem, wd_low]) ?_; simp only [flatR, flatA, flatC, if_true]; refine EvK.go 1000 ?_
          simp only [go_sem, Nat.reduceAdd, Nat.reduceSub, Nat.reduceMul, Nat.reduceLeDiff, Nat.reduceEqDiff, Nat.reduceBEq, Bool.false_and, Bool.true_and, Bool.and_true, Bool.not_true, Bool.not_false, List.length_map, wds_low, strs_low, fos_low, Int.reduceEq, or_true, true_or, false_or, or_false, c1, c2]
          decide
        | false =>
          simp only [go_sem, Nat.reduceAdd, Nat.reduceSub, Nat.reduceMul, Nat.reduceLeDiff, Nat.reduceEqDiff, Nat.reduceBEq, Bool.false_and, Bool.true_and, Bool.and_true, Bool.not_true, Bool.not_false, List.length_map, wds_low, strs_low, fos_low, Int.reduceEq, or_true, true_or, false_or, or_false, c1, c2]
          decide
      · simp only [go_sem, Nat.reduceAdd, Nat.reduceSub, Nat.reduceMul, Nat.reduceLeDiff, Nat.reduceEqDiff, Nat.reduceBEq, Bool.false_and, Bool.true_and, Bool.and_true, Bool.not_true, Bool.not_false, List.length_map, wds_low, strs_low, fos_low, Int.reduceEq, or_true, true_or, false_or, or_false, k0, k1, c1]
        decide
    by_cases k9 : k = 9
    · simp only [go_sem, Nat.reduceAdd, Nat.reduceSub, Nat.reduceMul, Nat.reduceLeDiff, Nat.reduceEqDiff, Nat.reduceBEq, Bool.false_and, Bool.true_and, Bool.and_true, Bool.not_true, Bool.not_false, List.length_map, wds_low, strs_low, fos_low, Int.reduceEq, or_true, true_or, false_or, or_false, k9]
      decide
    by_cases k10 : k = 10
    · simp only [go_sem, Nat.reduceAdd, Nat.reduceSub, Nat.reduceMul, Nat.reduceLeDiff, Nat.reduceEqDiff, Nat.reduceBEq, Bool.false_and, Bool.true_and, Bool.and_true, Bool.not_true, Bool.not_false, List.length_map, wds_low, strs_low, fos_low, Int.reduceEq, or_true, true_or, false_or, or_false, k10]
      decide
    by_cases k2 : k = 2
    · simp only [go_sem, Nat.reduceAdd, Nat.reduceSub, Nat.reduceMul, Nat.reduceLeDiff, Nat.reduceEqDiff, Nat.reduceBEq, Bool.false_and, Bool.true_and, Bool.and_true, Bool.not_true, Bool.not_false, List.length_map, wds_low, strs_low, fos_low, Int.reduceEq, or_true, true_or, false_or, or_false, k2]
      decide
    by_cases k7 : k = 7
    · simp only [go_sem, Nat.reduceAdd, Nat.reduceSub, Nat.reduceMul, Nat.reduceLeDiff, Nat.reduceEqDiff, Nat.reduceBEq, Bool.false_and, Bool.true_and, Bool.and_true, Bool.not_true, Bool.not_false, List.length_map, wds_low, strs_low, fos_low, Int.reduceEq, or_true, true_or, false_or, or_false, k7]
      decide
    by_cases k8 : k = 8
    · simp only [go_sem, Nat.reduceAdd, Nat.reduceSub, Nat.reduceMul, Nat.reduceLeDiff, Nat.reduceEqDiff, Nat.reduceBEq, Bool.false_and, Bool.true_and, Bool.and_true, Bool.not_true, Bool.not_false, List.length_map, wds_low, strs_low, fos_low, Int.reduceEq, or_true, true_or, false_or, or_false, k8]
      decide
    by_cases k5 : k = 5
    · simp only [go_sem, Nat.reduceAdd, Nat.reduceSub, Nat.reduceMul, Nat.reduceLeDiff, Nat.reduceEqDiff, Nat.reduceBEq, Bool.false_and, Bool.true_and, Bool.and_true, Bool.not_true, Bool.not_false, List.length_map, wds_low, strs_low, fos_low, Int.reduceEq, or_true, true_or, false_or, or_false, k5]
      decide
    by_cases k6 : k = 6
    · simp only [go_sem, Nat.reduceAdd, Nat.reduceSub, Nat.reduceMul, Nat.reduceLeDiff, Nat.reduceEqDiff, Nat.reduceBEq, Bool.false_and, Bool.true_and, Bool.and_true, Bool.not_true, Bool.not_false, List.length_map, wds_low, strs_low, fos_low, Int.reduceEq, or_true, true_or, false_or, or_false, k6]
      decide
    by_cases k3 : k = 3
    · simp only [go_sem, Nat.reduceAdd, Nat.reduceSub, Nat.reduceMul, Nat.reduceLeDiff, Nat.reduceEqDiff, Nat.reduceBEq, Bool.false_and, Bool.true_and, Bool.and_true, Bool.not_true, Bool.not_false, List.length_map, wds_low, strs_low, fos_low, Int.reduceEq, or_true, true_or, false_or, or_false, k3]
      decide
    by_cases k4 : k = 4
    · simp only [go_sem, Nat.reduceAdd, Nat.reduceSub, Nat.reduceMul, Nat.reduceLeDiff, Nat.reduceEqDiff, Nat.reduceBEq, Bool.false_and, Bool.true_and, Bool.and_true, Bool.not_true, Bool.not_false, List.length_map, wds_low, strs_low, fos_low, Int.reduceEq, or_true, true_or, false_or, or_false, k4]
      decide
    · simp only [go_sem, Nat.reduceAdd, Nat.reduceSub, Nat.reduceMul, Nat.reduceLeDiff, Nat.reduceEqDiff, Nat.reduceBEq, Bool.false_and, Bool.true_and, Bool.and_true, Bool.not_true, Bool.not_false, List.length_map, wds_low, strs_low, fos_low, Int.reduceEq, or_true, true_or, false_or, or_false, k0, k1, k2, k3, k4, k5, k6, k7, k8, k9, k10]
      decide
  clear hX hr0
  refine EvK.go 1000 ?_
  simp only [go_sem, Nat.reduceAdd, Nat.reduceSub, Nat.reduceMul, Nat.reduceLeDiff, Nat.reduceEqDiff, Nat.reduceBEq]
  refine EvK.loopI (ι := {p : Nat × Bool // p.1 ≤ ps.length ∧ (p.2 && Fo.rights (ps.drop p.1)) = Fo.right (.mk k l r nm ps)}) 1000 (fun p => mkT 74 [(1, .ptr 0 0), (3, .int .i64 ps.length), (4, .bool p.1.2), (5, .int .i64 p.1.1)]) (fun _ => [some (.var [.int .i64 k, .bool l.var, .str l.name, .ps 3 (l.args.map Wd.toA), .bool r.var, .str r.name, .ps 3 (r.args.map Wd.toA), .ps 1 (strs nm), .ps 9 (ps.map Fo.toA)])]) (fun p => ps.length - p.1.1) ⟨(0, X), Nat.zero_le _, by simp only [List.drop_zero]; rw [hr1]⟩ ?_ (fun _ => by simp) ?_
  · simp only [go_sem, Nat.reduceAdd, Nat.reduceSub, Nat.reduceMul, Nat.reduceLeDiff, Nat.reduceEqDiff, Nat.reduceBEq, wds_low, strs_low, fos_low, Int.natCast_zero]
    decide
  · rintro ⟨⟨i, b⟩, hi, h3⟩
    simp only at hi h3
    by_cases hlt : (i : Int) < ps.length
    · have hlt' : i < ps.length := by omega
      have hz := fsize_le ps i hlt'
      rw [List.drop_eq_getElem_cons hlt', Fo.rights] at h3
      cases b with
      | true =>
        simp only [go_sem, Nat.reduceAdd, Nat.reduceSub, Nat.reduceMul, Nat.reduceLeDiff, Nat.reduceEqDiff, Nat.reduceBEq, hlt, List.length_map, Int.toNat_natCast, map_getD hlt', fo_cells, Nat.le_refl]
        rw [← fo_eq]
        (repeat ((with_reducible refine And.intro ?_ ?_); · omega))
        refine VCall.isoT [] (ih i hlt' (by omega)) (pTL_refl _ _ _) (by simp [go_sem, fo_low]) ?_; simp only [flatR, flatA, flatC, if_true]; refine EvK.go 1000 ?_
        simp only [go_sem, Nat.reduceAdd, Nat.reduceSub, Nat.reduceMul, Nat.reduceLeDiff, Nat.reduceEqDiff, Nat.reduceBEq]
        refine ⟨⟨(i + 1, ps[i].right), hlt', h3⟩, ?_, by simp only; omega⟩
        simp only [go_sem, Nat.reduceAdd, Nat.reduceSub, Nat.reduceMul, Nat.reduceLeDiff, Nat.reduceEqDiff, Nat.reduceBEq, wds_low, strs_low, fos_low]
        rw [i64_id (by omega)]
        simp
      | false =>
        rw [Bool.false_and] at h3
        simp only [go_sem, Nat.reduceAdd, Nat.reduceSub, Nat.reduceMul, Nat.reduceLeDiff, Nat.reduceEqDiff, Nat.reduceBEq, hlt]
        refine EvK.go 1000 ?_
        rw [← h3]
        simp only [go_sem, Nat.reduceAdd, Nat.reduceSub, Nat.reduceMul, Nat.reduceLeDiff, Nat.reduceEqDiff, Nat.reduceBEq]
    · have : i = ps.length := by omega
      rw [this, List.drop_length, Fo.rights, Bool.and_true] at h3
      simp only [go_sem, Nat.reduceAdd, Nat.reduceSub, Nat.reduceMul, Nat.reduceLeDiff, Nat.reduceEqDiff, Nat.reduceBEq, hlt]
      refine EvK.go 1000 ?_
      rw [← h3]
      simp only [go_sem, Nat.reduceAdd, Nat.reduceSub, Nat.reduceMul, Nat.reduceLeDiff, Nat.reduceEqDiff, Nat.reduceBEq]

theorem CheckR_eq (f : Fo) (hsz : f.size ≤ 5000) : CallEq Try.prog 50 [f.toA] (.int .i64 (if f.right then 0 else 4)) := by
  refine CallEq.begin (rs := [.tmp 2]) (m := 8) 1000 Try.func50 rfl rfl rfl (by decide) trivial ?_
  simp only [go_sem, Nat.reduceAdd, Nat.reduceSub, Nat.reduceMul, Nat.reduceLeDiff, Nat.reduceEqDiff, Nat.reduceBEq, fo_eq, Nat.le_refl]
  rw [← fo_eq]
  refine VCall.isoT [] (SizeR_eq f 5000 (by omega) (by decide)) (pTL_refl _ _ _) (by simp [go_sem, fo_low]) ?_; simp only [flatR, flatA, flatC, if_true]; refine EvK.go 1000 ?_
  have h1 := sz_le f
  have c1 : ¬ 5000 < f.sz := by omega
  simp only [go_sem, Nat.reduceAdd, Nat.reduceSub, Nat.reduceMul, Nat.reduceLeDiff, Nat.reduceEqDiff, Nat.reduceBEq, c1, Nat.le_refl]
  rw [← fo_eq]
  refine VCall.isoT [] (RightR_eq f (by omega)) (pTL_refl _ _ _) (by simp [go_sem, fo_low]) ?_; simp only [flatR, flatA, flatC, if_true]; refine EvK.go 1000 ?_
  cases f.right <;> simp only [go_sem, Nat.reduceAdd, Nat.reduceSub, Nat.reduceMul, Nat.reduceLeDiff, Nat.reduceEqDiff, Nat.reduceBEq, Bool.false_eq_true, if_true, if_false]

theorem BoundR_eq (f : Fo) : f.size < 2 ^ 62 → CallEq Try.prog 51 [f.toA] (.int .i64 f.bound) := by
  induction f using Fo.rec_parts with
  | h k l r nm ps ih =>
  intro hsz
  simp only [Fo.size] at hsz
  have hlen := flen_le ps
  refine CallEq.begin (rs := [.tmp 2]) (m := 33) 1000 Try.func51 rfl rfl rfl (by decide) trivial ?_
  have hb : Fo.bound (.mk k l r nm ps) = if k = 7 ∨ k = 8 then IntKind.i64.wrap (Fo.bounds ps 0 + nm.length) else Fo.bounds ps 0 := rfl
  rw [hb]
  simp only [go_sem, Nat.reduceAdd, Nat.reduceSub, Nat.reduceMul, Nat.reduceLeDiff, Nat.reduceEqDiff, Nat.reduceBEq, fo_eq, Fo.kind, Fo.l, Fo.r, Fo.names, Fo.parts, List.length_map]
  refine EvK.loopI (ι := {i : Nat // i ≤ ps.length}) 1000 (fun i => mkT 34 [(1, .ptr 0 0), (3, .int .i64 (Fo.bounds (ps.take i.1) 0)), (4, .int .i64 i.1)]) (fun _ => [some (.var [.int .i64 k, .bool l.var, .str l.name, .ps 3 (l.args.map Wd.toA), .bool r.var, .str r.name, .ps 3 (r.args.map Wd.toA), .ps 1 (strs nm), .ps 9 (ps.map Fo.toA)])]) (fun i => ps.length - i.1) ⟨0, by omega⟩ ?_ (fun _ => Nat.zero_le _) ?_
  · simp only [go_sem, Nat.reduceAdd, Nat.reduceSub, Nat.reduceMul, Nat.reduceLeDiff, Nat.reduceEqDiff, Nat.reduceBEq, wds_low, strs_low, fos_low, List.take_zero, Fo.bounds, Int.natCast_zero]
    decide
  · rintro ⟨i, hi⟩
    by_cases hlt : (i : Int) < ps.length
    · have hlt' : i < ps.length := by omega
      have hsn := bounds_snoc ps i hlt' 0
      have hpz := fsize_le ps i hlt'
      generalize Fo.bounds (ps.take i) 0 = b at *
      simp only [go_sem, Nat.reduceAdd, Nat.reduceSub, Nat.reduceMul, Nat.reduceLeDiff, Nat.reduceEqDiff, Nat.reduceBEq, hlt, List.length_map, Int.toNat_natCast, map_getD hlt', fo_cells, Nat.le_refl]
      rw [← fo_eq]
      (repeat ((with_reducible refine And.intro ?_ ?_); · omega))
      refine VCall.isoT [] (ih i hlt' (by omega)) (pTL_refl _ _ _) (by simp [go_sem, fo_low]) ?_; simp only [flatR, flatA, flatC, if_true]; refine EvK.go 1000 ?_
      simp only [go_sem, Nat.reduceAdd, Nat.reduceSub, Nat.reduceMul, Nat.reduceLeDiff, Nat.reduceEqDiff, Nat.reduceBEq]
      refine ⟨⟨i + 1, hlt'⟩, ?_, by simp only; omega⟩
      simp only [go_sem, Nat.reduceAdd, Nat.reduceSub, Nat.reduceMul, Nat.reduceLeDiff, Nat.reduceEqDiff, Nat.reduceBEq, wds_low, strs_low, fos_low, hsn]
      rw [i64_id (by omega)]
      exact ⟨⟨by rw [show (if b < ps[i].bound then ps[i].bound else b) = max b ps[i].bound by omega], rfl⟩, by decide⟩
    · have hie : i = ps.length := by omega
      subst hie
      simp only [go_sem, Nat.reduceAdd, Nat.reduceSub, Nat.reduceMul, Nat.reduceLeDiff, Nat.reduceEqDiff, Nat.reduceBEq, hlt, List.take_length, List.length_map]
      refine EvK.go 1000 ?_
      by_cases k7 : k = 7
      · simp only [go_sem, Nat.reduceAdd, Nat.reduceSub, Nat.reduceMul, Nat.reduceLeDiff, Nat.reduceEqDiff, Nat.reduceBEq, k7, strs_len, true_or]
      by_cases k8 : k = 8
      · simp only [go_sem, Nat.reduceAdd, Nat.reduceSub, Nat.reduceMul, Nat.reduceLeDiff, Nat.reduceEqDiff, Nat.reduceBEq, k7, k8, strs_len, or_true, Int.reduceEq]
      · simp only [go_sem, Nat.reduceAdd, Nat.reduceSub, Nat.reduceMul, Nat.reduceLeDiff, Nat.reduceEqDiff, Nat.reduceBEq, k7, k8, or_false]
end Go.Proofs

/- The document's functions over formulas in worlds. -/
namespace Go.Proofs
open Go Go.Abs

theorem Find_eq (g : List Sy) (hg : g.length < 1000000000) (x : ByteArray) : CallEq Try.prog 80 [.ps 4 (syms g), .str x] (.tup [.int .i64 ((posS (names g) x).getD 0 : Nat), .bool (posS (names g) x).isSome]) := by
  refine CallEq.begin (rs := [.tmp 4, .tmp 5]) (m := 19) 1000 Try.func80 rfl rfl rfl (by decide) (by simp [go_sem]) ?_
  simp only [go_sem, Nat.reduceAdd, Nat.reduceSub, Nat.reduceMul, Nat.reduceLeDiff, Nat.reduceEqDiff, Nat.reduceBEq]
  refine EvK.loopI (ι := {i : Nat // i ≤ g.length ∧ findK (.str x) (strs (names (g.drop i))) i = posS (names g) x}) 1000 (fun i => mkT 21 [(0, .ps 4 (syms g)), (1, .str x), (4, .int .i64 0), (5, .bool false), (6, .int .i64 i.1)]) (fun _ => []) (fun i => g.length - i.1) ⟨0, Nat.zero_le _, rfl⟩ ?_ (fun _ => by simp) ?_
  · simp only [go_sem, Nat.reduceAdd, Nat.reduceSub, Nat.reduceMul, Nat.reduceLeDiff, Nat.reduceEqDiff, Nat.reduceBEq, syms_low, Int.natCast_zero]
  · rintro ⟨i, hi, h3⟩
    by_cases hlt : (i : Int) < g.length
    · have hlt' : i < g.length := by omega
      rw [List.drop_eq_getElem_cons hlt', show strs (names (g[i] :: g.drop (i + 1))) = .str g[i].name :: strs (names (g.drop (i + 1))) from rfl, findK, show eqCell (.str x) (.str g[i].name) = (x.toList == g[i].name.toList) from rfl] at h3
      simp only [go_sem, Nat.reduceAdd, Nat.reduceSub, Nat.reduceMul, Nat.reduceLeDiff, Nat.reduceEqDiff, Nat.reduceBEq, syms_len, hlt, Int.toNat_natCast, syms_get hlt', sy_cells, Nat.le_refl]
      (repeat ((with_reducible refine And.intro ?_ ?_); · omega))
      cases he : (g[i].name.toList == x.toList) with
      | true =>
        have he' : (x.toList == g[i].name.toList) = true := by rw [beq_iff_eq] at he ⊢; exact he.symm
        rw [he', if_pos rfl] at h3
        rw [← h3]
        simp only [go_sem, Nat.reduceAdd, Nat.reduceSub, Nat.reduceMul, Nat.reduceLeDiff, Nat.reduceEqDiff, Nat.reduceBEq]
        refine EvK.go 1000 ?_
        simp only [go_sem, Nat.reduceAdd, Nat.reduceSub, Nat.reduceMul, Nat.reduceLeDiff, Nat.reduceEqDiff, Nat.reduceBEq, Option.getD_some, Option.isSome_some]
      | false =>
        have he' : (x.toList == g[i].name.toList) = false := by rw [beq_eq_false_iff_ne] at he ⊢; exact fun h => he h.symm
        rw [he', if_neg (by decide)] at h3
        simp only [go_sem, Nat.reduceAdd, Nat.reduceSub, Nat.reduceMul, Nat.reduceLeDiff, Nat.reduceEqDiff, Nat.reduceBEq]
        refine ⟨⟨i + 1, hlt', h3⟩, ?_, by simp only; omega⟩
        simp only [go_sem, Nat.reduceAdd, Nat.reduceSub, Nat.reduceMul, Nat.reduceLeDiff, Nat.reduceEqDiff, Nat.reduceBEq, syms_low]
        rw [i64_id (by omega)]
        simp
    · have : i = g.length := by omega
      rw [this, List.drop_length, show strs (names ([] : List Sy)) = [] from rfl, findK] at h3
      simp only [go_sem, Nat.reduceAdd, Nat.reduceSub, Nat.reduceMul, Nat.reduceLeDiff, Nat.reduceEqDiff, Nat.reduceBEq, syms_len, hlt]
      refine EvK.go 1000 ?_
      rw [← h3]
      simp only [go_sem, Nat.reduceAdd, Nat.reduceSub, Nat.reduceMul, Nat.reduceLeDiff, Nat.reduceEqDiff, Nat.reduceBEq, Option.getD_none, Option.isSome_none, Int.natCast_zero]

def envA (ns : List ByteArray) (vs : List Int) : AVal := .agg [.ps 1 (strs ns), .ps 1 (ints vs)]
theorem env_low {n : Nat} (ns : List ByteArray) (vs : List Int) : (envA ns vs).low n := ⟨strs_low _, ints_low _, trivial⟩

theorem ok_strs (l : List ByteArray) : appOk ⟨1, false, 16, [.str ⟨#[]⟩], .str⟩ (strs l) = True := by
  refine eq_true ⟨fun x hx => ?_, by decide, by decide, rfl⟩
  obtain ⟨y, _, rfl⟩ := List.mem_map.1 hx
  exact ⟨rfl, rfl⟩
theorem ok_ints (l : List Int) : appOk ⟨1, false, 8, [.int .i64 0], .int .i64⟩ (ints l) = True := by
  refine eq_true ⟨fun x hx => ?_, by decide, by decide, rfl⟩
  obtain ⟨y, _, rfl⟩ := List.mem_map.1 hx
  exact ⟨rfl, rfl⟩
theorem With_eq (ns : List ByteArray) (vs : List Int) (hl : vs.length = ns.length) (hn : ns.length < 1000000) (x : ByteArray) (v : Int) : CallEq Try.prog 104 [envA ns vs, .str x, .int .i64 v] (envA (ns ++ [x]) (vs ++ [v])) := by
  refine CallEq.begin (rs := [.cell 6 95]) (m := 30) 1000 Try.func104 rfl rfl rfl (by decide) (env_low _ _) ?_
  have ks : ∀ y : ByteArray, appOk ⟨1, false, 16, [.str ⟨#[]⟩], .str⟩ [.str y] = True := fun y => ok_strs [y]
  have ki : ∀ y : Int, appOk ⟨1, false, 8, [.int .i64 0], .int .i64⟩ [.int .i64 y] = True := fun y => ok_ints [y]
  rcases ns with _ | ⟨n0, ns⟩
  · rcases vs with _ | ⟨v0, vs⟩
    · have k0 := ok_strs []
      have k1 := ok_ints []
      simp only [strs, ints, List.map_nil] at k0 k1
      simp only [go_sem, Nat.reduceAdd, Nat.reduceSub, Nat.reduceMul, Nat.reduceLeDiff, Nat.reduceEqDiff, Nat.reduceBEq, envA, strs, ints, List.map_nil, List.map_cons, Nat.le_refl, app_nils, app_os, appRow_some, ks, ki, k0, k1]
      decide
    · simp at hl
  · rcases vs with _ | ⟨v0, vs⟩
    · simp at hl
    · have e1 : strs (n0 :: (ns ++ [x])) = strs (n0 :: ns) ++ [.str x] := by simp [strs]
      have e2 : ints (v0 :: (vs ++ [v])) = ints (v0 :: vs) ++ [.int .i64 v] := by simp [ints]
      have hls : (strs (n0 :: ns)).length = ns.length + 1 := by simp [strs]
      have hli : (ints (v0 :: vs)).length = ns.length + 1 := by simp [ints]; simpa using hl
      have hn' : ns.length + 1 < 1000000 := by simpa using hn
      have ne : ¬ ns.length + 1 = 0 := by omega
      have nl : ns.length + 1 ≤ 1000000000 := by omega
      have nl2 : ns.length + 1 + 1 ≤ 1000000000 := by omega
      have k0 := ok_strs (n0 :: ns)
      have k1 := ok_ints (v0 :: vs)
      simp only [go_sem, Nat.reduceAdd, Nat.reduceSub, Nat.reduceMul, Nat.reduceLeDiff, Nat.reduceEqDiff, Nat.reduceBEq, envA, e1, e2]
      generalize strs (n0 :: ns) = sn at *
      generalize ints (v0 :: vs) = sv at *
      simp only [go_sem, Nat.reduceAdd, Nat.reduceSub, Nat.reduceMul, Nat.reduceLeDiff, Nat.reduceEqDiff, Nat.reduceBEq, k0, k1, ks, ki, hls, hli, ne, nl, nl2]
      rw [show List.take (ns.length + 1) sn = sn from List.take_of_length_le (by omega), show List.take (ns.length + 1) sv = sv from List.take_of_length_le (by omega), show List.take (ns.length + 1 + 1) (sn ++ [.str x]) = sn ++ [.str x] from List.take_of_length_le (by simp; omega), show List.take (ns.length + 1 + 1) (sv ++ [.int .i64 v]) = sv ++ [.int .i64 v] from List.take_of_length_le (by simp; omega)]
      exact ⟨by decide, Nat.le_refl _, by decide, Nat.le_refl _, ⟨by simp; omega, pTL_refl _ _ _⟩, by simp; omega, pTL_refl _ _ _⟩

/-! ### words -/
section
variable {g : List Sy} {w : Wo} {ns : List ByteArray} {vs : List Int}
theorem iws_snoc : ∀ (l : List Wd) (i : Nat) (hi : i < l.length) (n n1 : Int), Wd.iws g w ns vs (l.take i) n = some n1 → Wd.iws g w ns vs (l.take (i + 1)) n = if ((l[i].iw g w ns vs).2 && l[i].sort g false) = true then some (n1 * w.size + (l[i].iw g w ns vs).1) else none
  | y :: l, 0, _, n, n1, h => by
    simp only [List.take_zero, Wd.iws, Option.some.injEq] at h
    subst h
    simp only [Nat.zero_add, List.take_succ_cons, List.take_zero, Wd.iws, List.getElem_cons_zero]
  | y :: l, i + 1, hi, n, n1, h => by
    simp only [List.take_succ_cons, Wd.iws] at h ⊢
    split at h
    · rename_i hc
      rw [if_pos hc]
      simp only [List.getElem_cons_succ]
      exact iws_snoc l i (by simpa using hi) _ _ h
    · cases h
theorem iws_small (hw : worldOk g w = true) (hl : vs.length = ns.length) (hv : ∀ v ∈ vs, 0 ≤ v ∧ v < w.size) {l : List Wd} (h4 : l.length ≤ 4) {i : Nat} {m : Int} (h : Wd.iws g w ns vs (l.take i) 0 = some m) : 0 ≤ m ∧ m < w.size ^ (l.take i).length ∧ m < 256 := by
  have hE := okN_puts ns vs (okN_nil w.size) hv
  have hs := sameN_puts ns vs ([], []) [] [] hl rfl sameN_nil
  rw [List.nil_append, List.nil_append] at hs
  have e := (iws_rds (g := g) (w := w) hs (l.take i) 0 false).2 m h
  have h1 := rds_range (g := g) (ns := (putsN ([], []) ns vs).1) hw hE.2 (l.take i) (0, false) (Int.le_refl 0)
  have h2 := rds_small (g := g) (ns := (putsN ([], []) ns vs).1) hw hE.2 h4 i
  rw [e] at h1 h2
  simp only [Int.zero_add, Int.one_mul] at h1
  exact ⟨h1.1, h1.2, h2.2⟩
theorem iw_range (hw : worldOk g w = true) (hl : vs.length = ns.length) (hv : ∀ v ∈ vs, 0 ≤ v ∧ v < w.size) {y : Wd} (h : ((y.iw g w ns vs).2 && y.sort g false) = true) : 0 ≤ (y.iw g w ns vs).1 ∧ (y.iw g w ns vs).1 < w.size := by
  have hE := okN_puts ns vs (okN_nil w.size) hv
  have hs := sameN_puts ns vs ([], []) [] [] hl rfl sameN_nil
  rw [List.nil_append, List.nil_append] at hs
  obtain ⟨a, b⟩ := iw_rd (g := g) (w := w) hs y false
  rw [h] at a
  rw [b (by rw [a]; rfl)]
  exact rd_range hw hE.2 y
/-- What is found of a word that is one. -/
theorem iw_found {y : Wd} (h : (y.iw g w ns vs).2 = true) (hv : y.var = false) : ∃ k, posS (names g) y.name = some k ∧ k < g.length ∧ ∀ t, y.sort g t = ((g.getD k Sy.dflt).truth == t) := by
  cases y with
  | mk v x l =>
    simp only [Wd.var] at hv
    subst hv
    simp only [Wd.iw, Bool.false_eq_true, if_false] at h
    cases hp : posS (names g) x with
    | none => rw [hp] at h; cases h
    | some k =>
      have := posS_lt hp
      rw [names_len] at this
      exact ⟨k, hp, this, fun t => by simp only [Wd.sort, Bool.false_eq_true, if_false, hp]⟩
theorem sort_var {y : Wd} (h : y.var = true) (t : Bool) : y.sort g t = !t := by
  cases y with
  | mk v x l => simp only [Wd.var] at h; subst h; simp only [Wd.sort, if_true]
end

theorem InW_eq (g : List Sy) (hg : g.length < 1000000000) (w : Wo) (hw : worldOk g w = true) (ns : List ByteArray) (vs : List Int) (hl : vs.length = ns.length) (hn : ns.length < 1000000) (hv : ∀ v ∈ vs, 0 ≤ v ∧ v < w.size) (y : Wd) : y.size < 1000000000 →
    CallEq Try.prog 79 [.ps 4 (syms g), w.toA, envA ns vs, y.toA] (.tup [.int .i64 (y.iw g w ns vs).1, .bool (y.iw g w ns vs).2]) := by
  obtain ⟨q1, q2, q3, q4, q5, q6⟩ := worldOk_size hw
  induction y using Wd.rec_args with
  | h v x l ih =>
  intro hsz
  simp only [Wd.size] at hsz
  have hlen := wlen_le l
  refine CallEq.begin (rs := [.tmp 8, .tmp 9]) (m := 116) 1000 Try.func79 rfl rfl rfl (by decide) (by simp [go_sem]) ?_
  simp only [go_sem, Nat.reduceAdd, Nat.reduceSub, Nat.reduceMul, Nat.reduceLeDiff, Nat.reduceEqDiff, Nat.reduceBEq, wo_eq, wd_eq, Wd.var, Wd.name, Wd.args, envA]
  cases v with
  | true =>
    have e1 : ∀ a, lastS ns vs x ns.length = some a → Wd.iw g w ns vs (.mk true x l) = (a, true) := fun a h => by simp only [Wd.iw, if_true, h]
    have e2 : lastS ns vs x ns.length = none → Wd.iw g w ns vs (.mk true x l) = (0, false) := fun h => by simp only [Wd.iw, if_true, h]
    simp only [go_sem, Nat.reduceAdd, Nat.reduceSub, Nat.reduceMul, Nat.reduceLeDiff, Nat.reduceEqDiff, Nat.reduceBEq, strs_len]
    rw [i64_id (by omega)]
    refine EvK.loopI (ι := {i : Nat // i ≤ ns.length ∧ lastS ns vs x i = lastS ns vs x ns.length}) 1000 (fun i => mkT 120 [(0, .ps 4 (syms g)), (5, .ptr 0 0), (6, .ptr 1 0), (7, .ptr 2 0), (8, .int .i64 0), (9, .bool false), (10, .int .i64 (i.1 - 1))]) (fun _ => [some (.var [.int .i64 w.size, .ps 1 (rowsA w.rows)]), some (.var [.ps 1 (strs ns), .ps 1 (ints vs)]), some (.var [.bool true, .str x, .ps 3 (l.map Wd.toA)])]) (fun i => i.1) ⟨ns.length, Nat.le_refl _, rfl⟩ ?_ (fun _ => Nat.zero_le _) ?_
    · simp only [go_sem, Nat.reduceAdd, Nat.reduceSub, Nat.reduceMul, Nat.reduceLeDiff, Nat.reduceEqDiff, Nat.reduceBEq, syms_low, wds_low, strs_low, ints_low, rowsA_low]
      decide
    · rintro ⟨i, hi, h3⟩
      rcases i with _ | j
      · have hm : ((0 : Nat) : Int) - 1 = -1 := rfl
        simp only [go_sem, Nat.reduceAdd, Nat.reduceSub, Nat.reduceMul, Nat.reduceLeDiff, Nat.reduceEqDiff, Nat.reduceBEq, hm, Int.reduceLE]
        refine EvK.go 1000 ?_
        rw [e2 h3.symm]
        simp only [go_sem, Nat.reduceAdd, Nat.reduceSub, Nat.reduceMul, Nat.reduceLeDiff, Nat.reduceEqDiff, Nat.reduceBEq]
      · have hm : ((j + 1 : Nat) : Int) - 1 = j := by omega
        have hj : j < ns.length := by omega
        have hjv : j < vs.length := by omega
        have hp : (0 : Int) ≤ j := by omega
        rw [lastS, show ns.getD j ByteArray.empty = ns[j] by simp [List.getD, hj], show vs.getD j 0 = vs[j] by simp [List.getD, hjv]] at h3
        simp only [go_sem, Nat.reduceAdd, Nat.reduceSub, Nat.reduceMul, Nat.reduceLeDiff, Nat.reduceEqDiff, Nat.reduceBEq, hm, hp]
        refine EvK.draw [] 3 3 mixed rfl rfl (Nat.le_refl _) ?_
        simp only [go_sem, Nat.reduceAdd, Nat.reduceSub, Nat.reduceMul, Nat.reduceLeDiff, Nat.reduceEqDiff, Nat.reduceBEq, padS, strs_len, Int.toNat_natCast, strs_get hj, Nat.le_refl]
        (repeat ((with_reducible refine And.intro ?_ ?_); · omega))
        refine EvK.go 1000 ?_
        cases he : (ns[j].toList == x.toList) with
        | true =>
          rw [he, if_pos rfl] at h3
          rw [e1 _ h3.symm]
          simp only [go_sem, Nat.reduceAdd, Nat.reduceSub, Nat.reduceMul, Nat.reduceLeDiff, Nat.reduceEqDiff, Nat.reduceBEq, ints_len, Int.toNat_natCast, ints_get hjv, Nat.le_refl]
          (repeat ((with_reducible refine And.intro ?_ ?_); · omega))
          refine EvK.go 1000 ?_
          simp only [go_sem, Nat.reduceAdd, Nat.reduceSub, Nat.reduceMul, Nat.reduceLeDiff, Nat.reduceEqDiff, Nat.reduceBEq]
        | false =>
          rw [he, if_neg (by decide)] at h3
          simp only [go_sem, Nat.reduceAdd, Nat.reduceSub, Nat.reduceMul, Nat.reduceLeDiff, Nat.reduceEqDiff, Nat.reduceBEq]
          refine ⟨⟨j, by omega, h3⟩, ?_, by simp only; omega⟩
          simp only [go_sem, Nat.reduceAdd, Nat.reduceSub, Nat.reduceMul, Nat.reduceLeDiff, Nat.reduceEqDiff, Nat.reduceBEq, syms_low, wds_low, strs_low, ints_low, rowsA_low]
          rw [i64_id (by omega)]
          simp
  | false =>
    have e0 : posS (names g) x = none → Wd.iw g w ns vs (.mk false x l) = (0, false) := fun h => by simp only [Wd.iw, Bool.false_eq_true, if_false, h]
    have e1 : ∀ k, posS (names g) x = some k → (g.getD k Sy.dflt).arity ≠ (l.length : Int) → Wd.iw g w ns vs (.mk false x l) = (0, false) := fun k h h2 => by simp only [Wd.iw, Bool.false_eq_true, if_false, h, if_pos h2]
    have e2 : ∀ k, posS (names g) x = some k → (g.getD k Sy.dflt).arity = (l.length : Int) → Wd.iws g w ns vs l 0 = none → Wd.iw g w ns vs (.mk false x l) = (0, false) := fun k h h2 h3 => by simp only [Wd.iw, Bool.false_eq_true, if_false, h, h3, h2, ne_eq, not_true_eq_false]
    have e3 : ∀ k, posS (names g) x = some k → (g.getD k Sy.dflt).arity = (l.length : Int) → ∀ n, Wd.iws g w ns vs l 0 = some n → Wd.iw g w ns vs (.mk false x l) = ((w.rows.getD k []).getD n.toNat 0, true) := fun k h h2 n h3 => by simp only [Wd.iw, Bool.false_eq_true, if_false, h, h3, h2, ne_eq, not_true_eq_false]
    simp only [go_sem, Nat.reduceAdd, Nat.reduceSub, Nat.reduceMul, Nat.reduceLeDiff, Nat.reduceEqDiff, Nat.reduceBEq]
    refine VCall.isoT [] (Find_eq g hg x) (pTL_refl _ _ _) (by simp [go_sem, syms_low]) ?_; rw [frzI_nil]; simp only [ite_self]; refine EvK.go 1000 ?_
    cases hp : posS (names g) x with
    | none =>
      rw [e0 hp]
      simp only [go_sem, Nat.reduceAdd, Nat.reduceSub, Nat.reduceMul, Nat.reduceLeDiff, Nat.reduceEqDiff, Nat.reduceBEq, Option.isSome_none]
      refine EvK.draw [] 3 3 mixed rfl rfl (Nat.le_refl _) ?_
      simp only [go_sem, Nat.reduceAdd, Nat.reduceSub, Nat.reduceMul, Nat.reduceLeDiff, Nat.reduceEqDiff, Nat.reduceBEq, padS]
      refine EvK.go 1000 ?_
      simp only [go_sem, Nat.reduceAdd, Nat.reduceSub, Nat.reduceMul, Nat.reduceLeDiff, Nat.reduceEqDiff, Nat.reduceBEq]
    | some k =>
      have hk := posS_lt hp
      rw [names_len] at hk
      obtain ⟨r1, r2, r3, r4, _⟩ := row_of hw hk
      specialize e1 k hp
      specialize e2 k hp
      specialize e3 k hp
      rw [getD_at hk] at e1 e2 e3
      have hcond : 0 ≤ (k : Int) ∧ (k : Int) < (g.length : Int) := by omega
      simp only [go_sem, Nat.reduceAdd, Nat.reduceSub, Nat.reduceMul, Nat.reduceLeDiff, Nat.reduceEqDiff, Nat.reduceBEq, Option.isSome_some, Option.getD_some]
      refine EvK.draw [] 3 3 mixed rfl rfl (Nat.le_refl _) ?_
      by_cases ca : g[k].arity = (l.length : Int)
      · simp only [go_sem, Nat.reduceAdd, Nat.reduceSub, Nat.reduceMul, Nat.reduceLeDiff, Nat.reduceEqDiff, Nat.reduceBEq, padS, syms_len, Int.toNat_natCast, syms_get hk, sy_cells, List.length_map, ca, hcond, Nat.le_refl]
        (repeat ((with_reducible refine And.intro ?_ ?_); · omega))
        refine EvK.go 1000 ?_
        simp only [go_sem, Nat.reduceAdd, Nat.reduceSub, Nat.reduceMul, Nat.reduceLeDiff, Nat.reduceEqDiff, Nat.reduceBEq]
        have h4 : l.length ≤ 4 := by omega
        refine EvK.loopI (ι := {p : Nat × Int // p.1 ≤ l.length ∧ Wd.iws g w ns vs (l.take p.1) 0 = some p.2 ∧ Wd.iws g w ns vs (l.drop p.1) p.2 = Wd.iws g w ns vs l 0}) 1000 (fun p => mkT 120 [(0, .ps 4 (syms g)), (5, .ptr 0 0), (6, .ptr 1 0), (7, .ptr 2 0), (8, .int .i64 0), (9, .bool false), (11, .int .i64 k), (13, .int .i64 p.1.2), (14, .int .i64 p.1.1)]) (fun _ => [some (.var [.int .i64 w.size, .ps 1 (rowsA w.rows)]), some (.var [.ps 1 (strs ns), .ps 1 (ints vs)]), some (.var [.bool false, .str x, .ps 3 (l.map Wd.toA)])]) (fun p => l.length - p.1.1) ⟨(0, 0), Nat.zero_le _, by simp [Wd.iws], rfl⟩ ?_ (fun _ => Nat.zero_le _) ?_
        · simp only [go_sem, Nat.reduceAdd, Nat.reduceSub, Nat.reduceMul, Nat.reduceLeDiff, Nat.reduceEqDiff, Nat.reduceBEq, syms_low, wds_low, strs_low, ints_low, rowsA_low, Int.natCast_zero]
          decide
        · rintro ⟨⟨i, n⟩, hi, h2, h3⟩
          simp only at hi h2 h3
          obtain ⟨n1, n2, n3⟩ := iws_small hw hl hv h4 h2
          by_cases hlt : (i : Int) < l.length
          · have hlt' : i < l.length := by omega
            have hz := wsize_le l i hlt'
            rw [List.drop_eq_getElem_cons hlt', Wd.iws] at h3
            have m1 : 0 ≤ n * w.size := Int.mul_nonneg n1 (by omega)
            have m2 : n * w.size ≤ n * 4 := Int.mul_le_mul_of_nonneg_left (by omega) n1
            simp only [go_sem, Nat.reduceAdd, Nat.reduceSub, Nat.reduceMul, Nat.reduceLeDiff, Nat.reduceEqDiff, Nat.reduceBEq, List.length_map, hlt]
            refine EvK.draw [] 3 3 mixed rfl rfl (Nat.le_refl _) ?_
            simp only [go_sem, Nat.reduceAdd, Nat.reduceSub, Nat.reduceMul, Nat.reduceLeDiff, Nat.reduceEqDiff, Nat.reduceBEq, padS, List.length_map, Int.toNat_natCast, map_getD hlt', wd_cells, Nat.le_refl]
            (repeat ((with_reducible refine And.intro ?_ ?_); · omega))
            rw [← wd_eq, ← wo_eq]
            refine draw_iso (ih i hlt' (by omega)) (pTL_refl _ _ _) (by simp [go_sem, syms_low, wo_low, env_low, wd_low]) ?_
            simp only [go_sem, Nat.reduceAdd, Nat.reduceSub, Nat.reduceMul, Nat.reduceLeDiff, Nat.reduceEqDiff, Nat.reduceBEq]
            refine EvK.go 1000 ?_
            cases hok : (l[i].iw g w ns vs).2 with
            | false =>
              rw [hok, Bool.false_and, if_neg (by decide)] at h3
              rw [e2 ca h3.symm]
              simp only [go_sem, Nat.reduceAdd, Nat.reduceSub, Nat.reduceMul, Nat.reduceLeDiff, Nat.reduceEqDiff, Nat.reduceBEq]
              refine EvK.go 1000 ?_
              simp only [go_sem, Nat.reduceAdd, Nat.reduceSub, Nat.reduceMul, Nat.reduceLeDiff, Nat.reduceEqDiff, Nat.reduceBEq]
            | true =>
              cases hvar : l[i].var with
              | true =>
                have hgood : ((l[i].iw g w ns vs).2 && l[i].sort g false) = true := by rw [hok, sort_var hvar]; rfl
                have hrg := iw_range hw hl hv hgood
                rw [if_pos hgood] at h3
                simp only [go_sem, Nat.reduceAdd, Nat.reduceSub, Nat.reduceMul, Nat.reduceLeDiff, Nat.reduceEqDiff, Nat.reduceBEq, List.length_map, Int.toNat_natCast, map_getD hlt', wd_cells, Nat.le_refl, hvar]
                (repeat ((with_reducible refine And.intro ?_ ?_); · omega))
                refine ⟨⟨(i + 1, n * w.size + (l[i].iw g w ns vs).1), hlt', by rw [iws_snoc l i hlt' 0 n h2, if_pos hgood], h3⟩, ?_, by simp only; omega⟩
                simp only [go_sem, Nat.reduceAdd, Nat.reduceSub, Nat.reduceMul, Nat.reduceLeDiff, Nat.reduceEqDiff, Nat.reduceBEq, syms_low, wds_low, strs_low, ints_low, rowsA_low]
                rw [i64_id (n := (i : Int) + 1) (by omega), i64_id (n := n * w.size) (by omega), i64_id (by omega)]
                simp
              | false =>
                obtain ⟨k2, hp2, hk2, hsort⟩ := iw_found hok hvar
                have hcond2 : 0 ≤ (k2 : Int) ∧ (k2 : Int) < (g.length : Int) := by omega
                have hs := hsort false
                rw [getD_at hk2] at hs
                simp only [go_sem, Nat.reduceAdd, Nat.reduceSub, Nat.reduceMul, Nat.reduceLeDiff, Nat.reduceEqDiff, Nat.reduceBEq, List.length_map, Int.toNat_natCast, map_getD hlt', wd_cells, Nat.le_refl, hvar]
                (repeat ((with_reducible refine And.intro ?_ ?_); · omega))
                refine VCall.isoT [] (Find_eq g hg l[i].name) (pTL_refl _ _ _) (by simp [go_sem, syms_low]) ?_; rw [frzI_nil]; simp only [ite_self]; refine EvK.go 1000 ?_
                rw [hp2]
                cases ht : g[k2].truth with
                | true =>
                  rw [ht] at hs
                  rw [hok, hs, if_neg (by decide)] at h3
                  rw [e2 ca h3.symm]
                  simp only [go_sem, Nat.reduceAdd, Nat.reduceSub, Nat.reduceMul, Nat.reduceLeDiff, Nat.reduceEqDiff, Nat.reduceBEq, Option.getD_some, hcond2, syms_len, Int.toNat_natCast, syms_get hk2, sy_cells, ht, Nat.le_refl]
                  (repeat ((with_reducible refine And.intro ?_ ?_); · omega))
                  refine EvK.go 1000 ?_
                  simp only [go_sem, Nat.reduceAdd, Nat.reduceSub, Nat.reduceMul, Nat.reduceLeDiff, Nat.reduceEqDiff, Nat.reduceBEq]
                | false =>
                  rw [ht] at hs
                  have hgood : ((l[i].iw g w ns vs).2 && l[i].sort g false) = true := by rw [hok, hs]; rfl
                  have hrg := iw_range hw hl hv hgood
                  rw [if_pos hgood] at h3
                  simp only [go_sem, Nat.reduceAdd, Nat.reduceSub, Nat.reduceMul, Nat.reduceLeDiff, Nat.reduceEqDiff, Nat.reduceBEq, Option.getD_some, hcond2, syms_len, Int.toNat_natCast, syms_get hk2, sy_cells, ht, Nat.le_refl]
                  (repeat ((with_reducible refine And.intro ?_ ?_); · omega))
                  refine ⟨⟨(i + 1, n * w.size + (l[i].iw g w ns vs).1), hlt', by rw [iws_snoc l i hlt' 0 n h2, if_pos hgood], h3⟩, ?_, by simp only; omega⟩
                  simp only [go_sem, Nat.reduceAdd, Nat.reduceSub, Nat.reduceMul, Nat.reduceLeDiff, Nat.reduceEqDiff, Nat.reduceBEq, syms_low, wds_low, strs_low, ints_low, rowsA_low]
                  rw [i64_id (n := (i : Int) + 1) (by omega), i64_id (n := n * w.size) (by omega), i64_id (by omega)]
                  simp
          · have hie : i = l.length := by omega
            rw [hie, List.take_length] at n2
            rw [hie, List.drop_length, Wd.iws] at h3
            rw [e3 ca n h3.symm]
            have hkr : (k : Int) < (w.rows.length : Int) := by omega
            have hrow : (rowsA w.rows).getD k .undef = .ps 1 (ints w.rows[k]) := rowsA_get r3
            have hgr : w.rows.getD k [] = w.rows[k] := by simp [List.getD, r3]
            rw [hgr] at r4 ⊢
            have ha : g[k].arity.toNat = l.length := by omega
            rw [ha] at r4
            have hnr : n.toNat < w.rows[k].length := by omega
            simp only [go_sem, Nat.reduceAdd, Nat.reduceSub, Nat.reduceMul, Nat.reduceLeDiff, Nat.reduceEqDiff, Nat.reduceBEq, List.length_map, hlt]
            refine EvK.go 1000 ?_
            simp only [go_sem, Nat.reduceAdd, Nat.reduceSub, Nat.reduceMul, Nat.reduceLeDiff, Nat.reduceEqDiff, Nat.reduceBEq, rowsA_len, Int.toNat_natCast, hrow, ints_len, ints_get hnr, getD_at' hnr]
            omega
      · rw [e1 ca]
        simp only [go_sem, Nat.reduceAdd, Nat.reduceSub, Nat.reduceMul, Nat.reduceLeDiff, Nat.reduceEqDiff, Nat.reduceBEq, padS, syms_len, Int.toNat_natCast, syms_get hk, sy_cells, List.length_map, ca, hcond, Nat.le_refl]
        (repeat ((with_reducible refine And.intro ?_ ?_); · omega))
        refine EvK.go 1000 ?_
        simp only [go_sem, Nat.reduceAdd, Nat.reduceSub, Nat.reduceMul, Nat.reduceLeDiff, Nat.reduceEqDiff, Nat.reduceBEq]
end Go.Proofs

/- The document's answer for formulas in worlds. -/
namespace Go.Proofs
open Go Go.Abs

theorem Thing_eq (g : List Sy) (hg : g.length < 1000000000) (y : Wd) : CallEq Try.prog 81 [.ps 4 (syms g), y.toA] (.bool (y.sort g false)) := by
  cases y with
  | mk v x l =>
  refine CallEq.begin (rs := [.tmp 4]) (m := 25) 1000 Try.func81 rfl rfl rfl (by decide) trivial ?_
  simp only [go_sem, Nat.reduceAdd, Nat.reduceSub, Nat.reduceMul, Nat.reduceLeDiff, Nat.reduceEqDiff, Nat.reduceBEq, wd_eq, Wd.var, Wd.name, Wd.args, Nat.le_refl]
  refine VCall.isoT [] (Find_eq g hg x) (pTL_refl _ _ _) (by simp [go_sem, syms_low]) ?_; rw [frzI_nil]; simp only [ite_self]; refine EvK.go 1000 ?_
  cases v with
  | true => simp only [go_sem, Nat.reduceAdd, Nat.reduceSub, Nat.reduceMul, Nat.reduceLeDiff, Nat.reduceEqDiff, Nat.reduceBEq, Wd.sort, Nat.le_refl]
  | false =>
    have e : Wd.sort g false (.mk false x l) = match posS (names g) x with | some k => (g.getD k Sy.dflt).truth == false | none => false := by simp only [Wd.sort, Bool.false_eq_true, if_false]; rfl
    rw [e]
    cases hp : posS (names g) x with
    | none => simp only [go_sem, Nat.reduceAdd, Nat.reduceSub, Nat.reduceMul, Nat.reduceLeDiff, Nat.reduceEqDiff, Nat.reduceBEq, Option.isSome_none, Nat.le_refl]
    | some k =>
      have hk := posS_lt hp
      rw [names_len] at hk
      have hcond : 0 ≤ (k : Int) ∧ (k : Int) < (g.length : Int) := by omega
      simp only
      rw [getD_at hk]
      simp only [go_sem, Nat.reduceAdd, Nat.reduceSub, Nat.reduceMul, Nat.reduceLeDiff, Nat.reduceEqDiff, Nat.reduceBEq, Option.isSome_some, Option.getD_some, hcond, syms_len, Int.toNat_natCast, syms_get hk, sy_cells, Nat.le_refl]
      cases g[k].truth <;> rfl

def pairA (a : Bool × Bool) : AVal := .tup [.bool a.1, .bool a.2]
/-- The value so far. -/
def outF (k : Int) (F : Nat → Bool) (v : Nat) : Bool := if k = 7 then (List.range v).all F else (List.range v).any F
theorem outF_zero (k : Int) (F : Nat → Bool) : outF k F 0 = decide (k = 7) := by
  unfold outF; split <;> simp_all
theorem outF_succ (k : Int) (F : Nat → Bool) (v : Nat) : outF k F (v + 1) = if k = 7 then outF k F v && F v else outF k F v || F v := by
  unfold outF
  split <;> simp [List.range_succ]
theorem eachF_good {k s : Int} {body : List ByteArray → List Int → Bool × Bool} {n : ByteArray} {l ns : List ByteArray} {vs : List Int} (h : ∀ u : Nat, u < s.toNat → (eachF k s body l (ns ++ [n]) (vs ++ [(u : Int)])).2 = true) :
    eachF k s body (n :: l) ns vs = (outF k (fun u => (eachF k s body l (ns ++ [n]) (vs ++ [(u : Int)])).1) s.toNat, true) := by
  simp only [eachF]
  rw [if_pos (List.all_eq_true.2 fun u hu => h u (by simpa using hu))]
  rfl
theorem eachF_bad {k s : Int} {body : List ByteArray → List Int → Bool × Bool} {n : ByteArray} {l ns : List ByteArray} {vs : List Int} {u : Nat} (hu : u < s.toNat) (h : (eachF k s body l (ns ++ [n]) (vs ++ [(u : Int)])).2 = false) :
    eachF k s body (n :: l) ns vs = (false, false) := by
  simp only [eachF]
  rw [if_neg]
  intro ha
  have := List.all_eq_true.1 ha u (by simpa using hu)
  rw [h] at this; cases this

theorem EachF_eq (g : List Sy) (w : Wo) (hw : worldOk g w = true) (k : Int) (hk : k = 7 ∨ k = 8) (l r : Wd) (nm : List ByteArray) (hnm : nm.length < 1000000) (p : Fo) (body : List ByteArray → List Int → Bool × Bool)
    (hb : ∀ ns vs, vs.length = ns.length → ns.length + p.size < 1000000 → (∀ v ∈ vs, 0 ≤ v ∧ v < w.size) → CallEq Try.prog 52 [.ps 4 (syms g), w.toA, envA ns vs, p.toA] (pairA (body ns vs))) :
    ∀ (j at' : Nat), at' + j = nm.length → ∀ ns vs, vs.length = ns.length → ns.length + j + p.size < 1000000 → (∀ v ∈ vs, 0 ≤ v ∧ v < w.size) →
      CallEq Try.prog 82 [.ps 4 (syms g), w.toA, envA ns vs, (Fo.mk k l r nm [p]).toA, .int .i64 at'] (pairA (eachF k w.size body (nm.drop at') ns vs)) := by
  obtain ⟨q1, q2, q3, q4, q5, q6⟩ := worldOk_size hw
  have hfe : (Fo.mk k l r nm [p]).toA = .agg [.int .i64 k, .bool l.var, .str l.name, .ps 3 (l.args.map Wd.toA), .bool r.var, .str r.name, .ps 3 (r.args.map Wd.toA), .ps 1 (strs nm), .ps 9 [p.toA]] := by rw [fo_eq]; rfl
  have hpe : p.toA = .agg p.cs := by rw [fo_eq]; rfl
  have hpc : p.toA.cells = p.cs := by rw [fo_eq]; rfl
  have hcl : p.cs.length = 9 := rfl
  have ht9 : List.take 9 p.cs = p.cs := rfl
  intro j
  induction j with
  | zero =>
    intro at' hat ns vs hl hn hv
    refine CallEq.begin (rs := [.tmp 10, .tmp 11]) (m := 75) 1000 Try.func82 rfl rfl rfl (by decide) (by simp [go_sem, pairA]) ?_
    have he : (at' : Int) = nm.length := by omega
    rw [List.drop_eq_nil_of_le (by omega), eachF]
    simp only [go_sem, Nat.reduceAdd, Nat.reduceSub, Nat.reduceMul, Nat.reduceLeDiff, Nat.reduceEqDiff, Nat.reduceBEq, wo_eq, envA, hfe, strs_len, List.length_cons, List.length_nil, he, Int.natCast_one]
    refine EvK.draw [] 3 3 mixed rfl rfl (Nat.le_refl _) ?_
    simp only [go_sem, Nat.reduceAdd, Nat.reduceSub, Nat.reduceMul, Nat.reduceLeDiff, Nat.reduceEqDiff, Nat.reduceBEq, padS, List.length_cons, List.length_nil, Int.natCast_one, List.getD_cons_zero, hpc, hcl, ht9, Nat.le_refl, Int.reduceLE, Int.reduceLT]
    (repeat ((with_reducible refine And.intro ?_ ?_); · omega))
    rw [← hpe, ← wo_eq]
    refine draw_iso (hb ns vs hl (by omega) hv) (pTL_refl _ _ _) (by simp [go_sem, syms_low, wo_low, env_low, fo_low]) ?_
    rw [pairA]
    simp only [go_sem, Nat.reduceAdd, Nat.reduceSub, Nat.reduceMul, Nat.reduceLeDiff, Nat.reduceEqDiff, Nat.reduceBEq]
    refine EvK.go 1000 ?_
    simp only [go_sem, Nat.reduceAdd, Nat.reduceSub, Nat.reduceMul, Nat.reduceLeDiff, Nat.reduceEqDiff, Nat.reduceBEq]
  | succ j ih =>
    intro at' hat ns vs hl hn hv
    have hlt : at' < nm.length := by omega
    have hne : ¬ (at' : Int) = nm.length := by omega
    refine CallEq.begin (rs := [.tmp 10, .tmp 11]) (m := 75) 1000 Try.func82 rfl rfl rfl (by decide) (by simp [go_sem, pairA]) ?_
    rw [List.drop_eq_getElem_cons hlt]
    simp only [go_sem, Nat.reduceAdd, Nat.reduceSub, Nat.reduceMul, Nat.reduceLeDiff, Nat.reduceEqDiff, Nat.reduceBEq, wo_eq, envA, hfe, strs_len, hne]
    have hz : ((w.size.toNat : Nat) : Int) = w.size := by omega
    have key : ∀ v : Nat, v < w.size.toNat → CallEq Try.prog 82 [.ps 4 (syms g), w.toA, envA (ns ++ [nm[at']]) (vs ++ [(v : Int)]), (Fo.mk k l r nm [p]).toA, .int .i64 ((at' : Int) + 1)] (pairA (eachF k w.size body (nm.drop (at' + 1)) (ns ++ [nm[at']]) (vs ++ [(v : Int)]))) := fun v hvz => by
      have := ih (at' + 1) (by omega) (ns ++ [nm[at']]) (vs ++ [(v : Int)]) (by simp [hl]) (by simp; omega) (fun x hx => by
        rcases List.mem_append.1 hx with h | h
        · exact hv x h
        · rw [List.mem_singleton.1 h]; omega)
      rw [Int.natCast_add, Int.natCast_one] at this
      exact this
    have hgood := eachF_good (k := k) (s := w.size) (body := body) (n := nm[at']) (l := nm.drop (at' + 1)) (ns := ns) (vs := vs)
    have hbad := fun u : Nat => eachF_bad (k := k) (s := w.size) (body := body) (n := nm[at']) (l := nm.drop (at' + 1)) (ns := ns) (vs := vs) (u := u)
    generalize hRS : (fun u : Nat => eachF k w.size body (nm.drop (at' + 1)) (ns ++ [nm[at']]) (vs ++ [(u : Int)])) = RS at *
    have hr : ∀ u : Nat, eachF k w.size body (nm.drop (at' + 1)) (ns ++ [nm[at']]) (vs ++ [(u : Int)]) = RS u := fun u => by rw [← hRS]
    simp only [hr] at key hgood hbad
    generalize eachF k w.size body (nm[at'] :: nm.drop (at' + 1)) ns vs = R at *
    refine EvK.loopI (ι := {v : Nat // (v : Int) ≤ w.size ∧ ∀ u, u < v → (RS u).2 = true}) 1000 (fun v => mkT 80 [(0, .ps 4 (syms g)), (4, .int .i64 at'), (6, .ptr 0 0), (7, .ptr 1 0), (8, .ptr 2 0), (10, .bool false), (11, .bool false), (14, .bool (outF k (fun u => (RS u).1) v.1)), (15, .int .i64 v.1)]) (fun _ => [some (.var [.int .i64 w.size, .ps 1 (rowsA w.rows)]), some (.var [.ps 1 (strs ns), .ps 1 (ints vs)]), some (.var [.int .i64 k, .bool l.var, .str l.name, .ps 3 (l.args.map Wd.toA), .bool r.var, .str r.name, .ps 3 (r.args.map Wd.toA), .ps 1 (strs nm), .ps 9 [p.toA]])]) (fun v => (w.size - v.1).toNat) ⟨0, by omega, fun u hu => absurd hu (Nat.not_lt_zero _)⟩ ?_ (fun _ => Nat.zero_le _) ?_
    · simp only [go_sem, Nat.reduceAdd, Nat.reduceSub, Nat.reduceMul, Nat.reduceLeDiff, Nat.reduceEqDiff, Nat.reduceBEq, syms_low, wds_low, strs_low, ints_low, rowsA_low, fo_low, Int.natCast_zero, outF_zero]
      decide
    · rintro ⟨v, hv1, hv2⟩
      by_cases hlv : (v : Int) < w.size
      · simp only [go_sem, Nat.reduceAdd, Nat.reduceSub, Nat.reduceMul, Nat.reduceLeDiff, Nat.reduceEqDiff, Nat.reduceBEq, hlv]
        refine EvK.draw [] 3 3 mixed rfl rfl (Nat.le_refl _) ?_
        simp only [go_sem, Nat.reduceAdd, Nat.reduceSub, Nat.reduceMul, Nat.reduceLeDiff, Nat.reduceEqDiff, Nat.reduceBEq, padS, strs_len, Int.toNat_natCast, strs_get hlt, Nat.le_refl]
        (repeat ((with_reducible refine And.intro ?_ ?_); · omega))
        refine draw_iso (With_eq ns vs hl (by omega) nm[at'] v) (pTL_refl _ _ _) (by simp [go_sem, env_low, strs_low, ints_low]) ?_
        simp only [go_sem, Nat.reduceAdd, Nat.reduceSub, Nat.reduceMul, Nat.reduceLeDiff, Nat.reduceEqDiff, Nat.reduceBEq, Nat.le_refl]
        rw [← hfe, ← wo_eq, i64_id (by omega)]
        refine draw_iso (key v (by omega)) (pTL_refl _ _ _) (by simp [go_sem, syms_low, wo_low, env_low, fo_low]) ?_
        simp only [go_sem, Nat.reduceAdd, Nat.reduceSub, Nat.reduceMul, Nat.reduceLeDiff, Nat.reduceEqDiff, Nat.reduceBEq, pairA]
        refine EvK.go 1000 ?_
        cases hok : (RS v).2 with
        | false =>
          rw [hbad v (by omega) hok]
          simp only [go_sem, Nat.reduceAdd, Nat.reduceSub, Nat.reduceMul, Nat.reduceLeDiff, Nat.reduceEqDiff, Nat.reduceBEq]
          refine EvK.go 1000 ?_
          simp only [go_sem, Nat.reduceAdd, Nat.reduceSub, Nat.reduceMul, Nat.reduceLeDiff, Nat.reduceEqDiff, Nat.reduceBEq, pairA]
        | true =>
          have hnext : ∀ u, u < v + 1 → (RS u).2 = true := fun u hu => by
            rcases Nat.lt_succ_iff_lt_or_eq.1 hu with h | rfl
            · exact hv2 u h
            · exact hok
          have ho := outF_succ k (fun u => (RS u).1) v
          rcases hk with rfl | rfl
          · rw [if_pos rfl] at ho
            cases hx : outF 7 (fun u => (RS u).1) v <;>
            · rw [hx] at ho
              simp only [go_sem, Nat.reduceAdd, Nat.reduceSub, Nat.reduceMul, Nat.reduceLeDiff, Nat.reduceEqDiff, Nat.reduceBEq, hx]
              refine ⟨⟨v + 1, by omega, hnext⟩, ?_, by simp only; omega⟩
              simp only [go_sem, Nat.reduceAdd, Nat.reduceSub, Nat.reduceMul, Nat.reduceLeDiff, Nat.reduceEqDiff, Nat.reduceBEq, syms_low, wds_low, strs_low, ints_low, rowsA_low, fo_low]
              rw [i64_id (by omega), ho]
              simp
          · rw [if_neg (by decide)] at ho
            cases hx : outF 8 (fun u => (RS u).1) v <;>
            · rw [hx] at ho
              simp only [go_sem, Nat.reduceAdd, Nat.reduceSub, Nat.reduceMul, Nat.reduceLeDiff, Nat.reduceEqDiff, Nat.reduceBEq, hx, Int.reduceEq]
              refine ⟨⟨v + 1, by omega, hnext⟩, ?_, by simp only; omega⟩
              simp only [go_sem, Nat.reduceAdd, Nat.reduceSub, Nat.reduceMul, Nat.reduceLeDiff, Nat.reduceEqDiff, Nat.reduceBEq, syms_low, wds_low, strs_low, ints_low, rowsA_low, fo_low]
              rw [i64_id (by omega), ho]
              simp
      · have hvz : v = w.size.toNat := by omega
        rw [hgood fun u hu => hv2 u (by omega), ← hvz]
        simp only [go_sem, Nat.reduceAdd, Nat.reduceSub, Nat.reduceMul, Nat.reduceLeDiff, Nat.reduceEqDiff, Nat.reduceBEq, hlv]
        refine EvK.go 1000 ?_
        simp only [go_sem, Nat.reduceAdd, Nat.reduceSub, Nat.reduceMul, Nat.reduceLeDiff, Nat.reduceEqDiff, Nat.reduceBEq, pairA]

theorem bools_add (l : List Bool) (b : Bool) : bools (l ++ [b]) = bools l ++ [.bool b] := by simp [bools]
theorem ok_bool (b : Bool) : appOk ⟨1, false, 1, [.bool false], .bool⟩ [.bool b] = True := eq_true ⟨fun x hx => by rw [List.mem_singleton.1 hx]; exact ⟨rfl, rfl⟩, by decide, by decide, rfl⟩
/-- Of a formula without bound names whose parts are all of it. -/
def kindV (k : Int) (a b : Int × Bool) (st sa sb : Bool) (V : List Bool) : Bool × Bool :=
  if k = 0 then (decide (a.1 = 1), a.2 && st)
  else if k = 1 then (decide (a.1 = b.1), ((a.2 && b.2) && sa) && sb)
  else if k = 2 then (!(V.getD 0 false), true)
  else if k = 3 then (V.all id, true)
  else if k = 4 then (V.any id, true)
  else if k = 5 then (!(V.getD 0 false) || V.getD 1 false, true)
  else if k = 6 then (V.getD 0 false == V.getD 1 false, true)
  else if k = 9 then (true, true)
  else (false, true)
theorem map_fst (L : List (Bool × Bool)) (i : Nat) : (L.getD i (false, false)).1 = (L.map (·.1)).getD i false := by
  simp only [List.getD_eq_getElem?_getD, List.getElem?_map]
  cases L[i]? <;> rfl
theorem rfKind_good {k : Int} {a b : Int × Bool} {st sa sb : Bool} {L : List (Bool × Bool)} (h : ∀ (i : Nat) (hi : i < L.length), L[i].2 = true) : rfKind k a b st sa sb L = kindV k a b st sa sb (L.map (·.1)) := by
  have h1 : L.all (·.2) = true := List.all_eq_true.2 fun x hx => by obtain ⟨i, hi, rfl⟩ := List.getElem_of_mem hx; exact h i hi
  simp only [rfKind, kindV, h1, map_fst, List.all_map, List.any_map, Bool.true_eq_false, if_false]
  rfl
theorem rfKind_bad {k : Int} {a b : Int × Bool} {st sa sb : Bool} {L : List (Bool × Bool)} {i : Nat} (hi : i < L.length) (h : L[i].2 = false) : rfKind k a b st sa sb L = (false, false) := by
  have h1 : L.all (·.2) = false := List.all_eq_false.2 ⟨L[i], List.getElem_mem hi, by simp [h]⟩
  simp only [rfKind, h1, if_true]

set_option maxRecDepth 4000 in
set_option maxHeartbeats 3200000 in
theorem FormR_eq (g : List Sy) (hg : g.length < 1000000000) (w : Wo) (hw : worldOk g w = true) (f : Fo) : f.size < 1000 → f.right = true → ∀ ns vs, vs.length = ns.length → ns.length + f.size < 1000000 → (∀ v ∈ vs, 0 ≤ v ∧ v < w.size) →
    CallEq Try.prog 52 [.ps 4 (syms g), w.toA, envA ns vs, f.toA] (pairA (f.rf g w ns vs)) := by
  obtain ⟨q1, q2, q3, q4, q5, q6⟩ := worldOk_size hw
  induction f using Fo.rec_parts with
  | h k l r nm ps ih =>
  intro hsz hr ns vs hl hn hv
  have hsz0 := hsz
  simp only [Fo.size] at hsz hn
  have hlen := flen_le ps
  obtain ⟨hk, hp1, hp2, hpr⟩ := right_kind hr
  refine CallEq.begin (rs := [.tmp 8, .tmp 9]) (m := 235) 1000 Try.func52 rfl rfl rfl (by decide) (by simp [go_sem, pairA]) ?_
  by_cases hq : k = 7 ∨ k = 8
  · have hrf : Fo.rf g w (.mk k l r nm ps) ns vs = eachF k w.size (fun ns vs => (Fo.rfL g w ps ns vs).headD (false, false)) nm ns vs := by simp only [Fo.rf, if_pos hq]
    rw [hrf]
    have h1 := hp1 (.inr hq)
    match ps, h1 with
    | [p], _ =>
    simp only [Fo.rfL, List.headD_cons]
    have hpz : Fo.sizes [p] = p.size := by simp [Fo.sizes]
    rw [hpz] at hsz hn
    have hE := EachF_eq g w hw k hq l r nm (by omega) p (fun ns vs => p.rf g w ns vs) (fun ns vs h1 h2 h3 => ih 0 (by simp) (by simp only [List.getElem_cons_zero]; omega) (hpr 0 (by simp)) ns vs h1 h2 h3) nm.length 0 (by omega) ns vs hl (by omega) hv
    rw [List.drop_zero] at hE
    have hfe : (Fo.mk k l r nm [p]).toA = .agg [.int .i64 k, .bool l.var, .str l.name, .ps 3 (l.args.map Wd.toA), .bool r.var, .str r.name, .ps 3 (r.args.map Wd.toA), .ps 1 (strs nm), .ps 9 [p.toA]] := by rw [fo_eq]; rfl
    rcases hq with rfl | rfl
    · simp only [go_sem, Nat.reduceAdd, Nat.reduceSub, Nat.reduceMul, Nat.reduceLeDiff, Nat.reduceEqDiff, Nat.reduceBEq, wo_eq, envA, hfe, Int.reduceEq, Nat.le_refl]
      rw [← hfe, ← wo_eq]
      refine VCall.isoT [] (hE) (pTL_refl _ _ _) (by simp [go_sem, syms_low, wo_low, env_low, fo_low, strs_low, ints_low]) ?_; rw [frzI_nil]; simp only [ite_self]; refine EvK.go 1000 ?_
      simp only [go_sem, Nat.reduceAdd, Nat.reduceSub, Nat.reduceMul, Nat.reduceLeDiff, Nat.reduceEqDiff, Nat.reduceBEq, pairA]
    · simp only [go_sem, Nat.reduceAdd, Nat.reduceSub, Nat.reduceMul, Nat.reduceLeDiff, Nat.reduceEqDiff, Nat.reduceBEq, wo_eq, envA, hfe, Int.reduceEq, Nat.le_refl]
      rw [← hfe, ← wo_eq]
      refine VCall.isoT [] (hE) (pTL_refl _ _ _) (by simp [go_sem, syms_low, wo_low, env_low, fo_low, strs_low, ints_low]) ?_; rw [frzI_nil]; simp only [ite_self]; refine EvK.go 1000 ?_
      simp only [go_sem, Nat.reduceAdd, Nat.reduceSub, Nat.reduceMul, Nat.reduceLeDiff, Nat.reduceEqDiff, Nat.reduceBEq, pairA]
  · have k7 : k ≠ 7 := fun h => hq (.inl h)
    have k8 : k ≠ 8 := fun h => hq (.inr h)
    have hrf : Fo.rf g w (.mk k l r nm ps) ns vs = rfKind k (l.iw g w ns vs) (r.iw g w ns vs) (l.sort g true) (l.sort g false) (r.sort g false) (ps.map fun p => p.rf g w ns vs) := by simp only [Fo.rf, if_neg hq, rfL_map]
    rw [hrf]
    have hLl : (ps.map fun p => p.rf g w ns vs).length = ps.length := by simp
    have hLg : ∀ (i : Nat) (hi : i < ps.length), (ps.map fun p => p.rf g w ns vs)[i]'(by simpa using hi) = ps[i].rf g w ns vs := fun i hi => by simp
    have hbad := fun (i : Nat) (hi : i < ps.length) (h : (ps[i].rf g w ns vs).2 = false) => rfKind_bad (k := k) (a := l.iw g w ns vs) (b := r.iw g w ns vs) (st := l.sort g true) (sa := l.sort g false) (sb := r.sort g false) (L := ps.map fun p => p.rf g w ns vs) (i := i) (by simpa using hi) (by rw [hLg i hi]; exact h)
    have hgood := fun (h : ∀ (i : Nat) (hi : i < ps.length), (ps[i].rf g w ns vs).2 = true) => rfKind_good (k := k) (a := l.iw g w ns vs) (b := r.iw g w ns vs) (st := l.sort g true) (sa := l.sort g false) (sb := r.sort g false) (L := ps.map fun p => p.rf g w ns vs) (fun i hi => by rw [hLg i (by simpa using hi)]; exact h i (by simpa using hi))
    generalize rfKind k (l.iw g w ns vs) (r.iw g w ns vs) (l.sort g true) (l.sort g false) (r.sort g false) (ps.map fun p => p.rf g w ns vs) = R at *
    have hVl : ((ps.map fun p => p.rf g w ns vs).map (·.1)).length = ps.length := by simp
    have hVs : ∀ (i : Nat) (hi : i < ps.length), ((ps.map fun p => p.rf g w ns vs).map (·.1)).take (i + 1) = ((ps.map fun p => p.rf g w ns vs).map (·.1)).take i ++ [(ps[i].rf g w ns vs).1] := fun i hi => by
      rw [take_snoc (by simpa using hi)]; simp
    generalize (ps.map fun p => p.rf g w ns vs).map (·.1) = V at *
    simp only [go_sem, Nat.reduceAdd, Nat.reduceSub, Nat.reduceMul, Nat.reduceLeDiff, Nat.reduceEqDiff, Nat.reduceBEq, wo_eq, envA, fo_eq, Fo.kind, Fo.l, Fo.r, Fo.names, Fo.parts, k7, k8]
    refine EvK.loopR (ι := {i : Nat // i ≤ ps.length ∧ ∀ (u : Nat) (hu : u < ps.length), u < i → (ps[u].rf g w ns vs).2 = true}) 1000 (fun i => mkT 239 [(0, .ps 4 (syms g)), (5, .ptr 0 0), (6, .ptr 1 0), (7, .ptr 2 0), (8, .bool false), (9, .bool false), (10, slA 3 1 (bools (V.take i.1))), (11, .int .i64 i.1)]) (fun i => [some (.var [.int .i64 w.size, .ps 1 (rowsA w.rows)]), some (.var [.ps 1 (strs ns), .ps 1 (ints vs)]), some (.var [.int .i64 k, .bool l.var, .str l.name, .ps 3 (l.args.map Wd.toA), .bool r.var, .str r.name, .ps 3 (r.args.map Wd.toA), .ps 1 (strs nm), .ps 9 (ps.map Fo.toA)]), slB (bools (V.take i.1))]) (fun i => ps.length - i.1) ⟨0, by omega, fun u _ hu => absurd hu (Nat.not_lt_zero _)⟩ [] ?_ (fun _ => Nat.zero_le _) ?_
    · refine leR_mk rfl ?_
      simp only [go_sem, Nat.reduceAdd, Nat.reduceSub, Nat.reduceMul, Nat.reduceLeDiff, Nat.reduceEqDiff, Nat.reduceBEq, List.take_zero, show bools [] = [] from rfl, slA_nil, slB_nil, syms_low, wds_low, strs_low, ints_low, rowsA_low, fos_low, renL_low0, Int.natCast_zero]
      decide
    · rintro ⟨i, hi, hok⟩
      by_cases hlt : (i : Int) < ps.length
      · have hlt' : i < ps.length := by omega
        have hz := fsize_le ps i hlt'
        have hVi := hVs i hlt'
        have htl : (V.take i).length = i := by rw [List.length_take]; omega
        generalize V.take i = q at *
        simp only [go_sem, Nat.reduceAdd, Nat.reduceSub, Nat.reduceMul, Nat.reduceLeDiff, Nat.reduceEqDiff, Nat.reduceBEq, List.length_map, hlt]
        refine EvK.draw [] 4 4 mixed rfl rfl (Nat.le_refl _) ?_
        simp only [go_sem, Nat.reduceAdd, Nat.reduceSub, Nat.reduceMul, Nat.reduceLeDiff, Nat.reduceEqDiff, Nat.reduceBEq, padS, List.length_map, Int.toNat_natCast, map_getD hlt', fo_cells, Nat.le_refl]
        (repeat ((with_reducible refine And.intro ?_ ?_); · omega))
        rw [← fo_eq, ← wo_eq]
        refine draw_iso (ih i hlt' (by omega) (hpr i hlt') ns vs hl (by omega) hv) (pTL_refl _ _ _) (by simp [go_sem, syms_low, wo_low, env_low, fo_low, strs_low, ints_low]) ?_
        simp only [go_sem, Nat.reduceAdd, Nat.reduceSub, Nat.reduceMul, Nat.reduceLeDiff, Nat.reduceEqDiff, Nat.reduceBEq, pairA]
        refine EvK.go 1000 ?_
        cases ho : (ps[i].rf g w ns vs).2 with
        | false =>
          rw [hbad i hlt' ho]
          simp only [go_sem, Nat.reduceAdd, Nat.reduceSub, Nat.reduceMul, Nat.reduceLeDiff, Nat.reduceEqDiff, Nat.reduceBEq]
          refine EvK.go 1000 ?_
          simp only [go_sem, Nat.reduceAdd, Nat.reduceSub, Nat.reduceMul, Nat.reduceLeDiff, Nat.reduceEqDiff, Nat.reduceBEq]
        | true =>
          have hnext : ∀ (u : Nat) (hu : u < ps.length), u < i + 1 → (ps[u].rf g w ns vs).2 = true := fun u hu h => by
            rcases Nat.lt_succ_iff_lt_or_eq.1 h with h | rfl
            · exact hok u hu h
            · exact ho
          simp only [go_sem, Nat.reduceAdd, Nat.reduceSub, Nat.reduceMul, Nat.reduceLeDiff, Nat.reduceEqDiff, Nat.reduceBEq, app_slA, ok_bool, bools_len, htl, Nat.le_refl]
          refine ⟨by decide, by omega, ⟨i + 1, hlt', hnext⟩, [(3, 5), (5, 3)], leR_mk rfl ?_, by simp only; omega⟩
          simp only [hVi]
          rw [i64_id (by omega)]
          simp only [go_sem, Nat.reduceAdd, Nat.reduceSub, Nat.reduceMul, Nat.reduceLeDiff, Nat.reduceEqDiff, Nat.reduceBEq, bools_add, slA_snoc, slB_snoc, bools_len, htl, syms_low, wds_low, strs_low, ints_low, rowsA_low, fos_low, bools_low, renL_low0, Int.natCast_add, Int.natCast_one]
          rw [← bools_add, renL_low0 (bools_low _)]
          simp [bools_low]
      · have hie : i = ps.length := by omega
        have hVt : V.take i = V := List.take_of_length_le (by omega)
        rw [hgood fun u hu => hok u hu (by omega)]
        simp only [go_sem, Nat.reduceAdd, Nat.reduceSub, Nat.reduceMul, Nat.reduceLeDiff, Nat.reduceEqDiff, Nat.reduceBEq, List.length_map, hlt, hVt]
        refine EvK.go 1000 ?_
        clear hgood hbad hVs hok
        rcases hk with rfl | rfl | rfl | rfl | rfl | rfl | rfl | rfl | rfl | rfl | rfl
        · have hvar := right_atom hr
          rw [show kindV 0 (l.iw g w ns vs) (r.iw g w ns vs) (l.sort g true) (l.sort g false) (r.sort g false) V = (decide ((l.iw g w ns vs).1 = 1), (l.iw g w ns vs).2 && l.sort g true) from rfl]
          simp only [go_sem, Nat.reduceAdd, Nat.reduceSub, Nat.reduceMul, Nat.reduceLeDiff, Nat.reduceEqDiff, Nat.reduceBEq]
          rw [← wd_eq, ← wo_eq]
          refine VCall.isoT [] (InW_eq g hg w hw ns vs hl (by omega) hv l (by omega)) (pTL_refl _ _ _) (by simp [go_sem, syms_low, wo_low, env_low, wd_low, strs_low, ints_low]) ?_; rw [frzI_nil]; simp only [ite_self]; refine EvK.go 1000 ?_
          simp only [go_sem, Nat.reduceAdd, Nat.reduceSub, Nat.reduceMul, Nat.reduceLeDiff, Nat.reduceEqDiff, Nat.reduceBEq]
          refine VCall.isoT [] (Find_eq g hg l.name) (pTL_refl _ _ _) (by simp [go_sem, syms_low]) ?_; rw [frzI_nil]; simp only [ite_self]; refine EvK.go 1000 ?_
          simp only [go_sem, Nat.reduceAdd, Nat.reduceSub, Nat.reduceMul, Nat.reduceLeDiff, Nat.reduceEqDiff, Nat.reduceBEq]
          refine EvK.draw [] 4 4 mixed rfl rfl (Nat.le_refl _) ?_
          cases ha : (l.iw g w ns vs).2 with
          | false =>
            simp only [go_sem, Nat.reduceAdd, Nat.reduceSub, Nat.reduceMul, Nat.reduceLeDiff, Nat.reduceEqDiff, Nat.reduceBEq, padS]
            refine EvK.go 1000 ?_
            simp only [go_sem, Nat.reduceAdd, Nat.reduceSub, Nat.reduceMul, Nat.reduceLeDiff, Nat.reduceEqDiff, Nat.reduceBEq, pairA, Bool.false_and]
          | true =>
            obtain ⟨k2, hp2, hk2, hsort⟩ := iw_found ha hvar
            have hcond2 : 0 ≤ (k2 : Int) ∧ (k2 : Int) < (g.length : Int) := by omega
            have hs := hsort true
            rw [getD_at hk2] at hs
            rw [hp2]
            simp only [go_sem, Nat.reduceAdd, Nat.reduceSub, Nat.reduceMul, Nat.reduceLeDiff, Nat.reduceEqDiff, Nat.reduceBEq, padS, Option.isSome_some, Option.getD_some, hvar, hcond2, syms_len, Int.toNat_natCast, syms_get hk2, sy_cells, Nat.le_refl]
            (repeat ((with_reducible refine And.intro ?_ ?_); · omega))
            refine EvK.go 1000 ?_
            simp only [go_sem, Nat.reduceAdd, Nat.reduceSub, Nat.reduceMul, Nat.reduceLeDiff, Nat.reduceEqDiff, Nat.reduceBEq, pairA, Bool.true_and, hs]
            cases g[k2].truth <;> rfl
        · rw [show kindV 1 (l.iw g w ns vs) (r.iw g w ns vs) (l.sort g true) (l.sort g false) (r.sort g false) V = (decide ((l.iw g w ns vs).1 = (r.iw g w ns vs).1), (((l.iw g w ns vs).2 && (r.iw g w ns vs).2) && l.sort g false) && r.sort g false) from rfl]
          simp only [go_sem, Nat.reduceAdd, Nat.reduceSub, Nat.reduceMul, Nat.reduceLeDiff, Nat.reduceEqDiff, Nat.reduceBEq, Int.reduceEq]
          rw [← wd_eq, ← wo_eq]
          refine VCall.isoT [] (InW_eq g hg w hw ns vs hl (by omega) hv l (by omega)) (pTL_refl _ _ _) (by simp [go_sem, syms_low, wo_low, env_low, wd_low, strs_low, ints_low]) ?_; rw [frzI_nil]; simp only [ite_self]; refine EvK.go 1000 ?_
          simp only [go_sem, Nat.reduceAdd, Nat.reduceSub, Nat.reduceMul, Nat.reduceLeDiff, Nat.reduceEqDiff, Nat.reduceBEq, Nat.le_refl]
          rw [← wd_eq, ← wo_eq]
          refine VCall.isoT [] (InW_eq g hg w hw ns vs hl (by omega) hv r (by omega)) (pTL_refl _ _ _) (by simp [go_sem, syms_low, wo_low, env_low, wd_low, strs_low, ints_low]) ?_; rw [frzI_nil]; simp only [ite_self]; refine EvK.go 1000 ?_
          cases ha : (l.iw g w ns vs).2 with
          | false => simp only [go_sem, Nat.reduceAdd, Nat.reduceSub, Nat.reduceMul, Nat.reduceLeDiff, Nat.reduceEqDiff, Nat.reduceBEq, pairA, Bool.false_and]
          | true =>
            cases hb : (r.iw g w ns vs).2 with
            | false => simp only [go_sem, Nat.reduceAdd, Nat.reduceSub, Nat.reduceMul, Nat.reduceLeDiff, Nat.reduceEqDiff, Nat.reduceBEq, pairA, Bool.false_and, Bool.and_false]
            | true =>
              simp only [go_sem, Nat.reduceAdd, Nat.reduceSub, Nat.reduceMul, Nat.reduceLeDiff, Nat.reduceEqDiff, Nat.reduceBEq, Nat.le_refl]
              rw [← wd_eq]
              refine VCall.isoT [] (Thing_eq g hg l) (pTL_refl _ _ _) (by simp [go_sem, syms_low, wd_low]) ?_; simp only [flatR, flatA, flatC, if_true]; refine EvK.go 1000 ?_
              cases hc : l.sort g false with
              | false => simp only [go_sem, Nat.reduceAdd, Nat.reduceSub, Nat.reduceMul, Nat.reduceLeDiff, Nat.reduceEqDiff, Nat.reduceBEq, pairA, Bool.false_and, Bool.and_false]
              | true =>
                simp only [go_sem, Nat.reduceAdd, Nat.reduceSub, Nat.reduceMul, Nat.reduceLeDiff, Nat.reduceEqDiff, Nat.reduceBEq, Nat.le_refl]
                rw [← wd_eq]
                refine VCall.isoT [] (Thing_eq g hg r) (pTL_refl _ _ _) (by simp [go_sem, syms_low, wd_low]) ?_; simp only [flatR, flatA, flatC, if_true]; refine EvK.go 1000 ?_
                simp only [go_sem, Nat.reduceAdd, Nat.reduceSub, Nat.reduceMul, Nat.reduceLeDiff, Nat.reduceEqDiff, Nat.reduceBEq, pairA, Bool.true_and]
        · have h1 := hp1 (.inl rfl)
          match V, hVl.trans h1 with
          | [v0], _ =>
          rw [show kindV 2 (l.iw g w ns vs) (r.iw g w ns vs) (l.sort g true) (l.sort g false) (r.sort g false) [v0] = (!v0, true) from rfl]
          simp only [go_sem, Nat.reduceAdd, Nat.reduceSub, Nat.reduceMul, Nat.reduceLeDiff, Nat.reduceEqDiff, Nat.reduceBEq, Int.reduceEq, bools_cons, show bools [] = [] from rfl, slA_cons, slB_cons, List.length_nil, Int.natCast_one, Int.reduceLE, Int.reduceLT, pairA, List.getD_cons_zero, Nat.zero_lt_one]
          done
        · rcases V with _ | ⟨v0, V⟩
          · simp only [go_sem, Nat.reduceAdd, Nat.reduceSub, Nat.reduceMul, Nat.reduceLeDiff, Nat.reduceEqDiff, Nat.reduceBEq, Int.reduceEq, show bools [] = [] from rfl, slA_nil, slB_nil]
            refine EvK.loopI (ι := Unit) 1000 (fun _ => mkT 239 [(0, .ps 4 (syms g)), (5, .ptr 0 0), (6, .ptr 1 0), (7, .ptr 2 0), (8, .bool false), (9, .bool false), (10, .nils), (22, .bool true), (23, .int .i64 0)]) (fun _ => [some (.var [.int .i64 w.size, .ps 1 (rowsA w.rows)]), some (.var [.ps 1 (strs ns), .ps 1 (ints vs)]), some (.var [.int .i64 3, .bool l.var, .str l.name, .ps 3 (l.args.map Wd.toA), .bool r.var, .str r.name, .ps 3 (r.args.map Wd.toA), .ps 1 (strs nm), .ps 9 (ps.map Fo.toA)]), none]) (fun _ => 0) () ?_ (fun _ => Nat.zero_le _) ?_
            · simp only [go_sem, Nat.reduceAdd, Nat.reduceSub, Nat.reduceMul, Nat.reduceLeDiff, Nat.reduceEqDiff, Nat.reduceBEq, syms_low, wds_low, strs_low, ints_low, rowsA_low, fos_low]
              decide
            · intro _
              simp only [go_sem, Nat.reduceAdd, Nat.reduceSub, Nat.reduceMul, Nat.reduceLeDiff, Nat.reduceEqDiff, Nat.reduceBEq, Int.natCast_zero, Int.reduceLT]
              refine EvK.go 1000 ?_
              simp only [go_sem, Nat.reduceAdd, Nat.reduceSub, Nat.reduceMul, Nat.reduceLeDiff, Nat.reduceEqDiff, Nat.reduceBEq, pairA]
              exact ⟨rfl, rfl⟩
          · obtain ⟨A, hA0, hA1, hA2⟩ : ∃ A : Nat → Bool, A 0 = true ∧ (∀ (i : Nat) (h : i < (v0 :: V).length), A (i + 1) = (A i && (v0 :: V)[i])) ∧ A (v0 :: V).length = (v0 :: V).all id := ⟨fun i => ((v0 :: V).take i).all id, rfl, fun i h => by simp only; rw [take_snoc h, List.all_append]; simp only [List.all_cons, List.all_nil, Bool.and_true, id], by simp only [List.take_length]⟩
            have hbl : (bools (v0 :: V)).length = V.length + 1 := by simp [bools]
            rw [show slA 3 1 (bools (v0 :: V)) = .os 3 0 (V.length + 1) 1 from by rw [bools_cons, slA_cons, bools_len], show slB (bools (v0 :: V)) = some (.row (bools (v0 :: V)) 0) from rfl]
            simp only [go_sem, Nat.reduceAdd, Nat.reduceSub, Nat.reduceMul, Nat.reduceLeDiff, Nat.reduceEqDiff, Nat.reduceBEq, Int.reduceEq]
            refine EvK.loopI (ι := {i : Nat // i ≤ V.length + 1}) 1000 (fun i => mkT 239 [(0, .ps 4 (syms g)), (5, .ptr 0 0), (6, .ptr 1 0), (7, .ptr 2 0), (8, .bool false), (9, .bool false), (10, .os 3 0 (V.length + 1) 1), (22, .bool (A i.1)), (23, .int .i64 i.1)]) (fun _ => [some (.var [.int .i64 w.size, .ps 1 (rowsA w.rows)]), some (.var [.ps 1 (strs ns), .ps 1 (ints vs)]), some (.var [.int .i64 3, .bool l.var, .str l.name, .ps 3 (l.args.map Wd.toA), .bool r.var, .str r.name, .ps 3 (r.args.map Wd.toA), .ps 1 (strs nm), .ps 9 (ps.map Fo.toA)]), some (.row (bools (v0 :: V)) 0)]) (fun i => V.length + 1 - i.1) ⟨0, Nat.zero_le _⟩ ?_ (fun _ => Nat.zero_le _) ?_
            · simp only [go_sem, Nat.reduceAdd, Nat.reduceSub, Nat.reduceMul, Nat.reduceLeDiff, Nat.reduceEqDiff, Nat.reduceBEq, syms_low, wds_low, strs_low, ints_low, rowsA_low, fos_low, bools_low, Int.natCast_zero, hA0]
              decide
            · rintro ⟨i, hi⟩
              by_cases hlt : (i : Int) < ((V.length + 1 : Nat) : Int)
              · have hlt' : i < (v0 :: V).length := by simp; omega
                have hlo' := hA1 i hlt'
                cases hx : A i <;>
                · rw [hx] at hlo'
                  simp only [go_sem, Nat.reduceAdd, Nat.reduceSub, Nat.reduceMul, Nat.reduceLeDiff, Nat.reduceEqDiff, Nat.reduceBEq, hlt, hx, Int.toNat_natCast, bools_get hlt', hbl, Nat.le_refl, Nat.zero_add]
                  (repeat ((with_reducible refine And.intro ?_ ?_); · omega))
                  refine ⟨⟨i + 1, by simp at hlt'; omega⟩, ?_, by simp only; omega⟩
                  simp only [go_sem, Nat.reduceAdd, Nat.reduceSub, Nat.reduceMul, Nat.reduceLeDiff, Nat.reduceEqDiff, Nat.reduceBEq, syms_low, wds_low, strs_low, ints_low, rowsA_low, fos_low, bools_low, hlo']
                  rw [i64_id (by omega)]
                  simp
              · have hie : i = (v0 :: V).length := by simp; omega
                simp only [go_sem, Nat.reduceAdd, Nat.reduceSub, Nat.reduceMul, Nat.reduceLeDiff, Nat.reduceEqDiff, Nat.reduceBEq, hlt]
                refine EvK.go 1000 ?_
                rw [hie, hA2]
                simp only [go_sem, Nat.reduceAdd, Nat.reduceSub, Nat.reduceMul, Nat.reduceLeDiff, Nat.reduceEqDiff, Nat.reduceBEq, pairA]
                exact ⟨rfl, rfl⟩
        · rcases V with _ | ⟨v0, V⟩
          · simp only [go_sem, Nat.reduceAdd, Nat.reduceSub, Nat.reduceMul, Nat.reduceLeDiff, Nat.reduceEqDiff, Nat.reduceBEq, Int.reduceEq, show bools [] = [] from rfl, slA_nil, slB_nil]
            refine EvK.loopI (ι := Unit) 1000 (fun _ => mkT 239 [(0, .ps 4 (syms g)), (5, .ptr 0 0), (6, .ptr 1 0), (7, .ptr 2 0), (8, .bool false), (9, .bool false), (10, .nils), (24, .bool false), (25, .int .i64 0)]) (fun _ => [some (.var [.int .i64 w.size, .ps 1 (rowsA w.rows)]), some (.var [.ps 1 (strs ns), .ps 1 (ints vs)]), some (.var [.int .i64 4, .bool l.var, .str l.name, .ps 3 (l.args.map Wd.toA), .bool r.var, .str r.name, .ps 3 (r.args.map Wd.toA), .ps 1 (strs nm), .ps 9 (ps.map Fo.toA)]), none]) (fun _ => 0) () ?_ (fun _ => Nat.zero_le _) ?_
            · simp only [go_sem, Nat.reduceAdd, Nat.reduceSub, Nat.reduceMul, Nat.reduceLeDiff, Nat.reduceEqDiff, Nat.reduceBEq, syms_low, wds_low, strs_low, ints_low, rowsA_low, fos_low]
              decide
            · intro _
              simp only [go_sem, Nat.reduceAdd, Nat.reduceSub, Nat.reduceMul, Nat.reduceLeDiff, Nat.reduceEqDiff, Nat.reduceBEq, Int.natCast_zero, Int.reduceLT]
              refine EvK.go 1000 ?_
              simp only [go_sem, Nat.reduceAdd, Nat.reduceSub, Nat.reduceMul, Nat.reduceLeDiff, Nat.reduceEqDiff, Nat.reduceBEq, pairA]
              exact ⟨rfl, rfl⟩
          · obtain ⟨A, hA0, hA1, hA2⟩ : ∃ A : Nat → Bool, A 0 = false ∧ (∀ (i : Nat) (h : i < (v0 :: V).length), A (i + 1) = (A i || (v0 :: V)[i])) ∧ A (v0 :: V).length = (v0 :: V).any id := ⟨fun i => ((v0 :: V).take i).any id, rfl, fun i h => by simp only; rw [take_snoc h, List.any_append]; simp only [List.any_cons, List.any_nil, Bool.or_false, id], by simp only [List.take_length]⟩
            have hbl : (bools (v0 :: V)).length = V.length + 1 := by simp [bools]
            rw [show slA 3 1 (bools (v0 :: V)) = .os 3 0 (V.length + 1) 1 from by rw [bools_cons, slA_cons, bools_len], show slB (bools (v0 :: V)) = some (.row (bools (v0 :: V)) 0) from rfl]
            simp only [go_sem, Nat.reduceAdd, Nat.reduceSub, Nat.reduceMul, Nat.reduceLeDiff, Nat.reduceEqDiff, Nat.reduceBEq, Int.reduceEq]
            refine EvK.loopI (ι := {i : Nat // i ≤ V.length + 1}) 1000 (fun i => mkT 239 [(0, .ps 4 (syms g)), (5, .ptr 0 0), (6, .ptr 1 0), (7, .ptr 2 0), (8, .bool false), (9, .bool false), (10, .os 3 0 (V.length + 1) 1), (24, .bool (A i.1)), (25, .int .i64 i.1)]) (fun _ => [some (.var [.int .i64 w.size, .ps 1 (rowsA w.rows)]), some (.var [.ps 1 (strs ns), .ps 1 (ints vs)]), some (.var [.int .i64 4, .bool l.var, .str l.name, .ps 3 (l.args.map Wd.toA), .bool r.var, .str r.name, .ps 3 (r.args.map Wd.toA), .ps 1 (strs nm), .ps 9 (ps.map Fo.toA)]), some (.row (bools (v0 :: V)) 0)]) (fun i => V.length + 1 - i.1) ⟨0, Nat.zero_le _⟩ ?_ (fun _ => Nat.zero_le _) ?_
            · simp only [go_sem, Nat.reduceAdd, Nat.reduceSub, Nat.reduceMul, Nat.reduceLeDiff, Nat.reduceEqDiff, Nat.reduceBEq, syms_low, wds_low, strs_low, ints_low, rowsA_low, fos_low, bools_low, Int.natCast_zero, hA0]
              decide
            · rintro ⟨i, hi⟩
              by_cases hlt : (i : Int) < ((V.length + 1 : Nat) : Int)
              · have hlt' : i < (v0 :: V).length := by simp; omega
                have hlo' := hA1 i hlt'
                cases hx : A i <;>
                · rw [hx] at hlo'
                  simp only [go_sem, Nat.reduceAdd, Nat.reduceSub, Nat.reduceMul, Nat.reduceLeDiff, Nat.reduceEqDiff, Nat.reduceBEq, hlt, hx, Int.toNat_natCast, bools_get hlt', hbl, Nat.le_refl, Nat.zero_add]
                  (repeat ((with_reducible refine And.intro ?_ ?_); · omega))
                  refine ⟨⟨i + 1, by simp at hlt'; omega⟩, ?_, by simp only; omega⟩
                  simp only [go_sem, Nat.reduceAdd, Nat.reduceSub, Nat.reduceMul, Nat.reduceLeDiff, Nat.reduceEqDiff, Nat.reduceBEq, syms_low, wds_low, strs_low, ints_low, rowsA_low, fos_low, bools_low, hlo']
                  rw [i64_id (by omega)]
                  simp
              · have hie : i = (v0 :: V).length := by simp; omega
                simp only [go_sem, Nat.reduceAdd, Nat.reduceSub, Nat.reduceMul, Nat.reduceLeDiff, Nat.reduceEqDiff, Nat.reduceBEq, hlt]
                refine EvK.go 1000 ?_
                rw [hie, hA2]
                simp only [go_sem, Nat.reduceAdd, Nat.reduceSub, Nat.reduceMul, Nat.reduceLeDiff, Nat.reduceEqDiff, Nat.reduceBEq, pairA]
                exact ⟨rfl, rfl⟩
        · have h1 := hp2 (.inl rfl)
          match V, hVl.trans h1 with
          | [v0, v1], _ =>
          rw [show kindV 5 (l.iw g w ns vs) (r.iw g w ns vs) (l.sort g true) (l.sort g false) (r.sort g false) [v0, v1] = (!v0 || v1, true) from rfl]
          cases v0 <;> cases v1 <;>
          · simp only [go_sem, Nat.reduceAdd, Nat.reduceSub, Nat.reduceMul, Nat.reduceLeDiff, Nat.reduceEqDiff, Nat.reduceBEq, Int.reduceEq, bools_cons, show bools [] = [] from rfl, slA_cons, slB_cons, List.length_nil, List.length_cons, Int.natCast_one, show ((2 : Nat) : Int) = 2 from rfl, Int.reduceLE, Int.reduceLT, pairA, List.getD_cons_zero, List.getD_cons_succ, Nat.zero_lt_one, show Int.toNat 1 = 1 from rfl]
            decide
        · have h1 := hp2 (.inr rfl)
          match V, hVl.trans h1 with
          | [v0, v1], _ =>
          rw [show kindV 6 (l.iw g w ns vs) (r.iw g w ns vs) (l.sort g true) (l.sort g false) (r.sort g false) [v0, v1] = (v0 == v1, true) from rfl]
          cases v0 <;> cases v1 <;>
          · simp only [go_sem, Nat.reduceAdd, Nat.reduceSub, Nat.reduceMul, Nat.reduceLeDiff, Nat.reduceEqDiff, Nat.reduceBEq, Int.reduceEq]
            refine EvK.draw [] 4 4 mixed rfl rfl (Nat.le_refl _) ?_
            simp only [go_sem, Nat.reduceAdd, Nat.reduceSub, Nat.reduceMul, Nat.reduceLeDiff, Nat.reduceEqDiff, Nat.reduceBEq, padS, Int.reduceEq, bools_cons, show bools [] = [] from rfl, slA_cons, slB_cons, List.length_nil, List.length_cons, Int.natCast_one, show ((2 : Nat) : Int) = 2 from rfl, Int.reduceLE, Int.reduceLT, pairA, List.getD_cons_zero, List.getD_cons_succ, Nat.zero_lt_one, show Int.toNat 1 = 1 from rfl]
            (repeat ((with_reducible refine And.intro ?_ ?_); · omega))
            refine EvK.go 1000 ?_
            simp only [go_sem, Nat.reduceAdd, Nat.reduceSub, Nat.reduceMul, Nat.reduceLeDiff, Nat.reduceEqDiff, Nat.reduceBEq]
            done
        · exact absurd rfl k7
        · exact absurd rfl k8
        · rw [show kindV 9 (l.iw g w ns vs) (r.iw g w ns vs) (l.sort g true) (l.sort g false) (r.sort g false) V = (true, true) from rfl]
          simp only [go_sem, Nat.reduceAdd, Nat.reduceSub, Nat.reduceMul, Nat.reduceLeDiff, Nat.reduceEqDiff, Nat.reduceBEq, Int.reduceEq, pairA]
        · rw [show kindV 10 (l.iw g w ns vs) (r.iw g w ns vs) (l.sort g true) (l.sort g false) (r.sort g false) V = (false, true) from rfl]
          simp only [go_sem, Nat.reduceAdd, Nat.reduceSub, Nat.reduceMul, Nat.reduceLeDiff, Nat.reduceEqDiff, Nat.reduceBEq, Int.reduceEq, pairA]
end Go.Proofs

/- The example that is always asked for; what is few. -/
set_option linter.unusedSimpArgs false
namespace Go.Proofs
open Go Go.Abs

theorem Few28_eq (g : List Sy) (w : Wo) (c : List Li) : CallEq Try.prog 6 [.ps 4 (syms g), w.toA, .ps 5 (lits c)] (.bool (symsFew g && (w.few && litsFew c))) := by
  refine CallEq.begin (rs := [.tmp 6]) (m := 14) 1000 Try.func6 rfl rfl rfl (by decide) trivial ?_
  simp only [go_sem, Nat.reduceAdd, Nat.reduceSub, Nat.reduceMul, Nat.reduceLeDiff, Nat.reduceEqDiff, Nat.reduceBEq, wo_eq]
  refine VCall.isoT [] (SymsFew_eq g) (pTL_refl _ _ _) (by simp [go_sem, syms_low]) ?_; simp only [flatR, flatA, flatC, if_true]; refine EvK.go 1000 ?_
  cases symsFew g with
  | false => simp only [go_sem, Nat.reduceAdd, Nat.reduceSub, Nat.reduceMul, Nat.reduceLeDiff, Nat.reduceEqDiff, Nat.reduceBEq, Bool.false_and]
  | true =>
  simp only [go_sem, Nat.reduceAdd, Nat.reduceSub, Nat.reduceMul, Nat.reduceLeDiff, Nat.reduceEqDiff, Nat.reduceBEq, Nat.le_refl]
  rw [← wo_eq]
  refine VCall.isoT [] (WorldFew_eq w) (pTL_refl _ _ _) (by simp [go_sem, wo_low]) ?_; simp only [flatR, flatA, flatC, if_true]; refine EvK.go 1000 ?_
  cases w.few with
  | false => simp only [go_sem, Nat.reduceAdd, Nat.reduceSub, Nat.reduceMul, Nat.reduceLeDiff, Nat.reduceEqDiff, Nat.reduceBEq, Bool.false_and, Bool.true_and]
  | true =>
  simp only [go_sem, Nat.reduceAdd, Nat.reduceSub, Nat.reduceMul, Nat.reduceLeDiff, Nat.reduceEqDiff, Nat.reduceBEq]
  refine VCall.isoT [] (LitsFew_eq c) (pTL_refl _ _ _) (by simp [go_sem, lits_low]) ?_; simp only [flatR, flatA, flatC, if_true]; refine EvK.go 1000 ?_
  simp only [go_sem, Nat.reduceAdd, Nat.reduceSub, Nat.reduceMul, Nat.reduceLeDiff, Nat.reduceEqDiff, Nat.reduceBEq, Bool.true_and]

theorem Var_eq (v : Int) : CallEq Try.prog 43 [.int .i64 v] (Tm.mk (IntKind.i64.wrap (-1 - v)) []).toA := by
  refine CallEq.begin (rs := [.cell 2 28]) (m := 5) 1000 Try.func43 rfl rfl rfl (by decide) (toA_low _) ?_
  simp only [go_sem, Nat.reduceAdd, Nat.reduceSub, Nat.reduceMul, Nat.reduceLeDiff, Nat.reduceEqDiff, Nat.reduceBEq, toA_eq, Tm.head, Tm.args, List.map_nil]
theorem Fun_eq (h : Int) (ts : List Tm) : CallEq Try.prog 44 [.int .i64 h, .ps 2 (ts.map Tm.toA)] (Tm.mk h ts).toA := by
  refine CallEq.begin (rs := [.cell 4 28]) (m := 6) 1000 Try.func44 rfl rfl rfl (by decide) (toA_low _) ?_
  simp only [go_sem, Nat.reduceAdd, Nat.reduceSub, Nat.reduceMul, Nat.reduceLeDiff, Nat.reduceEqDiff, Nat.reduceBEq, toA_eq, Tm.head, Tm.args]

def toyG : List Sy := [⟨⟨#[36, 116, 114, 117, 101]⟩, 0, 1, true⟩, ⟨⟨#[102]⟩, 1, 1, false⟩, ⟨⟨#[112]⟩, 1, 1, true⟩]
def toyW : Wo := ⟨2, [[1], [1, 0], [0, 1]]⟩

theorem Toy_eq : CallEq Try.prog 42 [] (.tup [.ps 4 (syms toyG), toyW.toA]) := by
  refine CallEq.begin (rs := [.tmp 0, .cell 1 25]) (m := 13) 1000 Try.func42 rfl rfl rfl (by decide) (by simp [go_sem, syms_low, wo_low]) ?_
  have e1 : syms toyG = [.agg [.str ⟨#[36, 116, 114, 117, 101]⟩, .int .i64 0, .int .i64 1, .bool true], .agg [.str ⟨#[102]⟩, .int .i64 1, .int .i64 1, .bool false], .agg [.str ⟨#[112]⟩, .int .i64 1, .int .i64 1, .bool true]] := rfl
  have e2 : rowsA toyW.rows = [.ps 1 [.int .i64 1], .ps 1 [.int .i64 1, .int .i64 0], .ps 1 [.int .i64 0, .int .i64 1]] := rfl
  have e3 : toyW.size = 2 := rfl
  simp only [go_sem, Nat.reduceAdd, Nat.reduceSub, Nat.reduceMul, Nat.reduceLeDiff, Nat.reduceEqDiff, Nat.reduceBEq, wo_eq, Nat.le_refl, e1, e2, e3]
  decide

def toyX : Tm := .mk (-1) []
def toyA : Li := ⟨false, .mk 2 [toyX], .mk 0 []⟩
def toyB : Li := ⟨false, .mk 2 [.mk 1 [toyX]], .mk 0 []⟩
def noneW : Wd := .mk false ⟨#[]⟩ []
def toyP : Fo := .mk 0 (.mk false ⟨#[112]⟩ [.mk true ⟨#[88]⟩ []]) noneW [] []
def toyF : Fo := .mk 8 noneW noneW [⟨#[88]⟩] [toyP]
theorem toy_1 : worldOk toyG toyW = true := by kernel_rfl
theorem toy_2 : fails toyG toyW [toyA] = ([0], true, 0) := by kernel_rfl
theorem toy_3 : fails toyG toyW [toyA, toyB] = ([], false, 0) := by kernel_rfl
theorem toy_4 : valueOf toyG toyW (.mk 1 [toyX]) [1] = (0, 0) := by kernel_rfl
theorem toy_5 : trueM toyG toyW toyF = (true, 0) := by kernel_rfl

set_option maxRecDepth 10000 in
theorem Awake_eq : CallEq Try.prog 13 [] (.bool true) := by
  refine CallEq.begin (rs := [.tmp 0]) (m := 120) 1000 Try.func13 rfl rfl rfl (by decide) trivial ?_
  simp only [go_sem, Nat.reduceAdd, Nat.reduceSub, Nat.reduceMul, Nat.reduceLeDiff, Nat.reduceEqDiff, Nat.reduceBEq]
  refine VCall.isoT [] (Toy_eq) (pTL_refl _ _ _) (by simp [go_sem, ]) ?_; rw [frzI_nil]; simp only [ite_self]; refine EvK.go 1000 ?_
  simp only [go_sem, Nat.reduceAdd, Nat.reduceSub, Nat.reduceMul, Nat.reduceLeDiff, Nat.reduceEqDiff, Nat.reduceBEq, wo_cells, Nat.le_refl]
  have hv := Var_eq 0
  rw [show Tm.mk (IntKind.i64.wrap (-1 - 0)) [] = toyX from rfl] at hv
  refine VCall.isoT [] (hv) (pTL_refl _ _ _) (by simp [go_sem, ]) ?_; rw [frzI_nil]; simp only [ite_self]; refine EvK.go 1000 ?_
  simp only [go_sem, Nat.reduceAdd, Nat.reduceSub, Nat.reduceMul, Nat.reduceLeDiff, Nat.reduceEqDiff, Nat.reduceBEq, toA_cells, Nat.le_refl]
  refine ⟨by decide, ?_⟩
  refine VCall.isoT [2] (Fun_eq 2 [toyX]) ?_ (by simp [go_sem, toA_low]) ?_
  · simp only [go_sem, Nat.reduceAdd, Nat.reduceSub, Nat.reduceMul, Nat.reduceLeDiff, Nat.reduceEqDiff, Nat.reduceBEq, among_cons, among_nil, List.map_cons, List.map_nil, toA_eq]
  rw [show flatR (Tm.mk 2 [toyX]).toA = false from rfl]
  refine EvK.go 1000 ?_
  have hf0 := Fun_eq 0 []
  simp only [go_sem, Nat.reduceAdd, Nat.reduceSub, Nat.reduceMul, Nat.reduceLeDiff, Nat.reduceEqDiff, Nat.reduceBEq, Nat.le_refl, among_cons, among_nil]
  refine VCall.isoT [] hf0 ?_ (by simp [go_sem]) ?_
  · simp only [go_sem, Nat.reduceAdd, Nat.reduceSub, Nat.reduceMul, Nat.reduceLeDiff, Nat.reduceEqDiff, Nat.reduceBEq, among_cons, among_nil, List.map_cons, List.map_nil, toA_eq]
  rw [frzI_nil]; simp only [ite_self]
  refine EvK.go 1000 ?_
  simp only [go_sem, Nat.reduceAdd, Nat.reduceSub, Nat.reduceMul, Nat.reduceLeDiff, Nat.reduceEqDiff, Nat.reduceBEq, toA_cells, Nat.le_refl]
  refine ⟨by decide, ?_⟩
  refine VCall.isoT [4] (Fun_eq 1 [toyX]) ?_ (by simp [go_sem, toA_low]) ?_
  · simp only [go_sem, Nat.reduceAdd, Nat.reduceSub, Nat.reduceMul, Nat.reduceLeDiff, Nat.reduceEqDiff, Nat.reduceBEq, among_cons, among_nil, List.map_cons, List.map_nil, toA_eq]
  rw [show flatR (Tm.mk 1 [toyX]).toA = false from rfl]
  refine EvK.go 1000 ?_
  simp only [go_sem, Nat.reduceAdd, Nat.reduceSub, Nat.reduceMul, Nat.reduceLeDiff, Nat.reduceEqDiff, Nat.reduceBEq, toA_cells, Nat.le_refl, among_cons, among_nil]
  refine ⟨by decide, ?_⟩
  refine ⟨by decide, ?_⟩
  refine VCall.isoT [5] (Fun_eq 2 [.mk 1 [toyX]]) ?_ (by simp [go_sem, toA_low]) ?_
  · simp only [go_sem, Nat.reduceAdd, Nat.reduceSub, Nat.reduceMul, Nat.reduceLeDiff, Nat.reduceEqDiff, Nat.reduceBEq, among_cons, among_nil, List.map_cons, List.map_nil, toA_eq]
  rw [show flatR (Tm.mk 2 [.mk 1 [toyX]]).toA = false from rfl]
  refine EvK.go 1000 ?_
  simp only [go_sem, Nat.reduceAdd, Nat.reduceSub, Nat.reduceMul, Nat.reduceLeDiff, Nat.reduceEqDiff, Nat.reduceBEq, toA_cells, Nat.le_refl, among_cons, among_nil]
  refine VCall.isoT [] hf0 ?_ (by simp [go_sem]) ?_
  · simp only [go_sem, Nat.reduceAdd, Nat.reduceSub, Nat.reduceMul, Nat.reduceLeDiff, Nat.reduceEqDiff, Nat.reduceBEq, among_cons, among_nil, List.map_cons, List.map_nil, toA_eq]
  rw [frzI_nil]; simp only [ite_self]
  refine EvK.go 1000 ?_
  simp only [go_sem, Nat.reduceAdd, Nat.reduceSub, Nat.reduceMul, Nat.reduceLeDiff, Nat.reduceEqDiff, Nat.reduceBEq, toA_cells, Nat.le_refl]
  have hF1 := FailsM_eq toyG toyW [toyA] (by decide) (by simp [sides, toyA, toyX, Tm.fits, Tm.fit, In64]) (by decide)
  rw [toy_2] at hF1
  have hF2 := FailsM_eq toyG toyW [toyA, toyB] (by decide) (by simp [sides, toyA, toyB, toyX, Tm.fits, Tm.fit, In64]) (by decide)
  rw [toy_3] at hF2
  have eA : lits [toyA] = [.agg [.bool false, .int .i64 (Tm.mk 2 [toyX]).head, .ps 2 ((Tm.mk 2 [toyX]).args.map Tm.toA), .int .i64 (Tm.mk 0 []).head, .ps 2 ((Tm.mk 0 []).args.map Tm.toA)]] := rfl
  have eB : lits [toyA, toyB] = [.agg [.bool false, .int .i64 (Tm.mk 2 [toyX]).head, .ps 2 ((Tm.mk 2 [toyX]).args.map Tm.toA), .int .i64 (Tm.mk 0 []).head, .ps 2 ((Tm.mk 0 []).args.map Tm.toA)], .agg [.bool false, .int .i64 (Tm.mk 2 [Tm.mk 1 [toyX]]).head, .ps 2 ((Tm.mk 2 [Tm.mk 1 [toyX]]).args.map Tm.toA), .int .i64 (Tm.mk 0 []).head, .ps 2 ((Tm.mk 0 []).args.map Tm.toA)]] := rfl
  refine ⟨by decide, ?_⟩
  refine VCall.isoT [7] hF1 ?_ (by simp [go_sem, syms_low, wo_low, lits_low]) ?_
  · simp only [go_sem, Nat.reduceAdd, Nat.reduceSub, Nat.reduceMul, Nat.reduceLeDiff, Nat.reduceEqDiff, Nat.reduceBEq, among_cons, among_nil, eA, wo_eq]
  rw [show flatR (failsA ([0], true, 0)) = false from rfl]
  refine EvK.go 1000 ?_
  simp only [go_sem, Nat.reduceAdd, Nat.reduceSub, Nat.reduceMul, Nat.reduceLeDiff, Nat.reduceEqDiff, Nat.reduceBEq, failsA_eq, Nat.le_refl, among_cons, among_nil]
  refine ⟨by decide, ?_⟩
  refine VCall.isoT [8] hF2 ?_ (by simp [go_sem, syms_low, wo_low, lits_low]) ?_
  · simp only [go_sem, Nat.reduceAdd, Nat.reduceSub, Nat.reduceMul, Nat.reduceLeDiff, Nat.reduceEqDiff, Nat.reduceBEq, among_cons, among_nil, eB, wo_eq]
  rw [show flatR (failsA ([], false, 0)) = true from rfl]
  refine EvK.go 1000 ?_
  simp only [go_sem, Nat.reduceAdd, Nat.reduceSub, Nat.reduceMul, Nat.reduceLeDiff, Nat.reduceEqDiff, Nat.reduceBEq, failsA_eq, Nat.le_refl, among_cons, among_nil]
  have hTr := TrueM_eq toyG toyW toyF (by decide)
  rw [toy_5] at hTr
  have eF : toyF.toA = .agg [.int .i64 8, .bool false, .str ⟨#[]⟩, .ps 3 [], .bool false, .str ⟨#[]⟩, .ps 3 [], .ps 1 [.str ⟨#[88]⟩], .ps 9 [.agg [.int .i64 0, .bool false, .str ⟨#[112]⟩, .ps 3 [.agg [.bool true, .str ⟨#[88]⟩, .ps 3 []]], .bool false, .str ⟨#[]⟩, .ps 3 [], .ps 1 [], .ps 9 []]]] := rfl
  refine ⟨by decide, by decide, by decide, ?_⟩
  refine VCall.isoT [10, 11, 12] hTr ?_ (by simp [go_sem, syms_low, wo_low, fo_low]) ?_
  · simp only [go_sem, Nat.reduceAdd, Nat.reduceSub, Nat.reduceMul, Nat.reduceLeDiff, Nat.reduceEqDiff, Nat.reduceBEq, among_cons, among_nil, eF, wo_eq]
  rw [show flatR (.tup [.bool (true, (0 : Int)).1, .int .i64 (true, (0 : Int)).2]) = true from rfl]
  refine EvK.go 1000 ?_
  simp only [go_sem, Nat.reduceAdd, Nat.reduceSub, Nat.reduceMul, Nat.reduceLeDiff, Nat.reduceEqDiff, Nat.reduceBEq]
  refine EvK.draw [⟨none, [], [13, 14]⟩, ⟨none, [], [13, 14]⟩, ⟨none, [], [14]⟩, ⟨some 13, [13], [14]⟩, ⟨none, [13], [14]⟩, ⟨some 14, [14], [13]⟩, ⟨none, [14], []⟩] 13 15 mixed rfl rfl (by decide) ?_
  simp only [go_sem, Nat.reduceAdd, Nat.reduceSub, Nat.reduceMul, Nat.reduceLeDiff, Nat.reduceEqDiff, Nat.reduceBEq, padS, Nat.le_refl]
  refine ⟨by decide, ?_⟩
  refine ⟨_, _, VCall.isoT [13] (Fun_eq 1 [toyX]) ?_ (by simp [go_sem, toA_low]) ⟨rfl, rfl⟩, ?_, ?_⟩
  · simp only [go_sem, Nat.reduceAdd, Nat.reduceSub, Nat.reduceMul, Nat.reduceLeDiff, Nat.reduceEqDiff, Nat.reduceBEq, among_cons, among_nil, List.map_cons, List.map_nil, toA_eq]
  · rw [show flatR (Tm.mk 1 [toyX]).toA = false from rfl]
    simp only [go_sem, Nat.reduceAdd, Nat.reduceSub, Nat.reduceMul, Nat.reduceLeDiff, Nat.reduceEqDiff, Nat.reduceBEq, among_cons, among_nil, Bool.false_eq_true]
  rw [show flatR (Tm.mk 1 [toyX]).toA = false from rfl]
  simp only [go_sem, Nat.reduceAdd, Nat.reduceSub, Nat.reduceMul, Nat.reduceLeDiff, Nat.reduceEqDiff, Nat.reduceBEq, among_cons, among_nil, Bool.false_eq_true, Nat.le_refl]
  have hVa := ValueM_eq toyG toyW (.mk 1 [toyX]) [1] (by simp [toyX, Tm.fits, Tm.fit, In64]) (by decide)
  rw [toy_4] at hVa
  refine ⟨by decide, ?_⟩
  refine ⟨_, _, VCall.isoT [14] hVa ?_ (by simp [go_sem, syms_low, wo_low, toA_low, ints_low]) ⟨rfl, rfl⟩, ?_, ?_⟩
  · have e1 : ints [1] = [.int .i64 1] := rfl
    simp only [go_sem, Nat.reduceAdd, Nat.reduceSub, Nat.reduceMul, Nat.reduceLeDiff, Nat.reduceEqDiff, Nat.reduceBEq, among_cons, among_nil, wo_eq, e1]
  · rw [show flatR (.tup [.int .i64 ((0 : Int), (0 : Int)).1, .int .i64 ((0 : Int), (0 : Int)).2]) = true from rfl]
    simp only [go_sem, Nat.reduceAdd, Nat.reduceSub, Nat.reduceMul, Nat.reduceLeDiff, Nat.reduceEqDiff, Nat.reduceBEq]
  rw [show flatR (.tup [.int .i64 ((0 : Int), (0 : Int)).1, .int .i64 ((0 : Int), (0 : Int)).2]) = true from rfl]
  simp only [go_sem, Nat.reduceAdd, Nat.reduceSub, Nat.reduceMul, Nat.reduceLeDiff, Nat.reduceEqDiff, Nat.reduceBEq]
  refine EvK.go 1000 ?_
  simp only [go_sem, Nat.reduceAdd, Nat.reduceSub, Nat.reduceMul, Nat.reduceLeDiff, Nat.reduceEqDiff, Nat.reduceBEq]
  refine ⟨by decide, ?_⟩
  refine VCall.isoT [15] (Ints_eq [0] [0] (by decide)) ?_ (by simp [go_sem, ints_low]) ?_
  · have e0 : ints [0] = [.int .i64 0] := rfl
    simp only [go_sem, Nat.reduceAdd, Nat.reduceSub, Nat.reduceMul, Nat.reduceLeDiff, Nat.reduceEqDiff, Nat.reduceBEq, among_cons, among_nil, e0]
  rw [show flatR (.bool (decide (([0] : List Int) = [0]))) = true from rfl, show decide (([0] : List Int) = [0]) = true from rfl]
  refine EvK.go 1000 ?_
  simp only [go_sem, Nat.reduceAdd, Nat.reduceSub, Nat.reduceMul, Nat.reduceLeDiff, Nat.reduceEqDiff, Nat.reduceBEq, Nat.le_refl]
  have hCh := CheckM_eq toyG toyW
  rw [toy_1] at hCh
  rw [← wo_eq]
  refine VCall.isoT [] (hCh) (pTL_refl _ _ _) (by simp [go_sem, syms_low, wo_low]) ?_; simp only [flatR, flatA, flatC, if_true]; refine EvK.go 1000 ?_
  simp only [go_sem, Nat.reduceAdd, Nat.reduceSub, Nat.reduceMul, Nat.reduceLeDiff, Nat.reduceEqDiff, Nat.reduceBEq, Int.reduceEq]
end Go.Proofs

/- Whether a formula is true in a world, as the document tells it; ModelTrue: the walk. -/
set_option linter.unusedSimpArgs false
namespace Go.Proofs
open Go Go.Abs

set_option maxRecDepth 4000 in
set_option maxHeartbeats 1600000 in
theorem TrueR_eq (g : List Sy) (hg : g.length < 1000000000) (w : Wo) (f : Fo) (hsz : f.size ≤ 300) : CallEq Try.prog 20 [.ps 4 (syms g), w.toA, f.toA] (.tup [.bool (trueR g w f).1, .int .i64 (trueR g w f).2]) := by
  refine CallEq.begin (rs := [.tmp 6, .tmp 7]) (m := 57) 1000 Try.func20 rfl rfl rfl (by decide) (by simp [go_sem]) ?_
  have hcl : f.cs.length = 9 := rfl
  have hal : f.cs.all AVal.isCell = true := rfl
  have ht9 : List.take 9 f.cs = f.cs := rfl
  have hcs : f.toA = .agg f.cs := by rw [fo_eq]; rfl
  simp only [go_sem, Nat.reduceAdd, Nat.reduceSub, Nat.reduceMul, Nat.reduceLeDiff, Nat.reduceEqDiff, Nat.reduceBEq, wo_eq, hcs, hcl, hal, ht9, Nat.le_refl]
  rw [← wo_eq]
  refine VCall.isoT [] (WorldRight_eq g w) (pTL_refl _ _ _) (by simp [go_sem, syms_low, wo_low]) ?_; simp only [flatR, flatA, flatC, if_true]; refine EvK.go 1000 ?_
  cases c1 : worldOk g w with
  | false => simp only [go_sem, Nat.reduceAdd, Nat.reduceSub, Nat.reduceMul, Nat.reduceLeDiff, Nat.reduceEqDiff, Nat.reduceBEq, trueR, c1]
  | true =>
  have hb := bound_le f (by omega)
  obtain ⟨q1, q2, q3, q4, q5, q6⟩ := worldOk_size c1
  simp only [go_sem, Nat.reduceAdd, Nat.reduceSub, Nat.reduceMul, Nat.reduceLeDiff, Nat.reduceEqDiff, Nat.reduceBEq, hcl, ht9, Nat.le_refl]
  rw [← hcs]
  refine VCall.isoT [] (CheckR_eq f (by omega)) (pTL_refl _ _ _) (by simp [go_sem, fo_low]) ?_; simp only [flatR, flatA, flatC, if_true]; refine EvK.go 1000 ?_
  cases c2 : f.right with
  | false => simp only [go_sem, Nat.reduceAdd, Nat.reduceSub, Nat.reduceMul, Nat.reduceLeDiff, Nat.reduceEqDiff, Nat.reduceBEq, trueR, c1, c2, Int.reduceEq, Int.reduceNe]
  | true =>
  simp only [go_sem, Nat.reduceAdd, Nat.reduceSub, Nat.reduceMul, Nat.reduceLeDiff, Nat.reduceEqDiff, Nat.reduceBEq, hcl, ht9, Nat.le_refl]
  rw [← hcs]
  refine VCall.isoT [] (BoundR_eq f (by omega)) (pTL_refl _ _ _) (by simp [go_sem, fo_low]) ?_; simp only [flatR, flatA, flatC, if_true]; refine EvK.go 1000 ?_
  simp only [go_sem, Nat.reduceAdd, Nat.reduceSub, Nat.reduceMul, Nat.reduceLeDiff, Nat.reduceEqDiff, Nat.reduceBEq]
  have hT : trueR g w f = if 20000 < manyL w.size 20000 f.bound.toNat 1 ∨ (1 < w.size ∧ 20 < f.bound) then (false, 2) else if (f.rf g w [] []).2 = false then (false, 8) else ((f.rf g w [] []).1, 0) := by
    unfold trueR
    rw [if_neg (by rw [c1]; decide), if_neg (by rw [c2]; decide)]
  have hF := FormR_eq g hg w c1 f (by omega) c2 [] [] rfl (by simp; omega) (fun v hv => by cases hv)
  rw [hT]
  generalize f.rf g w [] [] = V at *
  obtain ⟨v1, v2⟩ := V
  have hbn : ((f.bound.toNat : Nat) : Int) = f.bound := by omega
  generalize f.bound.toNat = m at *
  rw [← hbn]
  refine EvK.loopI (ι := {p : Nat × Int // p.1 ≤ m ∧ manyL w.size 20000 (m - p.1) p.2 = manyL w.size 20000 m 1}) 1000 (fun p => mkT 60 [(0, .ps 4 (syms g)), (4, .ptr 0 0), (5, .ptr 1 0), (6, .bool false), (7, .int .i64 0), (9, .int .i64 p.1.2), (10, .int .i64 m), (11, .int .i64 p.1.1)]) (fun _ => [some (.var [.int .i64 w.size, .ps 1 (rowsA w.rows)]), some (.var f.cs)]) (fun p => m - p.1.1) ⟨(0, 1), Nat.zero_le _, rfl⟩ ?_ (fun _ => Nat.zero_le _) ?_
  · simp only [go_sem, Nat.reduceAdd, Nat.reduceSub, Nat.reduceMul, Nat.reduceLeDiff, Nat.reduceEqDiff, Nat.reduceBEq, syms_low, rowsA_low, wds_low, strs_low, fos_low, Fo.cs, Int.natCast_zero]
    decide
  · rintro ⟨⟨i, n⟩, hi, hp⟩
    simp only at hi hp
    by_cases hlt : (i : Int) < m
    · have hlt' : i < m := by omega
      have hsub : m - i = (m - (i + 1)) + 1 := by omega
      by_cases hn : n ≤ 20000
      · rw [hsub, manyL, if_pos hn] at hp
        simp only [go_sem, Nat.reduceAdd, Nat.reduceSub, Nat.reduceMul, Nat.reduceLeDiff, Nat.reduceEqDiff, Nat.reduceBEq, hlt, hn]
        refine ⟨⟨(i + 1, IntKind.i64.wrap (n * w.size)), hlt', hp⟩, ?_, by simp only; omega⟩
        simp only [go_sem, Nat.reduceAdd, Nat.reduceSub, Nat.reduceMul, Nat.reduceLeDiff, Nat.reduceEqDiff, Nat.reduceBEq, syms_low, rowsA_low, wds_low, strs_low, fos_low, Fo.cs]
        rw [i64_id (n := (i : Int) + 1) (by omega)]
        simp
      · rw [manyL_stop _ _ hn] at hp
        have h2 : 20000 < n := by omega
        simp only [go_sem, Nat.reduceAdd, Nat.reduceSub, Nat.reduceMul, Nat.reduceLeDiff, Nat.reduceEqDiff, Nat.reduceBEq, hlt, hn]
        refine EvK.go 1000 ?_
        rw [← hp, if_pos (.inl h2)]
        simp only [go_sem, Nat.reduceAdd, Nat.reduceSub, Nat.reduceMul, Nat.reduceLeDiff, Nat.reduceEqDiff, Nat.reduceBEq, h2]
    · have h0 : m - i = 0 := by omega
      rw [h0, manyL] at hp
      simp only [go_sem, Nat.reduceAdd, Nat.reduceSub, Nat.reduceMul, Nat.reduceLeDiff, Nat.reduceEqDiff, Nat.reduceBEq, hlt]
      refine EvK.go 1000 ?_
      rw [← hp]
      by_cases c3 : 20000 < n
      · rw [if_pos (.inl c3)]
        simp only [go_sem, Nat.reduceAdd, Nat.reduceSub, Nat.reduceMul, Nat.reduceLeDiff, Nat.reduceEqDiff, Nat.reduceBEq, c3]
      by_cases c4 : 1 < w.size
      · by_cases c5 : 20 < (m : Int)
        · rw [if_pos (.inr ⟨c4, c5⟩)]
          simp only [go_sem, Nat.reduceAdd, Nat.reduceSub, Nat.reduceMul, Nat.reduceLeDiff, Nat.reduceEqDiff, Nat.reduceBEq, c3, c4, c5]
        · rw [if_neg (fun h => h.elim c3 fun h => c5 h.2)]
          simp only [go_sem, Nat.reduceAdd, Nat.reduceSub, Nat.reduceMul, Nat.reduceLeDiff, Nat.reduceEqDiff, Nat.reduceBEq, c3, c4, c5, hcl, ht9, hal, Nat.le_refl]
          rw [← hcs, ← wo_eq]
          refine VCall.isoT [] hF ⟨pT_refl _ _ _, pT_refl _ _ _, by simp [envA, strs, ints, pT, pTL], pT_refl _ _ _, rfl⟩ (by simp [go_sem, syms_low, wo_low, fo_low, env_low]) ?_
          rw [frzI_nil]
          simp only [ite_self]
          refine EvK.go 1000 ?_
          cases v2 <;> simp only [go_sem, Nat.reduceAdd, Nat.reduceSub, Nat.reduceMul, Nat.reduceLeDiff, Nat.reduceEqDiff, Nat.reduceBEq, pairA, Bool.true_eq_false, if_true, if_false]
      · rw [if_neg (fun h => h.elim c3 fun h => c4 h.1)]
        simp only [go_sem, Nat.reduceAdd, Nat.reduceSub, Nat.reduceMul, Nat.reduceLeDiff, Nat.reduceEqDiff, Nat.reduceBEq, c3, c4, hcl, ht9, hal, Nat.le_refl]
        rw [← hcs, ← wo_eq]
        refine VCall.isoT [] hF ⟨pT_refl _ _ _, pT_refl _ _ _, by simp [envA, strs, ints, pT, pTL], pT_refl _ _ _, rfl⟩ (by simp [go_sem, syms_low, wo_low, fo_low, env_low]) ?_
        rw [frzI_nil]
        simp only [ite_self]
        refine EvK.go 1000 ?_
        cases v2 <;> simp only [go_sem, Nat.reduceAdd, Nat.reduceSub, Nat.reduceMul, Nat.reduceLeDiff, Nat.reduceEqDiff, Nat.reduceBEq, pairA, Bool.true_eq_false, if_true, if_false]

set_option maxHeartbeats 1000000 in
theorem TrueLaw_calls (g : List Sy) (w : Wo) (f : Fo) (hfit : f.fit) {W : World} {vs : Array Value}
    (h2 : vs.size = ([.ps 4 (syms g), w.toA, f.toA] : List AVal).length)
    (h3 : ∀ k, k < ([.ps 4 (syms g), w.toA, f.toA] : List AVal).length → Rep W noM noB (vs.getD k undef) (([.ps 4 (syms g), w.toA, f.toA] : List AVal).getD k .undef)) :
    Calls Try.prog 4 vs W fun e w' => e = .returned (.bool true) ∧ RowKit.Below W.heap.size W w' := by
  refine calls_true (args := [.ps 4 (syms g), w.toA, f.toA]) (rs := [.tmp 6]) (m := 49) 1000 Try.func4 rfl rfl rfl rfl ?_ h2 h3
  clear h2 h3
  have hcl : f.cs.length = 9 := rfl
  have hal : f.cs.all AVal.isCell = true := rfl
  have ht9 : List.take 9 f.cs = f.cs := rfl
  have hcs : f.toA = .agg f.cs := by rw [fo_eq]; rfl
  simp only [go_sem, Nat.reduceAdd, Nat.reduceSub, Nat.reduceMul, Nat.reduceLeDiff, Nat.reduceEqDiff, Nat.reduceBEq, wo_eq, hcs, hcl, hal, ht9, Nat.le_refl]
  rw [← wo_eq]
  refine VCall.isoT [] (Few28_eq g w []) ⟨pT_refl _ _ _, pT_refl _ _ _, by simp [lits, pT, pTL], rfl⟩ (by simp [go_sem, syms_low, wo_low, lits_low]) ?_
  simp only [flatR, flatA, flatC, if_true]
  refine EvK.go 1000 ?_
  cases hfew : (symsFew g && (w.few && litsFew [])) with
  | false => simp only [go_sem, Nat.reduceAdd, Nat.reduceSub, Nat.reduceMul, Nat.reduceLeDiff, Nat.reduceEqDiff, Nat.reduceBEq, hcl, hal, ht9, Nat.le_refl]
  | true =>
  simp only [Bool.and_eq_true] at hfew
  have hg : g.length < 1000000000 := by
    have := hfew.1
    simp only [symsFew, Bool.and_eq_true, decide_eq_true_eq] at this
    omega
  simp only [go_sem, Nat.reduceAdd, Nat.reduceSub, Nat.reduceMul, Nat.reduceLeDiff, Nat.reduceEqDiff, Nat.reduceBEq, hcl, hal, ht9, Nat.le_refl]
  rw [← hcs]
  refine VCall.isoT [] (CountR_eq f hfit 300 (by decide) (by decide)) (pTL_refl _ _ _) (by simp [go_sem, fo_low]) ?_; simp only [flatR, flatA, flatC, if_true]; refine EvK.go 1000 ?_
  by_cases c2 : 300 < f.count 300
  case pos => simp only [go_sem, Nat.reduceAdd, Nat.reduceSub, Nat.reduceMul, Nat.reduceLeDiff, Nat.reduceEqDiff, Nat.reduceBEq, c2, hcl, hal, ht9, Nat.le_refl]
  have hsz : f.size ≤ 300 := by
    have := (count_bounds f 300 hfit (by decide)).2.2 (by omega)
    omega
  simp only [go_sem, Nat.reduceAdd, Nat.reduceSub, Nat.reduceMul, Nat.reduceLeDiff, Nat.reduceEqDiff, Nat.reduceBEq, c2, hcl, hal, ht9, Nat.le_refl]
  rw [← hcs]
  refine VCall.isoT [] (Cost_eq w.size 3000 (by decide) f (by omega)) (pTL_refl _ _ _) (by simp [go_sem, fo_low]) ?_; simp only [flatR, flatA, flatC, if_true]; refine EvK.go 1000 ?_
  by_cases c3 : 3000 < f.cost w.size 3000
  case pos => simp only [go_sem, Nat.reduceAdd, Nat.reduceSub, Nat.reduceMul, Nat.reduceLeDiff, Nat.reduceEqDiff, Nat.reduceBEq, c3]
  simp only [go_sem, Nat.reduceAdd, Nat.reduceSub, Nat.reduceMul, Nat.reduceLeDiff, Nat.reduceEqDiff, Nat.reduceBEq, c3, hcl, hal, ht9, Nat.le_refl]
  rw [← hcs, ← wo_eq]
  refine VCall.isoT [] (TrueM_eq g w f (by omega)) (pTL_refl _ _ _) (by simp [go_sem, syms_low, wo_low, fo_low]) ?_; rw [frzI_nil]; simp only [ite_self]; refine EvK.go 1000 ?_
  simp only [go_sem, Nat.reduceAdd, Nat.reduceSub, Nat.reduceMul, Nat.reduceLeDiff, Nat.reduceEqDiff, Nat.reduceBEq, hcl, hal, ht9, Nat.le_refl]
  rw [← hcs, ← wo_eq]
  refine VCall.isoT [] (TrueR_eq g hg w f hsz) (pTL_refl _ _ _) (by simp [go_sem, syms_low, wo_low, fo_low]) ?_; rw [frzI_nil]; simp only [ite_self]; refine EvK.go 1000 ?_
  rw [true_same (by omega)]
  simp only [go_sem, Nat.reduceAdd, Nat.reduceSub, Nat.reduceMul, Nat.reduceLeDiff, Nat.reduceEqDiff, Nat.reduceBEq]
  refine VCall.isoT [] (Awake_eq) (pTL_refl _ _ _) (by simp [go_sem, ]) ?_; simp only [flatR, flatA, flatC, if_true]; refine EvK.go 1000 ?_
  simp only [go_sem, Nat.reduceAdd, Nat.reduceSub, Nat.reduceMul, Nat.reduceLeDiff, Nat.reduceEqDiff, Nat.reduceBEq, decide_true, beq_self_eq_true]
  done
end Go.Proofs
