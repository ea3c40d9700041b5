/- Part 37 of my own framework and of the walks of functions: Pm, Pn, Po, Pp, Pq, Pr, Ps. -/
import Derived.Test.YtcbheeddfginoaaOwn36
set_option linter.unusedVariables false
set_option linter.unusedSimpArgs false

/- The parts of a term, one after the other. -/
set_option linter.unusedSimpArgs false
namespace Go.Proofs
open Go Go.Abs

theorem Backward_eq (ts : List Tm) (n0 : Nat) (σ0 : Store) (S : Nat → Store) (p : Nat) (y : AVal) (h0 : σ0.length = n0) (hS0 : σ0 ++ [none] = S 0) (hlen : ∀ i, (S i).length = n0 + 1) (hget : ∀ i, getS (S i) p = some (.var [.ps 2 (ts.map Tm.toA)])) (hp : p < n0)
    (hs : ∀ i, lowSo (n0 + 1) (S i)) (hs0 : lowSo n0 σ0) (hy0 : y.low n0) (hl : ts.length < 2 ^ 62)
    (hy : ∀ i (h : i < ts.length), VCall Try.prog y [.int .i64 ((ts.length : Int) - 1 - i), ts[ts.length - 1 - i].toA] (S i) (fun r σ' => r = .bool true ∧ n0 + 1 ≤ σ'.length ∧ lowSo σ'.length σ' ∧ ∃ π : Nat → Nat, (∀ b, b < n0 → π b = b) ∧ (∀ b b', b < n0 + 1 → b' < n0 + 1 → π b = π b' → b = b') ∧ leSoR π σ' 0 (S (i + 1)))) :
    VCall Try.prog (.fn 112 [] [.ptr p 0]) [y] σ0 (fun _ σ' => σ' = S ts.length) := by
  subst h0
  refine VCall.beginK (rs := []) (m := 17) Try.func112 rfl rfl rfl rfl rfl ?_
  refine EvK.pad 1 (Nat.le_refl _) (by simp [go_sem, hy0, hp]) hs0 ?_
  rw [show List.replicate 1 (none : Option Blk) = [none] from rfl, hS0]
  refine EvK.go 1000 ?_
  simp only [go_sem, Nat.reduceAdd, Nat.reduceSub, Nat.reduceMul, Nat.reduceLeDiff, Nat.reduceEqDiff, Nat.reduceBEq, hget, Nat.le_refl, List.length_map]
  rw [i64_id (by omega)]
  have hlo0 : lowSo (σ0.length + 1) (S 0) := hs 0
  refine EvK.loopI (ι := {i : Nat // i ≤ ts.length}) 1000 (fun i => mkT 19 [(0, y), (1, .ptr p 0), (3, .int .i64 ((ts.length : Int) - 1 - i.1))]) (fun i => S i.1) (fun i => ts.length - i.1) ⟨0, by omega⟩ ?_ (fun i => by rw [hlen]; exact Nat.le_succ _) ?_
  · simp only [go_sem, Nat.reduceAdd, Nat.reduceSub, Nat.reduceMul, Nat.reduceLeDiff, Nat.reduceEqDiff, Nat.reduceBEq, hlen, hlo0, low_mono (Nat.le_succ _) hy0, Int.natCast_zero, Int.sub_zero]
    exact ⟨leSo_refl _, by omega⟩
  · rintro ⟨i, hi⟩
    by_cases hlt : 0 ≤ (ts.length : Int) - 1 - i
    · have hlt' : i < ts.length := by omega
      have hb : ts.length - 1 - i < ts.length := by omega
      have hn : ((ts.length : Int) - 1 - i).toNat = ts.length - 1 - i := by omega
      simp only [go_sem, Nat.reduceAdd, Nat.reduceSub, Nat.reduceMul, Nat.reduceLeDiff, Nat.reduceEqDiff, Nat.reduceBEq, hlt, hget, Nat.le_refl, List.length_map, hn, map_getD hb, toA_cells]
      rw [← toA_eq]
      (repeat ((with_reducible refine And.intro ?_ ?_); · omega))
      refine EvK.callS0 (.bool true) trivial (by rw [hlen]; exact Nat.le_succ _) ?_ ?_ ?_ ?_ ?_ ?_
      · rw [hlen]; exact low_mono (Nat.le_succ _) hy0
      · simp [go_sem, toA_low]
      · rw [hlen]; exact hs i
      · rw [hlen]
        simp [go_sem, awayL_cons, awayL_nil, aw_low, hy0, hp, tms_low, toA_low]
      · rw [hlen]
        have hy1 := low_mono (Nat.le_succ _) hy0
        simp [go_sem, hy1, tms_low, toA_low]; omega
      rw [hlen]
      refine (hy i hlt').mono ?_
      rintro r σ' ⟨k1, k2, k3, π, k4, k5, k6⟩
      refine ⟨k1, k2, k3, π, S (i + 1), hlen _, k4, k5, k6, hs _, ?_⟩
      refine EvK.go 1000 ?_
      simp only [go_sem, Nat.reduceAdd, Nat.reduceSub, Nat.reduceMul, Nat.reduceLeDiff, Nat.reduceEqDiff, Nat.reduceBEq]
      refine ⟨⟨i + 1, hlt'⟩, ?_, by simp only; omega⟩
      have hlo1 : lowSo (σ0.length + 1) (S (i + 1)) := hs (i + 1)
      simp only [go_sem, Nat.reduceAdd, Nat.reduceSub, Nat.reduceMul, Nat.reduceLeDiff, Nat.reduceEqDiff, Nat.reduceBEq, hlen, hlo1, low_mono (Nat.le_succ _) hy0]
      rw [i64_id (by omega)]
      exact ⟨by rw [show (ts.length : Int) - 1 - i - 1 = ts.length - 1 - ((i + 1 : Nat) : Int) by omega], leSo_refl _, by omega⟩
    · have hi' : i = ts.length := by omega
      subst hi'
      simp only [go_sem, Nat.reduceAdd, Nat.reduceSub, Nat.reduceMul, Nat.reduceLeDiff, Nat.reduceEqDiff, Nat.reduceBEq, hlt]
      refine EvK.go 1000 ?_
      simp only [go_sem, Nat.reduceAdd, Nat.reduceSub, Nat.reduceMul, Nat.reduceLeDiff, Nat.reduceEqDiff, Nat.reduceBEq]
      rw [dK_eq]
      exact ⟨S ts.length, leSo_refl _, by rw [hlen]; exact Nat.le_succ _, by rw [hlen]; exact hs _, trivial, rfl⟩

theorem BackwardF_eq (ts : List Tm) (σ : Store) (hs : lowSo σ.length σ) : VCall Try.prog (.fn 106 [] []) [.ps 2 (ts.map Tm.toA)] σ
    (fun r σ' => r = .fn 112 [] [.ptr σ.length 0] ∧ σ' = σ ++ [some (.var [.ps 2 (ts.map Tm.toA)])]) := by
  refine VCall.begin (rs := [.tmp 2]) (m := 3) 1000 Try.func106 rfl rfl rfl rfl rfl ?_
  simp only [go_sem, Nat.reduceAdd, Nat.reduceSub, Nat.reduceMul, Nat.reduceLeDiff, Nat.reduceEqDiff, Nat.reduceBEq]
  rw [setS_end, dK_eq]
  exact ⟨_, leSo_refl _, by simp, lowSo_app (lowSo_mono (by simp) hs) (by simp [go_sem, tms_low]), by simp [go_sem], rfl, rfl⟩

theorem Parts_eq (t : Tm) (σ : Store) (hs : lowSo σ.length σ) : VCall Try.prog (.fn 83 [] []) [t.toA] σ
    (fun r σ' => r = .fn 105 [] [.ptr σ.length 0] ∧ σ' = σ ++ [some (.var [.int .i64 t.head, .ps 2 (t.args.map Tm.toA)])]) := by
  refine VCall.begin (rs := [.tmp 2]) (m := 3) 1000 Try.func83 rfl rfl rfl rfl rfl ?_
  simp only [go_sem, Nat.reduceAdd, Nat.reduceSub, Nat.reduceMul, Nat.reduceLeDiff, Nat.reduceEqDiff, Nat.reduceBEq, toA_eq]
  rw [setS_end, dK_eq]
  exact ⟨_, leSo_refl _, by simp, lowSo_app (lowSo_mono (by simp) hs) (by simp [go_sem, tms_low]), by simp [go_sem], rfl, rfl⟩

theorem Parts1_eq (t : Tm) (hsz : t.size < 999999999) (n0 : Nat) (hn0 : n0 ≤ 8) (σ0 : Store) (b0 b1 b2 b3 b4 b5 b6 b7 : Nat → Option Blk) (p : Nat) (y : AVal) (h0 : σ0.length = n0)
    (hS0 : σ0 ++ List.replicate (8 - n0) none = [b0 0, b1 0, b2 0, b3 0, b4 0, b5 0, b6 0, b7 0]) (hget : getS [b0 0, b1 0, b2 0, b3 0, b4 0, b5 0, b6 0, b7 0] p = some (.var [.int .i64 t.head, .ps 2 (t.args.map Tm.toA)])) (hp : p < n0)
    (hs : ∀ k, lowSo 8 [b0 k, b1 k, b2 k, b3 k, b4 k, b5 k, b6 k, b7 k]) (hs0 : lowSo n0 σ0) (hy0 : y.low n0)
    (hy : ∀ k (h : k < (t.pre 1).length), VCall Try.prog y [.int .i64 (t.pre 1)[k].1, (t.pre 1)[k].2.toA] [b0 k, b1 k, b2 k, b3 k, b4 k, b5 k, b6 k, b7 k]
      (fun r σ' => r = .bool true ∧ 8 ≤ σ'.length ∧ lowSo σ'.length σ' ∧ ∃ π : Nat → Nat, (∀ b, b < n0 → π b = b) ∧ (∀ b b', b < 8 → b' < 8 → π b = π b' → b = b') ∧ leSoR π σ' 0 [b0 (k + 1), b1 (k + 1), b2 (k + 1), b3 (k + 1), b4 (k + 1), b5 (k + 1), b6 (k + 1), b7 (k + 1)])) :
    VCall Try.prog (.fn 105 [] [.ptr p 0]) [y] σ0 (fun _ σ' => σ' = [b0 t.size, b1 t.size, b2 t.size, b3 t.size, b4 t.size, b5 t.size, b6 t.size, b7 t.size]) := by
  subst h0
  refine VCall.beginK (rs := []) (m := 43) Try.func105 rfl rfl rfl rfl rfl ?_
  refine EvK.pad (8 - σ0.length) (Nat.le_refl _) (by simp [go_sem, hy0, hp]) hs0 ?_
  rw [hS0]
  have hpl := pre_len t 1
  refine EvK.go 1000 ?_
  simp only [go_sem, Nat.reduceAdd, Nat.reduceSub, Nat.reduceMul, Nat.reduceLeDiff, Nat.reduceEqDiff, Nat.reduceBEq, hget, Nat.le_refl]
  refine ⟨by decide, ?_⟩
  refine EvK.loopR (ι := {x : List (Int × Tm) × List AVal × Nat // x.2.2 ≤ t.size ∧ (t.pre 1).drop x.2.2 = rem x.1 ∧ (∀ z ∈ x.1, deepOk (t.size + 1) z) ∧ lowL 0 x.2.1}) 1000 (fun x => mkT 45 [(0, y), (1, .ptr p 0), (3, .ptr 9 0)])
    (fun x => [b0 x.1.2.2, b1 x.1.2.2, b2 x.1.2.2, b3 x.1.2.2, b4 x.1.2.2, b5 x.1.2.2, b6 x.1.2.2, b7 x.1.2.2, some (.row (x.1.1.reverse.map plA ++ x.1.2.1) 0), some (.var [.os 8 0 x.1.1.length 3])]) (fun x => t.size - x.1.2.2)
    ⟨([(1, t)], [], 0), Nat.zero_le _, by rw [List.drop_zero]; exact (rem_one t 1).symm, by simp [deepOk, Int.add_comm], trivial⟩ [] ?_ (fun _ => by simp; omega) ?_
  · refine leR_mk (piOk_nil _ _) ⟨?_, ?_, ?_, ?_⟩
    · have hy1 := renL_id (pi []) _ (fun _ _ => rfl) [y] ⟨hy0, trivial⟩
      simp only [renL, List.cons.injEq, and_true] at hy1
      simp only [go_sem, Nat.reduceAdd, Nat.reduceSub, Nat.reduceMul, Nat.reduceLeDiff, Nat.reduceEqDiff, Nat.reduceBEq, hy1]
    · refine leSoR_pre (B := [b0 0, b1 0, b2 0, b3 0, b4 0, b5 0, b6 0, b7 0]) (hs 0) (fun _ _ => rfl) ?_
      simp only [go_sem, Nat.reduceAdd, Nat.reduceSub, Nat.reduceMul, Nat.reduceLeDiff, Nat.reduceEqDiff, Nat.reduceBEq, List.reverse_cons, List.reverse_nil, List.nil_append, List.map_cons, List.map_nil, List.append_nil, plA_eq, renL_low0 (tms_low _)]
    · have hy1 := low_mono (m := 10) (by omega) hy0
      simp only [go_sem, Nat.reduceAdd, Nat.reduceSub, Nat.reduceMul, Nat.reduceLeDiff, Nat.reduceEqDiff, Nat.reduceBEq, hy1]
      omega
    · refine lowSo_app (σ := [b0 0, b1 0, b2 0, b3 0, b4 0, b5 0, b6 0, b7 0]) (lowSo_mono (Nat.le_add_right 8 2) (hs 0)) ?_
      simp [go_sem, tms_low, plA_eq]
  · rintro ⟨⟨stk, junk, k⟩, h1, h2, h3, h4⟩
    simp only at h1 h2 h3 h4
    cases stk with
    | nil =>
      have hk : k = t.size := by
        have := congrArg List.length h2
        simp only [rem, List.flatMap_nil, List.length_nil, List.length_drop, hpl] at this; omega
      subst hk
      simp only [go_sem, Nat.reduceAdd, Nat.reduceSub, Nat.reduceMul, Nat.reduceLeDiff, Nat.reduceEqDiff, Nat.reduceBEq, List.length_nil, Int.natCast_zero, Int.lt_irrefl]
      refine EvK.go 1000 ?_
      simp only [go_sem, Nat.reduceAdd, Nat.reduceSub, Nat.reduceMul, Nat.reduceLeDiff, Nat.reduceEqDiff, Nat.reduceBEq]
      rw [dK_eq]
      refine ⟨[b0 t.size, b1 t.size, b2 t.size, b3 t.size, b4 t.size, b5 t.size, b6 t.size, b7 t.size], by simp [go_sem], by simpa using hn0, hs _, trivial, rfl⟩
    | cons x r =>
      have hlen : ((x :: r).reverse.map plA ++ junk).length = r.length + 1 + junk.length := by simp; omega
      have hes : (x :: r).reverse.map plA ++ junk = r.reverse.map plA ++ plA x :: junk := by simp
      have hgx : (r.reverse.map plA ++ plA x :: junk).getD r.length .undef = plA x := by simp
      have hlen2 : (r.reverse.map plA ++ plA x :: junk).length = r.length + 1 + junk.length := by rw [← hes, hlen]
      have hrl : r.length < 1000000000 := by
        have := congrArg List.length h2
        have h5 := rem_len (x :: r)
        rw [List.length_drop, hpl] at this
        simp only [List.length_cons] at h5; omega
      have hw1 : IntKind.i64.wrap ((r.length : Int) + 1 - 1) = r.length := by rw [i64_id (by omega)]; omega
      have hpos : (0 : Int) < r.length + 1 := by omega
      simp only [go_sem, Nat.reduceAdd, Nat.reduceSub, Nat.reduceMul, Nat.reduceLeDiff, Nat.reduceEqDiff, Nat.reduceBEq, List.length_cons, hes, Int.natCast_add, Int.natCast_one, hpos, hw1, hlen2, Int.toNat_natCast, hgx, plA_cells, Nat.le_refl]
      obtain ⟨d, ⟨hd, ts⟩⟩ := x
      have hk : k < (t.pre 1).length := by
        have := congrArg List.length h2
        have h5 := rem_len ((d, Tm.mk hd ts) :: r)
        rw [List.length_drop] at this
        simp only [List.length_cons] at h5; omega
      rw [List.drop_eq_getElem_cons hk, rem_cons, Tm.pre, List.cons_append, ← rem_push] at h2
      obtain ⟨hLk, hdr⟩ := List.cons.inj h2
      have hcap : r.length + Tm.sizes ts < 999999999 := by
        have := congrArg List.length hdr
        rw [List.length_drop, rem_push, List.length_append, pres_len] at this
        have := rem_len r
        omega
      have hdeep : deepOk (t.size + 1) (d, Tm.mk hd ts) := h3 _ (by simp)
      simp only [deepOk, Tm.size] at hdeep
      have hyk := hy k hk
      rw [hLk] at hyk
      simp only [Tm.head, Tm.args, Nat.sub_zero]
      rw [toA_mk]
      have hjl : ∀ n, lowL n (r.reverse.map plA ++ plA (d, Tm.mk hd ts) :: junk) := fun n => lowL_app (pls_low _) ⟨plA_low _, lowL_mono (Nat.zero_le _) h4⟩
      (repeat ((with_reducible refine And.intro ?_ ?_); · omega))
      refine EvK.callS (σ := [b0 k, b1 k, b2 k, b3 k, b4 k, b5 k, b6 k, b7 k]) (τ := [some (.row (r.reverse.map plA ++ plA (d, Tm.mk hd ts) :: junk) 0), some (.var [.os 8 0 r.length 3]), some (.var [.int .i64 hd, .ps 2 (ts.map Tm.toA), .int .i64 d])]) (.bool true) trivial (by simpa using hn0) ?_ ?_ (hs k) ?_ ?_ ?_ ?_ ?_
      · exact low_mono hn0 hy0
      · simp [go_sem, toA_low]
      · simp [go_sem, awayL_cons, awayL_nil, aw_low, aw_ptr, aw_os, aw_rp, hy0, hp, tms_low, toA_low]
      · simp only [awayS_cons, awayS_nil, awB_row, awB_var]
        refine ⟨awayL_low (hjl _), ?_, ?_, trivial⟩
        · simp [awayL_cons, awayL_nil, aw_os]
        · simp [awayL_cons, awayL_nil, aw_low, go_sem, tms_low]
      · have hy1 := low_mono (m := 11) (by omega) hy0
        simp [go_sem, hy1, tms_low, toA_low]; omega
      · exact ⟨hjl _, ⟨by simp [go_sem], trivial⟩, by simp [go_sem, lowO, Blk.low, tms_low], trivial⟩
      refine hyk.mono ?_
      rintro r' σ' ⟨k1, k2, k3, π, k4, k5, k6⟩
      refine ⟨k1, k2, k3, π, [b0 (k + 1), b1 (k + 1), b2 (k + 1), b3 (k + 1), b4 (k + 1), b5 (k + 1), b6 (k + 1), b7 (k + 1)], rfl, k4, k5, k6, hs _, ?_⟩
      refine EvK.go 1000 ?_
      simp only [go_sem, Nat.reduceAdd, Nat.reduceSub, Nat.reduceMul, Nat.reduceLeDiff, Nat.reduceEqDiff, Nat.reduceBEq]
      have hsk := lowSo_mono (m := 11) (by decide) (hs (k + 1))
      simp only [lowSo_cons, lowSo_nil, and_true] at hsk
      refine (BackwardF_eq ts _ ?_).mono ?_
      · simp only [go_sem, lowSo_cons, hsk, hjl, tms_low, lowO_some, and_true, true_and, List.length_cons, List.length_nil]; decide
      rintro _ _ ⟨rfl, rfl⟩
      refine EvK.go 1000 ?_
      simp only [go_sem, Nat.reduceAdd, Nat.reduceSub, Nat.reduceMul, Nat.reduceLeDiff, Nat.reduceEqDiff, Nat.reduceBEq]
      refine EvK.rangeFunc (mkT 45 [(3, .ptr 9 0), (4, .ptr 10 0)]) ?_ ?_ (fun ρ ht hpa hat hbo => ?_)
      · simp only [go_sem, Nat.reduceAdd, Nat.reduceSub, Nat.reduceMul, Nat.reduceLeDiff, Nat.reduceEqDiff, Nat.reduceBEq]
      · exact fun b hb => by cases hb
      simp only [go_sem, Nat.reduceAdd, Nat.reduceSub, Nat.reduceMul, Nat.reduceLeDiff, Nat.reduceEqDiff, Nat.reduceBEq]
      let S : Nat → Store := fun i => match i with
        | 0 => [b0 (k + 1), b1 (k + 1), b2 (k + 1), b3 (k + 1), b4 (k + 1), b5 (k + 1), b6 (k + 1), b7 (k + 1), some (.row (r.reverse.map plA ++ plA (d, Tm.mk hd ts) :: junk) 0), some (.var [.os 8 0 r.length 3]), some (.var [.int .i64 hd, .ps 2 (ts.map Tm.toA), .int .i64 d]), some (.var [.ps 2 (ts.map Tm.toA)]), some (.loop (ρ.at .ready)), none]
        | i + 1 => [b0 (k + 1), b1 (k + 1), b2 (k + 1), b3 (k + 1), b4 (k + 1), b5 (k + 1), b6 (k + 1), b7 (k + 1), none, some (.var [.os 13 0 (r.length + (i + 1)) 3]), some (.var [.int .i64 hd, .ps 2 (ts.map Tm.toA), .int .i64 d]), some (.var [.ps 2 (ts.map Tm.toA)]), some (.loop (ρ.at .ready)), some (.row (((ts.drop (ts.length - (i + 1))).map (fun u => (d + 1, u)) ++ r).reverse.map plA) 0)]
      have hS0 : S 0 = [b0 (k + 1), b1 (k + 1), b2 (k + 1), b3 (k + 1), b4 (k + 1), b5 (k + 1), b6 (k + 1), b7 (k + 1), some (.row (r.reverse.map plA ++ plA (d, Tm.mk hd ts) :: junk) 0), some (.var [.os 8 0 r.length 3]), some (.var [.int .i64 hd, .ps 2 (ts.map Tm.toA), .int .i64 d]), some (.var [.ps 2 (ts.map Tm.toA)]), some (.loop (ρ.at .ready)), none] := rfl
      have hS1 : ∀ i, S (i + 1) = [b0 (k + 1), b1 (k + 1), b2 (k + 1), b3 (k + 1), b4 (k + 1), b5 (k + 1), b6 (k + 1), b7 (k + 1), none, some (.var [.os 13 0 (r.length + (i + 1)) 3]), some (.var [.int .i64 hd, .ps 2 (ts.map Tm.toA), .int .i64 d]), some (.var [.ps 2 (ts.map Tm.toA)]), some (.loop (ρ.at .ready)), some (.row (((ts.drop (ts.length - (i + 1))).map (fun u => (d + 1, u)) ++ r).reverse.map plA) 0)] := fun i => rfl
      refine (Backward_eq ts 13 _ S 11 (.yld 12) rfl rfl (fun i => by cases i <;> rfl) (fun i => by cases i <;> rfl) (by decide) (fun i => ?_) ?_ (Nat.lt_succ_self 12) ?_ (fun i hi => ?_)).mono ?_
      · have hρl : lowL 14 ρ.tm := by rw [ht]; simp [go_sem, mkT_cons, mkT_nil]
        have hpre := lowSo_mono (m := 14) (by decide) (hs (k + 1))
        cases i with
        | zero => exact lowSo_app (σ := [b0 (k + 1), b1 (k + 1), b2 (k + 1), b3 (k + 1), b4 (k + 1), b5 (k + 1), b6 (k + 1), b7 (k + 1)]) hpre ⟨hjl _, ⟨by simp [go_sem], trivial⟩, by simp [go_sem, lowO, Blk.low, tms_low], by simp [go_sem, lowO, Blk.low, tms_low], hρl, trivial, trivial⟩
        | succ i => exact lowSo_app (σ := [b0 (k + 1), b1 (k + 1), b2 (k + 1), b3 (k + 1), b4 (k + 1), b5 (k + 1), b6 (k + 1), b7 (k + 1)]) hpre ⟨trivial, ⟨by simp [go_sem], trivial⟩, by simp [go_sem, lowO, Blk.low, tms_low], by simp [go_sem, lowO, Blk.low, tms_low], hρl, pls_low _, trivial⟩
      · have hρl : lowL 13 ρ.tm := by rw [ht]; simp [go_sem, mkT_cons, mkT_nil]
        have hpre := lowSo_mono (m := 13) (by decide) (hs (k + 1))
        exact lowSo_app (σ := [b0 (k + 1), b1 (k + 1), b2 (k + 1), b3 (k + 1), b4 (k + 1), b5 (k + 1), b6 (k + 1), b7 (k + 1)]) hpre ⟨hjl _, ⟨by simp [go_sem], trivial⟩, by simp [go_sem, lowO, Blk.low, tms_low], by simp [go_sem, lowO, Blk.low, tms_low], hρl, trivial⟩
      · have := len_le_sizes ts
        omega
      · have hwd : IntKind.i64.wrap (d + 1) = d + 1 := i64_id (by omega)
        have hlt := len_le_sizes ts
        have htn : t.size < 999999999 := hsz
        have hb : ts.length - 1 - i < ts.length := by omega
        have hcut : ts.drop (ts.length - (i + 1)) = ts[ts.length - 1 - i] :: ts.drop (ts.length - i) := by
          rw [show ts.length - (i + 1) = ts.length - 1 - i by omega, List.drop_eq_getElem_cons hb, show ts.length - 1 - i + 1 = ts.length - i by omega]
        generalize ts[ts.length - 1 - i] = u at *
        have hpu : AVal.agg [.int .i64 u.head, .ps 2 (u.args.map Tm.toA), .int .i64 (d + 1)] = plA (d + 1, u) := rfl
        have hρ13 : lowL 13 ρ.tm := by rw [ht]; simp [go_sem, mkT_cons, mkT_nil]
        have hloop : ∀ π : Nat → Nat, (∀ b, b < 13 → π b = b) → renB π (.loop (ρ.at .ready)) = .loop (ρ.at .ready) := fun π hπ => renB_id π 13 hπ _ hρ13
        cases i with
        | zero =>
          have htk : List.take r.length (r.reverse.map plA ++ plA (d, Tm.mk hd ts) :: junk) = r.reverse.map plA := by rw [List.take_left' (by simp)]
          refine VCall.yieldK 1000 ht hpa hat hbo (by rw [hS0]; rfl) rfl ?_
          clear_value S
          rw [hS0]
          simp only [go_sem, Nat.reduceAdd, Nat.reduceSub, Nat.reduceMul, Nat.reduceLeDiff, Nat.reduceEqDiff, Nat.reduceBEq, toA_cells, Nat.le_refl, hwd, appOk, List.mem_singleton, forall_eq, hlen2, htk]
          (repeat ((with_reducible refine And.intro ?_ ?_); · omega))
          rw [rE_eq]
          have hsw : ∀ b, b < 13 → pi [(13, 16), (16, 13)] b = b := by decide
          have hst : [b0 (k + 1), b1 (k + 1), b2 (k + 1), b3 (k + 1), b4 (k + 1), b5 (k + 1), b6 (k + 1), b7 (k + 1), none, some (.var [.os 16 0 (r.length + 1) 3]), some (.var [.int .i64 hd, .ps 2 (ts.map Tm.toA), .int .i64 d]), some (.var [.ps 2 (ts.map Tm.toA)]), some (.loop (ρ.at .ready)), none, none, none, some (.row (r.reverse.map plA ++ [plA (d + 1, u)]) 0)] = ([b0 (k + 1), b1 (k + 1), b2 (k + 1), b3 (k + 1), b4 (k + 1), b5 (k + 1), b6 (k + 1), b7 (k + 1)] ++ [none, some (.var [.os 16 0 (r.length + 1) 3]), some (.var [.int .i64 hd, .ps 2 (ts.map Tm.toA), .int .i64 d]), some (.var [.ps 2 (ts.map Tm.toA)]), some (.loop (ρ.at .ready)), none, none, none, some (.row (r.reverse.map plA ++ [plA (d + 1, u)]) 0)] : Store) := rfl
          have hlow3 : lowSo 17 [b0 (k + 1), b1 (k + 1), b2 (k + 1), b3 (k + 1), b4 (k + 1), b5 (k + 1), b6 (k + 1), b7 (k + 1), none, some (.var [.os 16 0 (r.length + 1) 3]), some (.var [.int .i64 hd, .ps 2 (ts.map Tm.toA), .int .i64 d]), some (.var [.ps 2 (ts.map Tm.toA)]), some (.loop (ρ.at .ready)), none, none, none, some (.row (r.reverse.map plA ++ [plA (d + 1, u)]) 0)] := by
            rw [hst]
            exact lowSo_app (lowSo_mono (Nat.le_add_right 8 9) (hs (k + 1))) ⟨trivial, ⟨Nat.lt_succ_self 16, trivial⟩, by simp [go_sem, lowO, Blk.low, tms_low], by simp [go_sem, lowO, Blk.low, tms_low], lowL_mono (Nat.le_add_right 13 4) hρ13, trivial, trivial, trivial, lowL_app (pls_low _) ⟨plA_low _, trivial⟩, trivial⟩
          refine ⟨rfl, [b0 (k + 1), b1 (k + 1), b2 (k + 1), b3 (k + 1), b4 (k + 1), b5 (k + 1), b6 (k + 1), b7 (k + 1), none, some (.var [.os 16 0 (r.length + 1) 3]), some (.var [.int .i64 hd, .ps 2 (ts.map Tm.toA), .int .i64 d]), some (.var [.ps 2 (ts.map Tm.toA)]), some (.loop (ρ.at .ready)), none, none, none, some (.row (r.reverse.map plA ++ [plA (d + 1, u)]) 0)], ?_, ?_, hlow3, rfl, ?_, hlow3, pi [(13, 16), (16, 13)], hsw, ?_, ?_⟩
          · simp [go_sem, hpu]
          · exact Nat.le_add_right 14 3
          · exact Nat.le_add_right 14 3
          · exact piOk_inj (lo := 0) rfl
          · rw [hS1]
            refine leSoR_pre (B := [b0 (k + 1), b1 (k + 1), b2 (k + 1), b3 (k + 1), b4 (k + 1), b5 (k + 1), b6 (k + 1), b7 (k + 1)]) (hs (k + 1)) (fun b hb => hsw b (by simp at hb; omega)) ?_
            simp only [go_sem, hloop _ hsw, Nat.reduceEqDiff, if_true, if_false, Nat.reduceAdd, List.length_cons, List.length_nil, and_true, true_and, renL_low0 (tms_low _), renL_low0 (pls_low _)]
            refine ⟨(hloop _ hsw).symm, ?_⟩
            rw [show ts.length - 1 = ts.length - (0 + 1) from rfl, hcut]
            simp
        | succ i =>
          have hln3 : (((ts.drop (ts.length - (i + 1))).map (fun u => (d + 1, u)) ++ r).reverse.map plA).length = r.length + (i + 1) := by simp; omega
          have htk3 : List.take (r.length + (i + 1)) (((ts.drop (ts.length - (i + 1))).map (fun u => (d + 1, u)) ++ r).reverse.map plA) = ((ts.drop (ts.length - (i + 1))).map (fun u => (d + 1, u)) ++ r).reverse.map plA := List.take_of_length_le (by rw [hln3]; exact Nat.le_refl _)
          refine VCall.yieldK 1000 ht hpa hat hbo (by rw [hS1]; rfl) rfl ?_
          clear_value S
          rw [hS1]
          simp only [go_sem, Nat.reduceAdd, Nat.reduceSub, Nat.reduceMul, Nat.reduceLeDiff, Nat.reduceEqDiff, Nat.reduceBEq, toA_cells, Nat.le_refl, hwd, appOk, List.mem_singleton, forall_eq, hln3, htk3]
          (repeat ((with_reducible refine And.intro ?_ ?_); · omega))
          rw [rE_eq]
          have hsw : ∀ b, b < 13 → pi [(13, 16), (16, 13)] b = b := by decide
          have hst : [b0 (k + 1), b1 (k + 1), b2 (k + 1), b3 (k + 1), b4 (k + 1), b5 (k + 1), b6 (k + 1), b7 (k + 1), none, some (.var [.os 16 0 (r.length + (i + 1) + 1) 3]), some (.var [.int .i64 hd, .ps 2 (ts.map Tm.toA), .int .i64 d]), some (.var [.ps 2 (ts.map Tm.toA)]), some (.loop (ρ.at .ready)), none, none, none, some (.row (((ts.drop (ts.length - (i + 1))).map (fun u => (d + 1, u)) ++ r).reverse.map plA ++ [plA (d + 1, u)]) 0)] = ([b0 (k + 1), b1 (k + 1), b2 (k + 1), b3 (k + 1), b4 (k + 1), b5 (k + 1), b6 (k + 1), b7 (k + 1)] ++ [none, some (.var [.os 16 0 (r.length + (i + 1) + 1) 3]), some (.var [.int .i64 hd, .ps 2 (ts.map Tm.toA), .int .i64 d]), some (.var [.ps 2 (ts.map Tm.toA)]), some (.loop (ρ.at .ready)), none, none, none, some (.row (((ts.drop (ts.length - (i + 1))).map (fun u => (d + 1, u)) ++ r).reverse.map plA ++ [plA (d + 1, u)]) 0)] : Store) := rfl
          have hlow3 : lowSo 17 [b0 (k + 1), b1 (k + 1), b2 (k + 1), b3 (k + 1), b4 (k + 1), b5 (k + 1), b6 (k + 1), b7 (k + 1), none, some (.var [.os 16 0 (r.length + (i + 1) + 1) 3]), some (.var [.int .i64 hd, .ps 2 (ts.map Tm.toA), .int .i64 d]), some (.var [.ps 2 (ts.map Tm.toA)]), some (.loop (ρ.at .ready)), none, none, none, some (.row (((ts.drop (ts.length - (i + 1))).map (fun u => (d + 1, u)) ++ r).reverse.map plA ++ [plA (d + 1, u)]) 0)] := by
            rw [hst]
            exact lowSo_app (lowSo_mono (Nat.le_add_right 8 9) (hs (k + 1))) ⟨trivial, ⟨Nat.lt_succ_self 16, trivial⟩, by simp [go_sem, lowO, Blk.low, tms_low], by simp [go_sem, lowO, Blk.low, tms_low], lowL_mono (Nat.le_add_right 13 4) hρ13, trivial, trivial, trivial, lowL_app (pls_low _) ⟨plA_low _, trivial⟩, trivial⟩
          refine ⟨rfl, [b0 (k + 1), b1 (k + 1), b2 (k + 1), b3 (k + 1), b4 (k + 1), b5 (k + 1), b6 (k + 1), b7 (k + 1), none, some (.var [.os 16 0 (r.length + (i + 1) + 1) 3]), some (.var [.int .i64 hd, .ps 2 (ts.map Tm.toA), .int .i64 d]), some (.var [.ps 2 (ts.map Tm.toA)]), some (.loop (ρ.at .ready)), none, none, none, some (.row (((ts.drop (ts.length - (i + 1))).map (fun u => (d + 1, u)) ++ r).reverse.map plA ++ [plA (d + 1, u)]) 0)], ?_, ?_, hlow3, rfl, ?_, hlow3, pi [(13, 16), (16, 13)], hsw, ?_, ?_⟩
          · simp [go_sem, hpu]
          · exact Nat.le_add_right 14 3
          · exact Nat.le_add_right 14 3
          · exact piOk_inj (lo := 0) rfl
          · rw [hS1]
            refine leSoR_pre (B := [b0 (k + 1), b1 (k + 1), b2 (k + 1), b3 (k + 1), b4 (k + 1), b5 (k + 1), b6 (k + 1), b7 (k + 1)]) (hs (k + 1)) (fun b hb => hsw b (by simp at hb; omega)) ?_
            simp only [go_sem, hloop _ hsw, Nat.reduceEqDiff, if_true, if_false, Nat.reduceAdd, List.length_cons, List.length_nil, and_true, true_and, renL_low0 (tms_low _), renL_low0 (pls_low _)]
            refine ⟨by rw [Nat.add_assoc], (hloop _ hsw).symm, ?_⟩
            rw [hcut]
            simp
      rintro r' σ2 rfl
      rw [rK_eq]
      refine ⟨.ready, ?_, ?_⟩
      · cases ts.length <;> rfl
      rw [rD_ready]
      refine EvK.go 1000 ?_
      have hdp : ∀ z ∈ ts.map (fun u => (d + 1, u)) ++ r, deepOk (t.size + 1) z := by
        intro z hz
        rcases List.mem_append.1 hz with hz | hz
        · obtain ⟨u, hu, rfl⟩ := List.mem_map.1 hz
          obtain ⟨j, hj, rfl⟩ := List.mem_iff_getElem.1 hu
          have := size_le_sizes ts j hj
          simp only [deepOk]; omega
        · exact h3 z (by simp [hz])
      cases hN : ts.length with
      | zero =>
        obtain rfl := List.length_eq_zero_iff.1 hN
        rw [hS0]
        simp only [go_sem, Nat.reduceAdd, Nat.reduceSub, Nat.reduceMul, Nat.reduceLeDiff, Nat.reduceEqDiff, Nat.reduceBEq]
        refine ⟨⟨(r, plA (d, Tm.mk hd []) :: junk, k + 1), by simp only; omega, by simp only; rw [hdr]; rfl, fun z hz => h3 z (by simp at hz; simp [hz]), ⟨plA_low _, h4⟩⟩, [], leR_mk (piOk_nil _ _) ⟨?_, ?_, ?_, ?_⟩, by simp only; omega⟩
        · have hy1 := renL_id (pi []) _ (fun _ _ => rfl) [y] ⟨hy0, trivial⟩
          simp only [renL, List.cons.injEq, and_true] at hy1
          simp only [go_sem, Nat.reduceAdd, Nat.reduceSub, Nat.reduceMul, Nat.reduceLeDiff, Nat.reduceEqDiff, Nat.reduceBEq, hy1]
        · refine leSoR_pre (B := [b0 (k + 1), b1 (k + 1), b2 (k + 1), b3 (k + 1), b4 (k + 1), b5 (k + 1), b6 (k + 1), b7 (k + 1)]) (hs (k + 1)) (fun _ _ => rfl) ?_
          simp only [go_sem, Nat.reduceAdd, Nat.reduceSub, Nat.reduceMul, Nat.reduceLeDiff, Nat.reduceEqDiff, Nat.reduceBEq, renL_low0 (hjl 0)]
        · have hy1 := low_mono (m := 10) (by omega) hy0
          simp only [go_sem, Nat.reduceAdd, Nat.reduceSub, Nat.reduceMul, Nat.reduceLeDiff, Nat.reduceEqDiff, Nat.reduceBEq, hy1]
          omega
        · refine lowSo_app (σ := [b0 (k + 1), b1 (k + 1), b2 (k + 1), b3 (k + 1), b4 (k + 1), b5 (k + 1), b6 (k + 1), b7 (k + 1)]) (lowSo_mono (Nat.le_add_right 8 2) (hs (k + 1))) ?_
          exact ⟨hjl _, ⟨by simp [go_sem], trivial⟩, trivial⟩
      | succ N =>
        rw [hS1]
        have hd0 : ts.drop (ts.length - (N + 1)) = ts := by rw [hN, Nat.sub_self, List.drop_zero]
        simp only [go_sem, Nat.reduceAdd, Nat.reduceSub, Nat.reduceMul, Nat.reduceLeDiff, Nat.reduceEqDiff, Nat.reduceBEq, hd0]
        refine ⟨⟨(ts.map (fun u => (d + 1, u)) ++ r, [], k + 1), by simp only; omega, hdr, hdp, trivial⟩, [(8, 13), (13, 8)], leR_mk (piOk_le hn0 rfl) ⟨?_, ?_, ?_, ?_⟩, by simp only; omega⟩
        · have hy1 := renL_id (pi [(8, 13), (13, 8)]) 8 (by decide) [y] ⟨low_mono hn0 hy0, trivial⟩
          simp only [renL, List.cons.injEq, and_true] at hy1
          simp only [go_sem, Nat.reduceAdd, Nat.reduceSub, Nat.reduceMul, Nat.reduceLeDiff, Nat.reduceEqDiff, Nat.reduceBEq, hy1]
          rw [if_neg (by omega), if_neg (by omega)]
        · refine leSoR_pre (B := [b0 (k + 1), b1 (k + 1), b2 (k + 1), b3 (k + 1), b4 (k + 1), b5 (k + 1), b6 (k + 1), b7 (k + 1)]) (hs (k + 1)) (fun b hb => by simp only [List.length_cons, List.length_nil] at hb; revert b; decide) ?_
          simp only [go_sem, Nat.reduceAdd, Nat.reduceSub, Nat.reduceMul, Nat.reduceLeDiff, Nat.reduceEqDiff, Nat.reduceBEq, renL_low0 (pls_low _), List.append_nil]
          simp only [List.length_append, List.length_map, hN]
          rw [Nat.add_comm]
        · have hy1 := low_mono (m := 10) (by omega) hy0
          simp only [go_sem, Nat.reduceAdd, Nat.reduceSub, Nat.reduceMul, Nat.reduceLeDiff, Nat.reduceEqDiff, Nat.reduceBEq, hy1]
          omega
        · refine lowSo_app (σ := [b0 (k + 1), b1 (k + 1), b2 (k + 1), b3 (k + 1), b4 (k + 1), b5 (k + 1), b6 (k + 1), b7 (k + 1)]) (lowSo_mono (Nat.le_add_right 8 2) (hs (k + 1))) ?_
          exact ⟨lowL_app (pls_low _) trivial, ⟨by simp [go_sem], trivial⟩, trivial⟩
end Go.Proofs

/- Right terms, and the variables of terms, as the program tells them. -/
set_option linter.unusedSimpArgs false
namespace Go.Proofs
open Go Go.Abs

theorem CheckT_eq (t : Tm) (hsz : t.size < 999999999) : CallEq Try.prog 58 [t.toA] (.int .i64 t.check) := by
  refine CallEq.begin (rs := [.tmp 2]) (m := 52) 1000 Try.func58 rfl rfl rfl (by decide) trivial ?_
  simp only [go_sem, Nat.reduceAdd, Nat.reduceSub, Nat.reduceMul, Nat.reduceLeDiff, Nat.reduceEqDiff, Nat.reduceBEq, toA_eq, Nat.le_refl]
  rw [← toA_eq]
  refine (Parts_eq t _ ?_).mono ?_
  · simp [go_sem, tms_low]
  rintro _ _ ⟨rfl, rfl⟩
  refine EvK.go 1000 ?_
  simp only [go_sem, Nat.reduceAdd, Nat.reduceSub, Nat.reduceMul, Nat.reduceLeDiff, Nat.reduceEqDiff, Nat.reduceBEq]
  refine EvK.rangeFunc (mkT 53 [(3, .ptr 1 0), (4, .ptr 2 0), (5, .ptr 3 0)]) ?_ ?_ (fun ρ ht hpa hat hbo => ?_)
  · simp only [go_sem, Nat.reduceAdd, Nat.reduceSub, Nat.reduceMul, Nat.reduceLeDiff, Nat.reduceEqDiff, Nat.reduceBEq]
  · exact fun b hb => by cases hb
  simp only [go_sem, Nat.reduceAdd, Nat.reduceSub, Nat.reduceMul, Nat.reduceLeDiff, Nat.reduceEqDiff, Nat.reduceBEq]
  have hpl := pre_len t 1
  have hdp := pre_deep t 1 0
  have hgd := pre_good t 1
  have hbd := pre_bound t 1
  have hρl : lowL 6 ρ.tm := by rw [ht]; simp [go_sem, mkT_cons, mkT_nil]
  have hst : ∀ k, lowSo 8 [some (.var [.int .i64 t.head, .ps 2 (t.args.map Tm.toA)]), some (.var [.int .i64 (k : Nat)]), some (.var [.int .i64 (maxDeep ((t.pre 1).take k) 0)]), some (.var [.bool (((t.pre 1).take k).any fun x => !topGood x.2)]), some (.var [.int .i64 t.head, .ps 2 (t.args.map Tm.toA)]), some (.loop (ρ.at .ready)), none, none] :=
    fun k => ⟨⟨trivial, tms_low _, trivial⟩, ⟨trivial, trivial⟩, ⟨trivial, trivial⟩, ⟨trivial, trivial⟩, ⟨trivial, tms_low _, trivial⟩, lowL_mono (by decide) hρl, trivial, trivial, trivial⟩
  refine (Parts1_eq t hsz 6 (by decide) _ (fun _ => some (.var [.int .i64 t.head, .ps 2 (t.args.map Tm.toA)])) (fun k => some (.var [.int .i64 (k : Nat)])) (fun k => some (.var [.int .i64 (maxDeep ((t.pre 1).take k) 0)]))
    (fun k => some (.var [.bool (((t.pre 1).take k).any fun x => !topGood x.2)])) (fun _ => some (.var [.int .i64 t.head, .ps 2 (t.args.map Tm.toA)])) (fun _ => some (.loop (ρ.at .ready))) (fun _ => none) (fun _ => none) 4 (.yld 5) rfl rfl rfl (by decide) hst ?_ (Nat.lt_succ_self 5) (fun k hk => ?_)).mono ?_
  · exact ⟨⟨trivial, tms_low _, trivial⟩, ⟨trivial, trivial⟩, ⟨trivial, trivial⟩, ⟨trivial, trivial⟩, ⟨trivial, tms_low _, trivial⟩, hρl, trivial⟩
  · have htk := take_snoc hk
    have hbk := hbd _ (List.getElem_mem hk)
    have hmx : 0 ≤ maxDeep ((t.pre 1).take k) 0 ∧ maxDeep ((t.pre 1).take k) 0 < 2 ^ 62 := maxDeep_bound _ 0 (by omega) (by omega) fun x hx => by have := hbd x (List.mem_of_mem_take hx); omega
    have hm1 : maxDeep ((t.pre 1).take (k + 1)) 0 = max (maxDeep ((t.pre 1).take k) 0) (t.pre 1)[k].1 := by rw [htk, maxDeep_app]; rfl
    have hg1 : ((t.pre 1).take (k + 1)).any (fun x => !topGood x.2) = (((t.pre 1).take k).any (fun x => !topGood x.2) || !topGood (t.pre 1)[k].2) := by rw [htk, List.any_append]; simp
    refine VCall.stay rfl (hst (k + 1)) ?_
    rw [hm1, hg1]
    generalize (t.pre 1)[k] = x at *
    generalize maxDeep ((t.pre 1).take k) 0 = mx at *
    generalize ((t.pre 1).take k).any (fun x => !topGood x.2) = wr at *
    obtain ⟨d, u⟩ := x
    simp only at hbk
    have hmax : (if mx < d then d else mx) = max mx d := by omega
    refine VCall.yieldK 1000 ht hpa hat hbo rfl rfl ?_
    simp only [go_sem, Nat.reduceAdd, Nat.reduceSub, Nat.reduceMul, Nat.reduceLeDiff, Nat.reduceEqDiff, Nat.reduceBEq, toA_cells, Nat.le_refl, List.length_map]
    have hk64 : -9223372036854775808 ≤ (k : Int) + 1 ∧ (k : Int) + 1 ≤ 9223372036854775807 := by omega
    have hk1 : ((k + 1 : Nat) : Int) = (k : Int) + 1 := rfl
    have hst' : ∀ X, lowSo 8 [some (.var [.int .i64 t.head, .ps 2 (t.args.map Tm.toA)]), some (.var [.int .i64 (k + 1 : Nat)]), some (.var [.int .i64 (max mx d)]), some (.var [.bool X]), some (.var [.int .i64 t.head, .ps 2 (t.args.map Tm.toA)]), some (.loop (ρ.at .ready)), none, none] := fun X => ⟨⟨trivial, tms_low _, trivial⟩, ⟨trivial, trivial⟩, ⟨trivial, trivial⟩, ⟨trivial, trivial⟩, ⟨trivial, tms_low _, trivial⟩, lowL_mono (by decide) hρl, trivial, trivial, trivial⟩
    refine EvK.go 1000 ?_
    refine EvK.draw [.no, .no, ⟨none, [], [1]⟩, ⟨none, [], [1]⟩, ⟨none, [], [1]⟩, ⟨none, [1], []⟩, ⟨none, [2], []⟩] 9 9 mixed rfl rfl (by decide) ?_
    simp only [go_sem, Nat.reduceAdd, Nat.reduceSub, Nat.reduceMul, Nat.reduceLeDiff, Nat.reduceEqDiff, Nat.reduceBEq, padS, hmax]
    refine EvK.go 1000 ?_
    have hgu : topGood u = !(u.head < 0 && decide ((0 : Int) < u.args.length) || u.head < -256 || decide (1023 < u.head) || decide ((8 : Int) < u.args.length)) := by
      simp only [topGood, Int.natCast_pos, show (8 : Int) < u.args.length ↔ 8 < u.args.length by omega]
    cases wr with
    | true =>
      simp only [go_sem, Nat.reduceAdd, Nat.reduceSub, Nat.reduceMul, Nat.reduceLeDiff, Nat.reduceEqDiff, Nat.reduceBEq, hmax, List.length_map, i64_id hk64]
      rw [rE_eq]
      refine ⟨rfl, [some (.var [.int .i64 t.head, .ps 2 (t.args.map Tm.toA)]), some (.var [.int .i64 (k + 1 : Nat)]), some (.var [.int .i64 (max mx d)]), some (.var [.bool true]), some (.var [.int .i64 t.head, .ps 2 (t.args.map Tm.toA)]), some (.loop (ρ.at .ready)), none, none], by simp [go_sem, hk1], Nat.le_refl _, hst' _, rfl, ?_⟩
      rfl
    | false =>
      by_cases d1 : u.head < 0
      · by_cases d2 : (0 : Int) < u.args.length
        · simp only [go_sem, Nat.reduceAdd, Nat.reduceSub, Nat.reduceMul, Nat.reduceLeDiff, Nat.reduceEqDiff, Nat.reduceBEq, hmax, d1, d2, List.length_map, i64_id hk64]
          rw [rE_eq]
          refine ⟨rfl, [some (.var [.int .i64 t.head, .ps 2 (t.args.map Tm.toA)]), some (.var [.int .i64 (k + 1 : Nat)]), some (.var [.int .i64 (max mx d)]), some (.var [.bool true]), some (.var [.int .i64 t.head, .ps 2 (t.args.map Tm.toA)]), some (.loop (ρ.at .ready)), none, none], by simp [go_sem, hk1], Nat.le_refl _, hst' _, rfl, ?_⟩
          rw [hgu, decide_eq_true d1, decide_eq_true d2]; rfl
        by_cases d3 : u.head < -256
        · simp only [go_sem, Nat.reduceAdd, Nat.reduceSub, Nat.reduceMul, Nat.reduceLeDiff, Nat.reduceEqDiff, Nat.reduceBEq, hmax, d1, d2, d3, List.length_map, i64_id hk64]
          rw [rE_eq]
          refine ⟨rfl, [some (.var [.int .i64 t.head, .ps 2 (t.args.map Tm.toA)]), some (.var [.int .i64 (k + 1 : Nat)]), some (.var [.int .i64 (max mx d)]), some (.var [.bool true]), some (.var [.int .i64 t.head, .ps 2 (t.args.map Tm.toA)]), some (.loop (ρ.at .ready)), none, none], by simp [go_sem, hk1], Nat.le_refl _, hst' _, rfl, ?_⟩
          rw [hgu, decide_eq_true d1, decide_eq_false d2, decide_eq_true d3]; rfl
        have d4 : ¬ 1023 < u.head := by omega
        have d5 : ¬ (8 : Int) < u.args.length := by omega
        simp only [go_sem, Nat.reduceAdd, Nat.reduceSub, Nat.reduceMul, Nat.reduceLeDiff, Nat.reduceEqDiff, Nat.reduceBEq, hmax, d1, d2, d3, d4, d5, List.length_map, i64_id hk64]
        rw [rE_eq]
        refine ⟨rfl, [some (.var [.int .i64 t.head, .ps 2 (t.args.map Tm.toA)]), some (.var [.int .i64 (k + 1 : Nat)]), some (.var [.int .i64 (max mx d)]), some (.var [.bool false]), some (.var [.int .i64 t.head, .ps 2 (t.args.map Tm.toA)]), some (.loop (ρ.at .ready)), none, none], by simp [go_sem, hk1], Nat.le_refl _, hst' _, rfl, ?_⟩
        rw [hgu, decide_eq_true d1, decide_eq_false d2, decide_eq_false d3, decide_eq_false d4, decide_eq_false d5]; rfl
      have d3 : ¬ u.head < -256 := by omega
      by_cases d4 : 1023 < u.head
      · simp only [go_sem, Nat.reduceAdd, Nat.reduceSub, Nat.reduceMul, Nat.reduceLeDiff, Nat.reduceEqDiff, Nat.reduceBEq, hmax, d1, d3, d4, List.length_map, i64_id hk64]
        rw [rE_eq]
        refine ⟨rfl, [some (.var [.int .i64 t.head, .ps 2 (t.args.map Tm.toA)]), some (.var [.int .i64 (k + 1 : Nat)]), some (.var [.int .i64 (max mx d)]), some (.var [.bool true]), some (.var [.int .i64 t.head, .ps 2 (t.args.map Tm.toA)]), some (.loop (ρ.at .ready)), none, none], by simp [go_sem, hk1], Nat.le_refl _, hst' _, rfl, ?_⟩
        rw [hgu, decide_eq_false d1, decide_eq_false d3, decide_eq_true d4]; rfl
      by_cases d5 : (8 : Int) < u.args.length
      · simp only [go_sem, Nat.reduceAdd, Nat.reduceSub, Nat.reduceMul, Nat.reduceLeDiff, Nat.reduceEqDiff, Nat.reduceBEq, hmax, d1, d3, d4, d5, List.length_map, i64_id hk64]
        rw [rE_eq]
        refine ⟨rfl, [some (.var [.int .i64 t.head, .ps 2 (t.args.map Tm.toA)]), some (.var [.int .i64 (k + 1 : Nat)]), some (.var [.int .i64 (max mx d)]), some (.var [.bool true]), some (.var [.int .i64 t.head, .ps 2 (t.args.map Tm.toA)]), some (.loop (ρ.at .ready)), none, none], by simp [go_sem, hk1], Nat.le_refl _, hst' _, rfl, ?_⟩
        rw [hgu, decide_eq_false d1, decide_eq_false d3, decide_eq_false d4, decide_eq_true d5]; rfl
      simp only [go_sem, Nat.reduceAdd, Nat.reduceSub, Nat.reduceMul, Nat.reduceLeDiff, Nat.reduceEqDiff, Nat.reduceBEq, hmax, d1, d3, d4, d5, List.length_map, i64_id hk64]
      rw [rE_eq]
      refine ⟨rfl, [some (.var [.int .i64 t.head, .ps 2 (t.args.map Tm.toA)]), some (.var [.int .i64 (k + 1 : Nat)]), some (.var [.int .i64 (max mx d)]), some (.var [.bool false]), some (.var [.int .i64 t.head, .ps 2 (t.args.map Tm.toA)]), some (.loop (ρ.at .ready)), none, none], by simp [go_sem, hk1], Nat.le_refl _, hst' _, rfl, ?_⟩
      rw [hgu, decide_eq_false d1, decide_eq_false d3, decide_eq_false d4, decide_eq_false d5]; rfl
  rintro r' σ2 rfl
  rw [rK_eq]
  refine ⟨.ready, rfl, ?_⟩
  rw [rD_ready]
  rw [← hpl, List.take_length, hdp, hgd, hpl]
  refine EvK.go 1000 ?_
  simp only [go_sem, Nat.reduceAdd, Nat.reduceSub, Nat.reduceMul, Nat.reduceLeDiff, Nat.reduceEqDiff, Nat.reduceBEq]
  have hdd : 1 ≤ t.depth := by cases t; simp only [Tm.depth]; omega
  unfold Tm.check
  refine ⟨fun h => by rw [if_pos (by omega)], fun h => ⟨fun h' => by rw [if_neg (by omega), if_pos (by omega)], fun h' => ⟨fun hg => ?_, fun hg => ?_⟩⟩⟩ <;> rw [if_neg (by omega), if_neg (by omega)]
  · rw [if_neg (by simpa using hg)]
  · rw [if_pos (by simpa using hg)]
end Go.Proofs

/- The variables of terms, as the program tells them. -/
set_option linter.unusedSimpArgs false
namespace Go.Proofs
open Go Go.Abs

theorem IndexInt_eq (l : List Int) (v : Int) (hl : l.length < 2 ^ 62) : CallEq Try.prog 84 [.ps 1 (ints l), .int .i64 v] (.int .i64 (idxF (fun x => decide (v = x)) l 0)) := by
  refine CallEq.begin (rs := [.tmp 4]) (m := 17) 1000 Try.func84 rfl rfl rfl (by decide) trivial ?_
  simp only [go_sem, Nat.reduceAdd, Nat.reduceSub, Nat.reduceMul, Nat.reduceLeDiff, Nat.reduceEqDiff, Nat.reduceBEq]
  refine EvK.loopI (ι := {i : Nat // i ≤ l.length ∧ idxF (fun x => decide (v = x)) (l.drop i) i = idxF (fun x => decide (v = x)) l 0}) 1000 (fun i => mkT 19 [(0, .ps 1 (ints l)), (1, .int .i64 v), (7, .int .i64 l.length), (8, .int .i64 i.1)]) (fun _ => []) (fun i => l.length - i.1) ⟨0, by simp⟩ ?_ (fun _ => Nat.zero_le _) ?_
  · simp only [go_sem, Nat.reduceAdd, Nat.reduceSub, Nat.reduceMul, Nat.reduceLeDiff, Nat.reduceEqDiff, Nat.reduceBEq, ints_low, ints_len, Int.natCast_zero]
  · rintro ⟨i, hi, hpre⟩
    by_cases hlt : (i : Int) < l.length
    · have hlt' : i < l.length := by omega
      have hd : idxF (fun x => decide (v = x)) (l.drop i) i = if decide (v = l[i]) = true then (i : Int) else idxF (fun x => decide (v = x)) (l.drop (i + 1)) ((i : Int) + 1) := by
        rw [List.drop_eq_getElem_cons hlt']; rfl
      by_cases e : v = l[i]
      · rw [hd, if_pos (by simp [← e])] at hpre
        simp only [go_sem, Nat.reduceAdd, Nat.reduceSub, Nat.reduceMul, Nat.reduceLeDiff, Nat.reduceEqDiff, Nat.reduceBEq, hlt, ints_len, Int.toNat_natCast, ints_get hlt', ← e]
        (repeat ((with_reducible refine And.intro ?_ ?_); · omega))
        refine EvK.go 1000 ?_
        simp only [go_sem, Nat.reduceAdd, Nat.reduceSub, Nat.reduceMul, Nat.reduceLeDiff, Nat.reduceEqDiff, Nat.reduceBEq]
        rw [hpre]
      · rw [hd, if_neg (by simp [e])] at hpre
        simp only [go_sem, Nat.reduceAdd, Nat.reduceSub, Nat.reduceMul, Nat.reduceLeDiff, Nat.reduceEqDiff, Nat.reduceBEq, hlt, ints_len, Int.toNat_natCast, ints_get hlt', e]
        (repeat ((with_reducible refine And.intro ?_ ?_); · omega))
        refine ⟨⟨i + 1, hlt', hpre⟩, ?_, by simp only; omega⟩
        simp only [go_sem, Nat.reduceAdd, Nat.reduceSub, Nat.reduceMul, Nat.reduceLeDiff, Nat.reduceEqDiff, Nat.reduceBEq, ints_low]
        rw [i64_id (by omega)]; trivial
    · have hi' : i = l.length := by omega
      subst hi'
      rw [List.drop_length] at hpre
      simp only [go_sem, Nat.reduceAdd, Nat.reduceSub, Nat.reduceMul, Nat.reduceLeDiff, Nat.reduceEqDiff, Nat.reduceBEq, hlt]
      refine EvK.go 1000 ?_
      simp only [go_sem, Nat.reduceAdd, Nat.reduceSub, Nat.reduceMul, Nat.reduceLeDiff, Nat.reduceEqDiff, Nat.reduceBEq, ← hpre]
      trivial

theorem ContainsInt_eq (l : List Int) (v : Int) (hl : l.length < 2 ^ 62) : CallEq Try.prog 55 [.ps 1 (ints l), .int .i64 v] (.bool (decide (v ∈ l))) := by
  refine CallEq.begin (rs := [.tmp 4]) (m := 7) 1000 Try.func55 rfl rfl rfl (by decide) trivial ?_
  simp only [go_sem, Nat.reduceAdd, Nat.reduceSub, Nat.reduceMul, Nat.reduceLeDiff, Nat.reduceEqDiff, Nat.reduceBEq]
  refine VCall.isoT [] (IndexInt_eq l v hl) (pTL_refl _ _ _) (by simp [go_sem, ints_low]) ?_; simp only [flatR, flatA, flatC, if_true]; refine EvK.go 1000 ?_
  simp only [go_sem, Nat.reduceAdd, Nat.reduceSub, Nat.reduceMul, Nat.reduceLeDiff, Nat.reduceEqDiff, Nat.reduceBEq, idxF_any _ l 0 (Int.le_refl 0)]
  congr 1
  rw [Bool.eq_iff_iff]; simp

theorem VarsT_eq (t : Tm) (hfit : t.fit) (hsz : t.size < 999999999) : CallEq Try.prog 54 [t.toA] (.ps 1 (ints t.vars)) := by
  refine CallEq.begin (rs := [.tmp 2]) (m := 26) 1000 Try.func54 rfl rfl rfl (by decide) (ints_low _) ?_
  simp only [go_sem, Nat.reduceAdd, Nat.reduceSub, Nat.reduceMul, Nat.reduceLeDiff, Nat.reduceEqDiff, Nat.reduceBEq, toA_eq, Nat.le_refl]
  rw [← toA_eq]
  refine (Parts_eq t _ ?_).mono ?_
  · simp [go_sem, tms_low]
  rintro _ _ ⟨rfl, rfl⟩
  refine EvK.go 1000 ?_
  simp only [go_sem, Nat.reduceAdd, Nat.reduceSub, Nat.reduceMul, Nat.reduceLeDiff, Nat.reduceEqDiff, Nat.reduceBEq]
  refine EvK.rangeFunc (mkT 27 [(3, .ptr 1 0)]) ?_ ?_ (fun ρ ht hpa hat hbo => ?_)
  · simp only [go_sem, Nat.reduceAdd, Nat.reduceSub, Nat.reduceMul, Nat.reduceLeDiff, Nat.reduceEqDiff, Nat.reduceBEq]
  · exact fun b hb => by cases hb
  simp only [go_sem, Nat.reduceAdd, Nat.reduceSub, Nat.reduceMul, Nat.reduceLeDiff, Nat.reduceEqDiff, Nat.reduceBEq]
  have hpl := pre_len t 1
  have hv0 := pre_vars0 t 1
  have hρl : lowL 4 ρ.tm := by rw [ht]; simp [go_sem, mkT_cons, mkT_nil]
  have hst : ∀ l : List Int, lowSo 8 [some (.var [.int .i64 t.head, .ps 2 (t.args.map Tm.toA)]), some (.var [slA 4 1 (ints l)]), some (.var [.int .i64 t.head, .ps 2 (t.args.map Tm.toA)]), some (.loop (ρ.at .ready)), slB (ints l), none, none, none] :=
    fun l => ⟨⟨trivial, tms_low _, trivial⟩, ⟨slA_low (by decide) 1 _, trivial⟩, ⟨trivial, tms_low _, trivial⟩, lowL_mono (by decide) hρl, slB_lowO _ (ints_low _), trivial, trivial, trivial, trivial⟩
  refine (Parts1_eq t hsz 4 (by decide) _ (fun _ => some (.var [.int .i64 t.head, .ps 2 (t.args.map Tm.toA)])) (fun k => some (.var [slA 4 1 (ints (foldV ((t.pre 1).take k) []))])) (fun _ => some (.var [.int .i64 t.head, .ps 2 (t.args.map Tm.toA)])) (fun _ => some (.loop (ρ.at .ready)))
    (fun k => slB (ints (foldV ((t.pre 1).take k) []))) (fun _ => none) (fun _ => none) (fun _ => none) 2 (.yld 3) rfl rfl rfl (by decide) (fun k => hst _) ?_ (Nat.lt_succ_self 3) (fun k hk => ?_)).mono ?_
  · exact ⟨⟨trivial, tms_low _, trivial⟩, ⟨trivial, trivial⟩, ⟨trivial, tms_low _, trivial⟩, hρl, trivial⟩
  · have hf1 : foldV ((t.pre 1).take (k + 1)) [] = addV (foldV ((t.pre 1).take k) []) (t.pre 1)[k] := by rw [take_snoc hk, foldV_app]; rfl
    have hlen := foldV_len ((t.pre 1).take k) []
    rw [List.length_take] at hlen
    have hfu : (t.pre 1)[k].2.fit := pre_fit t hfit 1 _ (List.getElem_mem hk)
    rw [hf1]
    generalize (t.pre 1)[k] = x at *
    generalize foldV ((t.pre 1).take k) [] = o at *
    obtain ⟨d, u⟩ := x
    simp only at hfu
    have hfh : -9223372036854775808 ≤ u.head ∧ u.head ≤ 9223372036854775807 := by obtain ⟨h, ts⟩ := u; exact hfu.1
    have hwv : IntKind.i64.wrap (-1 - u.head) = -1 - u.head := i64_id (by omega)
    have hol : o.length < 999999999 := by simp only [List.length_nil] at hlen; omega
    by_cases c1 : u.head < 0
    · have hnn : 0 ≤ -1 - u.head := by omega
      have hav : addV o (d, u) = add1 o (-1 - u.head) := if_pos c1
      rw [hav]
      generalize hv : -1 - u.head = v at *
      by_cases c2 : v ∈ o
      · have hn : add1 o v = o := if_pos c2
        rw [hn]
        refine VCall.stay rfl (hst _) ?_
        refine VCall.yieldK 1000 ht hpa hat hbo rfl rfl ?_
        simp only [go_sem, Nat.reduceAdd, Nat.reduceSub, Nat.reduceMul, Nat.reduceLeDiff, Nat.reduceEqDiff, Nat.reduceBEq, toA_cells, Nat.le_refl, List.length_map, hv, hwv, hnn]
        refine VCall.isoT [4] (ContainsInt_eq o v (by omega)) ?_ (by simp [go_sem, ints_low]) ?_
        · simp only [go_sem, Nat.reduceAdd, Nat.reduceSub, Nat.reduceMul, Nat.reduceLeDiff, Nat.reduceEqDiff, Nat.reduceBEq, among_cons, among_nil, pT_slA]
        simp only [flatR, flatA, flatC, if_true]
        refine EvK.go 1000 ?_
        simp only [go_sem, Nat.reduceAdd, Nat.reduceSub, Nat.reduceMul, Nat.reduceLeDiff, Nat.reduceEqDiff, Nat.reduceBEq, c2]
        rw [rE_eq]
        exact ⟨rfl, [some (.var [.int .i64 t.head, .ps 2 (t.args.map Tm.toA)]), some (.var [slA 4 1 (ints o)]), some (.var [.int .i64 t.head, .ps 2 (t.args.map Tm.toA)]), some (.loop (ρ.at .ready)), slB (ints o), none, none, none], by simp [go_sem], Nat.le_refl _, hst _, rfl, rfl⟩
      · have hn : add1 o v = o ++ [v] := if_neg c2
        have hsw : ∀ b, b < 4 → pi [(4, 10), (10, 4)] b = b := by decide
        rw [hn]
        refine VCall.move [(4, 10), (10, 4)] (S' := [some (.var [.int .i64 t.head, .ps 2 (t.args.map Tm.toA)]), some (.var [.os 10 0 (o.length + 1) 1]), some (.var [.int .i64 t.head, .ps 2 (t.args.map Tm.toA)]), some (.loop (ρ.at .ready)), none, none, none, none, none, none, some (.row (ints o ++ [.int .i64 v]) 0)]) ?_ ?_ rfl ?_ ?_
        · exact Nat.le_add_right 8 3
        · exact ⟨⟨trivial, tms_low _, trivial⟩, ⟨Nat.lt_succ_self 10, trivial⟩, ⟨trivial, tms_low _, trivial⟩, lowL_mono (Nat.le_add_right 4 7) hρl, trivial, trivial, trivial, trivial, trivial, trivial, lowL_app (ints_low _) ⟨trivial, trivial⟩, trivial⟩
        · have hl1 := renB_id (pi [(4, 10), (10, 4)]) 4 hsw (.loop (ρ.at .ready)) hρl
          simp only [ints_add, slA_snoc, slB_snoc, leSoR_some, leSoR_none, leSoR_nil, hl1]
          simp [go_sem, renL_low0 (tms_low _), renL_low0 (ints_low _), renL_low0 (lowL_app (ints_low o) (show lowL 0 [AVal.int .i64 v] from ⟨trivial, trivial⟩)), ints_len]
        refine VCall.yieldK 1000 ht hpa hat hbo rfl rfl ?_
        simp only [go_sem, Nat.reduceAdd, Nat.reduceSub, Nat.reduceMul, Nat.reduceLeDiff, Nat.reduceEqDiff, Nat.reduceBEq, toA_cells, Nat.le_refl, List.length_map, hv, hwv, hnn]
        refine VCall.isoT [4] (ContainsInt_eq o v (by omega)) ?_ (by simp [go_sem, ints_low]) ?_
        · simp only [go_sem, Nat.reduceAdd, Nat.reduceSub, Nat.reduceMul, Nat.reduceLeDiff, Nat.reduceEqDiff, Nat.reduceBEq, among_cons, among_nil, pT_slA]
        simp only [flatR, flatA, flatC, if_true]
        refine EvK.go 1000 ?_
        simp only [go_sem, Nat.reduceAdd, Nat.reduceSub, Nat.reduceMul, Nat.reduceLeDiff, Nat.reduceEqDiff, Nat.reduceBEq, c2, appOk, List.mem_singleton, forall_eq, Nat.zero_lt_one, app_slA, ints_len]
        refine ⟨by omega, ?_⟩
        rw [rE_eq]
        exact ⟨rfl, [some (.var [.int .i64 t.head, .ps 2 (t.args.map Tm.toA)]), some (.var [.os 10 0 (o.length + 1) 1]), some (.var [.int .i64 t.head, .ps 2 (t.args.map Tm.toA)]), some (.loop (ρ.at .ready)), none, none, none, none, none, none, some (.row (ints o ++ [.int .i64 v]) 0)], by simp [go_sem], Nat.le_add_right 8 3, ⟨⟨trivial, tms_low _, trivial⟩, ⟨Nat.lt_succ_self 10, trivial⟩, ⟨trivial, tms_low _, trivial⟩, lowL_mono (Nat.le_add_right 4 7) hρl, trivial, trivial, trivial, trivial, trivial, trivial, lowL_app (ints_low _) (show lowL 11 [AVal.int .i64 v] from ⟨trivial, trivial⟩), trivial⟩, rfl, rfl⟩
    · have hn : addV o (d, u) = o := if_neg c1
      rw [hn]
      refine VCall.stay rfl (hst _) ?_
      refine VCall.yieldK 1000 ht hpa hat hbo rfl rfl ?_
      have hnn : ¬ 0 ≤ -1 - u.head := by omega
      simp only [go_sem, Nat.reduceAdd, Nat.reduceSub, Nat.reduceMul, Nat.reduceLeDiff, Nat.reduceEqDiff, Nat.reduceBEq, toA_cells, Nat.le_refl, List.length_map, hwv, hnn]
      rw [rE_eq]
      exact ⟨rfl, [some (.var [.int .i64 t.head, .ps 2 (t.args.map Tm.toA)]), some (.var [slA 4 1 (ints o)]), some (.var [.int .i64 t.head, .ps 2 (t.args.map Tm.toA)]), some (.loop (ρ.at .ready)), slB (ints o), none, none, none], by simp [go_sem], Nat.le_refl _, hst _, rfl, rfl⟩
  rintro r' σ2 rfl
  rw [rK_eq]
  refine ⟨.ready, rfl, ?_⟩
  rw [rD_ready]
  rw [← hpl, List.take_length, hv0]
  refine EvK.go 1000 ?_
  simp only [go_sem, Nat.reduceAdd, Nat.reduceSub, Nat.reduceMul, Nat.reduceLeDiff, Nat.reduceEqDiff, Nat.reduceBEq]
  rw [pT_slA rfl rfl]; trivial
end Go.Proofs

/- Terms of a signature, as the program tells them. -/
set_option linter.unusedSimpArgs false
namespace Go.Proofs
open Go Go.Abs

theorem Walk_eq {ι : Type} (b0 b1 b2 b3 b4 b5 b6 b7 : ι → Option Blk) (step : ι → Tm → Bool → ι) (c : AVal) (hs : ∀ x, lowSo 8 [b0 x, b1 x, b2 x, b3 x, b4 x, b5 x, b6 x, b7 x]) (hc : c.low 8)
    (hy : ∀ x t top, VCall Try.prog c [t.toA, .bool top] [b0 x, b1 x, b2 x, b3 x, b4 x, b5 x, b6 x, b7 x] (fun _ σ' => σ' = [b0 (step x t top), b1 (step x t top), b2 (step x t top), b3 (step x t top), b4 (step x t top), b5 (step x t top), b6 (step x t top), b7 (step x t top)])) (t : Tm) :
    t.size < 2 ^ 62 → ∀ top x, VCall Try.prog (.fn 59 [] []) [t.toA, .bool top, c] [b0 x, b1 x, b2 x, b3 x, b4 x, b5 x, b6 x, b7 x]
      (fun r σ' => r = .tup [] ∧ σ' = [b0 (t.walk step top x), b1 (t.walk step top x), b2 (t.walk step top x), b3 (t.walk step top x), b4 (t.walk step top x), b5 (t.walk step top x), b6 (t.walk step top x), b7 (t.walk step top x)]) := by
  induction t using Tm.rec_args with
  | h h ts ih =>
  intro hsz top x
  simp only [Tm.size] at hsz
  have hlen := len_le_sizes ts
  have hc9 := low_mono (m := 9) (by decide) hc
  refine VCall.begin (rs := []) (m := 20) 1000 Try.func59 rfl rfl rfl rfl rfl ?_
  simp only [go_sem, Nat.reduceAdd, Nat.reduceSub, Nat.reduceMul, Nat.reduceLeDiff, Nat.reduceEqDiff, Nat.reduceBEq, toA_eq, Tm.head, Tm.args, Nat.le_refl]
  rw [toA_mk]
  refine VCall.tail (σ := [b0 x, b1 x, b2 x, b3 x, b4 x, b5 x, b6 x, b7 x]) (τ := [some (.var [.int .i64 h, .ps 2 (ts.map Tm.toA)])]) hc (by simp [go_sem, toA_low]) (hs x) ?_
  refine (hy x (.mk h ts) top).mono ?_
  rintro r σ' rfl
  refine ⟨rfl, ?_⟩
  refine EvK.go 1000 ?_
  simp only [go_sem, Nat.reduceAdd, Nat.reduceSub, Nat.reduceMul, Nat.reduceLeDiff, Nat.reduceEqDiff, Nat.reduceBEq, List.length_map]
  generalize hx1 : step x (.mk h ts) top = x1
  have hend : Tm.walk step (.mk h ts) top x = Tm.walks step ts x1 := by rw [← hx1]; rfl
  rw [hend]
  refine EvK.loopI (ι := {i : Nat // i ≤ ts.length}) 1000 (fun i => mkT 23 [(2, c), (13, .ps 2 (ts.map Tm.toA)), (14, .int .i64 ts.length), (15, .int .i64 i.1)]) (fun i => [b0 (Tm.walks step (ts.take i.1) x1), b1 (Tm.walks step (ts.take i.1) x1), b2 (Tm.walks step (ts.take i.1) x1), b3 (Tm.walks step (ts.take i.1) x1), b4 (Tm.walks step (ts.take i.1) x1), b5 (Tm.walks step (ts.take i.1) x1), b6 (Tm.walks step (ts.take i.1) x1), b7 (Tm.walks step (ts.take i.1) x1), some (.var [.int .i64 h, .ps 2 (ts.map Tm.toA)])]) (fun i => ts.length - i.1) ⟨0, by omega⟩ ?_ (fun _ => Nat.le_add_right 8 1) ?_
  · have h9 := lowSo_mono (m := 9) (by decide) (hs x1)
    simp only [lowSo_cons, lowSo_nil, and_true] at h9
    simp only [go_sem, Nat.reduceAdd, Nat.reduceSub, Nat.reduceMul, Nat.reduceLeDiff, Nat.reduceEqDiff, Nat.reduceBEq, hc9, tms_low, lowSo_cons, h9, List.take_zero, Tm.walks, lowO_some, Int.natCast_zero]
  · rintro ⟨i, hi⟩
    by_cases hlt : (i : Int) < ts.length
    · have hlt' : i < ts.length := by omega
      have hsz2 := size_le_sizes ts i hlt'
      have hsn := walks_snoc step ts i hlt' x1
      simp only [go_sem, Nat.reduceAdd, Nat.reduceSub, Nat.reduceMul, Nat.reduceLeDiff, Nat.reduceEqDiff, Nat.reduceBEq, hlt, List.length_map, Int.toNat_natCast, map_getD hlt', toA_cells, Nat.le_refl]
      rw [← toA_eq]
      (repeat ((with_reducible refine And.intro ?_ ?_); · omega))
      refine VCall.tail (σ := [b0 (Tm.walks step (ts.take i) x1), b1 (Tm.walks step (ts.take i) x1), b2 (Tm.walks step (ts.take i) x1), b3 (Tm.walks step (ts.take i) x1), b4 (Tm.walks step (ts.take i) x1), b5 (Tm.walks step (ts.take i) x1), b6 (Tm.walks step (ts.take i) x1), b7 (Tm.walks step (ts.take i) x1)]) (τ := [some (.var [.int .i64 h, .ps 2 (ts.map Tm.toA)]), some (.var [.int .i64 ts[i].head, .ps 2 (ts[i].args.map Tm.toA)])]) ⟨trivial, trivial⟩ (by simp [go_sem, toA_low, hc]) (hs _) ?_
      refine (ih i hlt' (by omega) false _).mono ?_
      rintro r' σ2 ⟨rfl, rfl⟩
      refine ⟨rfl, ?_⟩
      rw [← hsn]
      refine EvK.go 1000 ?_
      simp only [go_sem, Nat.reduceAdd, Nat.reduceSub, Nat.reduceMul, Nat.reduceLeDiff, Nat.reduceEqDiff, Nat.reduceBEq]
      refine ⟨⟨i + 1, hlt'⟩, ?_, by simp only; omega⟩
      have h9 := lowSo_mono (m := 9) (by decide) (hs (Tm.walks step (ts.take (i + 1)) x1))
      simp only [lowSo_cons, lowSo_nil, and_true] at h9
      simp only [go_sem, Nat.reduceAdd, Nat.reduceSub, Nat.reduceMul, Nat.reduceLeDiff, Nat.reduceEqDiff, Nat.reduceBEq, hc9, tms_low, lowSo_cons, h9, lowO_some]
      rw [i64_id (by omega)]; rfl
    · have hi' : i = ts.length := by omega
      subst hi'
      simp only [go_sem, Nat.reduceAdd, Nat.reduceSub, Nat.reduceMul, Nat.reduceLeDiff, Nat.reduceEqDiff, Nat.reduceBEq, hlt, List.take_length]
      refine EvK.go 1000 ?_
      simp only [go_sem, Nat.reduceAdd, Nat.reduceSub, Nat.reduceMul, Nat.reduceLeDiff, Nat.reduceEqDiff, Nat.reduceBEq]
      rw [dK_eq]
      exact ⟨[b0 (Tm.walks step ts x1), b1 (Tm.walks step ts x1), b2 (Tm.walks step ts x1), b3 (Tm.walks step ts x1), b4 (Tm.walks step ts x1), b5 (Tm.walks step ts x1), b6 (Tm.walks step ts x1), b7 (Tm.walks step ts x1)], by simp [go_sem], Nat.le_refl _, hs _, trivial, rfl, rfl⟩

theorem Term1_eq (g : List Sy) (b1 : Option Blk) (hb1 : lowO 8 b1) (x : Bool × Bool) (t : Tm) (top : Bool) : VCall Try.prog (.fn 60 [] [.ptr 0 0, .ptr 2 0, .ptr 3 0]) [t.toA, .bool top] [some (.var [.ps 4 (syms g)]), b1, some (.var [.bool x.1]), some (.var [.bool x.2]), none, none, none, none]
    (fun _ σ' => σ' = [some (.var [.ps 4 (syms g)]), b1, some (.var [.bool (seeT g x t top).1]), some (.var [.bool (seeT g x t top).2]), none, none, none, none]) := by
  obtain ⟨un, mx⟩ := x
  have hlow : ∀ u m, lowSo 8 [some (.var [.ps 4 (syms g)]), b1, some (.var [.bool u]), some (.var [.bool m]), none, none, none, none] := fun u m => ⟨⟨syms_low g, trivial⟩, hb1, ⟨trivial, trivial⟩, ⟨trivial, trivial⟩, trivial, trivial, trivial, trivial, trivial⟩
  refine VCall.begin (rs := []) (m := 35) 1000 Try.func60 rfl rfl rfl rfl rfl ?_
  by_cases c1 : t.head < 0
  · have hsee : seeT g (un, mx) t top = (un, mx) := if_pos c1
    simp only [go_sem, Nat.reduceAdd, Nat.reduceSub, Nat.reduceMul, Nat.reduceLeDiff, Nat.reduceEqDiff, Nat.reduceBEq, toA_eq, c1]
    rw [dK_eq]
    exact ⟨[some (.var [.ps 4 (syms g)]), b1, some (.var [.bool un]), some (.var [.bool mx]), none, none, none, none], by simp [go_sem], Nat.le_refl _, hlow _ _, trivial, by rw [hsee]⟩
  simp only [go_sem, Nat.reduceAdd, Nat.reduceSub, Nat.reduceMul, Nat.reduceLeDiff, Nat.reduceEqDiff, Nat.reduceBEq, toA_eq, c1]
  refine EvK.draw [] 9 9 mixed rfl rfl (Nat.le_refl _) ?_
  by_cases c2 : (g.length : Int) ≤ t.head
  · have hsee : seeT g (un, mx) t top = (true, mx) := by rw [seeT, if_neg c1, if_pos (.inl c2)]
    simp only [go_sem, Nat.reduceAdd, Nat.reduceSub, Nat.reduceMul, Nat.reduceLeDiff, Nat.reduceEqDiff, Nat.reduceBEq, padS, syms_len, c2]
    refine EvK.go 1000 ?_
    simp only [go_sem, Nat.reduceAdd, Nat.reduceSub, Nat.reduceMul, Nat.reduceLeDiff, Nat.reduceEqDiff, Nat.reduceBEq]
    rw [dK_eq]
    exact ⟨[some (.var [.ps 4 (syms g)]), b1, some (.var [.bool true]), some (.var [.bool mx]), none, none, none, none], by simp [go_sem], Nat.le_refl _, hlow _ _, trivial, by rw [hsee]⟩
  have hi : t.head.toNat < g.length := by omega
  have hsy : symAt g t.head = g[t.head.toNat] := getD_at hi
  by_cases c3 : (t.args.length : Int) = g[t.head.toNat].arity
  · simp only [go_sem, Nat.reduceAdd, Nat.reduceSub, Nat.reduceMul, Nat.reduceLeDiff, Nat.reduceEqDiff, Nat.reduceBEq, padS, syms_len, c2, List.length_map, syms_get hi, sy_cells, c3, Nat.le_refl]
    (repeat ((with_reducible refine And.intro ?_ ?_); · omega))
    refine EvK.go 1000 ?_
    cases ht : g[t.head.toNat].truth with
    | false =>
      have hsee : seeT g (un, mx) t top = (un, mx) := by rw [seeT, if_neg c1, if_neg (by rw [hsy]; simp only [c3, not_true_eq_false, or_false]; exact c2), if_neg (by rw [hsy, ht]; simp)]
      simp only [go_sem, Nat.reduceAdd, Nat.reduceSub, Nat.reduceMul, Nat.reduceLeDiff, Nat.reduceEqDiff, Nat.reduceBEq, syms_len, syms_get hi, sy_cells, ht]
      (repeat ((with_reducible refine And.intro ?_ ?_); · omega))
      rw [dK_eq]
      exact ⟨[some (.var [.ps 4 (syms g)]), b1, some (.var [.bool un]), some (.var [.bool mx]), none, none, none, none], by simp [go_sem], Nat.le_refl _, hlow _ _, trivial, by rw [hsee]⟩
    | true =>
      cases top with
      | false =>
        have hsee : seeT g (un, mx) t false = (un, true) := by rw [seeT, if_neg c1, if_neg (by rw [hsy]; simp only [c3, not_true_eq_false, or_false]; exact c2), if_pos (by rw [hsy, ht]; simp)]
        simp only [go_sem, Nat.reduceAdd, Nat.reduceSub, Nat.reduceMul, Nat.reduceLeDiff, Nat.reduceEqDiff, Nat.reduceBEq, syms_len, syms_get hi, sy_cells, ht]
        (repeat ((with_reducible refine And.intro ?_ ?_); · omega))
        rw [dK_eq]
        exact ⟨[some (.var [.ps 4 (syms g)]), b1, some (.var [.bool un]), some (.var [.bool true]), none, none, none, none], by simp [go_sem], Nat.le_refl _, hlow _ _, trivial, by rw [hsee]⟩
      | true =>
        have hsee : seeT g (un, mx) t true = (un, mx) := by rw [seeT, if_neg c1, if_neg (by rw [hsy]; simp only [c3, not_true_eq_false, or_false]; exact c2), if_neg (by simp)]
        simp only [go_sem, Nat.reduceAdd, Nat.reduceSub, Nat.reduceMul, Nat.reduceLeDiff, Nat.reduceEqDiff, Nat.reduceBEq, syms_len, syms_get hi, sy_cells, ht]
        (repeat ((with_reducible refine And.intro ?_ ?_); · omega))
        rw [dK_eq]
        exact ⟨[some (.var [.ps 4 (syms g)]), b1, some (.var [.bool un]), some (.var [.bool mx]), none, none, none, none], by simp [go_sem], Nat.le_refl _, hlow _ _, trivial, by rw [hsee]⟩
  · have hsee : seeT g (un, mx) t top = (true, mx) := by rw [seeT, if_neg c1, if_pos (.inr (by rw [hsy]; exact c3))]
    simp only [go_sem, Nat.reduceAdd, Nat.reduceSub, Nat.reduceMul, Nat.reduceLeDiff, Nat.reduceEqDiff, Nat.reduceBEq, padS, syms_len, c2, List.length_map, syms_get hi, sy_cells, c3, Nat.le_refl]
    (repeat ((with_reducible refine And.intro ?_ ?_); · omega))
    refine EvK.go 1000 ?_
    simp only [go_sem, Nat.reduceAdd, Nat.reduceSub, Nat.reduceMul, Nat.reduceLeDiff, Nat.reduceEqDiff, Nat.reduceBEq]
    rw [dK_eq]
    exact ⟨[some (.var [.ps 4 (syms g)]), b1, some (.var [.bool true]), some (.var [.bool mx]), none, none, none, none], by simp [go_sem], Nat.le_refl _, hlow _ _, trivial, by rw [hsee]⟩

theorem TermW_eq (g : List Sy) (t : Tm) (hsz : t.size < 999999999) : CallEq Try.prog 28 [.ps 4 (syms g), t.toA] (.int .i64 (t.term g)) := by
  refine CallEq.begin (rs := [.tmp 4]) (m := 24) 1000 Try.func28 rfl rfl rfl (by decide) trivial ?_
  simp only [go_sem, Nat.reduceAdd, Nat.reduceSub, Nat.reduceMul, Nat.reduceLeDiff, Nat.reduceEqDiff, Nat.reduceBEq, toA_eq, Nat.le_refl]
  refine VCall.isoT [] (CheckSig_eq g) (pTL_refl _ _ _) (by simp [go_sem, syms_low]) ?_; simp only [flatR, flatA, flatC, if_true]; refine EvK.go 1000 ?_
  cases c1 : sigOk g with
  | false => simp only [go_sem, Nat.reduceAdd, Nat.reduceSub, Nat.reduceMul, Nat.reduceLeDiff, Nat.reduceEqDiff, Nat.reduceBEq, Tm.term, c1, Int.reduceEq]
  | true =>
  simp only [go_sem, Nat.reduceAdd, Nat.reduceSub, Nat.reduceMul, Nat.reduceLeDiff, Nat.reduceEqDiff, Nat.reduceBEq, Nat.le_refl]
  rw [← toA_eq]
  refine VCall.isoT [] (CheckT_eq t hsz) (pTL_refl _ _ _) (by simp [go_sem, toA_low]) ?_; simp only [flatR, flatA, flatC, if_true]; refine EvK.go 1000 ?_
  by_cases c2 : t.check = 0
  case neg => simp only [go_sem, Nat.reduceAdd, Nat.reduceSub, Nat.reduceMul, Nat.reduceLeDiff, Nat.reduceEqDiff, Nat.reduceBEq, c2, Tm.term, c1]
  simp only [go_sem, Nat.reduceAdd, Nat.reduceSub, Nat.reduceMul, Nat.reduceLeDiff, Nat.reduceEqDiff, Nat.reduceBEq, c2, Nat.le_refl]
  rw [← toA_eq]
  have hgd := (check_good c2).1
  have hb1 : lowO 8 (some (.var [.int .i64 t.head, .ps 2 (t.args.map Tm.toA)])) := ⟨trivial, tms_low _, trivial⟩
  refine VCall.pad 4 ?_
  refine (Walk_eq (ι := Bool × Bool) (fun _ => some (.var [.ps 4 (syms g)])) (fun _ => some (.var [.int .i64 t.head, .ps 2 (t.args.map Tm.toA)])) (fun x => some (.var [.bool x.1])) (fun x => some (.var [.bool x.2])) (fun _ => none) (fun _ => none) (fun _ => none) (fun _ => none)
    (seeT g) (.fn 60 [] [.ptr 0 0, .ptr 2 0, .ptr 3 0]) (fun x => ⟨⟨syms_low g, trivial⟩, hb1, ⟨trivial, trivial⟩, ⟨trivial, trivial⟩, trivial, trivial, trivial, trivial, trivial⟩) (by simp [go_sem]) (fun x t top => Term1_eq g _ hb1 x t top) t (by omega) true (false, false)).mono ?_
  rintro r σ' ⟨rfl, rfl⟩
  rw [dK_eq]
  refine ⟨[some (.var [.ps 4 (syms g)]), some (.var [.int .i64 t.head, .ps 2 (t.args.map Tm.toA)]), some (.var [.bool (t.walk (seeT g) true (false, false)).1]), some (.var [.bool (t.walk (seeT g) true (false, false)).2])], by simp [go_sem], Nat.le_refl _, ⟨⟨syms_low g, trivial⟩, ⟨trivial, tms_low _, trivial⟩, ⟨trivial, trivial⟩, ⟨trivial, trivial⟩, trivial⟩, trivial, ?_⟩
  rw [walk_1 g t true _ hgd]
  refine EvK.go 1000 ?_
  cases c3 : t.known g with
  | false =>
    simp only [go_sem, Nat.reduceAdd, Nat.reduceSub, Nat.reduceMul, Nat.reduceLeDiff, Nat.reduceEqDiff, Nat.reduceBEq]
    simp [Tm.term, c1, c2, c3]
  | true =>
    rw [walk_2 g t true _ hgd c3]
    cases c4 : t.things g with
    | false =>
      simp only [go_sem, Nat.reduceAdd, Nat.reduceSub, Nat.reduceMul, Nat.reduceLeDiff, Nat.reduceEqDiff, Nat.reduceBEq]
      simp [Tm.term, c1, c2, c3, c4]
    | true =>
      simp only [go_sem, Nat.reduceAdd, Nat.reduceSub, Nat.reduceMul, Nat.reduceLeDiff, Nat.reduceEqDiff, Nat.reduceBEq]
      simp [Tm.term, c1, c2, c3, c4]
end Go.Proofs

/- Right worlds, as the program tells them. -/
set_option linter.unusedSimpArgs false
namespace Go.Proofs
open Go Go.Abs

theorem PowerM_eq (s m most : Int) (hm : m < 2 ^ 62) : CallEq Try.prog 36 [.int .i64 s, .int .i64 m, .int .i64 most] (.int .i64 (manyL s most m.toNat 1)) := by
  refine CallEq.begin (rs := [.tmp 6]) (m := 20) 1000 Try.func36 rfl rfl rfl (by decide) trivial ?_
  simp only [go_sem, Nat.reduceAdd, Nat.reduceSub, Nat.reduceMul, Nat.reduceLeDiff, Nat.reduceEqDiff, Nat.reduceBEq]
  refine EvK.loopI (ι := {p : Nat × Int // p.1 ≤ m.toNat ∧ manyL s most (m.toNat - p.1) p.2 = manyL s most m.toNat 1}) 1000 (fun p => mkT 23 [(0, .int .i64 s), (1, .int .i64 m), (2, .int .i64 most), (7, .int .i64 p.1.2), (8, .int .i64 p.1.1)]) (fun _ => []) (fun p => m.toNat - p.1.1) ⟨(0, 1), by simp⟩ ?_ (fun _ => Nat.zero_le _) ?_
  · simp only [go_sem, Nat.reduceAdd, Nat.reduceSub, Nat.reduceMul, Nat.reduceLeDiff, Nat.reduceEqDiff, Nat.reduceBEq, Int.natCast_zero]
  · rintro ⟨⟨i, n⟩, hi, h3⟩
    simp only at hi h3
    by_cases hlt : (i : Int) < m
    · by_cases hn : n ≤ most
      · simp only [go_sem, Nat.reduceAdd, Nat.reduceSub, Nat.reduceMul, Nat.reduceLeDiff, Nat.reduceEqDiff, Nat.reduceBEq, hlt, hn]
        refine ⟨⟨(i + 1, IntKind.i64.wrap (n * s)), by simp only; omega, ?_⟩, ?_, by simp only; omega⟩
        · simp only
          rw [← h3, show m.toNat - i = (m.toNat - (i + 1)) + 1 by omega, manyL, if_pos hn]
        · simp only [go_sem, Nat.reduceAdd, Nat.reduceSub, Nat.reduceMul, Nat.reduceLeDiff, Nat.reduceEqDiff, Nat.reduceBEq]
          rw [i64_id (by omega)]; simp
      · simp only [go_sem, Nat.reduceAdd, Nat.reduceSub, Nat.reduceMul, Nat.reduceLeDiff, Nat.reduceEqDiff, Nat.reduceBEq, hlt, hn]
        refine EvK.go 1000 ?_
        simp only [go_sem, Nat.reduceAdd, Nat.reduceSub, Nat.reduceMul, Nat.reduceLeDiff, Nat.reduceEqDiff, Nat.reduceBEq]
        rw [manyL_stop _ _ hn] at h3
        rw [h3]
    · simp only [go_sem, Nat.reduceAdd, Nat.reduceSub, Nat.reduceMul, Nat.reduceLeDiff, Nat.reduceEqDiff, Nat.reduceBEq, hlt]
      refine EvK.go 1000 ?_
      simp only [go_sem, Nat.reduceAdd, Nat.reduceSub, Nat.reduceMul, Nat.reduceLeDiff, Nat.reduceEqDiff, Nat.reduceBEq]
      rw [show m.toNat - i = 0 by omega, manyL] at h3
      rw [h3]

set_option maxRecDepth 20000 in
set_option maxHeartbeats 1600000 in
theorem CheckM_eq (g : List Sy) (w : Wo) : CallEq Try.prog 14 [.ps 4 (syms g), w.toA] (.int .i64 (if worldOk g w then 0 else 1)) := by
  refine CallEq.begin (rs := [.tmp 4]) (m := 83) 1000 Try.func14 rfl rfl rfl (by decide) trivial ?_
  simp only [go_sem, Nat.reduceAdd, Nat.reduceSub, Nat.reduceMul, Nat.reduceLeDiff, Nat.reduceEqDiff, Nat.reduceBEq, wo_eq]
  refine VCall.isoT [] (CheckSig_eq g) (pTL_refl _ _ _) (by simp [go_sem, syms_low]) ?_; simp only [flatR, flatA, flatC, if_true]; refine EvK.go 1000 ?_
  cases c1 : sigOk g with
  | false => simp only [go_sem, Nat.reduceAdd, Nat.reduceSub, Nat.reduceMul, Nat.reduceLeDiff, Nat.reduceEqDiff, Nat.reduceBEq, worldOk, c1, Int.reduceEq]
  | true =>
  obtain ⟨hg1, hg2⟩ := sigOk_len c1
  by_cases c2 : w.size < 1
  · simp only [go_sem, Nat.reduceAdd, Nat.reduceSub, Nat.reduceMul, Nat.reduceLeDiff, Nat.reduceEqDiff, Nat.reduceBEq, worldOk, c1, c2]
  by_cases c3 : 4 < w.size
  · simp only [go_sem, Nat.reduceAdd, Nat.reduceSub, Nat.reduceMul, Nat.reduceLeDiff, Nat.reduceEqDiff, Nat.reduceBEq, worldOk, c1, c2, c3]
  by_cases c4 : (w.rows.length : Int) = g.length
  case neg => simp only [go_sem, Nat.reduceAdd, Nat.reduceSub, Nat.reduceMul, Nat.reduceLeDiff, Nat.reduceEqDiff, Nat.reduceBEq, worldOk, c1, c2, c3, c4, rowsA_len, syms_len]
  simp only [go_sem, Nat.reduceAdd, Nat.reduceSub, Nat.reduceMul, Nat.reduceLeDiff, Nat.reduceEqDiff, Nat.reduceBEq, c2, c3, c4, rowsA_len, syms_len]
  have hw : worldOk g w = ((List.range g.length).all (rowOkAt g w) && decide ((w.rows.getD 0 []).getD 0 0 = 1)) := by
    simp only [worldOk, c1, decide_eq_false c2, decide_eq_false c3, decide_eq_true c4]; rfl
  rw [hw]
  have bad : ∀ i, i < g.length → rowOkAt g w i = false → (if ((List.range g.length).all (rowOkAt g w) && decide ((w.rows.getD 0 []).getD 0 0 = 1)) = true then (0 : Int) else 1) = 1 := fun i hi hb => by
    rw [all_false_at (p := rowOkAt g w) hi hb, Bool.false_and]; rfl
  refine EvK.loopI (ι := {i : Nat // i ≤ g.length ∧ (List.range i).all (rowOkAt g w) = true}) 1000 (fun i => mkT 85 [(0, .ps 4 (syms g)), (3, .ptr 0 0), (31, .ps 4 (syms g)), (32, .int .i64 g.length), (33, .int .i64 i.1)]) (fun _ => [some (.var [.int .i64 w.size, .ps 1 (rowsA w.rows)])]) (fun i => g.length - i.1) ⟨0, by simp⟩ ?_ (fun _ => Nat.zero_le _) ?_
  · simp only [go_sem, Nat.reduceAdd, Nat.reduceSub, Nat.reduceMul, Nat.reduceLeDiff, Nat.reduceEqDiff, Nat.reduceBEq, syms_low, rowsA_low, Int.natCast_zero, Nat.zero_lt_one, syms_len]
  · rintro ⟨i, hi, hpre⟩
    by_cases hlt : (i : Int) < g.length
    · have hlt' : i < g.length := by omega
      have hlr : i < w.rows.length := by omega
      have hga := getD_at hlt'
      have hra := getD_row hlr
      have hxr := right_iff (sigOk_at c1 hlt')
      have hro : rowOkAt g w i = rowOk w.size (mostOf w g[i]) g[i].arity w.rows[i] := by simp only [rowOkAt, hga, hra]
      have hg0 : (syms g).getD i .undef = g[i].toA := syms_get hlt'
      have hr0 : (rowsA w.rows).getD i .undef = .ps 1 (ints w.rows[i]) := rowsA_get hlr
      generalize g[i] = x at *
      generalize w.rows[i] = r at *
      cases htr : x.truth
      case' false => simp only [go_sem, Nat.reduceAdd, Nat.reduceSub, Nat.reduceMul, Nat.reduceLeDiff, Nat.reduceEqDiff, Nat.reduceBEq, syms_len, hlt, Int.toNat_natCast, hg0, sy_cells, htr]
      case' true => simp only [go_sem, Nat.reduceAdd, Nat.reduceSub, Nat.reduceMul, Nat.reduceLeDiff, Nat.reduceEqDiff, Nat.reduceBEq, syms_len, hlt, Int.toNat_natCast, hg0, sy_cells, htr]
      all_goals
        refine ⟨by omega, ?_⟩
        refine EvK.draw [] 2 2 mixed rfl rfl (Nat.le_refl _) ?_
        by_cases d1 : 4 < x.arity
        · have hb : rowOkAt g w i = false := by rw [hro, rowOk, decide_eq_true d1]; simp
          simp only [go_sem, Nat.reduceAdd, Nat.reduceSub, Nat.reduceMul, Nat.reduceLeDiff, Nat.reduceEqDiff, Nat.reduceBEq, padS, syms_len, Int.toNat_natCast, hg0, sy_cells, d1]
          refine EvK.go 1000 ?_
          simp only [go_sem, Nat.reduceAdd, Nat.reduceSub, Nat.reduceMul, Nat.reduceLeDiff, Nat.reduceEqDiff, Nat.reduceBEq]
          refine EvK.go 1000 ?_
          simp only [go_sem, Nat.reduceAdd, Nat.reduceSub, Nat.reduceMul, Nat.reduceLeDiff, Nat.reduceEqDiff, Nat.reduceBEq, bad i hlt' hb]
        obtain ⟨p1, p2, p3⟩ := pow_small w.size (by omega) (by omega) x.arity.toNat (by omega)
        have p0 := manyL_arity (s := w.size) (by omega) (by omega) (k := x.arity.toNat) (by omega)
        simp only [go_sem, Nat.reduceAdd, Nat.reduceSub, Nat.reduceMul, Nat.reduceLeDiff, Nat.reduceEqDiff, Nat.reduceBEq, padS, syms_len, rowsA_len, Int.toNat_natCast, hg0, hr0, sy_cells, d1, ints_len]
        (repeat ((with_reducible refine And.intro ?_ ?_); · omega))
        refine draw_iso (PowerM_eq w.size x.arity 20000 (by omega)) ?_ ?_ ?_
        · exact pTL_refl _ _ _
        · simp [go_sem]
        rw [p0]
        by_cases d2 : (r.length : Int) = w.size ^ x.arity.toNat
        case neg =>
          have hb : rowOkAt g w i = false := by rw [hro, rowOk, decide_eq_false d2]; simp
          simp only [go_sem, Nat.reduceAdd, Nat.reduceSub, Nat.reduceMul, Nat.reduceLeDiff, Nat.reduceEqDiff, Nat.reduceBEq, d2]
          refine EvK.go 1000 ?_
          simp only [go_sem, Nat.reduceAdd, Nat.reduceSub, Nat.reduceMul, Nat.reduceLeDiff, Nat.reduceEqDiff, Nat.reduceBEq]
          refine EvK.go 1000 ?_
          simp only [go_sem, Nat.reduceAdd, Nat.reduceSub, Nat.reduceMul, Nat.reduceLeDiff, Nat.reduceEqDiff, Nat.reduceBEq, bad i hlt' hb]
        have p4 : (r.length : Int) ≤ 256 := by omega
        simp only [go_sem, Nat.reduceAdd, Nat.reduceSub, Nat.reduceMul, Nat.reduceLeDiff, Nat.reduceEqDiff, Nat.reduceBEq, d2]
        refine EvK.go 1000 ?_
        simp only [go_sem, Nat.reduceAdd, Nat.reduceSub, Nat.reduceMul, Nat.reduceLeDiff, Nat.reduceEqDiff, Nat.reduceBEq, rowsA_len, Int.toNat_natCast, hr0, ints_len]
        (repeat ((with_reducible refine And.intro ?_ ?_); · omega))
        refine EvK.go 1000 ?_
        simp only [go_sem, Nat.reduceAdd, Nat.reduceSub, Nat.reduceMul, Nat.reduceLeDiff, Nat.reduceEqDiff, Nat.reduceBEq]
        refine EvK.loopI (ι := {k : Nat // k ≤ r.length ∧ (r.take k).all (fun v => !(decide (v < 0) || decide (mostOf w x ≤ v))) = true}) 1000 (fun k => mkT 85 [(0, .ps 4 (syms g)), (3, .ptr 0 0), (7, .int .i64 (mostOf w x)), (31, .ps 4 (syms g)), (32, .int .i64 g.length), (33, .int .i64 i), (63, .ps 1 (ints r)), (64, .int .i64 r.length), (65, .int .i64 k.1)]) (fun _ => [some (.var [.int .i64 w.size, .ps 1 (rowsA w.rows)])]) (fun k => r.length - k.1) ⟨0, by simp⟩ ?_ (fun _ => Nat.zero_le _) ?_
        · simp only [go_sem, Nat.reduceAdd, Nat.reduceSub, Nat.reduceMul, Nat.reduceLeDiff, Nat.reduceEqDiff, Nat.reduceBEq, syms_low, rowsA_low, ints_low, Int.natCast_zero, Nat.zero_lt_one, mostOf, htr, ints_len]
        · rintro ⟨k, hk, hkp⟩
          by_cases hkr : (k : Int) < r.length
          · have hkl : k < r.length := by omega
            have hkv : (ints r).getD k .undef = .int .i64 r[k] := ints_get hkl
            have hbk : ∀ (hv : (!(decide (r[k] < 0) || decide (mostOf w x ≤ r[k]))) = false), rowOkAt g w i = false := fun hv => by
              rw [hro, rowOk, Bool.and_eq_false_iff]; right
              rw [List.all_eq_false]
              exact ⟨r[k], List.getElem_mem hkl, by rw [hv]; decide⟩
            have hsn : (r.take (k + 1)).all (fun v => !(decide (v < 0) || decide (mostOf w x ≤ v))) = ((r.take k).all (fun v => !(decide (v < 0) || decide (mostOf w x ≤ v))) && !(decide (r[k] < 0) || decide (mostOf w x ≤ r[k]))) := by
              rw [List.take_add_one, List.all_append, List.getElem?_eq_getElem hkl]; simp
            generalize r[k] = v at *
            by_cases d3 : v < 0
            · simp only [go_sem, Nat.reduceAdd, Nat.reduceSub, Nat.reduceMul, Nat.reduceLeDiff, Nat.reduceEqDiff, Nat.reduceBEq, Int.toNat_natCast, ints_len, hkr, hkv, d3]
              (repeat ((with_reducible refine And.intro ?_ ?_); · omega))
              refine EvK.go 1000 ?_
              simp only [go_sem, Nat.reduceAdd, Nat.reduceSub, Nat.reduceMul, Nat.reduceLeDiff, Nat.reduceEqDiff, Nat.reduceBEq]
              refine EvK.go 1000 ?_
              simp only [go_sem, Nat.reduceAdd, Nat.reduceSub, Nat.reduceMul, Nat.reduceLeDiff, Nat.reduceEqDiff, Nat.reduceBEq, bad i hlt' (hbk (by rw [decide_eq_true d3]; rfl))]
            by_cases d4 : mostOf w x ≤ v
            · simp only [go_sem, Nat.reduceAdd, Nat.reduceSub, Nat.reduceMul, Nat.reduceLeDiff, Nat.reduceEqDiff, Nat.reduceBEq, Int.toNat_natCast, ints_len, hkr, hkv, d3, d4]
              (repeat ((with_reducible refine And.intro ?_ ?_); · omega))
              refine EvK.go 1000 ?_
              simp only [go_sem, Nat.reduceAdd, Nat.reduceSub, Nat.reduceMul, Nat.reduceLeDiff, Nat.reduceEqDiff, Nat.reduceBEq]
              refine EvK.go 1000 ?_
              simp only [go_sem, Nat.reduceAdd, Nat.reduceSub, Nat.reduceMul, Nat.reduceLeDiff, Nat.reduceEqDiff, Nat.reduceBEq, bad i hlt' (hbk (by rw [decide_eq_true d4]; simp))]
            simp only [go_sem, Nat.reduceAdd, Nat.reduceSub, Nat.reduceMul, Nat.reduceLeDiff, Nat.reduceEqDiff, Nat.reduceBEq, Int.toNat_natCast, ints_len, hkr, hkv, d3, d4]
            (repeat ((with_reducible refine And.intro ?_ ?_); · omega))
            refine ⟨⟨k + 1, by omega, by rw [hsn, hkp, decide_eq_false d3, decide_eq_false d4]; rfl⟩, ?_, by simp only; omega⟩
            simp only [go_sem, Nat.reduceAdd, Nat.reduceSub, Nat.reduceMul, Nat.reduceLeDiff, Nat.reduceEqDiff, Nat.reduceBEq, syms_low, rowsA_low, ints_low, Nat.zero_lt_one]
            rw [i64_id (by omega)]; rfl
          · simp only [go_sem, Nat.reduceAdd, Nat.reduceSub, Nat.reduceMul, Nat.reduceLeDiff, Nat.reduceEqDiff, Nat.reduceBEq, Int.toNat_natCast, ints_len, hkr]
            refine EvK.go 1000 ?_
            simp only [go_sem, Nat.reduceAdd, Nat.reduceSub, Nat.reduceMul, Nat.reduceLeDiff, Nat.reduceEqDiff, Nat.reduceBEq]
            have hkl : k = r.length := by omega
            subst hkl
            rw [List.take_length] at hkp
            have hok : rowOkAt g w i = true := by
              rw [hro, rowOk, decide_eq_false d1, decide_eq_true d2, hkp]; rfl
            refine ⟨⟨i + 1, hlt', by rw [range_all_snoc, hpre, hok]; rfl⟩, ?_, by simp only; omega⟩
            simp only [go_sem, Nat.reduceAdd, Nat.reduceSub, Nat.reduceMul, Nat.reduceLeDiff, Nat.reduceEqDiff, Nat.reduceBEq, syms_low, rowsA_low, Nat.zero_lt_one]
            rw [i64_id (by omega)]; rfl
    · have hi' : i = g.length := by omega
      subst hi'
      have h0 : 0 < g.length := by omega
      have hr0 : 0 < w.rows.length := by omega
      have e0 : (rowsA w.rows).getD 0 .undef = .ps 1 (ints w.rows[0]) := rowsA_get hr0
      have e1 := getD_row hr0
      have hok : rowOkAt g w 0 = true := List.all_eq_true.1 hpre 0 (by simpa using h0)
      have e2 : 0 < w.rows[0].length := row_pos c1 (by omega) h0 hr0 hok
      have e3 : (ints w.rows[0]).getD 0 .undef = .int .i64 w.rows[0][0] := ints_get e2
      simp only [go_sem, Nat.reduceAdd, Nat.reduceSub, Nat.reduceMul, Nat.reduceLeDiff, Nat.reduceEqDiff, Nat.reduceBEq, hlt]
      refine EvK.go 1000 ?_
      by_cases c5 : w.rows[0][0] = 1
      · simp only [go_sem, Nat.reduceAdd, Nat.reduceSub, Nat.reduceMul, Nat.reduceLeDiff, Nat.reduceEqDiff, Nat.reduceBEq, rowsA_len, Int.toNat_zero, e0, ints_len, e3, c5]
        (repeat ((with_reducible refine And.intro ?_ ?_); · omega))
        rw [hpre, e1, getD_at' e2, c5]; rfl
      · simp only [go_sem, Nat.reduceAdd, Nat.reduceSub, Nat.reduceMul, Nat.reduceLeDiff, Nat.reduceEqDiff, Nat.reduceBEq, rowsA_len, Int.toNat_zero, e0, ints_len, e3, c5]
        (repeat ((with_reducible refine And.intro ?_ ?_); · omega))
        rw [hpre, e1, getD_at' e2, decide_eq_false c5]; rfl
end Go.Proofs

/- The values of terms in a world, as the program tells them. -/
set_option linter.unusedSimpArgs false
namespace Go.Proofs
open Go Go.Abs

set_option maxRecDepth 10000 in
set_option maxHeartbeats 800000 in
theorem ValueG_eq {ι : Type} (b0 b1 b2 b3 b4 b5 b6 b7 : ι → Option Blk) (step : ι → Int → ι) (f : Int → Int) (w : Wo) (hw : 1 ≤ w.size) (hw4 : w.size ≤ 4) (hf : ∀ v, 0 ≤ f v ∧ f v < w.size) (c : AVal) (hs : ∀ x, lowSo 8 [b0 (x), b1 (x), b2 (x), b3 (x), b4 (x), b5 (x), b6 (x), b7 (x)]) (hc : c.low 8)
    (hy : ∀ x v, 0 ≤ v → VCall Try.prog c [.int .i64 v] [b0 (x), b1 (x), b2 (x), b3 (x), b4 (x), b5 (x), b6 (x), b7 (x)] (fun r σ' => r = .int .i64 (f v) ∧ σ' = [b0 (step x v), b1 (step x v), b2 (step x v), b3 (step x v), b4 (step x v), b5 (step x v), b6 (step x v), b7 (step x v)])) (t : Tm) :
    t.fit → t.size < 2 ^ 62 → t.okW w → ∀ x, VCall Try.prog (.fn 29 [] []) [w.toA, t.toA, c] [b0 (x), b1 (x), b2 (x), b3 (x), b4 (x), b5 (x), b6 (x), b7 (x)]
      (fun r σ' => r = .int .i64 (t.val w f) ∧ σ' = [b0 (t.visit step x), b1 (t.visit step x), b2 (t.visit step x), b3 (t.visit step x), b4 (t.visit step x), b5 (t.visit step x), b6 (t.visit step x), b7 (t.visit step x)]) := by
  induction t using Tm.rec_args with
  | h h ts ih =>
  intro hfit hsz ho x
  simp only [Tm.size] at hsz
  have hlen := len_le_sizes ts
  have h64 : -9223372036854775808 ≤ h ∧ h ≤ 9223372036854775807 := hfit.1
  have hc10 := low_mono (m := 10) (by decide) hc
  refine VCall.begin (rs := [.tmp 6]) (m := 41) 1000 Try.func29 rfl rfl rfl rfl rfl ?_
  by_cases c1 : h < 0
  · have e2 : IntKind.i64.wrap (-1 - h) = -1 - h := i64_id (by omega)
    have e3 : Tm.visit step (.mk h ts) x = step x (-1 - h) := by simp only [Tm.visit, if_pos c1]
    have e4 : Tm.val w f (.mk h ts) = f (-1 - h) := by simp only [Tm.val, if_pos c1]
    rw [e3, e4]
    simp only [go_sem, Nat.reduceAdd, Nat.reduceSub, Nat.reduceMul, Nat.reduceLeDiff, Nat.reduceEqDiff, Nat.reduceBEq, wo_eq, toA_eq, Tm.head, Tm.args, c1, e2]
    refine VCall.tail (σ := [b0 (x), b1 (x), b2 (x), b3 (x), b4 (x), b5 (x), b6 (x), b7 (x)]) (τ := [some (.var [.int .i64 w.size, .ps 1 (rowsA w.rows)]), some (.var [.int .i64 h, .ps 2 (ts.map Tm.toA)])]) hc (by simp [go_sem]) (hs x) ?_
    refine (hy x (-1 - h) (by omega)).mono ?_
    rintro r σ' ⟨rfl, rfl⟩
    refine ⟨rfl, ?_⟩
    refine EvK.go 1000 ?_
    simp only [go_sem, Nat.reduceAdd, Nat.reduceSub, Nat.reduceMul, Nat.reduceLeDiff, Nat.reduceEqDiff, Nat.reduceBEq]
    rw [dK_eq]
    exact ⟨[b0 (step x (-1 - h)), b1 (step x (-1 - h)), b2 (step x (-1 - h)), b3 (step x (-1 - h)), b4 (step x (-1 - h)), b5 (step x (-1 - h)), b6 (step x (-1 - h)), b7 (step x (-1 - h))], by simp [go_sem], Nat.le_refl _, hs _, trivial, rfl, rfl⟩
  · have e3 : Tm.visit step (.mk h ts) x = Tm.visits step ts x := by simp only [Tm.visit, if_neg c1]
    have e1 : Tm.val w f (.mk h ts) = (w.rows.getD h.toNat []).getD (Tm.ats w f ts 0).toNat 0 := by simp only [Tm.val, if_neg c1]
    obtain ⟨o1, o2, o3, o4⟩ := ho.resolve_left c1
    rw [e1, e3]
    simp only [go_sem, Nat.reduceAdd, Nat.reduceSub, Nat.reduceMul, Nat.reduceLeDiff, Nat.reduceEqDiff, Nat.reduceBEq, wo_eq, toA_eq, Tm.head, Tm.args, c1, List.length_map]
    refine EvK.loopI (ι := {i : Nat // i ≤ ts.length}) 1000 (fun i => mkT 44 [(2, c), (3, .ptr 8 0), (4, .ptr 9 0), (7, .int .i64 (Tm.ats w f (ts.take i.1) 0)), (19, .ps 2 (ts.map Tm.toA)), (20, .int .i64 ts.length), (21, .int .i64 i.1)]) (fun i => [b0 (Tm.visits step (ts.take i.1) x), b1 (Tm.visits step (ts.take i.1) x), b2 (Tm.visits step (ts.take i.1) x), b3 (Tm.visits step (ts.take i.1) x), b4 (Tm.visits step (ts.take i.1) x), b5 (Tm.visits step (ts.take i.1) x), b6 (Tm.visits step (ts.take i.1) x), b7 (Tm.visits step (ts.take i.1) x), some (.var [.int .i64 w.size, .ps 1 (rowsA w.rows)]), some (.var [.int .i64 h, .ps 2 (ts.map Tm.toA)])])
      (fun i => ts.length - i.1) ⟨0, by omega⟩ ?_ (fun _ => Nat.le_add_right 8 2) ?_
    · have h9 := lowSo_mono (m := 10) (by decide) (hs x)
      simp only [lowSo_cons, lowSo_nil, and_true] at h9
      simp only [go_sem, Nat.reduceAdd, Nat.reduceSub, Nat.reduceMul, Nat.reduceLeDiff, Nat.reduceEqDiff, Nat.reduceBEq, hc10, tms_low, rowsA_low, lowSo_cons, h9, List.take_zero, Tm.visits, Tm.ats, lowO_some, Int.natCast_zero]
      decide
    · rintro ⟨i, hi⟩
      by_cases hlt : (i : Int) < ts.length
      · have hlt' : i < ts.length := by omega
        obtain ⟨ho1, ho2⟩ := oksW_get o4 i hlt'
        obtain ⟨a1, a2⟩ := ats_small hw hw4 hf o4 o2 i
        obtain ⟨v1, v2⟩ := val_range hw hf _ ho2
        have hsz2 := size_le_sizes ts i hlt'
        have hsn := ats_snoc (f := f) (w := w) ts i hlt' 0
        have hvs := visits_snoc step ts i hlt' x
        have m1 : 0 ≤ Tm.ats w f (ts.take i) 0 * w.size := Int.mul_nonneg a1 (by omega)
        have m2 : Tm.ats w f (ts.take i) 0 * w.size ≤ 256 * 4 := Int.mul_le_mul (by omega) hw4 (by omega) (by omega)
        simp only [go_sem, Nat.reduceAdd, Nat.reduceSub, Nat.reduceMul, Nat.reduceLeDiff, Nat.reduceEqDiff, Nat.reduceBEq, hlt, List.length_map, Int.toNat_natCast, map_getD hlt', toA_cells, Nat.le_refl]
        (repeat ((with_reducible refine And.intro ?_ ?_); · omega))
        refine EvK.draw [⟨none, [], [0, 1, 2, 3, 4, 5, 6, 7]⟩, ⟨none, [], [0, 1, 2, 3, 4, 5, 6, 7]⟩, ⟨none, [], [0, 1, 2, 3, 4, 5, 6, 7]⟩, ⟨none, [], [0, 1, 2, 3, 4, 5, 6, 7]⟩, .no, .no, .no, ⟨none, [0, 1, 2, 3, 4, 5, 6, 7], []⟩] 11 11 mixed rfl rfl (by decide) ?_
        simp only [go_sem, Nat.reduceAdd, Nat.reduceSub, Nat.reduceMul, Nat.reduceLeDiff, Nat.reduceEqDiff, Nat.reduceBEq, padS, Nat.le_refl]
        rw [← toA_eq, ← wo_eq]
        refine ⟨.int .i64 (ts[i].val w f), [b0 (Tm.visits step (ts.take (i + 1)) x), b1 (Tm.visits step (ts.take (i + 1)) x), b2 (Tm.visits step (ts.take (i + 1)) x), b3 (Tm.visits step (ts.take (i + 1)) x), b4 (Tm.visits step (ts.take (i + 1)) x), b5 (Tm.visits step (ts.take (i + 1)) x), b6 (Tm.visits step (ts.take (i + 1)) x), b7 (Tm.visits step (ts.take (i + 1)) x), some (.var [.int .i64 w.size, .ps 1 (rowsA w.rows)]), some (.var [.int .i64 h, .ps 2 (ts.map Tm.toA)]), some (.var [.int .i64 ts[i].head, .ps 2 (ts[i].args.map Tm.toA)])], VCall.tail (σ := [b0 (Tm.visits step (ts.take i) x), b1 (Tm.visits step (ts.take i) x), b2 (Tm.visits step (ts.take i) x), b3 (Tm.visits step (ts.take i) x), b4 (Tm.visits step (ts.take i) x), b5 (Tm.visits step (ts.take i) x), b6 (Tm.visits step (ts.take i) x), b7 (Tm.visits step (ts.take i) x)]) (τ := [some (.var [.int .i64 w.size, .ps 1 (rowsA w.rows)]), some (.var [.int .i64 h, .ps 2 (ts.map Tm.toA)]), some (.var [.int .i64 ts[i].head, .ps 2 (ts[i].args.map Tm.toA)])]) ⟨trivial, trivial⟩ (by simp [go_sem, wo_low, toA_low, hc]) (hs _) ((ih i hlt' (fits_get hfit.2 i hlt') (by omega) ho1 _).mono ?_), ?_, ?_⟩
        · rintro r' σ2 ⟨rfl, rfl⟩
          rw [hvs]
          exact ⟨rfl, rfl, rfl⟩
        · simp only [go_sem, Nat.reduceAdd, Nat.reduceSub, Nat.reduceMul, Nat.reduceLeDiff, Nat.reduceEqDiff, Nat.reduceBEq]
        simp only [go_sem, Nat.reduceAdd, Nat.reduceSub, Nat.reduceMul, Nat.reduceLeDiff, Nat.reduceEqDiff, Nat.reduceBEq]
        refine EvK.go 1000 ?_
        simp only [go_sem, Nat.reduceAdd, Nat.reduceSub, Nat.reduceMul, Nat.reduceLeDiff, Nat.reduceEqDiff, Nat.reduceBEq]
        refine ⟨⟨i + 1, hlt'⟩, ?_, by simp only; omega⟩
        have h9 := lowSo_mono (m := 10) (by decide) (hs (Tm.visits step (ts.take (i + 1)) x))
        simp only [lowSo_cons, lowSo_nil, and_true] at h9
        simp only [go_sem, Nat.reduceAdd, Nat.reduceSub, Nat.reduceMul, Nat.reduceLeDiff, Nat.reduceEqDiff, Nat.reduceBEq, hc10, tms_low, rowsA_low, lowSo_cons, h9, lowO_some]
        rw [i64_id (n := Tm.ats w f (ts.take i) 0 * w.size) (by omega), i64_id (by omega), i64_id (by omega), hsn]
        exact ⟨⟨rfl, rfl⟩, by decide⟩
      · have hi' : i = ts.length := by omega
        subst hi'
        simp only [go_sem, Nat.reduceAdd, Nat.reduceSub, Nat.reduceMul, Nat.reduceLeDiff, Nat.reduceEqDiff, Nat.reduceBEq, hlt]
        refine EvK.go 1000 ?_
        have hrl : h.toNat < w.rows.length := by omega
        have hr0 : (rowsA w.rows).getD h.toNat .undef = .ps 1 (ints w.rows[h.toNat]) := rowsA_get hrl
        have hr1 := getD_row hrl
        rw [hr1] at o3 ⊢
        obtain ⟨q1, q2⟩ := ats_range hw hf ts 0 o4 (by omega)
        have hk : (Tm.ats w f ts 0).toNat < w.rows[h.toNat].length := by omega
        have hr2 : (ints w.rows[h.toNat]).getD (Tm.ats w f ts 0).toNat .undef = .int .i64 w.rows[h.toNat][(Tm.ats w f ts 0).toNat] := ints_get hk
        rw [getD_at' hk]
        simp only [go_sem, Nat.reduceAdd, Nat.reduceSub, Nat.reduceMul, Nat.reduceLeDiff, Nat.reduceEqDiff, Nat.reduceBEq, rowsA_len, hr0, ints_len, hr2, List.take_length]
        (repeat ((with_reducible refine And.intro ?_ ?_); · omega))
        rw [dK_eq]
        refine ⟨[b0 (Tm.visits step ts x), b1 (Tm.visits step ts x), b2 (Tm.visits step ts x), b3 (Tm.visits step ts x), b4 (Tm.visits step ts x), b5 (Tm.visits step ts x), b6 (Tm.visits step ts x), b7 (Tm.visits step ts x)], by simp [go_sem], Nat.le_refl _, hs _, trivial, rfl, rfl⟩

theorem Value1_eq (w : Wo) (t : Tm) (of : List Int) (x : Bool) (v : Int) (hv : 0 ≤ v) : VCall Try.prog (.fn 30 [] [.ptr 2 0, .ptr 0 0, .ptr 3 0]) [.int .i64 v] [some (.var [.int .i64 w.size, .ps 1 (rowsA w.rows)]), some (.var [.int .i64 t.head, .ps 2 (t.args.map Tm.toA)]), some (.var [.ps 1 (ints of)]), some (.var [.bool x]), none, none, none, none]
    (fun r σ' => r = .int .i64 (okF of w.size v) ∧ σ' = [some (.var [.int .i64 w.size, .ps 1 (rowsA w.rows)]), some (.var [.int .i64 t.head, .ps 2 (t.args.map Tm.toA)]), some (.var [.ps 1 (ints of)]), some (.var [.bool (x || badV of w.size v)]), none, none, none, none]) := by
  have hlow : ∀ b, lowSo 8 [some (.var [.int .i64 w.size, .ps 1 (rowsA w.rows)]), some (.var [.int .i64 t.head, .ps 2 (t.args.map Tm.toA)]), some (.var [.ps 1 (ints of)]), some (.var [.bool b]), none, none, none, none] := fun b => ⟨⟨trivial, rowsA_low _, trivial⟩, ⟨trivial, tms_low _, trivial⟩, ⟨ints_low _, trivial⟩, ⟨trivial, trivial⟩, trivial, trivial, trivial, trivial, trivial⟩
  refine VCall.begin (rs := [.tmp 5]) (m := 26) 1000 Try.func30 rfl rfl rfl rfl rfl ?_
  simp only [go_sem, Nat.reduceAdd, Nat.reduceSub, Nat.reduceMul, Nat.reduceLeDiff, Nat.reduceEqDiff, Nat.reduceBEq]
  refine EvK.draw [] 8 8 mixed rfl rfl (Nat.le_refl _) ?_
  by_cases d1 : (of.length : Int) ≤ v
  · have hb : badV of w.size v = true := by rw [badV, decide_eq_true d1]; rfl
    simp only [go_sem, Nat.reduceAdd, Nat.reduceSub, Nat.reduceMul, Nat.reduceLeDiff, Nat.reduceEqDiff, Nat.reduceBEq, padS, ints_len, d1]
    refine EvK.go 1000 ?_
    simp only [go_sem, Nat.reduceAdd, Nat.reduceSub, Nat.reduceMul, Nat.reduceLeDiff, Nat.reduceEqDiff, Nat.reduceBEq]
    rw [dK_eq, hb]
    exact ⟨[some (.var [.int .i64 w.size, .ps 1 (rowsA w.rows)]), some (.var [.int .i64 t.head, .ps 2 (t.args.map Tm.toA)]), some (.var [.ps 1 (ints of)]), some (.var [.bool true]), none, none, none, none], by simp [go_sem], Nat.le_refl _, hlow _, trivial, by rw [okF, hb]; rfl, by rw [Bool.or_true]⟩
  have hvl : v.toNat < of.length := by omega
  have hv0 : (ints of).getD v.toNat .undef = .int .i64 of[v.toNat] := ints_get hvl
  have hv1 := getD_at' hvl
  by_cases d2 : of[v.toNat] < 0
  · have hb : badV of w.size v = true := by simp only [badV, hv1, decide_eq_true d2, Bool.or_true, Bool.true_or]
    simp only [go_sem, Nat.reduceAdd, Nat.reduceSub, Nat.reduceMul, Nat.reduceLeDiff, Nat.reduceEqDiff, Nat.reduceBEq, padS, ints_len, d1, hv0, d2]
    (repeat ((with_reducible refine And.intro ?_ ?_); · omega))
    refine EvK.go 1000 ?_
    simp only [go_sem, Nat.reduceAdd, Nat.reduceSub, Nat.reduceMul, Nat.reduceLeDiff, Nat.reduceEqDiff, Nat.reduceBEq]
    rw [dK_eq, hb]
    exact ⟨[some (.var [.int .i64 w.size, .ps 1 (rowsA w.rows)]), some (.var [.int .i64 t.head, .ps 2 (t.args.map Tm.toA)]), some (.var [.ps 1 (ints of)]), some (.var [.bool true]), none, none, none, none], by simp [go_sem], Nat.le_refl _, hlow _, trivial, by rw [okF, hb]; rfl, by rw [Bool.or_true]⟩
  by_cases d3 : w.size ≤ of[v.toNat]
  · have hb : badV of w.size v = true := by simp only [badV, hv1, decide_eq_true d3, Bool.or_true]
    simp only [go_sem, Nat.reduceAdd, Nat.reduceSub, Nat.reduceMul, Nat.reduceLeDiff, Nat.reduceEqDiff, Nat.reduceBEq, padS, ints_len, d1, hv0, d2, d3]
    (repeat ((with_reducible refine And.intro ?_ ?_); · omega))
    refine EvK.go 1000 ?_
    simp only [go_sem, Nat.reduceAdd, Nat.reduceSub, Nat.reduceMul, Nat.reduceLeDiff, Nat.reduceEqDiff, Nat.reduceBEq]
    rw [dK_eq, hb]
    exact ⟨[some (.var [.int .i64 w.size, .ps 1 (rowsA w.rows)]), some (.var [.int .i64 t.head, .ps 2 (t.args.map Tm.toA)]), some (.var [.ps 1 (ints of)]), some (.var [.bool true]), none, none, none, none], by simp [go_sem], Nat.le_refl _, hlow _, trivial, by rw [okF, hb]; rfl, by rw [Bool.or_true]⟩
  have hb : badV of w.size v = false := by simp only [badV, hv1, decide_eq_false d1, decide_eq_false d2, decide_eq_false d3, Bool.or_false]
  have ho : okF of w.size v = of[v.toNat] := by rw [okF, hb, hv1]; rfl
  simp only [go_sem, Nat.reduceAdd, Nat.reduceSub, Nat.reduceMul, Nat.reduceLeDiff, Nat.reduceEqDiff, Nat.reduceBEq, padS, ints_len, d1, hv0, d2, d3]
  (repeat ((with_reducible refine And.intro ?_ ?_); · omega))
  refine EvK.go 1000 ?_
  simp only [go_sem, Nat.reduceAdd, Nat.reduceSub, Nat.reduceMul, Nat.reduceLeDiff, Nat.reduceEqDiff, Nat.reduceBEq, ints_len, hv0]
  (repeat ((with_reducible refine And.intro ?_ ?_); · omega))
  rw [dK_eq, hb, ho]
  exact ⟨[some (.var [.int .i64 w.size, .ps 1 (rowsA w.rows)]), some (.var [.int .i64 t.head, .ps 2 (t.args.map Tm.toA)]), some (.var [.ps 1 (ints of)]), some (.var [.bool x]), none, none, none, none], by simp [go_sem], Nat.le_refl _, hlow _, trivial, rfl, by rw [Bool.or_false]⟩

theorem ValueM_eq (g : List Sy) (w : Wo) (t : Tm) (of : List Int) (hfit : t.fit) (hsz : t.size < 999999999) : CallEq Try.prog 9 [.ps 4 (syms g), w.toA, t.toA, .ps 1 (ints of)] (.tup [.int .i64 (valueOf g w t of).1, .int .i64 (valueOf g w t of).2]) := by
  refine CallEq.begin (rs := [.tmp 8, .tmp 9]) (m := 28) 1000 Try.func9 rfl rfl rfl (by decide) ⟨trivial, trivial, trivial⟩ ?_
  simp only [go_sem, Nat.reduceAdd, Nat.reduceSub, Nat.reduceMul, Nat.reduceLeDiff, Nat.reduceEqDiff, Nat.reduceBEq, wo_eq, toA_eq, Nat.le_refl]
  rw [← wo_eq]
  refine VCall.isoT [] (CheckM_eq g w) (pTL_refl _ _ _) (by simp [go_sem, syms_low, wo_low]) ?_; simp only [flatR, flatA, flatC, if_true]; refine EvK.go 1000 ?_
  cases c1 : worldOk g w with
  | false => simp only [go_sem, Nat.reduceAdd, Nat.reduceSub, Nat.reduceMul, Nat.reduceLeDiff, Nat.reduceEqDiff, Nat.reduceBEq, valueOf, c1, Int.reduceEq]
  | true =>
  simp only [go_sem, Nat.reduceAdd, Nat.reduceSub, Nat.reduceMul, Nat.reduceLeDiff, Nat.reduceEqDiff, Nat.reduceBEq, Nat.le_refl]
  rw [← toA_eq]
  refine VCall.isoT [] (TermW_eq g t hsz) (pTL_refl _ _ _) (by simp [go_sem, syms_low, toA_low]) ?_; simp only [flatR, flatA, flatC, if_true]; refine EvK.go 1000 ?_
  by_cases c2 : t.term g = 0
  case neg => simp only [go_sem, Nat.reduceAdd, Nat.reduceSub, Nat.reduceMul, Nat.reduceLeDiff, Nat.reduceEqDiff, Nat.reduceBEq, valueOf, c1, c2]
  simp only [go_sem, Nat.reduceAdd, Nat.reduceSub, Nat.reduceMul, Nat.reduceLeDiff, Nat.reduceEqDiff, Nat.reduceBEq, c2, Nat.le_refl]
  rw [← toA_eq, ← wo_eq]
  obtain ⟨q1, q2, q3, q4, q5, q6⟩ := worldOk_size c1
  obtain ⟨t1, t2, t3⟩ := term_zero c2
  have hgd := (check_good t1).1
  have hok : valueOf g w t of = if t.vars.any (badV of w.size) then (0, 1) else (t.val w (okF of w.size), 0) := by simp [valueOf, c1, c2]
  refine VCall.pad 4 ?_
  refine (ValueG_eq (ι := Bool) (fun _ => some (.var [.int .i64 w.size, .ps 1 (rowsA w.rows)])) (fun _ => some (.var [.int .i64 t.head, .ps 2 (t.args.map Tm.toA)])) (fun _ => some (.var [.ps 1 (ints of)])) (fun x => some (.var [.bool x])) (fun _ => none) (fun _ => none) (fun _ => none) (fun _ => none)
    (fun x v => x || badV of w.size v) (okF of w.size) w q2 q3 (okF_range q2) (.fn 30 [] [.ptr 2 0, .ptr 0 0, .ptr 3 0]) (fun x => ⟨⟨trivial, rowsA_low _, trivial⟩, ⟨trivial, tms_low _, trivial⟩, ⟨ints_low _, trivial⟩, ⟨trivial, trivial⟩, trivial, trivial, trivial, trivial, trivial⟩) (by simp [go_sem]) (fun x v hv => Value1_eq w t of x v hv) t hfit (by omega) (okW_of c1 t t2 t3) false).mono ?_
  rintro r σ' ⟨rfl, rfl⟩
  rw [dK_eq]
  refine ⟨[some (.var [.int .i64 w.size, .ps 1 (rowsA w.rows)]), some (.var [.int .i64 t.head, .ps 2 (t.args.map Tm.toA)]), some (.var [.ps 1 (ints of)]), some (.var [.bool (t.visit (fun x v => x || badV of w.size v) false)])], by simp [go_sem], Nat.le_refl _, ⟨⟨trivial, rowsA_low _, trivial⟩, ⟨trivial, tms_low _, trivial⟩, ⟨ints_low _, trivial⟩, ⟨trivial, trivial⟩, trivial⟩, trivial, ?_⟩
  rw [visit_any _ t hgd, hok]
  refine EvK.go 1000 ?_
  cases c3 : t.vars.any (badV of w.size) with
  | false => simp only [go_sem, Nat.reduceAdd, Nat.reduceSub, Nat.reduceMul, Nat.reduceLeDiff, Nat.reduceEqDiff, Nat.reduceBEq]
  | true => simp only [go_sem, Nat.reduceAdd, Nat.reduceSub, Nat.reduceMul, Nat.reduceLeDiff, Nat.reduceEqDiff, Nat.reduceBEq]
end Go.Proofs

/- Right literals and clauses, as the program tells them. -/
set_option linter.unusedSimpArgs false
namespace Go.Proofs
open Go Go.Abs

/-- A literal in a signature. -/
def sideA (g : List Sy) (l : Li) : AVal := .agg [.ps 4 (syms g), .bool l.neg, .int .i64 l.l.head, .ps 2 (l.l.args.map Tm.toA), .int .i64 l.r.head, .ps 2 (l.r.args.map Tm.toA)]
theorem sideA_eq (g : List Sy) (l : Li) : sideA g l = .agg [.ps 4 (syms g), .bool l.neg, .int .i64 l.l.head, .ps 2 (l.l.args.map Tm.toA), .int .i64 l.r.head, .ps 2 (l.r.args.map Tm.toA)] := rfl
theorem sideA_low {n : Nat} (g : List Sy) (l : Li) : (sideA g l).low n := ⟨syms_low _, trivial, trivial, tms_low _, trivial, tms_low _, trivial⟩

theorem Left_eq (g : List Sy) (l : Li) (hsz : l.l.size < 999999999) : CallEq Try.prog 90 [sideA g l] (.int .i64 (l.l.term g)) := by
  refine CallEq.begin (rs := [.tmp 2]) (m := 8) 1000 Try.func90 rfl rfl rfl (by decide) trivial ?_
  simp only [go_sem, Nat.reduceAdd, Nat.reduceSub, Nat.reduceMul, Nat.reduceLeDiff, Nat.reduceEqDiff, Nat.reduceBEq, sideA_eq, Nat.le_refl]
  rw [← toA_eq]
  refine VCall.isoT [] (TermW_eq g l.l hsz) (pTL_refl _ _ _) (by simp [go_sem, syms_low, toA_low]) ?_; simp only [flatR, flatA, flatC, if_true]; refine EvK.go 1000 ?_
  simp only [go_sem, Nat.reduceAdd, Nat.reduceSub, Nat.reduceMul, Nat.reduceLeDiff, Nat.reduceEqDiff, Nat.reduceBEq]

theorem RightL_eq (g : List Sy) (l : Li) (hsz : l.r.size < 999999999) : CallEq Try.prog 91 [sideA g l] (.int .i64 (l.r.term g)) := by
  refine CallEq.begin (rs := [.tmp 2]) (m := 8) 1000 Try.func91 rfl rfl rfl (by decide) trivial ?_
  simp only [go_sem, Nat.reduceAdd, Nat.reduceSub, Nat.reduceMul, Nat.reduceLeDiff, Nat.reduceEqDiff, Nat.reduceBEq, sideA_eq, Nat.le_refl]
  rw [← toA_eq]
  refine VCall.isoT [] (TermW_eq g l.r hsz) (pTL_refl _ _ _) (by simp [go_sem, syms_low, toA_low]) ?_; simp only [flatR, flatA, flatC, if_true]; refine EvK.go 1000 ?_
  simp only [go_sem, Nat.reduceAdd, Nat.reduceSub, Nat.reduceMul, Nat.reduceLeDiff, Nat.reduceEqDiff, Nat.reduceBEq]

theorem TruthL_eq (g : List Sy) (l : Li) (t : Tm) (h : t.head < g.length) : CallEq Try.prog 107 [sideA g l, t.toA] (.bool (t.truth g)) := by
  refine CallEq.begin (rs := [.tmp 4]) (m := 15) 1000 Try.func107 rfl rfl rfl (by decide) trivial ?_
  by_cases c1 : 0 ≤ t.head
  · have hi : t.head.toNat < g.length := by omega
    have hsy : symAt g t.head = g[t.head.toNat] := getD_at hi
    simp only [go_sem, Nat.reduceAdd, Nat.reduceSub, Nat.reduceMul, Nat.reduceLeDiff, Nat.reduceEqDiff, Nat.reduceBEq, sideA_eq, toA_eq, c1, syms_len, syms_get hi, sy_cells]
    refine ⟨by omega, ?_⟩
    simp [Tm.truth, c1, h, hsy]
  · simp only [go_sem, Nat.reduceAdd, Nat.reduceSub, Nat.reduceMul, Nat.reduceLeDiff, Nat.reduceEqDiff, Nat.reduceBEq, sideA_eq, toA_eq, c1, Tm.truth]

def Li.sorts (g : List Sy) (l : Li) : Int := if (l.l.truth g && decide (l.r.head ≠ 0)) || (!l.l.truth g && l.r.truth g) then 10 else 0

theorem Sorts_eq (g : List Sy) (l : Li) (h1 : l.l.head < g.length) (h2 : l.r.head < g.length) : CallEq Try.prog 92 [sideA g l] (.int .i64 (l.sorts g)) := by
  refine CallEq.begin (rs := [.tmp 2]) (m := 27) 1000 Try.func92 rfl rfl rfl (by decide) trivial ?_
  simp only [go_sem, Nat.reduceAdd, Nat.reduceSub, Nat.reduceMul, Nat.reduceLeDiff, Nat.reduceEqDiff, Nat.reduceBEq, sideA_eq, Nat.le_refl]
  rw [← toA_eq, ← sideA_eq]
  refine VCall.isoT [] (TruthL_eq g l l.l h1) (pTL_refl _ _ _) (by simp [go_sem, sideA_low, toA_low]) ?_; simp only [flatR, flatA, flatC, if_true]; refine EvK.go 1000 ?_
  cases c1 : l.l.truth g with
  | true =>
    by_cases c2 : l.r.head = 0
    · simp only [go_sem, Nat.reduceAdd, Nat.reduceSub, Nat.reduceMul, Nat.reduceLeDiff, Nat.reduceEqDiff, Nat.reduceBEq, c2]
      simp [Li.sorts, c1, c2]
    · simp only [go_sem, Nat.reduceAdd, Nat.reduceSub, Nat.reduceMul, Nat.reduceLeDiff, Nat.reduceEqDiff, Nat.reduceBEq, c2]
      simp [Li.sorts, c1, c2]
  | false =>
    simp only [go_sem, Nat.reduceAdd, Nat.reduceSub, Nat.reduceMul, Nat.reduceLeDiff, Nat.reduceEqDiff, Nat.reduceBEq, Nat.le_refl]
    rw [← toA_eq, ← sideA_eq]
    refine VCall.isoT [] (TruthL_eq g l l.r h2) (pTL_refl _ _ _) (by simp [go_sem, sideA_low, toA_low]) ?_; simp only [flatR, flatA, flatC, if_true]; refine EvK.go 1000 ?_
    cases c2 : l.r.truth g <;>
    · simp only [go_sem, Nat.reduceAdd, Nat.reduceSub, Nat.reduceMul, Nat.reduceLeDiff, Nat.reduceEqDiff, Nat.reduceBEq]
      simp [Li.sorts, c1, c2]

theorem li_check_sorts (g : List Sy) (l : Li) : l.check g = if l.l.term g ≠ 0 then l.l.term g else if l.r.term g ≠ 0 then l.r.term g else l.sorts g := rfl

theorem head_lt {g : List Sy} {t : Tm} (h : t.known g = true) (hg : 1 ≤ g.length) : t.head < g.length := by
  obtain ⟨hd, ts⟩ := t
  simp only [Tm.head]
  by_cases c : hd < 0
  · omega
  · simp only [Tm.known, decide_eq_false c, Bool.false_or, Bool.and_eq_true, Bool.not_eq_true', decide_eq_false_iff_not] at h
    omega

theorem term_sig {g : List Sy} {t : Tm} (h : t.term g = 0) : sigOk g = true := by
  unfold Tm.term at h
  split at h
  · omega
  · rename_i h2; simpa using h2

theorem First_eq (g : List Sy) (l : Li) (hl : l.l.size < 999999999) (hr : l.r.size < 999999999) : CallEq Try.prog 89 [sideA g l, .ps 1 [.fn 90 [] [], .fn 91 [] [], .fn 92 [] []]] (.int .i64 (l.check g)) := by
  refine CallEq.begin (rs := [.tmp 4]) (m := 19) 1000 Try.func89 rfl rfl rfl (by decide) trivial ?_
  simp only [go_sem, Nat.reduceAdd, Nat.reduceSub, Nat.reduceMul, Nat.reduceLeDiff, Nat.reduceEqDiff, Nat.reduceBEq, sideA_eq]
  refine EvK.loopI (ι := {i : Nat // i ≤ 3 ∧ (1 ≤ i → l.l.term g = 0) ∧ (2 ≤ i → l.r.term g = 0) ∧ (3 ≤ i → l.sorts g = 0)}) 1000 (fun i => mkT 21 [(2, .ptr 0 0), (8, .ps 1 [.fn 90 [] [], .fn 91 [] [], .fn 92 [] []]), (9, .int .i64 ((3 : Nat) : Int)), (10, .int .i64 i.1)])
    (fun _ => [some (.var [.ps 4 (syms g), .bool l.neg, .int .i64 l.l.head, .ps 2 (l.l.args.map Tm.toA), .int .i64 l.r.head, .ps 2 (l.r.args.map Tm.toA)])]) (fun i => 3 - i.1) ⟨0, by omega, by omega, by omega, by omega⟩ ?_ (fun _ => Nat.zero_le _) ?_
  · simp only [go_sem, Nat.reduceAdd, Nat.reduceSub, Nat.reduceMul, Nat.reduceLeDiff, Nat.reduceEqDiff, Nat.reduceBEq, syms_low, tms_low, Int.natCast_zero, Nat.zero_lt_one]
  · rintro ⟨i, hi, h1, h2, h3⟩
    have n0 : ((0 : Nat) : Int) = 0 := rfl
    have n1 : ((1 : Nat) : Int) = 1 := rfl
    have n2 : ((2 : Nat) : Int) = 2 := rfl
    have n3 : ((3 : Nat) : Int) = 3 := rfl
    rcases (by omega : i = 0 ∨ i = 1 ∨ i = 2 ∨ i = 3) with rfl | rfl | rfl | rfl
    · simp only [go_sem, Nat.reduceAdd, Nat.reduceSub, Nat.reduceMul, Nat.reduceLeDiff, Nat.reduceEqDiff, Nat.reduceBEq, n0, n1, n2, n3, Int.reduceLT, Int.reduceLE, List.length_cons, List.length_nil, Int.reduceToNat, List.getD_cons_zero, List.getD_cons_succ, Nat.le_refl]
      rw [← sideA_eq]
      refine VCall.isoT [] (Left_eq g l hl) (pTL_refl _ _ _) (by simp [go_sem, sideA_low]) ?_; simp only [flatR, flatA, flatC, if_true]; refine EvK.go 1000 ?_
      by_cases c : l.l.term g = 0
      · simp only [go_sem, Nat.reduceAdd, Nat.reduceSub, Nat.reduceMul, Nat.reduceLeDiff, Nat.reduceEqDiff, Nat.reduceBEq, c]
        refine ⟨⟨1, by omega, fun _ => c, by omega, by omega⟩, ?_, by simp only; omega⟩
        simp only [go_sem, Nat.reduceAdd, Nat.reduceSub, Nat.reduceMul, Nat.reduceLeDiff, Nat.reduceEqDiff, Nat.reduceBEq, syms_low, tms_low, Nat.zero_lt_one]
        rfl
      · simp only [go_sem, Nat.reduceAdd, Nat.reduceSub, Nat.reduceMul, Nat.reduceLeDiff, Nat.reduceEqDiff, Nat.reduceBEq, c]
        refine EvK.go 1000 ?_
        simp only [go_sem, Nat.reduceAdd, Nat.reduceSub, Nat.reduceMul, Nat.reduceLeDiff, Nat.reduceEqDiff, Nat.reduceBEq]
        rw [li_check_sorts, if_pos c]
    · simp only [go_sem, Nat.reduceAdd, Nat.reduceSub, Nat.reduceMul, Nat.reduceLeDiff, Nat.reduceEqDiff, Nat.reduceBEq, n0, n1, n2, n3, Int.reduceLT, Int.reduceLE, List.length_cons, List.length_nil, Int.reduceToNat, List.getD_cons_zero, List.getD_cons_succ, Nat.le_refl]
      rw [← sideA_eq]
      refine VCall.isoT [] (RightL_eq g l hr) (pTL_refl _ _ _) (by simp [go_sem, sideA_low]) ?_; simp only [flatR, flatA, flatC, if_true]; refine EvK.go 1000 ?_
      by_cases c : l.r.term g = 0
      · simp only [go_sem, Nat.reduceAdd, Nat.reduceSub, Nat.reduceMul, Nat.reduceLeDiff, Nat.reduceEqDiff, Nat.reduceBEq, c]
        refine ⟨⟨2, by omega, fun _ => h1 (by omega), fun _ => c, by omega⟩, ?_, by simp only; omega⟩
        simp only [go_sem, Nat.reduceAdd, Nat.reduceSub, Nat.reduceMul, Nat.reduceLeDiff, Nat.reduceEqDiff, Nat.reduceBEq, syms_low, tms_low, Nat.zero_lt_one]
        rfl
      · simp only [go_sem, Nat.reduceAdd, Nat.reduceSub, Nat.reduceMul, Nat.reduceLeDiff, Nat.reduceEqDiff, Nat.reduceBEq, c]
        refine EvK.go 1000 ?_
        simp only [go_sem, Nat.reduceAdd, Nat.reduceSub, Nat.reduceMul, Nat.reduceLeDiff, Nat.reduceEqDiff, Nat.reduceBEq]
        rw [li_check_sorts, if_neg (by simp [h1 (by omega)]), if_pos c]
    · have t1 := h1 (by omega)
      have t2 := h2 (by omega)
      have hg := (sigOk_len (term_sig t1)).1
      simp only [go_sem, Nat.reduceAdd, Nat.reduceSub, Nat.reduceMul, Nat.reduceLeDiff, Nat.reduceEqDiff, Nat.reduceBEq, n0, n1, n2, n3, Int.reduceLT, Int.reduceLE, List.length_cons, List.length_nil, Int.reduceToNat, List.getD_cons_zero, List.getD_cons_succ, Nat.le_refl]
      rw [← sideA_eq]
      refine VCall.isoT [] (Sorts_eq g l (head_lt (term_zero t1).2.1 hg) (head_lt (term_zero t2).2.1 hg)) (pTL_refl _ _ _) (by simp [go_sem, sideA_low]) ?_; simp only [flatR, flatA, flatC, if_true]; refine EvK.go 1000 ?_
      by_cases c : l.sorts g = 0
      · simp only [go_sem, Nat.reduceAdd, Nat.reduceSub, Nat.reduceMul, Nat.reduceLeDiff, Nat.reduceEqDiff, Nat.reduceBEq, c]
        refine ⟨⟨3, by omega, fun _ => t1, fun _ => t2, fun _ => c⟩, ?_, by simp only; omega⟩
        simp only [go_sem, Nat.reduceAdd, Nat.reduceSub, Nat.reduceMul, Nat.reduceLeDiff, Nat.reduceEqDiff, Nat.reduceBEq, syms_low, tms_low, Nat.zero_lt_one]
        rfl
      · simp only [go_sem, Nat.reduceAdd, Nat.reduceSub, Nat.reduceMul, Nat.reduceLeDiff, Nat.reduceEqDiff, Nat.reduceBEq, c]
        refine EvK.go 1000 ?_
        simp only [go_sem, Nat.reduceAdd, Nat.reduceSub, Nat.reduceMul, Nat.reduceLeDiff, Nat.reduceEqDiff, Nat.reduceBEq]
        rw [li_check_sorts, if_neg (by simp [t1]), if_neg (by simp [t2])]
    · simp only [go_sem, Nat.reduceAdd, Nat.reduceSub, Nat.reduceMul, Nat.reduceLeDiff, Nat.reduceEqDiff, Nat.reduceBEq, n0, n1, n2, n3, Int.reduceLT]
      refine EvK.go 1000 ?_
      simp only [go_sem, Nat.reduceAdd, Nat.reduceSub, Nat.reduceMul, Nat.reduceLeDiff, Nat.reduceEqDiff, Nat.reduceBEq]
      rw [li_check_sorts, if_neg (by simp [h1 (by omega)]), if_neg (by simp [h2 (by omega)]), h3 (by omega)]

theorem CheckL_eq (g : List Sy) (l : Li) (hl : l.l.size < 999999999) (hr : l.r.size < 999999999) : CallEq Try.prog 67 [.ps 4 (syms g), l.toA] (.int .i64 (l.check g)) := by
  refine CallEq.begin (rs := [.tmp 4]) (m := 8) 1000 Try.func67 rfl rfl rfl (by decide) trivial ?_
  simp only [go_sem, Nat.reduceAdd, Nat.reduceSub, Nat.reduceMul, Nat.reduceLeDiff, Nat.reduceEqDiff, Nat.reduceBEq, Li.toA, Li.cs]
  refine ⟨rfl, rfl, rfl, by decide, ?_⟩
  rw [← sideA_eq]
  refine VCall.isoT [1] (First_eq g l hl hr) ?_ (by simp [go_sem, sideA_low]) ?_
  · simp only [go_sem, Nat.reduceAdd, Nat.reduceSub, Nat.reduceMul, Nat.reduceLeDiff, Nat.reduceEqDiff, Nat.reduceBEq, among_cons, among_nil]
  simp only [flatR, flatA, flatC, if_true]
  refine EvK.go 1000 ?_
  simp only [go_sem, Nat.reduceAdd, Nat.reduceSub, Nat.reduceMul, Nat.reduceLeDiff, Nat.reduceEqDiff, Nat.reduceBEq]

theorem CheckC_eq (g : List Sy) (c : List Li) (hs : ∀ (i : Nat) (h : i < c.length), c[i].l.size < 999999999 ∧ c[i].r.size < 999999999) : CallEq Try.prog 35 [.ps 4 (syms g), .ps 5 (lits c)] (.int .i64 (clauseCheck g c)) := by
  refine CallEq.begin (rs := [.tmp 4]) (m := 28) 1000 Try.func35 rfl rfl rfl (by decide) trivial ?_
  simp only [go_sem, Nat.reduceAdd, Nat.reduceSub, Nat.reduceMul, Nat.reduceLeDiff, Nat.reduceEqDiff, Nat.reduceBEq]
  refine VCall.isoT [] (CheckSig_eq g) (pTL_refl _ _ _) (by simp [go_sem, syms_low]) ?_; simp only [flatR, flatA, flatC, if_true]; refine EvK.go 1000 ?_
  cases c1 : sigOk g with
  | false =>
    simp only [go_sem, Nat.reduceAdd, Nat.reduceSub, Nat.reduceMul, Nat.reduceLeDiff, Nat.reduceEqDiff, Nat.reduceBEq, Int.reduceEq]
    simp [clauseCheck, c1]
  | true =>
  by_cases c2 : 32 < (c.length : Int)
  · simp only [go_sem, Nat.reduceAdd, Nat.reduceSub, Nat.reduceMul, Nat.reduceLeDiff, Nat.reduceEqDiff, Nat.reduceBEq, lits_len, c2]
    simp [clauseCheck, c1, c2]
  simp only [go_sem, Nat.reduceAdd, Nat.reduceSub, Nat.reduceMul, Nat.reduceLeDiff, Nat.reduceEqDiff, Nat.reduceBEq, lits_len, c2]
  have hcc : clauseCheck g c = litsCheck g c := by simp [clauseCheck, c1, c2]
  rw [hcc]
  refine EvK.loopI (ι := {i : Nat // i ≤ c.length ∧ litsCheck g (c.drop i) = litsCheck g c}) 1000 (fun i => mkT 30 [(0, .ps 4 (syms g)), (17, .ps 5 (lits c)), (18, .int .i64 c.length), (19, .int .i64 i.1)]) (fun _ => []) (fun i => c.length - i.1) ⟨0, by simp⟩ ?_ (fun _ => Nat.zero_le _) ?_
  · simp only [go_sem, Nat.reduceAdd, Nat.reduceSub, Nat.reduceMul, Nat.reduceLeDiff, Nat.reduceEqDiff, Nat.reduceBEq, syms_low, lits_low, lits_len, Int.natCast_zero]
  · rintro ⟨i, hi, hpre⟩
    by_cases hlt : (i : Int) < c.length
    · have hlt' : i < c.length := by omega
      rw [litsCheck_drop g c i hlt'] at hpre
      simp only [go_sem, Nat.reduceAdd, Nat.reduceSub, Nat.reduceMul, Nat.reduceLeDiff, Nat.reduceEqDiff, Nat.reduceBEq, lits_len, hlt, Int.toNat_natCast, lits_get hlt', li_cells, Nat.le_refl]
      refine ⟨by omega, ?_⟩
      have hsz := hs i hlt'
      refine VCall.isoT [] (CheckL_eq g c[i] hsz.1 hsz.2) (by simp only [Li.toA, Li.cs]; exact pTL_refl _ _ _) (by simp [go_sem, syms_low, li_low]) ?_
      simp only [flatR, flatA, flatC, if_true]
      refine EvK.go 1000 ?_
      by_cases c3 : c[i].check g = 0
      · simp only [go_sem, Nat.reduceAdd, Nat.reduceSub, Nat.reduceMul, Nat.reduceLeDiff, Nat.reduceEqDiff, Nat.reduceBEq, c3]
        rw [if_neg (by simp [c3])] at hpre
        refine ⟨⟨i + 1, hlt', hpre⟩, ?_, by simp only; omega⟩
        simp only [go_sem, Nat.reduceAdd, Nat.reduceSub, Nat.reduceMul, Nat.reduceLeDiff, Nat.reduceEqDiff, Nat.reduceBEq, syms_low, lits_low]
        rw [i64_id (by omega)]; rfl
      · simp only [go_sem, Nat.reduceAdd, Nat.reduceSub, Nat.reduceMul, Nat.reduceLeDiff, Nat.reduceEqDiff, Nat.reduceBEq, c3]
        rw [if_pos c3] at hpre
        refine EvK.go 1000 ?_
        simp only [go_sem, Nat.reduceAdd, Nat.reduceSub, Nat.reduceMul, Nat.reduceLeDiff, Nat.reduceEqDiff, Nat.reduceBEq, hpre]
    · simp only [go_sem, Nat.reduceAdd, Nat.reduceSub, Nat.reduceMul, Nat.reduceLeDiff, Nat.reduceEqDiff, Nat.reduceBEq, lits_len, hlt]
      refine EvK.go 1000 ?_
      simp only [go_sem, Nat.reduceAdd, Nat.reduceSub, Nat.reduceMul, Nat.reduceLeDiff, Nat.reduceEqDiff, Nat.reduceBEq]
      have : i = c.length := by omega
      subst this
      rw [← hpre, List.drop_length, litsCheck]

theorem TermsC_eq (c : List Li) (hc : c.length < 1000000) : CallEq Try.prog 53 [.ps 5 (lits c)] (.ps 2 ((sides c).map Tm.toA)) := by
  refine CallEq.begin (rs := [.tmp 2]) (m := 20) 1000 Try.func53 rfl rfl rfl (by decide) (tms_low _) ?_
  simp only [go_sem, Nat.reduceAdd, Nat.reduceSub, Nat.reduceMul, Nat.reduceLeDiff, Nat.reduceEqDiff, Nat.reduceBEq, lits_len]
  refine EvK.loopR (ι := {i : Nat // i ≤ c.length}) 1000 (fun i => mkT 21 [(3, slA 0 2 ((sides (c.take i.1)).map Tm.toA)), (6, .ps 5 (lits c)), (7, .int .i64 c.length), (8, .int .i64 i.1)]) (fun i => [slB ((sides (c.take i.1)).map Tm.toA)]) (fun i => c.length - i.1) ⟨0, by omega⟩ [] ?_ (fun _ => by simp) ?_
  · refine leR_mk rfl ?_
    simp only [go_sem, Nat.reduceAdd, Nat.reduceSub, Nat.reduceMul, Nat.reduceLeDiff, Nat.reduceEqDiff, Nat.reduceBEq, sides, List.flatMap_nil, slA_nil, slB_nil, lits_low, renL_low0, Int.natCast_zero]
  · rintro ⟨i, hi⟩
    have hln := sides_len (c.take i)
    have hlt2 : (c.take i).length ≤ c.length := by rw [List.length_take]; omega
    have hstep := fun h => sides_snoc c i h
    generalize hq : sides (c.take i) = q at *
    by_cases hlt : (i : Int) < c.length
    · have hlt' : i < c.length := by omega
      simp only [go_sem, Nat.reduceAdd, Nat.reduceSub, Nat.reduceMul, Nat.reduceLeDiff, Nat.reduceEqDiff, Nat.reduceBEq, lits_len, hlt, hq, Int.toNat_natCast, lits_get hlt', li_cells, Nat.le_refl, app_slA2, appOk, List.mem_cons, List.not_mem_nil, forall_eq_or_imp, forall_eq, Nat.zero_lt_two, List.length_map]
      refine ⟨by omega, by omega, ⟨i + 1, hlt'⟩, [(0, 3), (3, 0)], leR_mk rfl ?_, by simp only; omega⟩
      simp only [hstep hlt']
      rw [i64_id (by omega)]
      have e1 : (q ++ [c[i].l, c[i].r]).map Tm.toA = q.map Tm.toA ++ [.agg [.int .i64 c[i].l.head, .ps 2 (c[i].l.args.map Tm.toA)], .agg [.int .i64 c[i].r.head, .ps 2 (c[i].r.args.map Tm.toA)]] := by
        rw [List.map_append, List.map_cons, List.map_cons, List.map_nil, toA_eq c[i].l, toA_eq c[i].r]
      have lw : lowL 0 ((q ++ [c[i].l, c[i].r]).map Tm.toA) := tms_low _
      rw [e1] at lw ⊢
      rw [slA_app (by simp), slB_app (by simp)]
      simp only [go_sem, Nat.reduceAdd, Nat.reduceSub, Nat.reduceMul, Nat.reduceLeDiff, Nat.reduceEqDiff, Nat.reduceBEq, lits_low, renL_low0, renL_low0 lw, List.length_map, lowL_mono (Nat.zero_le 1) lw, Int.natCast_add, Int.natCast_one, Nat.zero_lt_one]
    · simp only [go_sem, Nat.reduceAdd, Nat.reduceSub, Nat.reduceMul, Nat.reduceLeDiff, Nat.reduceEqDiff, Nat.reduceBEq, hlt]
      refine EvK.go 1000 ?_
      have : i = c.length := by omega
      subst this
      rw [List.take_length] at hq
      simp only [go_sem, Nat.reduceAdd, Nat.reduceSub, Nat.reduceMul, Nat.reduceLeDiff, Nat.reduceEqDiff, Nat.reduceBEq, hq, pT_slA]

theorem VarsC_eq (c : List Li) (hc : c.length < 1000000) (hf : Tm.fits (sides c)) (hs : Tm.sizes (sides c) < 999999990) : CallEq Try.prog 21 [.ps 5 (lits c)] (.ps 1 (ints (clauseVars c))) := by
  refine CallEq.begin (rs := [.tmp 2]) (m := 32) 1000 Try.func21 rfl rfl rfl (by decide) (ints_low _) ?_
  simp only [go_sem, Nat.reduceAdd, Nat.reduceSub, Nat.reduceMul, Nat.reduceLeDiff, Nat.reduceEqDiff, Nat.reduceBEq]
  refine VCall.isoT [] (TermsC_eq c hc) (pTL_refl _ _ _) (by simp [go_sem, lits_low]) ?_; rw [frzI_nil]; simp only [ite_self]; refine EvK.go 1000 ?_
  have hlen := sides_len c
  have hdef : clauseVars c = Tm.varsL (sides c) [] := rfl
  rw [hdef]
  generalize sides c = ts at *
  have hol : ∀ i, (Tm.varsL (ts.take i) []).length ≤ Tm.sizes (ts.take i) := fun i => by
    have := varsL_len (ts.take i) []
    simpa using this
  simp only [go_sem, Nat.reduceAdd, Nat.reduceSub, Nat.reduceMul, Nat.reduceLeDiff, Nat.reduceEqDiff, Nat.reduceBEq, List.length_map]
  refine EvK.loopR (ι := {i : Nat // i ≤ ts.length}) 1000 (fun i => mkT 33 [(3, slA 0 1 (ints (Tm.varsL (ts.take i.1) []))), (9, .ps 2 (ts.map Tm.toA)), (10, .int .i64 ts.length), (11, .int .i64 i.1)]) (fun i => [slB (ints (Tm.varsL (ts.take i.1) []))]) (fun i => ts.length - i.1) ⟨0, by omega⟩ [] ?_ (fun _ => by simp) ?_
  · refine leR_mk rfl ?_
    simp only [go_sem, Nat.reduceAdd, Nat.reduceSub, Nat.reduceMul, Nat.reduceLeDiff, Nat.reduceEqDiff, Nat.reduceBEq, Tm.varsL, List.take_zero, ints_nil, slA_nil, slB_nil, tms_low, renL_low0, Int.natCast_zero]
  · rintro ⟨i, hi⟩
    have hbound := hol i
    have hst := sizes_take_le ts i
    generalize hoi : Tm.varsL (ts.take i) [] = o at hbound
    by_cases hlt : (i : Int) < ts.length
    · have hlt' : i < ts.length := by omega
      have hsz := size_le_sizes ts i hlt'
      have hsn := sizes_snoc ts i hlt'
      have hst1 := sizes_take_le ts (i + 1)
      have hvl := vars_len ts[i]
      have hvs := varsL_snoc ts i hlt' []
      rw [hoi] at hvs
      simp only [go_sem, Nat.reduceAdd, Nat.reduceSub, Nat.reduceMul, Nat.reduceLeDiff, Nat.reduceEqDiff, Nat.reduceBEq, hlt, hoi, List.length_map, Int.toNat_natCast, map_getD hlt', toA_cells, Nat.le_refl]
      rw [← toA_eq]
      (repeat ((with_reducible refine And.intro ?_ ?_); · omega))
      refine VCall.isoT [] (VarsT_eq ts[i] (fits_get hf i hlt') (by omega)) (pTL_refl _ _ _) (by simp [go_sem, toA_low]) ?_; rw [frzI_nil]; simp only [ite_self]; refine EvK.go 1000 ?_
      generalize hl : ts[i].vars = l at *
      simp only [go_sem, Nat.reduceAdd, Nat.reduceSub, Nat.reduceMul, Nat.reduceLeDiff, Nat.reduceEqDiff, Nat.reduceBEq, ints_len]
      refine EvK.loopR (ι := {j : Nat // j ≤ l.length}) 1000 (fun j => mkT 33 [(3, slA 0 1 (ints (addNew o (l.take j.1)))), (9, .ps 2 (ts.map Tm.toA)), (10, .int .i64 ts.length), (11, .int .i64 i), (16, .ps 1 (ints l)), (17, .int .i64 l.length), (18, .int .i64 j.1)]) (fun j => [slB (ints (addNew o (l.take j.1)))]) (fun j => l.length - j.1) ⟨0, by omega⟩ [] ?_ (fun _ => by simp) ?_
      · refine leR_mk rfl ?_
        have e0 : addNew o [] = o := rfl
        cases o with
        | nil => simp only [go_sem, Nat.reduceAdd, Nat.reduceSub, Nat.reduceMul, Nat.reduceLeDiff, Nat.reduceEqDiff, Nat.reduceBEq, e0, List.take_zero, ints_nil, slA_nil, slB_nil, tms_low, ints_low, renL_low0, Int.natCast_zero]
        | cons x o' => simp only [go_sem, Nat.reduceAdd, Nat.reduceSub, Nat.reduceMul, Nat.reduceLeDiff, Nat.reduceEqDiff, Nat.reduceBEq, e0, List.take_zero, ints_cons, slA_cons, slB_cons, tms_low, ints_low, renL_low0, Int.natCast_zero, Nat.zero_lt_one]
      · rintro ⟨j, hj⟩
        have hol2 := addNew_len (l.take j) o
        have hlj : (l.take j).length ≤ l.length := by rw [List.length_take]; omega
        generalize hq : addNew o (l.take j) = q at *
        by_cases hjl : (j : Int) < l.length
        · have hjl' : j < l.length := by omega
          have hstep := addNew_snoc o l j hjl'
          rw [hq] at hstep
          simp only [go_sem, Nat.reduceAdd, Nat.reduceSub, Nat.reduceMul, Nat.reduceLeDiff, Nat.reduceEqDiff, Nat.reduceBEq, hjl, hq, ints_len, Int.toNat_natCast, ints_get hjl']
          (repeat ((with_reducible refine And.intro ?_ ?_); · omega))
          refine VCall.isoT [0] (ContainsInt_eq q l[j] (by omega)) ?_ (by simp [go_sem, ints_low]) ?_
          · simp only [go_sem, Nat.reduceAdd, Nat.reduceSub, Nat.reduceMul, Nat.reduceLeDiff, Nat.reduceEqDiff, Nat.reduceBEq, among_cons, among_nil, pT_slA]
          simp only [flatR, flatA, flatC, if_true]
          refine EvK.go 1000 ?_
          by_cases c2 : l[j] ∈ q
          · have hn : add1 q l[j] = q := if_pos c2
            rw [hn] at hstep
            simp only [go_sem, Nat.reduceAdd, Nat.reduceSub, Nat.reduceMul, Nat.reduceLeDiff, Nat.reduceEqDiff, Nat.reduceBEq, c2]
            refine ⟨⟨j + 1, by omega⟩, [], leR_mk rfl ?_, by simp only; omega⟩
            simp only [hstep]
            rw [i64_id (by omega)]
            cases q with
            | nil => simp only [go_sem, Nat.reduceAdd, Nat.reduceSub, Nat.reduceMul, Nat.reduceLeDiff, Nat.reduceEqDiff, Nat.reduceBEq, slA_nil, slB_nil, ints_nil, tms_low, ints_low, renL_low0, Nat.zero_lt_one, Int.natCast_add, Int.natCast_one]
            | cons x q' => simp only [go_sem, Nat.reduceAdd, Nat.reduceSub, Nat.reduceMul, Nat.reduceLeDiff, Nat.reduceEqDiff, Nat.reduceBEq, slA_cons, slB_cons, ints_cons, tms_low, ints_low, renL_low0, Nat.zero_lt_one, Int.natCast_add, Int.natCast_one]
          · have hn : add1 q l[j] = q ++ [l[j]] := if_neg c2
            rw [hn] at hstep
            simp only [go_sem, Nat.reduceAdd, Nat.reduceSub, Nat.reduceMul, Nat.reduceLeDiff, Nat.reduceEqDiff, Nat.reduceBEq, c2, appOk, List.mem_singleton, forall_eq, Nat.zero_lt_one, app_slA, ints_len]
            refine ⟨by omega, ⟨j + 1, by omega⟩, [(0, 2), (2, 0)], leR_mk rfl ?_, by simp only; omega⟩
            simp only [hstep]
            rw [i64_id (by omega)]
            simp only [go_sem, Nat.reduceAdd, Nat.reduceSub, Nat.reduceMul, Nat.reduceLeDiff, Nat.reduceEqDiff, Nat.reduceBEq, ints_add, slA_snoc, slB_snoc, ints_len, tms_low, ints_low, renL_low0, Nat.zero_lt_one, Int.natCast_add, Int.natCast_one]
            rw [ints_snoc, renL_low0 (ints_low _)]
            exact ⟨rfl, ints_low _⟩
        · have : j = l.length := by omega
          subst this
          rw [List.take_length] at hq
          rw [hq] at hvs
          simp only [go_sem, Nat.reduceAdd, Nat.reduceSub, Nat.reduceMul, Nat.reduceLeDiff, Nat.reduceEqDiff, Nat.reduceBEq, hjl]
          refine EvK.go 1000 ?_
          simp only [go_sem, Nat.reduceAdd, Nat.reduceSub, Nat.reduceMul, Nat.reduceLeDiff, Nat.reduceEqDiff, Nat.reduceBEq]
          refine ⟨⟨i + 1, by omega⟩, [], leR_mk rfl ?_, by simp only; omega⟩
          simp only [hvs]
          rw [i64_id (by omega)]
          cases q with
          | nil => simp only [go_sem, Nat.reduceAdd, Nat.reduceSub, Nat.reduceMul, Nat.reduceLeDiff, Nat.reduceEqDiff, Nat.reduceBEq, slA_nil, slB_nil, ints_nil, tms_low, ints_low, renL_low0, Nat.zero_lt_one, Int.natCast_add, Int.natCast_one]
          | cons x q' => simp only [go_sem, Nat.reduceAdd, Nat.reduceSub, Nat.reduceMul, Nat.reduceLeDiff, Nat.reduceEqDiff, Nat.reduceBEq, slA_cons, slB_cons, ints_cons, tms_low, ints_low, renL_low0, Nat.zero_lt_one, Int.natCast_add, Int.natCast_one]
    · simp only [go_sem, Nat.reduceAdd, Nat.reduceSub, Nat.reduceMul, Nat.reduceLeDiff, Nat.reduceEqDiff, Nat.reduceBEq, hlt]
      refine EvK.go 1000 ?_
      have : i = ts.length := by omega
      subst this
      rw [List.take_length] at hoi
      simp only [go_sem, Nat.reduceAdd, Nat.reduceSub, Nat.reduceMul, Nat.reduceLeDiff, Nat.reduceEqDiff, Nat.reduceBEq, hoi, pT_slA]
end Go.Proofs
