/- Part 39 of my own framework and of the walks of functions: Pt, Pu, Pv, Pw. -/
import Derived.Test.YtcbheeddfginoaaOwn38
set_option linter.unusedVariables false
set_option linter.unusedSimpArgs false

/- Where a clause fails, as the program tells it. -/
set_option linter.unusedSimpArgs false
namespace Go.Proofs
open Go Go.Abs

set_option maxHeartbeats 400000 in
theorem ValueC_eq (gid : FuncId) (cap : List AVal) (hcap : lowL 0 cap) (f : Int → Int) (w : Wo) (hw : 1 ≤ w.size) (hw4 : w.size ≤ 4) (hf : ∀ v, 0 ≤ f v ∧ f v < w.size)
    (hy : ∀ v, 0 ≤ v → CallEq Try.prog gid (.int .i64 v :: cap) (.int .i64 (f v))) (t : Tm) :
    t.fit → t.size < 2 ^ 62 → t.okW w → CallEq Try.prog 29 [w.toA, t.toA, .fn gid [] cap] (.int .i64 (t.val w f)) := by
  have hcapn : ∀ n, lowL n cap := fun n => lowL_mono (Nat.zero_le _) hcap
  induction t using Tm.rec_args with
  | h h ts ih =>
  intro hfit hsz ho
  simp only [Tm.size] at hsz
  have hlen := len_le_sizes ts
  have h64 : -9223372036854775808 ≤ h ∧ h ≤ 9223372036854775807 := hfit.1
  refine CallEq.begin (rs := [.tmp 6]) (m := 41) 1000 Try.func29 rfl rfl rfl (by decide) trivial ?_
  by_cases c1 : h < 0
  · have e2 : IntKind.i64.wrap (-1 - h) = -1 - h := i64_id (by omega)
    have e4 : Tm.val w f (.mk h ts) = f (-1 - h) := by simp only [Tm.val, if_pos c1]
    rw [e4]
    simp only [go_sem, Nat.reduceAdd, Nat.reduceSub, Nat.reduceMul, Nat.reduceLeDiff, Nat.reduceEqDiff, Nat.reduceBEq, wo_eq, toA_eq, Tm.head, Tm.args, c1, e2]
    refine VCall.isoT [] (hy (-1 - h) (by omega)) (pTL_refl _ _ _) (by simp [go_sem, hcap]) ?_
    simp only [flatR, flatA, flatC, if_true]
    refine EvK.go 1000 ?_
    simp only [go_sem, Nat.reduceAdd, Nat.reduceSub, Nat.reduceMul, Nat.reduceLeDiff, Nat.reduceEqDiff, Nat.reduceBEq]
  · have e1 : Tm.val w f (.mk h ts) = (w.rows.getD h.toNat []).getD (Tm.ats w f ts 0).toNat 0 := by simp only [Tm.val, if_neg c1]
    obtain ⟨o1, o2, o3, o4⟩ := ho.resolve_left c1
    rw [e1]
    simp only [go_sem, Nat.reduceAdd, Nat.reduceSub, Nat.reduceMul, Nat.reduceLeDiff, Nat.reduceEqDiff, Nat.reduceBEq, wo_eq, toA_eq, Tm.head, Tm.args, c1, List.length_map]
    refine EvK.loopI (ι := {i : Nat // i ≤ ts.length}) 1000 (fun i => mkT 44 [(2, .fn gid [] cap), (3, .ptr 0 0), (4, .ptr 1 0), (7, .int .i64 (Tm.ats w f (ts.take i.1) 0)), (19, .ps 2 (ts.map Tm.toA)), (20, .int .i64 ts.length), (21, .int .i64 i.1)]) (fun i => [some (.var [.int .i64 w.size, .ps 1 (rowsA w.rows)]), some (.var [.int .i64 h, .ps 2 (ts.map Tm.toA)])])
      (fun i => ts.length - i.1) ⟨0, by omega⟩ ?_ (fun _ => Nat.zero_le _) ?_
    · simp only [go_sem, Nat.reduceAdd, Nat.reduceSub, Nat.reduceMul, Nat.reduceLeDiff, Nat.reduceEqDiff, Nat.reduceBEq, hcapn, tms_low, rowsA_low, List.take_zero, Tm.ats, Int.natCast_zero]
      decide
    · rintro ⟨i, hi⟩
      by_cases hlt : (i : Int) < ts.length
      · have hlt' : i < ts.length := by omega
        obtain ⟨ho1, ho2⟩ := oksW_get o4 i hlt'
        obtain ⟨a1, a2⟩ := ats_small hw hw4 hf o4 o2 i
        obtain ⟨v1, v2⟩ := val_range hw hf _ ho2
        have hsz2 := size_le_sizes ts i hlt'
        have hsn := ats_snoc (f := f) (w := w) ts i hlt' 0
        have m1 : 0 ≤ Tm.ats w f (ts.take i) 0 * w.size := Int.mul_nonneg a1 (by omega)
        have m2 : Tm.ats w f (ts.take i) 0 * w.size ≤ 256 * 4 := Int.mul_le_mul (by omega) hw4 (by omega) (by omega)
        simp only [go_sem, Nat.reduceAdd, Nat.reduceSub, Nat.reduceMul, Nat.reduceLeDiff, Nat.reduceEqDiff, Nat.reduceBEq, hlt, List.length_map, Int.toNat_natCast, map_getD hlt', toA_cells, Nat.le_refl]
        (repeat ((with_reducible refine And.intro ?_ ?_); · omega))
        refine EvK.draw [] 3 3 mixed rfl rfl (by decide) ?_
        simp only [go_sem, Nat.reduceAdd, Nat.reduceSub, Nat.reduceMul, Nat.reduceLeDiff, Nat.reduceEqDiff, Nat.reduceBEq, padS, Nat.le_refl]
        rw [← toA_eq, ← wo_eq]
        refine draw_iso (ih i hlt' (fits_get hfit.2 i hlt') (by omega) ho1) (pTL_refl _ _ _) (by simp [go_sem, wo_low, toA_low, hcap]) ?_
        simp only [go_sem, Nat.reduceAdd, Nat.reduceSub, Nat.reduceMul, Nat.reduceLeDiff, Nat.reduceEqDiff, Nat.reduceBEq]
        refine EvK.go 1000 ?_
        simp only [go_sem, Nat.reduceAdd, Nat.reduceSub, Nat.reduceMul, Nat.reduceLeDiff, Nat.reduceEqDiff, Nat.reduceBEq]
        refine ⟨⟨i + 1, hlt'⟩, ?_, by simp only; omega⟩
        simp only [go_sem, Nat.reduceAdd, Nat.reduceSub, Nat.reduceMul, Nat.reduceLeDiff, Nat.reduceEqDiff, Nat.reduceBEq, hcapn, tms_low, rowsA_low]
        rw [i64_id (n := Tm.ats w f (ts.take i) 0 * w.size) (by omega), i64_id (by omega), i64_id (by omega), hsn]
        exact ⟨⟨rfl, rfl⟩, by decide⟩
      · have hi' : i = ts.length := by omega
        subst hi'
        simp only [go_sem, Nat.reduceAdd, Nat.reduceSub, Nat.reduceMul, Nat.reduceLeDiff, Nat.reduceEqDiff, Nat.reduceBEq, hlt]
        refine EvK.go 1000 ?_
        have hrl : h.toNat < w.rows.length := by omega
        have hr0 : (rowsA w.rows).getD h.toNat .undef = .ps 1 (ints w.rows[h.toNat]) := rowsA_get hrl
        have hr1 := getD_row hrl
        rw [hr1] at o3 ⊢
        obtain ⟨q1, q2⟩ := ats_range hw hf ts 0 o4 (by omega)
        have hk : (Tm.ats w f ts 0).toNat < w.rows[h.toNat].length := by omega
        have hr2 : (ints w.rows[h.toNat]).getD (Tm.ats w f ts 0).toNat .undef = .int .i64 w.rows[h.toNat][(Tm.ats w f ts 0).toNat] := ints_get hk
        rw [getD_at' hk]
        simp only [go_sem, Nat.reduceAdd, Nat.reduceSub, Nat.reduceMul, Nat.reduceLeDiff, Nat.reduceEqDiff, Nat.reduceBEq, rowsA_len, hr0, ints_len, hr2, List.take_length]
        (repeat ((with_reducible refine And.intro ?_ ?_); · omega))
        omega

theorem lookupIn_look : ∀ (us rs : List Int) (v : Int), us.length = rs.length → lookupIn (ints us) (ints rs) (.int .i64 0) (.int .i64 v) false = .int .i64 (look us rs v) := by
  have key : ∀ (us rs ps : List Int) (v : Int), us.length = rs.length → (match findK (.int .i64 v) (ints us) ps.length with | some i => (ints (ps ++ rs)).getD i .undef | none => .int .i64 0) = .int .i64 (look us rs v) := by
    intro us
    induction us with
    | nil => intro rs ps v h; rfl
    | cons u us ih =>
      intro rs ps v h
      cases rs with
      | nil => simp at h
      | cons r rs =>
        simp only [ints_cons, findK, look]
        by_cases c : v = u
        · subst c
          simp [eqCell, ints_append, ints]
        · have hne : eqCell (.int .i64 v) (.int .i64 u) = false := by simp [eqCell, c]
          rw [hne, if_neg c]
          have := ih rs (ps ++ [r]) v (by simpa using h)
          simpa using this
  intro us rs v h
  have := key us rs [] v h
  simp only [List.nil_append, List.length_nil] at this
  unfold lookupIn
  cases hfk : findK (.int .i64 v) (ints us) 0 with
  | none => rw [hfk] at this; exact this
  | some i => rw [hfk] at this; exact this
theorem ints_same (us : List Int) (v : Int) : (ints us).all (sameKind (.int .i64 v)) = true := by simp [ints, sameKind]

theorem Fails1_eq (us rs : List Int) (h : us.length = rs.length) (v : Int) : CallEq Try.prog 38 [.int .i64 v, .pp [.pm (ints us) (ints rs)]] (.int .i64 (look us rs v)) := by
  refine CallEq.begin (rs := [.tmp 3]) (m := 5) 1000 Try.func38 rfl rfl rfl (by decide) trivial ?_
  simp only [go_sem, Nat.reduceAdd, Nat.reduceSub, Nat.reduceMul, Nat.reduceLeDiff, Nat.reduceEqDiff, Nat.reduceBEq, Nat.le_refl]
  exact ⟨ints_same us v, lookupIn_look us rs v h⟩
end Go.Proofs

/- Rows of things, one after the other, as the program tells them. -/
set_option linter.unusedSimpArgs false
namespace Go.Proofs
open Go Go.Abs

theorem Rows_eq (s m : Int) (σ : Store) (hs : lowSo σ.length σ) : VCall Try.prog (.fn 37 [] []) [.int .i64 s, .int .i64 m] σ
    (fun r σ' => r = .fn 68 [] [.ptr (σ.length + 1) 0, .ptr σ.length 0] ∧ σ' = σ ++ [some (.var [.int .i64 s]), some (.var [.int .i64 m])]) := by
  refine VCall.begin (rs := [.tmp 4]) (m := 4) 1000 Try.func37 rfl rfl rfl rfl rfl ?_
  simp only [go_sem, Nat.reduceAdd, Nat.reduceSub, Nat.reduceMul, Nat.reduceLeDiff, Nat.reduceEqDiff, Nat.reduceBEq]
  rw [setS_end σ, setS_end, dK_eq]
  refine ⟨_, leSo_refl _, by simp, lowSo_app (lowSo_app (lowSo_mono (by simp) hs) (by simp [go_sem])) (by simp [go_sem]), ?_, by simp, by simp⟩
  simp [go_sem]

set_option maxRecDepth 10000 in
set_option maxHeartbeats 800000 in
theorem Rows1_eq (s : Int) (k : Nat) (hs1 : 1 ≤ s) (hs4 : s ≤ 4) (hk : k < 1000000000) (N : Nat) (hN : (N : Int) = s ^ k) (b0 b1 b2 b3 b4 b5 b6 b7 b8 b9 b10 b11 b12 b13 b14 b15 : Nat → Option Blk) (pm ps : Nat) (y : AVal) (go : Nat → Bool) (F : Nat → Store)
    (hgm : ∀ n, getS [b0 (n), b1 (n), b2 (n), b3 (n), b4 (n), b5 (n), b6 (n), b7 (n), b8 (n), b9 (n), b10 (n), b11 (n), b12 (n), b13 (n), b14 (n), b15 (n)] pm = some (.var [.int .i64 k])) (hgs : ∀ n, getS [b0 (n), b1 (n), b2 (n), b3 (n), b4 (n), b5 (n), b6 (n), b7 (n), b8 (n), b9 (n), b10 (n), b11 (n), b12 (n), b13 (n), b14 (n), b15 (n)] ps = some (.var [.int .i64 s])) (hpm : pm < 16) (hps : ps < 16) (hlow : ∀ n, lowSo 16 [b0 (n), b1 (n), b2 (n), b3 (n), b4 (n), b5 (n), b6 (n), b7 (n), b8 (n), b9 (n), b10 (n), b11 (n), b12 (n), b13 (n), b14 (n), b15 (n)]) (hyl : y.low 16)
    (hF : ∀ n, n < N → go n = false → 16 ≤ (F n).length ∧ lowSo (F n).length (F n))
    (hy : ∀ n, n < N → VCall Try.prog y [.os 16 0 k 1] [b0 (n), b1 (n), b2 (n), b3 (n), b4 (n), b5 (n), b6 (n), b7 (n), b8 (n), b9 (n), b10 (n), b11 (n), b12 (n), b13 (n), b14 (n), b15 (n), some (.row (ints (digL s k n)) 0)] (fun r σ' => r = .bool (go n) ∧ σ' = if go n = true then [b0 (n + 1), b1 (n + 1), b2 (n + 1), b3 (n + 1), b4 (n + 1), b5 (n + 1), b6 (n + 1), b7 (n + 1), b8 (n + 1), b9 (n + 1), b10 (n + 1), b11 (n + 1), b12 (n + 1), b13 (n + 1), b14 (n + 1), b15 (n + 1), some (.row (ints (digL s k n)) 0)] else F n)) :
    VCall Try.prog (.fn 68 [] [.ptr pm 0, .ptr ps 0]) [y] [b0 (0), b1 (0), b2 (0), b3 (0), b4 (0), b5 (0), b6 (0), b7 (0), b8 (0), b9 (0), b10 (0), b11 (0), b12 (0), b13 (0), b14 (0), b15 (0)] (fun r σ' => r = .tup [] ∧ ((∃ n, n < N ∧ (∀ m, m < n → go m = true) ∧ go n = false ∧ σ' = F n) ∨ ((∀ m, m < N → go m = true) ∧ σ' = [b0 (N), b1 (N), b2 (N), b3 (N), b4 (N), b5 (N), b6 (N), b7 (N), b8 (N), b9 (N), b10 (N), b11 (N), b12 (N), b13 (N), b14 (N), b15 (N)]))) := by
  have hN1 : 1 ≤ N := by have := Int.pow_pos (n := s) (m := k) (by omega); omega
  have hgx : ∀ (l : Store) (x : Option Blk) (b : Nat), b < l.length → getS (l ++ [x]) b = getS l b := fun l x b h => by simp only [getS]; rw [List.getElem?_append_left h]
  have hgm' : ∀ n x, getS [b0 (n), b1 (n), b2 (n), b3 (n), b4 (n), b5 (n), b6 (n), b7 (n), b8 (n), b9 (n), b10 (n), b11 (n), b12 (n), b13 (n), b14 (n), b15 (n), x] pm = some (.var [.int .i64 k]) := fun n x => (hgx [b0 (n), b1 (n), b2 (n), b3 (n), b4 (n), b5 (n), b6 (n), b7 (n), b8 (n), b9 (n), b10 (n), b11 (n), b12 (n), b13 (n), b14 (n), b15 (n)] x pm hpm).trans (hgm n)
  have hgs' : ∀ n x, getS [b0 (n), b1 (n), b2 (n), b3 (n), b4 (n), b5 (n), b6 (n), b7 (n), b8 (n), b9 (n), b10 (n), b11 (n), b12 (n), b13 (n), b14 (n), b15 (n), x] ps = some (.var [.int .i64 s]) := fun n x => (hgx [b0 (n), b1 (n), b2 (n), b3 (n), b4 (n), b5 (n), b6 (n), b7 (n), b8 (n), b9 (n), b10 (n), b11 (n), b12 (n), b13 (n), b14 (n), b15 (n)] x ps hps).trans (hgs n)
  refine VCall.begin (rs := []) (m := 35) 1000 Try.func68 rfl rfl rfl rfl rfl ?_
  simp only [go_sem, Nat.reduceAdd, Nat.reduceSub, Nat.reduceMul, Nat.reduceLeDiff, Nat.reduceEqDiff, Nat.reduceBEq, hgm 0, Nat.le_refl, ints_rep, -List.reduceReplicate]
  refine ⟨by omega, ?_⟩
  refine EvK.loopI (ι := {n : Nat // n < N ∧ ∀ m, m < n → go m = true}) 1000 (fun n => mkT 38 [(0, y), (1, .ptr pm 0), (2, .ptr ps 0), (4, .os 16 0 k 1)]) (fun n => [b0 (n.1), b1 (n.1), b2 (n.1), b3 (n.1), b4 (n.1), b5 (n.1), b6 (n.1), b7 (n.1), b8 (n.1), b9 (n.1), b10 (n.1), b11 (n.1), b12 (n.1), b13 (n.1), b14 (n.1), b15 (n.1), some (.row (ints (digL s k n.1)) 0)]) (fun n => N - n.1) ⟨0, by omega, fun m hm => by omega⟩ ?_ (fun _ => Nat.le_add_right 16 1) ?_
  · have h9 := lowSo_mono (m := 17) (by decide) (hlow 0)
    have hy17 := low_mono (m := 17) (by decide) hyl
    simp only [lowSo_cons, lowSo_nil, and_true] at h9
    simp only [go_sem, Nat.reduceAdd, Nat.reduceSub, Nat.reduceMul, Nat.reduceLeDiff, Nat.reduceEqDiff, Nat.reduceBEq, hy17, lowSo_cons, h9, lowO_some, ints_low, digL_init s hs1 k, Int.natCast_zero]
    exact ⟨rfl, rfl, by omega, by omega, by omega⟩
  · rintro ⟨n, hn, hpre⟩
    simp only [go_sem, Nat.reduceAdd, Nat.reduceSub, Nat.reduceMul, Nat.reduceLeDiff, Nat.reduceEqDiff, Nat.reduceBEq]
    refine (hy n hn).mono ?_
    rintro r σ' ⟨rfl, rfl⟩
    refine EvK.go 1000 ?_
    cases hgo : go n with
    | false =>
      simp only [go_sem, Nat.reduceAdd, Nat.reduceSub, Nat.reduceMul, Nat.reduceLeDiff, Nat.reduceEqDiff, Nat.reduceBEq, Bool.false_eq_true]
      refine EvK.go 1000 ?_
      simp only [go_sem, Nat.reduceAdd, Nat.reduceSub, Nat.reduceMul, Nat.reduceLeDiff, Nat.reduceEqDiff, Nat.reduceBEq]
      rw [dK_eq]
      obtain ⟨f1, f2⟩ := hF n hn hgo
      exact ⟨F n, leSo_refl _, f1, f2, trivial, rfl, .inl ⟨n, hn, hpre, hgo, rfl⟩⟩
    | true =>
      have hpre' : ∀ m, m < n + 1 → go m = true := fun m hm => by
        by_cases e : m = n
        · rw [e]; exact hgo
        · exact hpre m (by omega)
      have hn0 : (0 : Int) ≤ n := by omega
      have hdig := digL_range hs1 k n
      simp only [go_sem, Nat.reduceAdd, Nat.reduceSub, Nat.reduceMul, Nat.reduceLeDiff, Nat.reduceEqDiff, Nat.reduceBEq, hgm']
      rw [i64_id (by omega)]
      refine EvK.loopI (ι := {j : Nat // j ≤ k ∧ (n : Int) + 1 = s ^ j * ((n : Int) / s ^ j + 1)}) 1000 (fun j => mkT 38 [(0, y), (1, .ptr pm 0), (2, .ptr ps 0), (4, .os 16 0 k 1), (5, .int .i64 ((k : Int) - 1 - j.1))]) (fun j => [b0 (n + 1), b1 (n + 1), b2 (n + 1), b3 (n + 1), b4 (n + 1), b5 (n + 1), b6 (n + 1), b7 (n + 1), b8 (n + 1), b9 (n + 1), b10 (n + 1), b11 (n + 1), b12 (n + 1), b13 (n + 1), b14 (n + 1), b15 (n + 1), some (.row (ints (digL s (k - j.1) ((n : Int) / s ^ j.1) ++ List.replicate j.1 0)) 0)]) (fun j => k - j.1) ⟨0, by omega, by simp⟩ ?_ (fun _ => Nat.le_add_right 16 1) ?_
      · have h9 := lowSo_mono (m := 17) (by decide) (hlow (n + 1))
        have hy17 := low_mono (m := 17) (by decide) hyl
        simp only [lowSo_cons, lowSo_nil, and_true] at h9
        simp only [go_sem, Nat.reduceAdd, Nat.reduceSub, Nat.reduceMul, Nat.reduceLeDiff, Nat.reduceEqDiff, Nat.reduceBEq, hy17, lowSo_cons, h9, lowO_some, ints_low, Int.natCast_zero, Int.pow_zero, Int.ediv_one, Nat.sub_zero, List.replicate_zero, List.append_nil, Int.sub_zero]
        exact ⟨by omega, by omega, by omega⟩
      · rintro ⟨j, hj, hinv⟩
        by_cases hjl : 0 ≤ (k : Int) - 1 - j
        case neg =>
          have hje : j = k := by omega
          subst hje
          have hlast := carry_all hs1 hn0 (by omega) hinv
          have hnN : n + 1 = N := by omega
          simp only [go_sem, Nat.reduceAdd, Nat.reduceSub, Nat.reduceMul, Nat.reduceLeDiff, Nat.reduceEqDiff, Nat.reduceBEq, hjl]
          refine EvK.draw [] 17 17 mixed rfl rfl (Nat.le_refl _) ?_
          simp only [go_sem, Nat.reduceAdd, Nat.reduceSub, Nat.reduceMul, Nat.reduceLeDiff, Nat.reduceEqDiff, Nat.reduceBEq, padS, hjl]
          refine EvK.go 1000 ?_
          simp only [go_sem, Nat.reduceAdd, Nat.reduceSub, Nat.reduceMul, Nat.reduceLeDiff, Nat.reduceEqDiff, Nat.reduceBEq, hjl]
          refine EvK.go 1000 ?_
          have hneg : (j : Int) - 1 - j < 0 := by omega
          simp only [go_sem, Nat.reduceAdd, Nat.reduceSub, Nat.reduceMul, Nat.reduceLeDiff, Nat.reduceEqDiff, Nat.reduceBEq, hneg]
          refine EvK.go 1000 ?_
          simp only [go_sem, Nat.reduceAdd, Nat.reduceSub, Nat.reduceMul, Nat.reduceLeDiff, Nat.reduceEqDiff, Nat.reduceBEq]
          rw [dK_eq]
          refine ⟨[b0 (N), b1 (N), b2 (N), b3 (N), b4 (N), b5 (N), b6 (N), b7 (N), b8 (N), b9 (N), b10 (N), b11 (N), b12 (N), b13 (N), b14 (N), b15 (N)], ?_, Nat.le_refl _, hlow N, trivial, rfl, .inr ⟨by rw [← hnN]; exact hpre', rfl⟩⟩
          rw [← hnN]
          simp [go_sem]
        obtain ⟨a, ha⟩ : ∃ a, k - j = a + 1 := ⟨k - j - 1, by omega⟩
        have hi : ((k : Int) - 1 - j).toNat = a := by omega
        have hrow : digL s (k - j) ((n : Int) / s ^ j) ++ List.replicate j 0 = digL s a ((n : Int) / s ^ j / s) ++ ((n : Int) / s ^ j % s) :: List.replicate j 0 := by
          rw [ha, digL_head s hs1]; simp
        have hgd : (ints (digL s a ((n : Int) / s ^ j / s) ++ ((n : Int) / s ^ j % s) :: List.replicate j 0)).getD a .undef = .int .i64 ((n : Int) / s ^ j % s) := by
          rw [ints_get (by simp [digL_len])]
          simp [List.getElem_append_right, digL_len]
        have hln : (digL s a ((n : Int) / s ^ j / s) ++ ((n : Int) / s ^ j % s) :: List.replicate j 0).length = k := by simp [digL_len]; omega
        have hm0 := Int.emod_nonneg ((n : Int) / s ^ j) (show s ≠ 0 by omega)
        have hm1 := Int.emod_lt_of_pos ((n : Int) / s ^ j) (show 0 < s by omega)
        have hset : ∀ v, (digL s a ((n : Int) / s ^ j / s) ++ ((n : Int) / s ^ j % s) :: List.replicate j 0).set a v = digL s a ((n : Int) / s ^ j / s) ++ v :: List.replicate j 0 := fun v => by
          rw [List.set_append_right _ _ (by rw [digL_len]; exact Nat.le_refl _), digL_len, Nat.sub_self]; rfl
        by_cases hd : (n : Int) / s ^ j % s = s - 1
        · simp only [go_sem, Nat.reduceAdd, Nat.reduceSub, Nat.reduceMul, Nat.reduceLeDiff, Nat.reduceEqDiff, Nat.reduceBEq, hjl]
          refine EvK.draw [] 17 17 mixed rfl rfl (Nat.le_refl _) ?_
          have hw : IntKind.i64.wrap (s - 1) = s - 1 := i64_id (by omega)
          rw [hd] at hset hgd hln hrow
          simp only [go_sem, Nat.reduceAdd, Nat.reduceSub, Nat.reduceMul, Nat.reduceLeDiff, Nat.reduceEqDiff, Nat.reduceBEq, padS, hjl, hi, hrow, ints_len, hln, hgd, hgs', hw]
          (repeat ((with_reducible refine And.intro ?_ ?_); · omega))
          refine EvK.go 1000 ?_
          simp only [go_sem, Nat.reduceAdd, Nat.reduceSub, Nat.reduceMul, Nat.reduceLeDiff, Nat.reduceEqDiff, Nat.reduceBEq, hjl, hi, hrow, ints_len, hln, hgd, ints_set, hset]
          (repeat ((with_reducible refine And.intro ?_ ?_); · omega))
          have hcs := carry_step hs1 hinv hd
          have hnx : digL s a ((n : Int) / s ^ j / s) ++ 0 :: List.replicate j 0 = digL s (k - (j + 1)) ((n : Int) / s ^ (j + 1)) ++ List.replicate (j + 1) 0 := by
            rw [show k - (j + 1) = a by omega, Int.pow_succ, Int.ediv_ediv_of_nonneg (Int.le_of_lt (Int.pow_pos (by omega))), List.replicate_succ]
          refine ⟨⟨j + 1, by omega, hcs⟩, ?_, by simp only; omega⟩
          have h9 := lowSo_mono (m := 17) (by decide) (hlow (n + 1))
          have hy17 := low_mono (m := 17) (by decide) hyl
          simp only [lowSo_cons, lowSo_nil, and_true] at h9
          simp only [go_sem, Nat.reduceAdd, Nat.reduceSub, Nat.reduceMul, Nat.reduceLeDiff, Nat.reduceEqDiff, Nat.reduceBEq, hy17, lowSo_cons, h9, lowO_some, ints_low, hnx]
          rw [i64_id (by omega)]
          exact ⟨by rw [show (k : Int) - 1 - ((j + 1 : Nat) : Int) = k - 1 - j - 1 by omega], by omega, by omega, by omega⟩
        · simp only [go_sem, Nat.reduceAdd, Nat.reduceSub, Nat.reduceMul, Nat.reduceLeDiff, Nat.reduceEqDiff, Nat.reduceBEq, hjl]
          refine EvK.draw [] 17 17 mixed rfl rfl (Nat.le_refl _) ?_
          have hw : IntKind.i64.wrap (s - 1) = s - 1 := i64_id (by omega)
          have hw2 : IntKind.i64.wrap ((n : Int) / s ^ j % s + 1) = (n : Int) / s ^ j % s + 1 := i64_id (by omega)
          have hnn : ¬ (k : Int) - 1 - j < 0 := by omega
          simp only [go_sem, Nat.reduceAdd, Nat.reduceSub, Nat.reduceMul, Nat.reduceLeDiff, Nat.reduceEqDiff, Nat.reduceBEq, padS, hjl, hi, hrow, ints_len, hln, hgd, hgs', hw, hd]
          (repeat ((with_reducible refine And.intro ?_ ?_); · omega))
          refine EvK.go 1000 ?_
          simp only [go_sem, Nat.reduceAdd, Nat.reduceSub, Nat.reduceMul, Nat.reduceLeDiff, Nat.reduceEqDiff, Nat.reduceBEq]
          refine EvK.go 1000 ?_
          simp only [go_sem, Nat.reduceAdd, Nat.reduceSub, Nat.reduceMul, Nat.reduceLeDiff, Nat.reduceEqDiff, Nat.reduceBEq, hnn, hi, hrow, ints_len, hln, hgd, ints_set, hset, hw2]
          (repeat ((with_reducible refine And.intro ?_ ?_); · omega))
          have hce := carry_end (a := a) (j := j) hs1 hn0 hinv hd
          rw [show a + 1 + j = k by omega] at hce
          have hnN : n + 1 < N := by
            have := carry_lt (a := a) (j := j) (n := (n : Int)) hs1 (by rw [show a + 1 + j = k by omega]; omega) hinv hd
            rw [show a + 1 + j = k by omega] at this; omega
          refine ⟨⟨n + 1, hnN, hpre'⟩, ?_, by simp only; omega⟩
          have h9 := lowSo_mono (m := 17) (by decide) (hlow (n + 1))
          have hy17 := low_mono (m := 17) (by decide) hyl
          simp only [lowSo_cons, lowSo_nil, and_true] at h9
          simp only [go_sem, Nat.reduceAdd, Nat.reduceSub, Nat.reduceMul, Nat.reduceLeDiff, Nat.reduceEqDiff, Nat.reduceBEq, hy17, lowSo_cons, h9, lowO_some, ints_low, Int.natCast_add, Int.natCast_one, hce]
          exact ⟨by omega, by omega, by omega⟩
end Go.Proofs

/- Where a clause fails, as the program tells it: all of it. -/
set_option linter.unusedSimpArgs false
namespace Go.Proofs
open Go Go.Abs

set_option maxRecDepth 20000 in
set_option maxHeartbeats 1600000 in
theorem FailsM_eq (g : List Sy) (w : Wo) (c : List Li) (hc : c.length < 1000000) (hf : Tm.fits (sides c)) (hs : Tm.sizes (sides c) < 999999990) : CallEq Try.prog 11 [.ps 4 (syms g), w.toA, .ps 5 (lits c)] (failsA (fails g w c)) := by
  refine CallEq.begin (rs := [.cell 6 29, .cell 7 4, .cell 8 34]) (m := 86) 1000 Try.func11 rfl rfl rfl (by decide) ⟨ints_low _, trivial, trivial, trivial⟩ ?_
  rw [failsA_eq]
  have hsz : ∀ (i : Nat) (h : i < c.length), c[i].l.size < 999999999 ∧ c[i].r.size < 999999999 := fun i h => by have := sizes_sides i h; omega
  simp only [go_sem, Nat.reduceAdd, Nat.reduceSub, Nat.reduceMul, Nat.reduceLeDiff, Nat.reduceEqDiff, Nat.reduceBEq, wo_eq, Nat.le_refl]
  rw [← wo_eq]
  refine VCall.isoT [] (CheckM_eq g w) (pTL_refl _ _ _) (by simp [go_sem, syms_low, wo_low]) ?_; simp only [flatR, flatA, flatC, if_true]; refine EvK.go 1000 ?_
  cases c1 : worldOk g w with
  | false =>
    simp only [go_sem, Nat.reduceAdd, Nat.reduceSub, Nat.reduceMul, Nat.reduceLeDiff, Nat.reduceEqDiff, Nat.reduceBEq, fails, c1, ints_nil, Int.reduceEq]
  | true =>
  simp only [go_sem, Nat.reduceAdd, Nat.reduceSub, Nat.reduceMul, Nat.reduceLeDiff, Nat.reduceEqDiff, Nat.reduceBEq]
  refine VCall.isoT [] (CheckC_eq g c hsz) (pTL_refl _ _ _) (by simp [go_sem, syms_low, lits_low]) ?_; simp only [flatR, flatA, flatC, if_true]; refine EvK.go 1000 ?_
  by_cases c2 : clauseCheck g c = 0
  case neg => simp only [go_sem, Nat.reduceAdd, Nat.reduceSub, Nat.reduceMul, Nat.reduceLeDiff, Nat.reduceEqDiff, Nat.reduceBEq, fails, c1, c2, ints_nil]
  simp only [go_sem, Nat.reduceAdd, Nat.reduceSub, Nat.reduceMul, Nat.reduceLeDiff, Nat.reduceEqDiff, Nat.reduceBEq, c2]
  obtain ⟨q1, q2, q3, q4, q5, q6⟩ := worldOk_size c1
  refine VCall.isoT [] (VarsC_eq c hc hf hs) (pTL_refl _ _ _) (by simp [go_sem, lits_low]) ?_; rw [frzI_nil]; simp only [ite_self]; refine EvK.go 1000 ?_
  simp only [go_sem, Nat.reduceAdd, Nat.reduceSub, Nat.reduceMul, Nat.reduceLeDiff, Nat.reduceEqDiff, Nat.reduceBEq, ints_len]
  refine VCall.isoT [] (PowerM_eq w.size (clauseVars c).length 20000 (by have := varsL_len (sides c) []; simp only [List.length_nil] at this; unfold clauseVars; omega)) (pTL_refl _ _ _) (by simp [go_sem, wo_low]) ?_; simp only [flatR, flatA, flatC, if_true]; refine EvK.go 1000 ?_
  rw [Int.toNat_natCast]
  by_cases c3 : 20000 < worldMany w c 20000
  · have c3' := (many_iff w c).1 c3
    simp only [go_sem, Nat.reduceAdd, Nat.reduceSub, Nat.reduceMul, Nat.reduceLeDiff, Nat.reduceEqDiff, Nat.reduceBEq, c3', fails, c1, c2, c3, ints_nil]
  have c3' : ¬ 20000 < manyL w.size 20000 (clauseVars c).length 1 := fun h => c3 ((many_iff w c).2 h)
  simp only [go_sem, Nat.reduceAdd, Nat.reduceSub, Nat.reduceMul, Nat.reduceLeDiff, Nat.reduceEqDiff, Nat.reduceBEq, c3', ints_len]
  refine (Rows_eq _ _ _ ?_).mono ?_
  · simp [go_sem, rowsA_low, lits_low, ints_low]
  rintro _ _ ⟨rfl, rfl⟩
  refine EvK.go 1000 ?_
  simp only [go_sem, Nat.reduceAdd, Nat.reduceSub, Nat.reduceMul, Nat.reduceLeDiff, Nat.reduceEqDiff, Nat.reduceBEq]
  have hall := many_pow q2 q3 c3
  have hrange := cvars_range c2
  have hnd := cvars_nodup c
  have hvl := varsL_len (sides c) []
  have hlen : (clauseVars c).length < 1000000000 := by unfold clauseVars; simp only [List.length_nil] at hvl; omega
  have hpos : 1 ≤ w.size ^ (clauseVars c).length := Int.pow_pos (by omega)
  have hA : ((allRows w c : Nat) : Int) = w.size ^ (clauseVars c).length := by unfold allRows; omega
  have hfd : fails g w c = match failRow w c with | some r => (r, true, 0) | none => ([], false, 0) := by rw [fails, c1, if_neg (by decide), if_neg (by simp [c2]), if_neg c3]; rfl
  have hfr : failRow w c = ((List.range (allRows w c)).find? fun (n : Nat) => !anyHolds w (look (clauseVars c) (digL w.size (clauseVars c).length n)) c).map fun (n : Nat) => digL w.size (clauseVars c).length n := rfl
  have hfits := fits_sides hf
  have hok := lits_okW c1 c2 hf
  rw [hfd, hfr]
  generalize clauseVars c = vs at *
  generalize allRows w c = A at *
  refine EvK.rangeFunc (mkT 89 [(4, .ptr 0 0), (5, .ptr 1 0), (6, .ptr 2 0), (7, .ptr 3 0), (8, .ptr 4 0), (11, .ptr 5 0)]) ?_ ?_ (fun ρ ht hpa hat hbo => ?_)
  · simp only [go_sem, Nat.reduceAdd, Nat.reduceSub, Nat.reduceMul, Nat.reduceLeDiff, Nat.reduceEqDiff, Nat.reduceBEq]
  · exact fun b hb => by cases hb
  simp only [go_sem, Nat.reduceAdd, Nat.reduceSub, Nat.reduceMul, Nat.reduceLeDiff, Nat.reduceEqDiff, Nat.reduceBEq]
  have hρl : lowL 9 ρ.tm := by rw [ht]; simp [go_sem, mkT_cons, mkT_nil]
  have hlowB : lowSo 16 [some (.var [.int .i64 w.size, .ps 1 (rowsA w.rows)]), some (.var [.ps 5 (lits c)]), some (.var [.nils]), some (.var [.bool false]), some (.var [.int .i64 0]), some (.var [.ps 1 (ints vs)]), some (.var [.int .i64 w.size]), some (.var [.int .i64 (vs.length : Nat)]), some (.loop (ρ.at .ready)), none, none, none, none, none, none, none] := ⟨⟨trivial, rowsA_low _, trivial⟩, ⟨lits_low _, trivial⟩, ⟨trivial, trivial⟩, ⟨trivial, trivial⟩, ⟨trivial, trivial⟩, ⟨ints_low _, trivial⟩, ⟨trivial, trivial⟩, ⟨trivial, trivial⟩, lowL_mono (by decide) hρl, trivial, trivial, trivial, trivial, trivial, trivial, trivial, trivial⟩
  refine VCall.pad 7 ?_
  refine (Rows1_eq w.size vs.length q2 q3 hlen A hA (fun _ => some (.var [.int .i64 w.size, .ps 1 (rowsA w.rows)])) (fun _ => some (.var [.ps 5 (lits c)])) (fun _ => some (.var [.nils])) (fun _ => some (.var [.bool false])) (fun _ => some (.var [.int .i64 0])) (fun _ => some (.var [.ps 1 (ints vs)])) (fun _ => some (.var [.int .i64 w.size])) (fun _ => some (.var [.int .i64 (vs.length : Nat)])) (fun _ => some (.loop (ρ.at .ready))) (fun _ => none) (fun _ => none) (fun _ => none) (fun _ => none) (fun _ => none) (fun _ => none) (fun _ => none) 7 6 (.yld 8)
    (fun n => anyHolds w (look vs (digL w.size vs.length n)) c) (fun n => [some (.var [.int .i64 w.size, .ps 1 (rowsA w.rows)]), some (.var [.ps 5 (lits c)]), some (.var [.os 16 0 vs.length 1]), some (.var [.bool true]), some (.var [.int .i64 0]), some (.var [.ps 1 (ints vs)]), some (.var [.int .i64 w.size]), some (.var [.int .i64 (vs.length : Nat)]), some (.loop (ρ.at (.done .ret))), none, none, none, none, none, none, none, some (.row (ints (digL w.size vs.length n)) 0)]) (fun _ => rfl) (fun _ => rfl) (by decide) (by decide) (fun _ => hlowB) (Nat.lt_of_sub_pos (by decide)) (fun n _ _ => ⟨Nat.le_add_right 16 1, ?_⟩) (fun n hn => ?_)).mono ?_
  · exact ⟨⟨trivial, rowsA_low _, trivial⟩, ⟨lits_low _, trivial⟩, ⟨Nat.lt_succ_self 16, trivial⟩, ⟨trivial, trivial⟩, ⟨trivial, trivial⟩, ⟨ints_low _, trivial⟩, ⟨trivial, trivial⟩, ⟨trivial, trivial⟩, lowL_mono (Nat.le_add_right 9 8) hρl, trivial, trivial, trivial, trivial, trivial, trivial, trivial, ints_low _, trivial⟩
  · refine VCall.yieldK 1000 ht hpa hat hbo rfl rfl ?_
    have hrl := digL_len w.size vs.length n
    have hrr := digL_range q2 vs.length n
    generalize digL w.size vs.length n = row at *
    have hρ19 : lowL 19 ρ.tm := lowL_mono (by decide) hρl
    have hlowR : lowSo 17 [some (.var [.int .i64 w.size, .ps 1 (rowsA w.rows)]), some (.var [.ps 5 (lits c)]), some (.var [.nils]), some (.var [.bool false]), some (.var [.int .i64 0]), some (.var [.ps 1 (ints vs)]), some (.var [.int .i64 w.size]), some (.var [.int .i64 (vs.length : Nat)]), some (.loop (ρ.at .ready)), none, none, none, none, none, none, none, some (.row (ints row) 0)] := ⟨⟨trivial, rowsA_low _, trivial⟩, ⟨lits_low _, trivial⟩, ⟨trivial, trivial⟩, ⟨trivial, trivial⟩, ⟨trivial, trivial⟩, ⟨ints_low _, trivial⟩, ⟨trivial, trivial⟩, ⟨trivial, trivial⟩, lowL_mono (by decide) hρl, trivial, trivial, trivial, trivial, trivial, trivial, trivial, ints_low _, trivial⟩
    have hlowF : lowSo 17 [some (.var [.int .i64 w.size, .ps 1 (rowsA w.rows)]), some (.var [.ps 5 (lits c)]), some (.var [.os 16 0 vs.length 1]), some (.var [.bool true]), some (.var [.int .i64 0]), some (.var [.ps 1 (ints vs)]), some (.var [.int .i64 w.size]), some (.var [.int .i64 (vs.length : Nat)]), some (.loop (ρ.at (.done .ret))), none, none, none, none, none, none, none, some (.row (ints row) 0)] := ⟨⟨trivial, rowsA_low _, trivial⟩, ⟨lits_low _, trivial⟩, ⟨Nat.lt_succ_self 16, trivial⟩, ⟨trivial, trivial⟩, ⟨trivial, trivial⟩, ⟨ints_low _, trivial⟩, ⟨trivial, trivial⟩, ⟨trivial, trivial⟩, lowL_mono (by decide) hρl, trivial, trivial, trivial, trivial, trivial, trivial, trivial, ints_low _, trivial⟩
    simp only [go_sem, Nat.reduceAdd, Nat.reduceSub, Nat.reduceMul, Nat.reduceLeDiff, Nat.reduceEqDiff, Nat.reduceBEq, ints_len]
    refine EvK.go 1000 ?_
    simp only [go_sem, Nat.reduceAdd, Nat.reduceSub, Nat.reduceMul, Nat.reduceLeDiff, Nat.reduceEqDiff, Nat.reduceBEq, ints_len]
    refine EvK.loopI (ι := {i : Nat // i ≤ vs.length}) 1000 (fun i => mkT 89 [(4, .ptr 0 0), (5, .ptr 1 0), (6, .ptr 2 0), (7, .ptr 3 0), (8, .ptr 4 0), (11, .ptr 5 0), (12, .os 16 0 vs.length 1), (13, .ptr 18 0), (47, .ps 1 (ints vs)), (48, .int .i64 vs.length), (49, .int .i64 i.1)]) (fun i => [some (.var [.int .i64 w.size, .ps 1 (rowsA w.rows)]), some (.var [.ps 5 (lits c)]), some (.var [.nils]), some (.var [.bool false]), some (.var [.int .i64 0]), some (.var [.ps 1 (ints vs)]), some (.var [.int .i64 w.size]), some (.var [.int .i64 (vs.length : Nat)]), some (.loop (ρ.at .busy)), none, none, none, none, none, none, none, some (.row (ints row) 0), some (.map (ints (vs.take i.1)) (ints (row.take i.1)) false), some (.var [.map 17])]) (fun i => vs.length - i.1) ⟨0, by omega⟩ ?_ (fun _ => Nat.le_add_right 17 2) ?_
    · simp only [go_sem, Nat.reduceAdd, Nat.reduceSub, Nat.reduceMul, Nat.reduceLeDiff, Nat.reduceEqDiff, Nat.reduceBEq, ints_low, List.take_zero, ints_nil, Int.natCast_zero, rowsA_low, lits_low, hρ19]
      decide
    · rintro ⟨i, hi⟩
      by_cases hlt : (i : Int) < vs.length
      · have hlt' : i < vs.length := by omega
        have hlr : i < row.length := by omega
        have hms := mapSet_new (vs.take i) (row.take i) vs[i] row[i] (nodup_take hnd hlt')
        have hnext1 : vs.take i ++ [vs[i]] = vs.take (i + 1) := (take_snoc hlt').symm
        have hnext2 : row.take i ++ [row[i]] = row.take (i + 1) := (take_snoc hlr).symm
        simp only [go_sem, Nat.reduceAdd, Nat.reduceSub, Nat.reduceMul, Nat.reduceLeDiff, Nat.reduceEqDiff, Nat.reduceBEq, hlt, ints_len, Int.toNat_natCast, ints_get hlt']
        (repeat ((with_reducible refine And.intro ?_ ?_); · omega))
        refine EvK.draw [.no, .no, .no, .no, .no, .no, ⟨none, [17], []⟩] 19 19 mixed rfl rfl (by decide) ?_
        simp only [go_sem, Nat.reduceAdd, Nat.reduceSub, Nat.reduceMul, Nat.reduceLeDiff, Nat.reduceEqDiff, Nat.reduceBEq, padS, ints_len, Int.toNat_natCast, ints_get hlr, hms, hnext1, hnext2, ints_same]
        (repeat ((with_reducible refine And.intro ?_ ?_); · omega))
        refine EvK.go 1000 ?_
        simp only [go_sem, Nat.reduceAdd, Nat.reduceSub, Nat.reduceMul, Nat.reduceLeDiff, Nat.reduceEqDiff, Nat.reduceBEq]
        refine ⟨⟨i + 1, hlt'⟩, ?_, by simp only; omega⟩
        simp only [go_sem, Nat.reduceAdd, Nat.reduceSub, Nat.reduceMul, Nat.reduceLeDiff, Nat.reduceEqDiff, Nat.reduceBEq, ints_low, rowsA_low, lits_low, hρ19]
        rw [i64_id (by omega)]
        exact ⟨rfl, by decide⟩
      · have hi' : i = vs.length := by omega
        subst hi'
        have ht1 : vs.take vs.length = vs := List.take_length
        have ht2 : row.take vs.length = row := by rw [← hrl, List.take_length]
        simp only [go_sem, Nat.reduceAdd, Nat.reduceSub, Nat.reduceMul, Nat.reduceLeDiff, Nat.reduceEqDiff, Nat.reduceBEq, hlt]
        refine EvK.go 1000 ?_
        simp only [go_sem, Nat.reduceAdd, Nat.reduceSub, Nat.reduceMul, Nat.reduceLeDiff, Nat.reduceEqDiff, Nat.reduceBEq, ht1, ht2, lits_len]
        refine EvK.go 1000 ?_
        simp only [go_sem, Nat.reduceAdd, Nat.reduceSub, Nat.reduceMul, Nat.reduceLeDiff, Nat.reduceEqDiff, Nat.reduceBEq, ht1, ht2, lits_len]
        refine EvK.loopI (ι := {j : Nat // j ≤ c.length}) 1000 (fun j => mkT 89 [(4, .ptr 0 0), (5, .ptr 1 0), (6, .ptr 2 0), (7, .ptr 3 0), (8, .ptr 4 0), (11, .ptr 5 0), (12, .os 16 0 vs.length 1), (13, .ptr 18 0), (16, .fn 38 [] [.ptr 18 0]), (17, .bool (anyHolds w (look vs row) (c.take j.1))), (62, .ps 5 (lits c)), (63, .int .i64 c.length), (64, .int .i64 j.1)]) (fun j => [some (.var [.int .i64 w.size, .ps 1 (rowsA w.rows)]), some (.var [.ps 5 (lits c)]), some (.var [.nils]), some (.var [.bool false]), some (.var [.int .i64 0]), some (.var [.ps 1 (ints vs)]), some (.var [.int .i64 w.size]), some (.var [.int .i64 (vs.length : Nat)]), some (.loop (ρ.at .busy)), none, none, none, none, none, none, none, some (.row (ints row) 0), some (.map (ints vs) (ints row) false), some (.var [.map 17])]) (fun j => c.length - j.1) ⟨0, by omega⟩ ?_ (fun _ => Nat.le_add_right 17 2) ?_
        · simp only [go_sem, Nat.reduceAdd, Nat.reduceSub, Nat.reduceMul, Nat.reduceLeDiff, Nat.reduceEqDiff, Nat.reduceBEq, lits_low, List.take_zero, anyHolds, List.any_nil, Int.natCast_zero, rowsA_low, ints_low, hρ19]
          decide
        · rintro ⟨j, hj⟩
          by_cases hjl : (j : Int) < c.length
          · have hjl' : j < c.length := by omega
            have hah := anyHolds_snoc w (look vs row) c j hjl'
            generalize anyHolds w (look vs row) (c.take j) = hb at *
            simp only [go_sem, Nat.reduceAdd, Nat.reduceSub, Nat.reduceMul, Nat.reduceLeDiff, Nat.reduceEqDiff, Nat.reduceBEq, hjl, lits_len, Int.toNat_natCast, lits_get hjl', li_cells, Nat.le_refl]
            refine ⟨by omega, ?_⟩
            refine EvK.draw [] 20 20 mixed rfl rfl (by decide) ?_
            cases hb with
            | true =>
              rw [Bool.true_or] at hah
              simp only [go_sem, Nat.reduceAdd, Nat.reduceSub, Nat.reduceMul, Nat.reduceLeDiff, Nat.reduceEqDiff, Nat.reduceBEq, padS]
              refine EvK.go 1000 ?_
              simp only [go_sem, Nat.reduceAdd, Nat.reduceSub, Nat.reduceMul, Nat.reduceLeDiff, Nat.reduceEqDiff, Nat.reduceBEq]
              refine ⟨⟨j + 1, hjl'⟩, ?_, by simp only; omega⟩
              simp only [go_sem, Nat.reduceAdd, Nat.reduceSub, Nat.reduceMul, Nat.reduceLeDiff, Nat.reduceEqDiff, Nat.reduceBEq, lits_low, rowsA_low, ints_low, hρ19, hah]
              rw [i64_id (by omega)]
              exact ⟨rfl, by decide⟩
            | false =>
              have hfj := hfits j hjl'
              have hsj := hsz j hjl'
              have hoj := hok j hjl'
              simp only [go_sem, Nat.reduceAdd, Nat.reduceSub, Nat.reduceMul, Nat.reduceLeDiff, Nat.reduceEqDiff, Nat.reduceBEq, padS, Nat.le_refl]
              rw [← toA_eq]
              refine ⟨.int .i64 (c[j].l.val w (look vs row)), _, VCall.isoE (b := 18) (cs := [.map 17]) [17] rfl (ValueC_eq 38 [.pp [.pm (ints vs) (ints row)]] (by simp [go_sem, ints_low]) (look vs row) w q2 q3 (fun v => look_range q2 _ _ v hrr) (fun v _ => Fails1_eq vs row hrl.symm v) c[j].l hfj.1 (by omega) hoj.1) ?_ (by simp [go_sem, wo_low, toA_low, ints_low]) rfl ⟨rfl, rfl⟩, ?_, ?_⟩
              · simp only [go_sem, Nat.reduceAdd, Nat.reduceSub, Nat.reduceMul, Nat.reduceLeDiff, Nat.reduceEqDiff, Nat.reduceBEq, among_cons, among_nil, exA, exP, List.map_cons, List.map_nil, toA_eq, wo_eq]
              · simp only [go_sem, Nat.reduceAdd, Nat.reduceSub, Nat.reduceMul, Nat.reduceLeDiff, Nat.reduceEqDiff, Nat.reduceBEq]
              simp only [go_sem, Nat.reduceAdd, Nat.reduceSub, Nat.reduceMul, Nat.reduceLeDiff, Nat.reduceEqDiff, Nat.reduceBEq, Nat.le_refl]
              rw [← toA_eq]
              refine ⟨.int .i64 (c[j].r.val w (look vs row)), _, VCall.isoE (b := 18) (cs := [.map 17]) [17] rfl (ValueC_eq 38 [.pp [.pm (ints vs) (ints row)]] (by simp [go_sem, ints_low]) (look vs row) w q2 q3 (fun v => look_range q2 _ _ v hrr) (fun v _ => Fails1_eq vs row hrl.symm v) c[j].r hfj.2 (by omega) hoj.2) ?_ (by simp [go_sem, wo_low, toA_low, ints_low]) rfl ⟨rfl, rfl⟩, ?_, ?_⟩
              · simp only [go_sem, Nat.reduceAdd, Nat.reduceSub, Nat.reduceMul, Nat.reduceLeDiff, Nat.reduceEqDiff, Nat.reduceBEq, among_cons, among_nil, exA, exP, List.map_cons, List.map_nil, toA_eq, wo_eq]
              · simp only [go_sem, Nat.reduceAdd, Nat.reduceSub, Nat.reduceMul, Nat.reduceLeDiff, Nat.reduceEqDiff, Nat.reduceBEq]
              simp only [go_sem, Nat.reduceAdd, Nat.reduceSub, Nat.reduceMul, Nat.reduceLeDiff, Nat.reduceEqDiff, Nat.reduceBEq]
              refine EvK.go 1000 ?_
              simp only [go_sem, Nat.reduceAdd, Nat.reduceSub, Nat.reduceMul, Nat.reduceLeDiff, Nat.reduceEqDiff, Nat.reduceBEq]
              have hbool : (!(decide (c[j].l.val w (look vs row) = c[j].r.val w (look vs row)) == c[j].neg)) = c[j].holds w (look vs row) := by
                simp only [Li.holds]
                cases c[j].neg <;> by_cases e : c[j].l.val w (look vs row) = c[j].r.val w (look vs row) <;> simp [e]
              rw [Bool.false_or] at hah
              refine ⟨⟨j + 1, hjl'⟩, ?_, by simp only; omega⟩
              simp only [go_sem, Nat.reduceAdd, Nat.reduceSub, Nat.reduceMul, Nat.reduceLeDiff, Nat.reduceEqDiff, Nat.reduceBEq, lits_low, rowsA_low, ints_low, hρ19, hah, hbool]
              rw [i64_id (by omega)]
              exact ⟨rfl, by decide⟩
          · have hje : j = c.length := by omega
            subst hje
            rw [List.take_length]
            simp only [go_sem, Nat.reduceAdd, Nat.reduceSub, Nat.reduceMul, Nat.reduceLeDiff, Nat.reduceEqDiff, Nat.reduceBEq, hjl]
            refine EvK.go 1000 ?_
            cases hgo : anyHolds w (look vs row) c with
            | true =>
              simp only [go_sem, Nat.reduceAdd, Nat.reduceSub, Nat.reduceMul, Nat.reduceLeDiff, Nat.reduceEqDiff, Nat.reduceBEq]
              rw [rE_eq]
              exact ⟨rfl, [some (.var [.int .i64 w.size, .ps 1 (rowsA w.rows)]), some (.var [.ps 5 (lits c)]), some (.var [.nils]), some (.var [.bool false]), some (.var [.int .i64 0]), some (.var [.ps 1 (ints vs)]), some (.var [.int .i64 w.size]), some (.var [.int .i64 (vs.length : Nat)]), some (.loop (ρ.at .ready)), none, none, none, none, none, none, none, some (.row (ints row) 0)], by simp [go_sem], Nat.le_refl 17, hlowR, rfl, rfl⟩
            | false =>
              simp only [go_sem, Nat.reduceAdd, Nat.reduceSub, Nat.reduceMul, Nat.reduceLeDiff, Nat.reduceEqDiff, Nat.reduceBEq]
              rw [rE_eq]
              exact ⟨rfl, [some (.var [.int .i64 w.size, .ps 1 (rowsA w.rows)]), some (.var [.ps 5 (lits c)]), some (.var [.os 16 0 vs.length 1]), some (.var [.bool true]), some (.var [.int .i64 0]), some (.var [.ps 1 (ints vs)]), some (.var [.int .i64 w.size]), some (.var [.int .i64 (vs.length : Nat)]), some (.loop (ρ.at (.done .ret))), none, none, none, none, none, none, none, some (.row (ints row) 0)], by simp [go_sem], Nat.le_refl 17, hlowF, rfl, rfl⟩
  rintro r' σ2 ⟨rfl, (⟨n, hn, hpre, hstop, rfl⟩ | ⟨hpre, rfl⟩)⟩
  · rw [dK_eq, find_step hn (fun m hm => by rw [hpre m hm]; rfl) (by rw [hstop]; rfl)]
    refine ⟨[some (.var [.int .i64 w.size, .ps 1 (rowsA w.rows)]), some (.var [.ps 5 (lits c)]), some (.var [.os 16 0 vs.length 1]), some (.var [.bool true]), some (.var [.int .i64 0]), some (.var [.ps 1 (ints vs)]), some (.var [.int .i64 w.size]), some (.var [.int .i64 (vs.length : Nat)]), some (.loop (ρ.at (.done .ret))), none, none, none, none, none, none, none, some (.row (ints (digL w.size vs.length n)) 0)], leSo_refl _, (Nat.le_add_right 9 8 : 9 ≤ 17), ?_, trivial, ?_⟩
    · exact ⟨⟨trivial, rowsA_low _, trivial⟩, ⟨lits_low _, trivial⟩, ⟨Nat.lt_succ_self 16, trivial⟩, ⟨trivial, trivial⟩, ⟨trivial, trivial⟩, ⟨ints_low _, trivial⟩, ⟨trivial, trivial⟩, ⟨trivial, trivial⟩, lowL_mono (Nat.le_add_right 9 8) hρl, trivial, trivial, trivial, trivial, trivial, trivial, trivial, ints_low _, trivial⟩
    rw [rK_eq]
    refine ⟨.done .ret, rfl, ?_⟩
    rw [rD_ret]
    have hdl := digL_len w.size vs.length n
    refine EvK.go 1000 ?_
    simp only [go_sem, Nat.reduceAdd, Nat.reduceSub, Nat.reduceMul, Nat.reduceLeDiff, Nat.reduceEqDiff, Nat.reduceBEq, Option.map_some, ints_len, hdl]
    rw [List.take_of_length_le (by rw [ints_len, hdl]; exact Nat.le_refl _)]
    exact ⟨Nat.le_refl _, pTL_refl _ _ _⟩
  · rw [dK_eq, find_end (fun m hm => by rw [hpre m hm]; rfl)]
    refine ⟨[some (.var [.int .i64 w.size, .ps 1 (rowsA w.rows)]), some (.var [.ps 5 (lits c)]), some (.var [.nils]), some (.var [.bool false]), some (.var [.int .i64 0]), some (.var [.ps 1 (ints vs)]), some (.var [.int .i64 w.size]), some (.var [.int .i64 (vs.length : Nat)]), some (.loop (ρ.at .ready))], by simp [go_sem], Nat.le_refl 9, ?_, trivial, ?_⟩
    · exact ⟨⟨trivial, rowsA_low _, trivial⟩, ⟨lits_low _, trivial⟩, ⟨trivial, trivial⟩, ⟨trivial, trivial⟩, ⟨trivial, trivial⟩, ⟨ints_low _, trivial⟩, ⟨trivial, trivial⟩, ⟨trivial, trivial⟩, hρl, trivial⟩
    rw [rK_eq]
    refine ⟨.ready, rfl, ?_⟩
    rw [rD_ready]
    refine EvK.go 1000 ?_
    simp only [go_sem, Nat.reduceAdd, Nat.reduceSub, Nat.reduceMul, Nat.reduceLeDiff, Nat.reduceEqDiff, Nat.reduceBEq, Option.map_none, ints_nil]
end Go.Proofs

/- Words of a formula, one after the other, as the program goes through them. -/
set_option linter.unusedSimpArgs false
namespace Go.Proofs
open Go Go.Abs

theorem IndexWord_eq {ι : Type} (S : ι → Store) (n0 : Nat) (hS : ∀ x, (S x).length = n0) (c : AVal) (p : ι → Wd → Bool) (stp : ι → Wd → ι) (l : List Wd) (hl : l.length < 2 ^ 62) (hs : ∀ x, lowSo n0 (S x)) (hc : c.low n0)
    (hp : ∀ (i : Nat) (h : i < l.length) (x : ι), VCall Try.prog c [l[i].toA] (S x) (fun r σ' => r = .bool (p x l[i]) ∧ σ' = S (stp x l[i]))) (x0 : ι) :
    VCall Try.prog (.fn 113 [] []) [.ps 3 (l.map Wd.toA), c] (S x0) (fun r σ' => r = .int .i64 (idxS p stp l x0 0).1 ∧ σ' = S (idxS p stp l x0 0).2) := by
  refine VCall.begin (rs := [.tmp 4]) (m := 17) 1000 Try.func113 rfl rfl rfl rfl rfl ?_
  simp only [go_sem, Nat.reduceAdd, Nat.reduceSub, Nat.reduceMul, Nat.reduceLeDiff, Nat.reduceEqDiff, Nat.reduceBEq]
  refine EvK.loopI (ι := {y : Nat × ι // y.1 ≤ l.length ∧ idxS p stp (l.drop y.1) y.2 y.1 = idxS p stp l x0 0}) 1000 (fun y => mkT 19 [(0, .ps 3 (l.map Wd.toA)), (1, c), (7, .int .i64 l.length), (8, .int .i64 y.1.1)]) (fun y => S y.1.2) (fun y => l.length - y.1.1) ⟨(0, x0), by simp⟩ ?_ (fun y => by rw [hS, hS]; exact Nat.le_refl _) ?_
  · have h0 := hs x0
    simp only [go_sem, Nat.reduceAdd, Nat.reduceSub, Nat.reduceMul, Nat.reduceLeDiff, Nat.reduceEqDiff, Nat.reduceBEq, wds_low, List.length_map, hc, hS, h0, Int.natCast_zero]
    exact leSo_refl _
  · rintro ⟨⟨i, x⟩, hi, hpre⟩
    simp only at hi hpre
    have h0 := hs x
    by_cases hlt : (i : Int) < l.length
    · have hlt' : i < l.length := by omega
      have hd : idxS p stp (l.drop i) x i = if p x l[i] = true then ((i : Int), stp x l[i]) else idxS p stp (l.drop (i + 1)) (stp x l[i]) ((i : Int) + 1) := by
        rw [List.drop_eq_getElem_cons hlt']; rfl
      have h1 := hs (stp x l[i])
      simp only [go_sem, Nat.reduceAdd, Nat.reduceSub, Nat.reduceMul, Nat.reduceLeDiff, Nat.reduceEqDiff, Nat.reduceBEq, hlt, List.length_map, Int.toNat_natCast, map_getD hlt', wd_cells, Nat.le_refl]
      rw [← wd_eq]
      (repeat ((with_reducible refine And.intro ?_ ?_); · omega))
      refine (hp i hlt' x).mono ?_
      rintro r σ' ⟨rfl, rfl⟩
      refine EvK.go 1000 ?_
      cases e : p x l[i] with
      | true =>
        rw [hd, e, if_pos rfl] at hpre
        simp only [go_sem, Nat.reduceAdd, Nat.reduceSub, Nat.reduceMul, Nat.reduceLeDiff, Nat.reduceEqDiff, Nat.reduceBEq]
        refine EvK.go 1000 ?_
        simp only [go_sem, Nat.reduceAdd, Nat.reduceSub, Nat.reduceMul, Nat.reduceLeDiff, Nat.reduceEqDiff, Nat.reduceBEq, ← hpre]
        rw [dK_eq]; exact ⟨S (stp x l[i]), leSo_refl _, by rw [hS, hS]; exact Nat.le_refl _, by rw [hS]; exact h1, trivial, rfl, rfl⟩
      | false =>
        rw [hd, e, if_neg (by decide)] at hpre
        simp only [go_sem, Nat.reduceAdd, Nat.reduceSub, Nat.reduceMul, Nat.reduceLeDiff, Nat.reduceEqDiff, Nat.reduceBEq]
        refine ⟨⟨(i + 1, stp x l[i]), hlt', hpre⟩, ?_, by simp only; omega⟩
        simp only [go_sem, Nat.reduceAdd, Nat.reduceSub, Nat.reduceMul, Nat.reduceLeDiff, Nat.reduceEqDiff, Nat.reduceBEq, wds_low, hc, hS, h1]
        rw [i64_id (by omega)]; exact ⟨rfl, leSo_refl _⟩
    · have hi' : i = l.length := by omega
      subst hi'
      rw [List.drop_length] at hpre
      simp only [go_sem, Nat.reduceAdd, Nat.reduceSub, Nat.reduceMul, Nat.reduceLeDiff, Nat.reduceEqDiff, Nat.reduceBEq, hlt]
      refine EvK.go 1000 ?_
      simp only [go_sem, Nat.reduceAdd, Nat.reduceSub, Nat.reduceMul, Nat.reduceLeDiff, Nat.reduceEqDiff, Nat.reduceBEq, ← hpre]
      rw [dK_eq]; exact ⟨S x, leSo_refl _, by rw [hS, hS]; exact Nat.le_refl _, by rw [hS]; exact h0, trivial, rfl, rfl⟩

theorem ContainsWord_eq {ι : Type} (S : ι → Store) (n0 : Nat) (hS : ∀ x, (S x).length = n0) (c : AVal) (p : ι → Wd → Bool) (stp : ι → Wd → ι) (l : List Wd) (hl : l.length < 2 ^ 62) (hs : ∀ x, lowSo n0 (S x)) (hc : c.low n0)
    (hp : ∀ (i : Nat) (h : i < l.length) (x : ι), VCall Try.prog c [l[i].toA] (S x) (fun r σ' => r = .bool (p x l[i]) ∧ σ' = S (stp x l[i]))) (x0 : ι) :
    VCall Try.prog (.fn 108 [] []) [.ps 3 (l.map Wd.toA), c] (S x0) (fun r σ' => r = .bool (decide (0 ≤ (idxS p stp l x0 0).1)) ∧ σ' = S (idxS p stp l x0 0).2) := by
  refine VCall.begin (rs := [.tmp 4]) (m := 7) 1000 Try.func108 rfl rfl rfl rfl rfl ?_
  simp only [go_sem, Nat.reduceAdd, Nat.reduceSub, Nat.reduceMul, Nat.reduceLeDiff, Nat.reduceEqDiff, Nat.reduceBEq]
  refine (IndexWord_eq S n0 hS c p stp l hl hs hc hp x0).mono ?_
  rintro r σ' ⟨rfl, rfl⟩
  refine EvK.go 1000 ?_
  simp only [go_sem, Nat.reduceAdd, Nat.reduceSub, Nat.reduceMul, Nat.reduceLeDiff, Nat.reduceEqDiff, Nat.reduceBEq]
  rw [dK_eq]
  exact ⟨_, leSo_refl _, by rw [hS, hS]; exact Nat.le_refl _, by rw [hS]; exact hs _, trivial, rfl, rfl⟩

theorem IndexForm_eq {ι : Type} (S : ι → Store) (n0 : Nat) (hS : ∀ x, (S x).length = n0) (c : AVal) (p : ι → Fo → Bool) (stp : ι → Fo → ι) (l : List Fo) (hl : l.length < 2 ^ 62) (hs : ∀ x, lowSo n0 (S x)) (hc : c.low n0)
    (hp : ∀ (i : Nat) (h : i < l.length) (x : ι), VCall Try.prog c [l[i].toA] (S x) (fun r σ' => r = .bool (p x l[i]) ∧ σ' = S (stp x l[i]))) (x0 : ι) :
    VCall Try.prog (.fn 110 [] []) [.ps 9 (l.map Fo.toA), c] (S x0) (fun r σ' => r = .int .i64 (idxS p stp l x0 0).1 ∧ σ' = S (idxS p stp l x0 0).2) := by
  refine VCall.begin (rs := [.tmp 4]) (m := 17) 1000 Try.func110 rfl rfl rfl rfl rfl ?_
  simp only [go_sem, Nat.reduceAdd, Nat.reduceSub, Nat.reduceMul, Nat.reduceLeDiff, Nat.reduceEqDiff, Nat.reduceBEq]
  refine EvK.loopI (ι := {y : Nat × ι // y.1 ≤ l.length ∧ idxS p stp (l.drop y.1) y.2 y.1 = idxS p stp l x0 0}) 1000 (fun y => mkT 19 [(0, .ps 9 (l.map Fo.toA)), (1, c), (7, .int .i64 l.length), (8, .int .i64 y.1.1)]) (fun y => S y.1.2) (fun y => l.length - y.1.1) ⟨(0, x0), by simp⟩ ?_ (fun y => by rw [hS, hS]; exact Nat.le_refl _) ?_
  · have h0 := hs x0
    simp only [go_sem, Nat.reduceAdd, Nat.reduceSub, Nat.reduceMul, Nat.reduceLeDiff, Nat.reduceEqDiff, Nat.reduceBEq, fos_low, List.length_map, hc, hS, h0, Int.natCast_zero]
    exact leSo_refl _
  · rintro ⟨⟨i, x⟩, hi, hpre⟩
    simp only at hi hpre
    have h0 := hs x
    by_cases hlt : (i : Int) < l.length
    · have hlt' : i < l.length := by omega
      have hd : idxS p stp (l.drop i) x i = if p x l[i] = true then ((i : Int), stp x l[i]) else idxS p stp (l.drop (i + 1)) (stp x l[i]) ((i : Int) + 1) := by
        rw [List.drop_eq_getElem_cons hlt']; rfl
      have h1 := hs (stp x l[i])
      simp only [go_sem, Nat.reduceAdd, Nat.reduceSub, Nat.reduceMul, Nat.reduceLeDiff, Nat.reduceEqDiff, Nat.reduceBEq, hlt, List.length_map, Int.toNat_natCast, map_getD hlt', fo_cells, Nat.le_refl]
      rw [← fo_eq]
      (repeat ((with_reducible refine And.intro ?_ ?_); · omega))
      refine (hp i hlt' x).mono ?_
      rintro r σ' ⟨rfl, rfl⟩
      refine EvK.go 1000 ?_
      cases e : p x l[i] with
      | true =>
        rw [hd, e, if_pos rfl] at hpre
        simp only [go_sem, Nat.reduceAdd, Nat.reduceSub, Nat.reduceMul, Nat.reduceLeDiff, Nat.reduceEqDiff, Nat.reduceBEq]
        refine EvK.go 1000 ?_
        simp only [go_sem, Nat.reduceAdd, Nat.reduceSub, Nat.reduceMul, Nat.reduceLeDiff, Nat.reduceEqDiff, Nat.reduceBEq, ← hpre]
        rw [dK_eq]; exact ⟨S (stp x l[i]), leSo_refl _, by rw [hS, hS]; exact Nat.le_refl _, by rw [hS]; exact h1, trivial, rfl, rfl⟩
      | false =>
        rw [hd, e, if_neg (by decide)] at hpre
        simp only [go_sem, Nat.reduceAdd, Nat.reduceSub, Nat.reduceMul, Nat.reduceLeDiff, Nat.reduceEqDiff, Nat.reduceBEq]
        refine ⟨⟨(i + 1, stp x l[i]), hlt', hpre⟩, ?_, by simp only; omega⟩
        simp only [go_sem, Nat.reduceAdd, Nat.reduceSub, Nat.reduceMul, Nat.reduceLeDiff, Nat.reduceEqDiff, Nat.reduceBEq, fos_low, hc, hS, h1]
        rw [i64_id (by omega)]; exact ⟨rfl, leSo_refl _⟩
    · have hi' : i = l.length := by omega
      subst hi'
      rw [List.drop_length] at hpre
      simp only [go_sem, Nat.reduceAdd, Nat.reduceSub, Nat.reduceMul, Nat.reduceLeDiff, Nat.reduceEqDiff, Nat.reduceBEq, hlt]
      refine EvK.go 1000 ?_
      simp only [go_sem, Nat.reduceAdd, Nat.reduceSub, Nat.reduceMul, Nat.reduceLeDiff, Nat.reduceEqDiff, Nat.reduceBEq, ← hpre]
      rw [dK_eq]; exact ⟨S x, leSo_refl _, by rw [hS, hS]; exact Nat.le_refl _, by rw [hS]; exact h0, trivial, rfl, rfl⟩

theorem ContainsForm_eq {ι : Type} (S : ι → Store) (n0 : Nat) (hS : ∀ x, (S x).length = n0) (c : AVal) (p : ι → Fo → Bool) (stp : ι → Fo → ι) (l : List Fo) (hl : l.length < 2 ^ 62) (hs : ∀ x, lowSo n0 (S x)) (hc : c.low n0)
    (hp : ∀ (i : Nat) (h : i < l.length) (x : ι), VCall Try.prog c [l[i].toA] (S x) (fun r σ' => r = .bool (p x l[i]) ∧ σ' = S (stp x l[i]))) (x0 : ι) :
    VCall Try.prog (.fn 99 [] []) [.ps 9 (l.map Fo.toA), c] (S x0) (fun r σ' => r = .bool (decide (0 ≤ (idxS p stp l x0 0).1)) ∧ σ' = S (idxS p stp l x0 0).2) := by
  refine VCall.begin (rs := [.tmp 4]) (m := 7) 1000 Try.func99 rfl rfl rfl rfl rfl ?_
  simp only [go_sem, Nat.reduceAdd, Nat.reduceSub, Nat.reduceMul, Nat.reduceLeDiff, Nat.reduceEqDiff, Nat.reduceBEq]
  refine (IndexForm_eq S n0 hS c p stp l hl hs hc hp x0).mono ?_
  rintro r σ' ⟨rfl, rfl⟩
  refine EvK.go 1000 ?_
  simp only [go_sem, Nat.reduceAdd, Nat.reduceSub, Nat.reduceMul, Nat.reduceLeDiff, Nat.reduceEqDiff, Nat.reduceBEq]
  rw [dK_eq]
  exact ⟨_, leSo_refl _, by rw [hS, hS]; exact Nat.le_refl _, by rw [hS]; exact hs _, trivial, rfl, rfl⟩

theorem Each_eq {ι : Type} (b0 b1 b2 b3 b4 b5 b6 b7 : ι → Option Blk) (gs : FuncId) (cap : List AVal) (hcap : lowL 8 cap) (go : ι → Wd → Bool) (stp : ι → Wd → ι) (hs : ∀ x, lowSo 8 [b0 (x), b1 (x), b2 (x), b3 (x), b4 (x), b5 (x), b6 (x), b7 (x)])
    (hy : ∀ x (w : Wd), VCall Try.prog (.fn gs [] cap) [w.toA] [b0 (x), b1 (x), b2 (x), b3 (x), b4 (x), b5 (x), b6 (x), b7 (x)] (fun r σ' => r = .bool (go x w) ∧ σ' = [b0 (stp x w), b1 (stp x w), b2 (stp x w), b3 (stp x w), b4 (stp x w), b5 (stp x w), b6 (stp x w), b7 (stp x w)])) (w : Wd) :
    w.size < 2 ^ 62 → ∀ x, VCall Try.prog (.fn 96 [] []) [w.toA, .fn gs [] cap] [b0 (x), b1 (x), b2 (x), b3 (x), b4 (x), b5 (x), b6 (x), b7 (x)] (fun r σ' => r = .bool (w.each go stp x).1 ∧ σ' = [b0 ((w.each go stp x).2), b1 ((w.each go stp x).2), b2 ((w.each go stp x).2), b3 ((w.each go stp x).2), b4 ((w.each go stp x).2), b5 ((w.each go stp x).2), b6 ((w.each go stp x).2), b7 ((w.each go stp x).2)]) := by
  induction w using Wd.rec_args with
  | h v n l ih =>
  intro hsz x
  simp only [Wd.size] at hsz
  have hlen := wlen_le l
  refine VCall.begin (rs := [.tmp 4]) (m := 12) 1000 Try.func96 rfl rfl rfl rfl rfl ?_
  simp only [go_sem, Nat.reduceAdd, Nat.reduceSub, Nat.reduceMul, Nat.reduceLeDiff, Nat.reduceEqDiff, Nat.reduceBEq, wd_eq, Wd.var, Wd.name, Wd.args]
  rw [wd_mk]
  have hcap10 : ∀ k, lowL (8 + k) cap := fun k => lowL_mono (by omega) hcap
  refine VCall.tail (σ := [b0 (x), b1 (x), b2 (x), b3 (x), b4 (x), b5 (x), b6 (x), b7 (x)]) (τ := [some (.var [.bool v, .str n, .ps 3 (l.map Wd.toA)]), some (.var [.fn gs [] cap])]) ⟨trivial, hcap⟩ (by simp [go_sem, wd_low]) (hs x) ?_
  refine (hy x (.mk v n l)).mono ?_
  rintro r σ' ⟨rfl, rfl⟩
  refine ⟨rfl, ?_⟩
  refine EvK.go 1000 ?_
  cases hg : go x (.mk v n l) with
  | false =>
    have he : Wd.each go stp (.mk v n l) x = (false, stp x (.mk v n l)) := by rw [Wd.each, hg, if_neg (by decide)]
    rw [he]
    simp only [go_sem, Nat.reduceAdd, Nat.reduceSub, Nat.reduceMul, Nat.reduceLeDiff, Nat.reduceEqDiff, Nat.reduceBEq]
    rw [dK_eq]
    exact ⟨[b0 (stp x (.mk v n l)), b1 (stp x (.mk v n l)), b2 (stp x (.mk v n l)), b3 (stp x (.mk v n l)), b4 (stp x (.mk v n l)), b5 (stp x (.mk v n l)), b6 (stp x (.mk v n l)), b7 (stp x (.mk v n l))], by simp [go_sem], Nat.le_refl _, hs _, trivial, rfl, rfl⟩
  | true =>
    have he : Wd.each go stp (.mk v n l) x = Wd.eachL go stp l (stp x (.mk v n l)) := by rw [Wd.each, hg, if_pos rfl]
    rw [he]
    generalize stp x (.mk v n l) = x1
    simp only [go_sem, Nat.reduceAdd, Nat.reduceSub, Nat.reduceMul, Nat.reduceLeDiff, Nat.reduceEqDiff, Nat.reduceBEq]
    refine (ContainsWord_eq (fun x => [b0 (x), b1 (x), b2 (x), b3 (x), b4 (x), b5 (x), b6 (x), b7 (x), some (.var [.bool v, .str n, .ps 3 (l.map Wd.toA)]), some (.var [.fn gs [] cap])]) 10 (fun _ => rfl) (.fn 109 [] [.ptr 9 0]) (fun x a => !(a.each go stp x).1) (fun x a => (a.each go stp x).2) l (by omega) (fun x => ?_) (by simp [go_sem]) (fun i hi x => ?_) x1).mono ?_
    · exact lowSo_app (σ := [b0 (x), b1 (x), b2 (x), b3 (x), b4 (x), b5 (x), b6 (x), b7 (x)]) (lowSo_mono (by decide) (hs x)) ⟨⟨trivial, trivial, wds_low _, trivial⟩, ⟨⟨trivial, hcap10 2⟩, trivial⟩, trivial⟩
    · refine VCall.begin (rs := [.tmp 3]) (m := 6) 1000 Try.func109 rfl rfl rfl rfl rfl ?_
      simp only [go_sem, Nat.reduceAdd, Nat.reduceSub, Nat.reduceMul, Nat.reduceLeDiff, Nat.reduceEqDiff, Nat.reduceBEq, wd_eq, Nat.le_refl]
      rw [← wd_eq]
      have hsz2 := wsize_le l i hi
      refine VCall.tail (σ := [b0 (x), b1 (x), b2 (x), b3 (x), b4 (x), b5 (x), b6 (x), b7 (x)]) (τ := [some (.var [.bool v, .str n, .ps 3 (l.map Wd.toA)]), some (.var [.fn gs [] cap]), some (.var [.bool l[i].var, .str l[i].name, .ps 3 (l[i].args.map Wd.toA)])]) ⟨trivial, trivial⟩ (by simp [go_sem, wd_low, hcap]) (hs x) ?_
      refine (ih i hi (by omega) x).mono ?_
      rintro r σ' ⟨rfl, rfl⟩
      refine ⟨rfl, ?_⟩
      refine EvK.go 1000 ?_
      simp only [go_sem, Nat.reduceAdd, Nat.reduceSub, Nat.reduceMul, Nat.reduceLeDiff, Nat.reduceEqDiff, Nat.reduceBEq]
      rw [dK_eq]
      exact ⟨[b0 ((l[i].each go stp x).2), b1 ((l[i].each go stp x).2), b2 ((l[i].each go stp x).2), b3 ((l[i].each go stp x).2), b4 ((l[i].each go stp x).2), b5 ((l[i].each go stp x).2), b6 ((l[i].each go stp x).2), b7 ((l[i].each go stp x).2), some (.var [.bool v, .str n, .ps 3 (l.map Wd.toA)]), some (.var [.fn gs [] cap])], by simp [go_sem], Nat.le_refl _, lowSo_app (σ := [b0 ((l[i].each go stp x).2), b1 ((l[i].each go stp x).2), b2 ((l[i].each go stp x).2), b3 ((l[i].each go stp x).2), b4 ((l[i].each go stp x).2), b5 ((l[i].each go stp x).2), b6 ((l[i].each go stp x).2), b7 ((l[i].each go stp x).2)]) (lowSo_mono (Nat.le_add_right 8 2) (hs _)) ⟨⟨trivial, trivial, wds_low _, trivial⟩, ⟨⟨trivial, hcap10 2⟩, trivial⟩, trivial⟩, trivial, rfl, rfl⟩
    rintro r σ' ⟨rfl, rfl⟩
    rw [eachL_idx go stp l x1 0 (by omega)]
    generalize idxS (fun x a => !(Wd.each go stp a x).1) (fun x a => (Wd.each go stp a x).2) l x1 0 = z
    refine EvK.go 1000 ?_
    simp only [go_sem, Nat.reduceAdd, Nat.reduceSub, Nat.reduceMul, Nat.reduceLeDiff, Nat.reduceEqDiff, Nat.reduceBEq]
    rw [dK_eq]
    exact ⟨[b0 (z.2), b1 (z.2), b2 (z.2), b3 (z.2), b4 (z.2), b5 (z.2), b6 (z.2), b7 (z.2)], by simp [go_sem], Nat.le_refl _, hs _, trivial, rfl, rfl⟩
end Go.Proofs
