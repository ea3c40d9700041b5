/- Part 34 of my own framework and of the walks of functions: Pk, Pl. -/
import Derived.Test.YtcbheeddfginoaaOwn33
set_option linter.unusedVariables false
set_option linter.unusedSimpArgs false

/- Functions over functions: where the first one stands of which something is so. -/
set_option linter.unusedSimpArgs false
namespace Go.Proofs
open Go Go.Abs

/-- The place of the first so that it is so, or -1. -/
def idxF {α : Type} (p : α → Bool) : List α → Int → Int
  | [], _ => -1
  | a :: l, i => if p a then i else idxF p l (i + 1)
theorem idxF_any {α : Type} (p : α → Bool) : ∀ (l : List α) (i : Int), 0 ≤ i → decide (0 ≤ idxF p l i) = l.any p
  | [], i, _ => by simp [idxF]
  | a :: l, i, h => by
    simp only [idxF, List.any_cons]
    by_cases c : p a = true
    · simp [c, h]
    · rw [Bool.not_eq_true] at c
      simp only [c, Bool.false_eq_true, if_false, Bool.false_or]; exact idxF_any p l (i + 1) (by omega)

theorem IndexSym_eq (σ : Store) (c : AVal) (p : Sy → Bool) (l : List Sy) (hl : l.length < 2 ^ 62) (hs : lowSo σ.length σ) (hc : c.low σ.length)
    (hp : ∀ (i : Nat) (h : i < l.length), VCall Try.prog c [l[i].toA] σ (fun r σ' => r = .bool (p l[i]) ∧ σ' = σ)) :
    VCall Try.prog (.fn 93 [] []) [.ps 4 (syms l), c] σ (fun r σ' => r = .int .i64 (idxF p l 0) ∧ σ' = σ) := by
  refine VCall.begin (rs := [.tmp 4]) (m := 17) 1000 Try.func93 rfl rfl rfl rfl rfl ?_
  simp only [go_sem, Nat.reduceAdd, Nat.reduceSub, Nat.reduceMul, Nat.reduceLeDiff, Nat.reduceEqDiff, Nat.reduceBEq]
  refine EvK.loopI (ι := {i : Nat // i ≤ l.length ∧ idxF p (l.drop i) i = idxF p l 0}) 1000 (fun i => mkT 19 [(0, .ps 4 (syms l)), (1, c), (7, .int .i64 l.length), (8, .int .i64 i.1)]) (fun _ => σ) (fun i => l.length - i.1) ⟨0, by simp⟩ ?_ (fun _ => Nat.le_refl _) ?_
  · simp only [go_sem, Nat.reduceAdd, Nat.reduceSub, Nat.reduceMul, Nat.reduceLeDiff, Nat.reduceEqDiff, Nat.reduceBEq, syms_low, syms_len, hc, hs, Int.natCast_zero]
    exact leSo_refl σ
  · rintro ⟨i, hi, hpre⟩
    by_cases hlt : (i : Int) < l.length
    · have hlt' : i < l.length := by omega
      have hd : idxF p (l.drop i) i = if p l[i] then (i : Int) else idxF p (l.drop (i + 1)) ((i : Int) + 1) := by
        rw [List.drop_eq_getElem_cons hlt']; rfl
      simp only [go_sem, Nat.reduceAdd, Nat.reduceSub, Nat.reduceMul, Nat.reduceLeDiff, Nat.reduceEqDiff, Nat.reduceBEq, hlt, syms_len, Int.toNat_natCast, syms_get hlt', sy_cells, Nat.le_refl]
      (repeat ((with_reducible refine And.intro ?_ ?_); · omega))
      refine (hp i hlt').mono ?_
      rintro r σ' ⟨rfl, rfl⟩
      refine EvK.go 1000 ?_
      cases e : p l[i] with
      | true =>
        rw [hd, e, if_pos rfl] at hpre
        simp only [go_sem, Nat.reduceAdd, Nat.reduceSub, Nat.reduceMul, Nat.reduceLeDiff, Nat.reduceEqDiff, Nat.reduceBEq]
        refine EvK.go 1000 ?_
        simp only [go_sem, Nat.reduceAdd, Nat.reduceSub, Nat.reduceMul, Nat.reduceLeDiff, Nat.reduceEqDiff, Nat.reduceBEq, ← hpre]
        rw [dK_eq]; exact ⟨σ', leSo_refl σ', Nat.le_refl _, hs, trivial, rfl, rfl⟩
      | false =>
        rw [hd, e, if_neg (by decide)] at hpre
        simp only [go_sem, Nat.reduceAdd, Nat.reduceSub, Nat.reduceMul, Nat.reduceLeDiff, Nat.reduceEqDiff, Nat.reduceBEq]
        refine ⟨⟨i + 1, hlt', hpre⟩, ?_, by simp only; omega⟩
        simp only [go_sem, Nat.reduceAdd, Nat.reduceSub, Nat.reduceMul, Nat.reduceLeDiff, Nat.reduceEqDiff, Nat.reduceBEq, syms_low, hc, hs]
        rw [i64_id (by omega)]; exact ⟨rfl, leSo_refl σ'⟩
    · have hi' : i = l.length := by omega
      subst hi'
      rw [List.drop_length] at hpre
      simp only [go_sem, Nat.reduceAdd, Nat.reduceSub, Nat.reduceMul, Nat.reduceLeDiff, Nat.reduceEqDiff, Nat.reduceBEq, hlt]
      refine EvK.go 1000 ?_
      simp only [go_sem, Nat.reduceAdd, Nat.reduceSub, Nat.reduceMul, Nat.reduceLeDiff, Nat.reduceEqDiff, Nat.reduceBEq, ← hpre]
      rw [dK_eq]; exact ⟨σ, leSo_refl σ, Nat.le_refl _, hs, trivial, rfl, rfl⟩

theorem ContainsSym_eq (σ : Store) (c : AVal) (p : Sy → Bool) (l : List Sy) (hl : l.length < 2 ^ 62) (hs : lowSo σ.length σ) (hc : c.low σ.length)
    (hp : ∀ (i : Nat) (h : i < l.length), VCall Try.prog c [l[i].toA] σ (fun r σ' => r = .bool (p l[i]) ∧ σ' = σ)) :
    VCall Try.prog (.fn 71 [] []) [.ps 4 (syms l), c] σ (fun r σ' => r = .bool (l.any p) ∧ σ' = σ) := by
  refine VCall.begin (rs := [.tmp 4]) (m := 7) 1000 Try.func71 rfl rfl rfl rfl rfl ?_
  simp only [go_sem, Nat.reduceAdd, Nat.reduceSub, Nat.reduceMul, Nat.reduceLeDiff, Nat.reduceEqDiff, Nat.reduceBEq]
  refine (IndexSym_eq σ c p l hl hs hc hp).mono ?_
  rintro r σ' ⟨rfl, rfl⟩
  refine EvK.go 1000 ?_
  simp only [go_sem, Nat.reduceAdd, Nat.reduceSub, Nat.reduceMul, Nat.reduceLeDiff, Nat.reduceEqDiff, Nat.reduceBEq]
  rw [dK_eq, idxF_any p l 0 (by omega)]; exact ⟨σ', leSo_refl σ', Nat.le_refl _, hs, trivial, rfl, rfl⟩
end Go.Proofs

/- Right signatures, as the program tells them. -/
set_option linter.unusedSimpArgs false
namespace Go.Proofs
open Go Go.Abs

theorem SameName_eq (x y : Sy) : VCall Try.prog (.fn 72 [] [.ptr 0 0]) [y.toA] [some (.var [.str x.name, .int .i64 x.arity, .int .i64 x.weight, .bool x.truth])]
    (fun r σ' => r = .bool (y.name.toList == x.name.toList) ∧ σ' = [some (.var [.str x.name, .int .i64 x.arity, .int .i64 x.weight, .bool x.truth])]) := by
  refine VCall.begin (rs := [.tmp 3]) (m := 7) 1000 Try.func72 rfl rfl rfl rfl rfl ?_
  simp only [go_sem, Nat.reduceAdd, Nat.reduceSub, Nat.reduceMul, Nat.reduceLeDiff, Nat.reduceEqDiff, Nat.reduceBEq, sy_eq]
  rw [dK_eq]
  exact ⟨[some (.var [.str x.name, .int .i64 x.arity, .int .i64 x.weight, .bool x.truth])], by simp [go_sem], Nat.le_refl _, by simp [go_sem], trivial, rfl, rfl⟩

theorem CheckSig_eq (g : List Sy) : CallEq Try.prog 45 [.ps 4 (syms g)] (.int .i64 (if sigOk g then 0 else 1)) := by
  refine CallEq.begin (rs := [.tmp 2]) (m := 65) 1000 Try.func45 rfl rfl rfl (by decide) trivial ?_
  by_cases c1 : (g.length : Int) < 1
  · simp only [go_sem, Nat.reduceAdd, Nat.reduceSub, Nat.reduceMul, Nat.reduceLeDiff, Nat.reduceEqDiff, Nat.reduceBEq, syms_len, c1, sigOk]
  by_cases c2 : 256 < (g.length : Int)
  · simp only [go_sem, Nat.reduceAdd, Nat.reduceSub, Nat.reduceMul, Nat.reduceLeDiff, Nat.reduceEqDiff, Nat.reduceBEq, syms_len, c1, c2, sigOk]
  have h0 : 0 < g.length := by omega
  have e0 : (syms g).getD 0 .undef = g[0].toA := syms_get h0
  have f1 : decide ((g.length : Int) < 1) = false := decide_eq_false c1
  have f2 : decide (256 < (g.length : Int)) = false := decide_eq_false c2
  have hsg : sigOk g = ((List.range g.length).all (okAt g) && isTrue g[0]) := by rw [sigOk, f1, f2, getD_at h0]; simp
  have bad : ∀ i, i < g.length → okAt g i = false → sigOk g = false := fun i hi hb => by
    rw [hsg, all_false_at (p := okAt g) hi hb]; rfl
  have hT : (g[0].name.toList == ByteArray.toList { data := #[36, 116, 114, 117, 101] } && (g[0].arity == 0 && (g[0].weight == 1 && g[0].truth == true))) = isTrue g[0] := by simp [isTrue, trueName]
  simp only [go_sem, Nat.reduceAdd, Nat.reduceSub, Nat.reduceMul, Nat.reduceLeDiff, Nat.reduceEqDiff, Nat.reduceBEq, syms_len, c1, c2, Int.toNat_zero, e0, sy_cells, Nat.le_refl, kaV_str, eqCells, eqCell, hT]
  refine ⟨by omega, fun h => ?_, fun h => ?_⟩
  · have hf : isTrue g[0] = false := by simpa using h
    have : sigOk g = false := by rw [hsg, hf, Bool.and_false]
    rw [this]; rfl
  have hTt : isTrue g[0] = true := by simpa using h
  simp only [go_sem, Nat.reduceAdd, Nat.reduceSub, Nat.reduceMul, Nat.reduceLeDiff, Nat.reduceEqDiff, Nat.reduceBEq, hTt]
  refine EvK.loopI (ι := {i : Nat // i ≤ g.length ∧ (List.range i).all (okAt g) = true}) 1000 (fun i => mkT 66 [(0, .ps 4 (syms g)), (21, .ps 4 (syms g)), (22, .int .i64 g.length), (23, .int .i64 i.1)]) (fun _ => []) (fun i => g.length - i.1) ⟨0, by simp⟩ ?_ (fun _ => Nat.zero_le _) ?_
  · simp only [go_sem, Nat.reduceAdd, Nat.reduceSub, Nat.reduceMul, Nat.reduceLeDiff, Nat.reduceEqDiff, Nat.reduceBEq, syms_low, Int.natCast_zero, syms_len]
  · rintro ⟨i, hi, hpre⟩
    by_cases hlt : (i : Int) < g.length
    · have hlt' : i < g.length := by omega
      have hga := getD_at hlt'
      have hg0 : (syms g).getD i .undef = g[i].toA := syms_get hlt'
      have htk : List.take i (syms g) = syms (g.take i) := by simp [syms, List.map_take]
      generalize hx : g[i] = x at hga hg0
      simp only [go_sem, Nat.reduceAdd, Nat.reduceSub, Nat.reduceMul, Nat.reduceLeDiff, Nat.reduceEqDiff, Nat.reduceBEq, syms_len, hlt, Int.toNat_natCast, hg0, sy_cells, Nat.le_refl]
      (repeat ((with_reducible refine And.intro ?_ ?_); · omega))
      rw [show List.take (i - 0) (syms g) = syms (g.take i) from htk]
      refine (ContainsSym_eq _ _ (fun y => y.name.toList == x.name.toList) (g.take i) (by rw [List.length_take]; omega) ?_ ?_ ?_).mono ?_
      · simp [go_sem]
      · simp [go_sem]
      · exact fun j hj => SameName_eq x _
      rintro r σ' ⟨rfl, rfl⟩
      refine EvK.go 1000 ?_
      have hfr : fresh g i = !(g.take i).any (fun y => y.name.toList == x.name.toList) := by
        rw [fresh, hga, List.all_eq_not_any_not]; simp
      have hok : okAt g i = (x.right && !(g.take i).any (fun y => y.name.toList == x.name.toList)) := by rw [okAt, hga, hfr]
      have hbad : ∀ (hb : x.right = false ∨ (g.take i).any (fun y => y.name.toList == x.name.toList) = true), (if sigOk g = true then (0 : Int) else 1) = 1 := fun hb => by
        rw [bad i hlt' (by rw [hok]; rcases hb with h | h <;> simp [h])]; rfl
      generalize (g.take i).any (fun y => y.name.toList == x.name.toList) = tw at *
      by_cases d1 : (x.name.size : Int) < 1
      · simp only [go_sem, Nat.reduceAdd, Nat.reduceSub, Nat.reduceMul, Nat.reduceLeDiff, Nat.reduceEqDiff, Nat.reduceBEq, emptyName, d1]
        refine EvK.go 1000 ?_
        simp only [go_sem, Nat.reduceAdd, Nat.reduceSub, Nat.reduceMul, Nat.reduceLeDiff, Nat.reduceEqDiff, Nat.reduceBEq, hbad (.inl (sym_bad (.inl d1)))]
      by_cases d2 : 64 < (x.name.size : Int)
      · simp only [go_sem, Nat.reduceAdd, Nat.reduceSub, Nat.reduceMul, Nat.reduceLeDiff, Nat.reduceEqDiff, Nat.reduceBEq, emptyName, d1, d2]
        refine EvK.go 1000 ?_
        simp only [go_sem, Nat.reduceAdd, Nat.reduceSub, Nat.reduceMul, Nat.reduceLeDiff, Nat.reduceEqDiff, Nat.reduceBEq, hbad (.inl (sym_bad (.inr (.inl d2))))]
      cases tw with
      | true =>
        simp only [go_sem, Nat.reduceAdd, Nat.reduceSub, Nat.reduceMul, Nat.reduceLeDiff, Nat.reduceEqDiff, Nat.reduceBEq, emptyName, d1, d2]
        refine EvK.go 1000 ?_
        simp only [go_sem, Nat.reduceAdd, Nat.reduceSub, Nat.reduceMul, Nat.reduceLeDiff, Nat.reduceEqDiff, Nat.reduceBEq, hbad (.inr rfl)]
      | false =>
      by_cases d3 : x.arity < 0
      · simp only [go_sem, Nat.reduceAdd, Nat.reduceSub, Nat.reduceMul, Nat.reduceLeDiff, Nat.reduceEqDiff, Nat.reduceBEq, emptyName, d1, d2, d3]
        refine EvK.go 1000 ?_
        simp only [go_sem, Nat.reduceAdd, Nat.reduceSub, Nat.reduceMul, Nat.reduceLeDiff, Nat.reduceEqDiff, Nat.reduceBEq, hbad (.inl (sym_bad (.inr (.inr (.inl d3)))))]
      by_cases d4 : 8 < x.arity
      · simp only [go_sem, Nat.reduceAdd, Nat.reduceSub, Nat.reduceMul, Nat.reduceLeDiff, Nat.reduceEqDiff, Nat.reduceBEq, emptyName, d1, d2, d3, d4]
        refine EvK.go 1000 ?_
        simp only [go_sem, Nat.reduceAdd, Nat.reduceSub, Nat.reduceMul, Nat.reduceLeDiff, Nat.reduceEqDiff, Nat.reduceBEq, hbad (.inl (sym_bad (.inr (.inr (.inr (.inl d4))))))]
      by_cases d5 : x.weight < 1
      · simp only [go_sem, Nat.reduceAdd, Nat.reduceSub, Nat.reduceMul, Nat.reduceLeDiff, Nat.reduceEqDiff, Nat.reduceBEq, emptyName, d1, d2, d3, d4, d5]
        refine EvK.go 1000 ?_
        simp only [go_sem, Nat.reduceAdd, Nat.reduceSub, Nat.reduceMul, Nat.reduceLeDiff, Nat.reduceEqDiff, Nat.reduceBEq, hbad (.inl (sym_bad (.inr (.inr (.inr (.inr (.inl d5)))))))]
      by_cases d6 : 1000 < x.weight
      · simp only [go_sem, Nat.reduceAdd, Nat.reduceSub, Nat.reduceMul, Nat.reduceLeDiff, Nat.reduceEqDiff, Nat.reduceBEq, emptyName, d1, d2, d3, d4, d5, d6]
        refine EvK.go 1000 ?_
        simp only [go_sem, Nat.reduceAdd, Nat.reduceSub, Nat.reduceMul, Nat.reduceLeDiff, Nat.reduceEqDiff, Nat.reduceBEq, hbad (.inl (sym_bad (.inr (.inr (.inr (.inr (.inr d6)))))))]
      have hxr := sym_good ⟨d1, d2, d3, d4, d5, d6⟩
      simp only [go_sem, Nat.reduceAdd, Nat.reduceSub, Nat.reduceMul, Nat.reduceLeDiff, Nat.reduceEqDiff, Nat.reduceBEq, emptyName, d1, d2, d3, d4, d5, d6]
      refine ⟨⟨i + 1, hlt', by rw [range_all_snoc, hpre, hok, hxr]; rfl⟩, ?_, by simp only; omega⟩
      simp only [go_sem, Nat.reduceAdd, Nat.reduceSub, Nat.reduceMul, Nat.reduceLeDiff, Nat.reduceEqDiff, Nat.reduceBEq, syms_low, syms_len]
      rw [i64_id (by omega)]; rfl
    · have hi' : i = g.length := by omega
      simp only [go_sem, Nat.reduceAdd, Nat.reduceSub, Nat.reduceMul, Nat.reduceLeDiff, Nat.reduceEqDiff, Nat.reduceBEq, hlt]
      subst hi'
      refine EvK.go 1000 ?_
      rw [hsg, hpre, hTt]
      simp only [go_sem, Nat.reduceAdd, Nat.reduceSub, Nat.reduceMul, Nat.reduceLeDiff, Nat.reduceEqDiff, Nat.reduceBEq]
end Go.Proofs
