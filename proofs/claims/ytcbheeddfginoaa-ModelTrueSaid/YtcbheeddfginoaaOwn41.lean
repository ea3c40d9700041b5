/- Part 41 of my own framework and of the walks of functions: Px. -/
import Derived.Test.YtcbheeddfginoaaOwn40
set_option linter.unusedVariables false
set_option linter.unusedSimpArgs false

/- How great a formula is, and whether it is right, as the program tells it. -/
set_option linter.unusedSimpArgs false
namespace Go.Proofs
open Go Go.Abs

theorem Own_eq (f : Fo) : CallEq Try.prog 95 [f.toA] (.ps 3 (f.own.map Wd.toA)) := by
  refine CallEq.begin (rs := [.tmp 2]) (m := 16) 1000 Try.func95 rfl rfl rfl (by decide) (wds_low _) ?_
  by_cases c0 : f.kind = 0
  · simp only [go_sem, Nat.reduceAdd, Nat.reduceSub, Nat.reduceMul, Nat.reduceLeDiff, Nat.reduceEqDiff, Nat.reduceBEq, fo_eq, c0, Fo.own, Nat.le_refl]
    exact ⟨by decide, by rw [wd_eq]; exact pT_refl _ _ _⟩
  by_cases c1 : f.kind = 1
  · simp only [go_sem, Nat.reduceAdd, Nat.reduceSub, Nat.reduceMul, Nat.reduceLeDiff, Nat.reduceEqDiff, Nat.reduceBEq, fo_eq, c0, c1, Fo.own, Nat.le_refl, Int.reduceEq, List.map_cons, List.map_nil]
    exact ⟨by decide, by rw [wd_eq]; exact pT_refl _ _ _, by rw [wd_eq]; exact pT_refl _ _ _⟩
  · simp only [go_sem, Nat.reduceAdd, Nat.reduceSub, Nat.reduceMul, Nat.reduceLeDiff, Nat.reduceEqDiff, Nat.reduceBEq, fo_eq, c0, c1, Fo.own, Nat.le_refl, List.map_nil]

theorem Count1_eq (f0 : List AVal) (hf0 : lowL 8 f0) (n : Int) (w : Wd) : VCall Try.prog (.fn 97 [] [.ptr 1 0]) [w.toA] [some (.var f0), some (.var [.int .i64 (n)]), some (.var [.fn 94 [] [.ptr 1 0, .ptr 2 0]]), none, none, none, none, none] (fun r σ' => r = .bool (decide (IntKind.i64.wrap (n + 1) ≤ 5000)) ∧ σ' = [some (.var f0), some (.var [.int .i64 (IntKind.i64.wrap (n + 1))]), some (.var [.fn 94 [] [.ptr 1 0, .ptr 2 0]]), none, none, none, none, none]) := by
  refine VCall.begin (rs := [.tmp 3]) (m := 6) 1000 Try.func97 rfl rfl rfl rfl rfl ?_
  simp only [go_sem, Nat.reduceAdd, Nat.reduceSub, Nat.reduceMul, Nat.reduceLeDiff, Nat.reduceEqDiff, Nat.reduceBEq, wd_eq]
  rw [dK_eq]
  exact ⟨[some (.var f0), some (.var [.int .i64 (IntKind.i64.wrap (n + 1))]), some (.var [.fn 94 [] [.ptr 1 0, .ptr 2 0]]), none, none, none, none, none], by simp [go_sem], Nat.le_refl _, ⟨hf0, ⟨trivial, trivial⟩, ⟨by simp [go_sem], trivial⟩, trivial, trivial, trivial, trivial, trivial, trivial⟩, trivial, rfl, rfl⟩

theorem CountF_eq (f0 : List AVal) (hf0 : lowL 8 f0) (f : Fo) : f.size < 2 ^ 62 → ∀ n, VCall Try.prog (.fn 94 [] [.ptr 1 0, .ptr 2 0]) [f.toA] [some (.var f0), some (.var [.int .i64 (n)]), some (.var [.fn 94 [] [.ptr 1 0, .ptr 2 0]]), none, none, none, none, none] (fun r σ' => r = .tup [] ∧ σ' = [some (.var f0), some (.var [.int .i64 (f.cnt n)]), some (.var [.fn 94 [] [.ptr 1 0, .ptr 2 0]]), none, none, none, none, none]) := by
  have hlow : ∀ n, lowSo 8 [some (.var f0), some (.var [.int .i64 (n)]), some (.var [.fn 94 [] [.ptr 1 0, .ptr 2 0]]), none, none, none, none, none] := fun n => ⟨hf0, ⟨trivial, trivial⟩, ⟨by simp [go_sem], trivial⟩, trivial, trivial, trivial, trivial, trivial, trivial⟩
  induction f using Fo.rec_parts with
  | h k l r nm ps ih =>
  intro hsz n
  simp only [Fo.size] at hsz
  have hlen := flen_le ps
  refine VCall.begin (rs := []) (m := 35) 1000 Try.func94 rfl rfl rfl rfl rfl ?_
  simp only [go_sem, Nat.reduceAdd, Nat.reduceSub, Nat.reduceMul, Nat.reduceLeDiff, Nat.reduceEqDiff, Nat.reduceBEq, fo_eq, Fo.kind, Fo.l, Fo.r, Fo.names, Fo.parts, strs_len, Nat.le_refl]
  have hfb : ∀ {m : Nat}, lowO m (some (.var [.int .i64 k, .bool l.var, .str l.name, .ps 3 (l.args.map Wd.toA), .bool r.var, .str r.name, .ps 3 (r.args.map Wd.toA), .ps 1 (strs nm), .ps 9 (ps.map Fo.toA)])) := ⟨trivial, trivial, trivial, wds_low _, trivial, trivial, wds_low _, strs_low _, fos_low _, trivial⟩
  rw [show AVal.agg [.int .i64 k, .bool l.var, .str l.name, .ps 3 (l.args.map Wd.toA), .bool r.var, .str r.name, .ps 3 (r.args.map Wd.toA), .ps 1 (strs nm), .ps 9 (ps.map Fo.toA)] = (Fo.mk k l r nm ps).toA from (fo_eq (Fo.mk k l r nm ps)).symm]
  refine VCall.isoT [] (Own_eq (Fo.mk k l r nm ps)) (pTL_refl _ _ _) (by simp [go_sem, fo_low]) ?_; rw [frzI_nil]; simp only [ite_self]; refine EvK.go 1000 ?_
  have hcnt : Fo.cnt (.mk k l r nm ps) n = Fo.cntL ps (wordsN (Fo.mk k l r nm ps).own (IntKind.i64.wrap (n + IntKind.i64.wrap (1 + nm.length)))) := rfl
  rw [hcnt]
  have hol := own_len (Fo.mk k l r nm ps)
  have hos := own_size (Fo.mk k l r nm ps)
  have hfsz : (Fo.mk k l r nm ps).size < 2 ^ 62 := by simp only [Fo.size]; omega
  generalize (Fo.mk k l r nm ps).own = ow at *
  generalize IntKind.i64.wrap (n + IntKind.i64.wrap (1 + nm.length)) = n1
  simp only [go_sem, Nat.reduceAdd, Nat.reduceSub, Nat.reduceMul, Nat.reduceLeDiff, Nat.reduceEqDiff, Nat.reduceBEq, List.length_map]
  refine EvK.loopI (ι := {i : Nat // i ≤ ow.length}) 1000 (fun i => mkT 38 [(1, .ptr 1 0), (2, .ptr 2 0), (3, .ptr 8 0), (15, .ps 3 (ow.map Wd.toA)), (16, .int .i64 ow.length), (17, .int .i64 i.1)]) (fun i => [some (.var f0), some (.var [.int .i64 (wordsN (ow.take i.1) n1)]), some (.var [.fn 94 [] [.ptr 1 0, .ptr 2 0]]), none, none, none, none, none, some (.var [.int .i64 k, .bool l.var, .str l.name, .ps 3 (l.args.map Wd.toA), .bool r.var, .str r.name, .ps 3 (r.args.map Wd.toA), .ps 1 (strs nm), .ps 9 (ps.map Fo.toA)])]) (fun i => ow.length - i.1) ⟨0, by omega⟩ ?_ (fun _ => Nat.le_add_right 8 1) ?_
  · simp only [go_sem, Nat.reduceAdd, Nat.reduceSub, Nat.reduceMul, Nat.reduceLeDiff, Nat.reduceEqDiff, Nat.reduceBEq, wds_low, strs_low, fos_low, List.take_zero, wordsN, List.foldl_nil, Int.natCast_zero, lowL_mono (Nat.le_add_right 8 1) hf0]
    decide
  · rintro ⟨i, hi⟩
    by_cases hlt : (i : Int) < ow.length
    · have hlt' : i < ow.length := by omega
      have hsn := wordsN_snoc ow i hlt' n1
      have hwz := hos i hlt'
      generalize wordsN (ow.take i) n1 = n2 at *
      simp only [go_sem, Nat.reduceAdd, Nat.reduceSub, Nat.reduceMul, Nat.reduceLeDiff, Nat.reduceEqDiff, Nat.reduceBEq, hlt, List.length_map, Int.toNat_natCast, map_getD hlt', wd_cells, Nat.le_refl]
      rw [← wd_eq]
      (repeat ((with_reducible refine And.intro ?_ ?_); · omega))
      refine VCall.tail (σ := [some (.var f0), some (.var [.int .i64 (n2)]), some (.var [.fn 94 [] [.ptr 1 0, .ptr 2 0]]), none, none, none, none, none]) (τ := [some (.var [.int .i64 k, .bool l.var, .str l.name, .ps 3 (l.args.map Wd.toA), .bool r.var, .str r.name, .ps 3 (r.args.map Wd.toA), .ps 1 (strs nm), .ps 9 (ps.map Fo.toA)]), some (.var [.bool ow[i].var, .str ow[i].name, .ps 3 (ow[i].args.map Wd.toA)])]) ⟨trivial, trivial⟩ (by simp [go_sem, wd_low]) (hlow n2) ?_
      refine (Each_eq (ι := Int) (fun _ => some (.var f0)) (fun n => some (.var [.int .i64 n])) (fun _ => some (.var [.fn 94 [] [.ptr 1 0, .ptr 2 0]])) (fun _ => none) (fun _ => none) (fun _ => none) (fun _ => none) (fun _ => none) 97 [.ptr 1 0] (by simp [go_sem]) (fun n _ => decide (IntKind.i64.wrap (n + 1) ≤ 5000)) (fun n _ => IntKind.i64.wrap (n + 1)) hlow (fun n w => Count1_eq f0 hf0 n w) ow[i] (by omega) n2).mono ?_
      rintro r' σ' ⟨rfl, rfl⟩
      refine ⟨rfl, ?_⟩
      rw [show (ow[i].each (fun n _ => decide (IntKind.i64.wrap (n + 1) ≤ 5000)) (fun n _ => IntKind.i64.wrap (n + 1)) n2).2 = wordN n2 ow[i] from rfl, ← hsn]
      refine EvK.go 1000 ?_
      simp only [go_sem, Nat.reduceAdd, Nat.reduceSub, Nat.reduceMul, Nat.reduceLeDiff, Nat.reduceEqDiff, Nat.reduceBEq]
      refine ⟨⟨i + 1, hlt'⟩, ?_, by simp only; omega⟩
      simp only [go_sem, Nat.reduceAdd, Nat.reduceSub, Nat.reduceMul, Nat.reduceLeDiff, Nat.reduceEqDiff, Nat.reduceBEq, wds_low, strs_low, fos_low, lowL_mono (Nat.le_add_right 8 1) hf0]
      rw [i64_id (by omega)]
      exact ⟨rfl, by decide⟩
    · have hie : i = ow.length := by omega
      subst hie
      simp only [go_sem, Nat.reduceAdd, Nat.reduceSub, Nat.reduceMul, Nat.reduceLeDiff, Nat.reduceEqDiff, Nat.reduceBEq, hlt, List.take_length]
      generalize wordsN ow n1 = n2 at *
      refine EvK.go 1000 ?_
      simp only [go_sem, Nat.reduceAdd, Nat.reduceSub, Nat.reduceMul, Nat.reduceLeDiff, Nat.reduceEqDiff, Nat.reduceBEq, List.length_map]
      refine EvK.loopI (ι := {i : Nat // i ≤ ps.length}) 1000 (fun i => mkT 38 [(1, .ptr 1 0), (2, .ptr 2 0), (3, .ptr 8 0), (26, .ps 9 (ps.map Fo.toA)), (27, .int .i64 ps.length), (28, .int .i64 i.1)]) (fun i => [some (.var f0), some (.var [.int .i64 (Fo.cntL (ps.take i.1) n2)]), some (.var [.fn 94 [] [.ptr 1 0, .ptr 2 0]]), none, none, none, none, none, some (.var [.int .i64 k, .bool l.var, .str l.name, .ps 3 (l.args.map Wd.toA), .bool r.var, .str r.name, .ps 3 (r.args.map Wd.toA), .ps 1 (strs nm), .ps 9 (ps.map Fo.toA)])]) (fun i => ps.length - i.1) ⟨0, by omega⟩ ?_ (fun _ => Nat.le_add_right 8 1) ?_
      · simp only [go_sem, Nat.reduceAdd, Nat.reduceSub, Nat.reduceMul, Nat.reduceLeDiff, Nat.reduceEqDiff, Nat.reduceBEq, wds_low, strs_low, fos_low, List.take_zero, Fo.cntL, Int.natCast_zero, lowL_mono (Nat.le_add_right 8 1) hf0]
        decide
      · rintro ⟨i, hi⟩
        by_cases hlt : (i : Int) < ps.length
        · have hlt' : i < ps.length := by omega
          have hsn := fcntL_snoc ps i hlt' n2
          have hpz := fsize_le ps i hlt'
          generalize Fo.cntL (ps.take i) n2 = n3 at *
          by_cases hn3 : n3 ≤ 5000
          · rw [if_pos hn3] at hsn
            simp only [go_sem, Nat.reduceAdd, Nat.reduceSub, Nat.reduceMul, Nat.reduceLeDiff, Nat.reduceEqDiff, Nat.reduceBEq, hlt, hn3, List.length_map, Int.toNat_natCast, map_getD hlt', fo_cells, Nat.le_refl]
            rw [← fo_eq]
            (repeat ((with_reducible refine And.intro ?_ ?_); · omega))
            refine VCall.tail (σ := [some (.var f0), some (.var [.int .i64 (n3)]), some (.var [.fn 94 [] [.ptr 1 0, .ptr 2 0]]), none, none, none, none, none]) (τ := [some (.var [.int .i64 k, .bool l.var, .str l.name, .ps 3 (l.args.map Wd.toA), .bool r.var, .str r.name, .ps 3 (r.args.map Wd.toA), .ps 1 (strs nm), .ps 9 (ps.map Fo.toA)]), some (.var [.int .i64 ps[i].kind, .bool ps[i].l.var, .str ps[i].l.name, .ps 3 (ps[i].l.args.map Wd.toA), .bool ps[i].r.var, .str ps[i].r.name, .ps 3 (ps[i].r.args.map Wd.toA), .ps 1 (strs ps[i].names), .ps 9 (ps[i].parts.map Fo.toA)])]) (by simp [go_sem]) (by simp [go_sem, fo_low]) (hlow n3) ?_
            refine (ih i hlt' (by omega) n3).mono ?_
            rintro r' σ' ⟨rfl, rfl⟩
            refine ⟨rfl, ?_⟩
            refine EvK.go 1000 ?_
            simp only [go_sem, Nat.reduceAdd, Nat.reduceSub, Nat.reduceMul, Nat.reduceLeDiff, Nat.reduceEqDiff, Nat.reduceBEq]
            refine ⟨⟨i + 1, hlt'⟩, ?_, by simp only; omega⟩
            simp only [go_sem, Nat.reduceAdd, Nat.reduceSub, Nat.reduceMul, Nat.reduceLeDiff, Nat.reduceEqDiff, Nat.reduceBEq, wds_low, strs_low, fos_low, hsn, lowL_mono (Nat.le_add_right 8 1) hf0]
            rw [i64_id (by omega)]
            exact ⟨rfl, by decide⟩
          · rw [if_neg hn3] at hsn
            simp only [go_sem, Nat.reduceAdd, Nat.reduceSub, Nat.reduceMul, Nat.reduceLeDiff, Nat.reduceEqDiff, Nat.reduceBEq, hlt, hn3, List.length_map, Int.toNat_natCast, map_getD hlt', fo_cells, Nat.le_refl]
            (repeat ((with_reducible refine And.intro ?_ ?_); · omega))
            refine ⟨⟨i + 1, hlt'⟩, ?_, by simp only; omega⟩
            simp only [go_sem, Nat.reduceAdd, Nat.reduceSub, Nat.reduceMul, Nat.reduceLeDiff, Nat.reduceEqDiff, Nat.reduceBEq, wds_low, strs_low, fos_low, hsn, lowL_mono (Nat.le_add_right 8 1) hf0]
            rw [i64_id (by omega)]
            exact ⟨rfl, by decide⟩
        · have hie : i = ps.length := by omega
          subst hie
          simp only [go_sem, Nat.reduceAdd, Nat.reduceSub, Nat.reduceMul, Nat.reduceLeDiff, Nat.reduceEqDiff, Nat.reduceBEq, hlt, List.take_length]
          refine EvK.go 1000 ?_
          simp only [go_sem, Nat.reduceAdd, Nat.reduceSub, Nat.reduceMul, Nat.reduceLeDiff, Nat.reduceEqDiff, Nat.reduceBEq]
          rw [dK_eq]
          exact ⟨[some (.var f0), some (.var [.int .i64 (Fo.cntL ps n2)]), some (.var [.fn 94 [] [.ptr 1 0, .ptr 2 0]]), none, none, none, none, none], by simp [go_sem], Nat.le_refl _, hlow _, trivial, rfl, rfl⟩

theorem SizeF_eq (f : Fo) (hsz : f.size < 2 ^ 62) : CallEq Try.prog 73 [f.toA] (.int .i64 (f.cnt 0)) := by
  refine CallEq.begin (rs := [.tmp 2]) (m := 9) 1000 Try.func73 rfl rfl rfl (by decide) trivial ?_
  simp only [go_sem, Nat.reduceAdd, Nat.reduceSub, Nat.reduceMul, Nat.reduceLeDiff, Nat.reduceEqDiff, Nat.reduceBEq, fo_eq, Nat.le_refl]
  rw [← fo_eq]
  refine VCall.pad 5 ?_
  have hf0 : ∀ {m : Nat}, lowL m f.cs := fun {m} => by simp [Fo.cs, go_sem, wds_low, strs_low, fos_low]
  refine (CountF_eq f.cs hf0 f hsz 0).mono ?_
  rintro r σ' ⟨rfl, rfl⟩
  rw [dK_eq]
  refine ⟨[some (.var f.cs), some (.var [.int .i64 (f.cnt 0)]), some (.var [.fn 94 [] [.ptr 1 0, .ptr 2 0]])], by simp [go_sem], Nat.le_refl _, ⟨hf0, ⟨trivial, trivial⟩, ⟨by simp [go_sem], trivial⟩, trivial⟩, trivial, ?_⟩
  refine EvK.go 1000 ?_
  simp only [go_sem, Nat.reduceAdd, Nat.reduceSub, Nat.reduceMul, Nat.reduceLeDiff, Nat.reduceEqDiff, Nat.reduceBEq]

theorem RightW_eq (w : Wd) : CallEq Try.prog 98 [w.toA] (.bool w.ok1) := by
  refine CallEq.begin (rs := [.tmp 2]) (m := 11) 1000 Try.func98 rfl rfl rfl (by decide) trivial ?_
  cases hv : w.var with
  | false => simp only [go_sem, Nat.reduceAdd, Nat.reduceSub, Nat.reduceMul, Nat.reduceLeDiff, Nat.reduceEqDiff, Nat.reduceBEq, wd_eq, hv, Wd.ok1]
  | true =>
    simp only [go_sem, Nat.reduceAdd, Nat.reduceSub, Nat.reduceMul, Nat.reduceLeDiff, Nat.reduceEqDiff, Nat.reduceBEq, wd_eq, hv, Wd.ok1, List.length_map]
    rw [show decide ((w.args.length : Int) = 0) = decide (w.args.length = 0) from decide_eq_decide.2 (by omega)]

theorem EachOk_eq (w : Wd) (hsz : w.size < 2 ^ 62) (σ : Store) : VCall Try.prog (.fn 96 [] []) [w.toA, .fn 98 [] []] σ (fun r σ' => r = .bool w.ok ∧ σ' = σ) := by
  have h0 : VCall Try.prog (.fn 96 [] []) [w.toA, .fn 98 [] []] [] (fun r σ' => σ'.length = ([] : Store).length ∧ (r = .bool w.ok ∧ σ' ++ σ = σ)) := by
    refine VCall.pad 8 ?_
    refine (Each_eq (ι := Unit) (fun _ => none) (fun _ => none) (fun _ => none) (fun _ => none) (fun _ => none) (fun _ => none) (fun _ => none) (fun _ => none) 98 [] trivial (fun _ w => w.ok1) (fun _ _ => ()) (fun _ => ⟨trivial, trivial, trivial, trivial, trivial, trivial, trivial, trivial, trivial⟩) (fun _ w => ?_) w hsz ()).mono ?_
    · exact VCall.isoT [] (RightW_eq w) (pTL_refl _ _ _) (by simp [go_sem, wd_low]) ⟨rfl, rfl⟩
    · rintro r σ' ⟨rfl, rfl⟩
      rw [dK_eq]
      exact ⟨[], trivial, Nat.le_refl _, trivial, trivial, rfl, by rw [each_ok], rfl⟩
  exact VCall.tail (σ := []) (τ := σ) ⟨trivial, trivial⟩ (by simp [go_sem, wd_low]) trivial h0

set_option maxHeartbeats 800000 in
theorem RightF_eq (f : Fo) : f.size < 2 ^ 62 → CallEq Try.prog 74 [f.toA] (.bool f.right) := by
  induction f using Fo.rec_parts with
  | h k l r nm ps ih =>
  intro hsz
  have hsz' := hsz
  simp only [Fo.size] at hsz
  have hlen := flen_le ps
  refine CallEq.beginK (rs := [.tmp 2]) (m := 61) Try.func74 rfl rfl rfl rfl trivial ?_
  have hr : Fo.right (.mk k l r nm ps) = (((Fo.mk k l r nm ps).shape && (Fo.mk k l r nm ps).own.all Wd.ok) && ps.all Fo.right) := by rw [Fo.right, rights_all]
  rw [hr]
  have hol := own_len (Fo.mk k l r nm ps)
  have hos := own_size (Fo.mk k l r nm ps)
  have hsh : (Fo.mk k l r nm ps).shape = if k = 0 then decide ((ps.length : Int) = 0) && !l.var else if k = 1 ∨ k = 9 ∨ k = 10 then decide ((ps.length : Int) = 0) else if k = 2 ∨ k = 7 ∨ k = 8 then decide ((ps.length : Int) = 1) else if k = 5 ∨ k = 6 then decide ((ps.length : Int) = 2) else decide (k = 3 ∨ k = 4) := by
    simp only [Fo.shape, Fo.kind, Fo.parts, Fo.l, show ((ps.length : Int) = 0) ↔ (ps.length = 0) by omega, show ((ps.length : Int) = 1) ↔ (ps.length = 1) by omega, show ((ps.length : Int) = 2) ↔ (ps.length = 2) by omega]; rfl
  generalize (Fo.mk k l r nm ps).shape = X at *
  have hown := Own_eq (Fo.mk k l r nm ps)
  have hfe := fo_eq (Fo.mk k l r nm ps)
  simp only [Fo.kind, Fo.l, Fo.r, Fo.names, Fo.parts] at hfe
  generalize (Fo.mk k l r nm ps).own = ow at *
  refine EvK.split (EvK.upto 1000 ?_)
  simp only [go_sem, Nat.reduceAdd, Nat.reduceSub, Nat.reduceMul, Nat.reduceLeDiff, Nat.reduceEqDiff, Nat.reduceBEq, fo_eq, Fo.kind, Fo.l, Fo.r, Fo.names, Fo.parts, List.length_map]
  refine EvK.split (EvK.upto 1000 ?_)
  simp only [go_sem, Nat.reduceAdd, Nat.reduceSub, Nat.reduceMul, Nat.reduceLeDiff, Nat.reduceEqDiff, Nat.reduceBEq, List.length_map]
  refine EvK.split ?_
  refine EvK.mid 1000 (mkT 62 [(1, .ptr 0 0), (3, .bool X)]) [some (.var [.int .i64 k, .bool l.var, .str l.name, .ps 3 (l.args.map Wd.toA), .bool r.var, .str r.name, .ps 3 (r.args.map Wd.toA), .ps 1 (strs nm), .ps 9 (ps.map Fo.toA)])] ?_ ?_ ?_
  · exact Nat.zero_le _
  · rw [hsh]
    by_cases k0 : k = 0
    · by_cases hp : (ps.length : Int) = 0 <;>
      · simp only [go_sem, Nat.reduceAdd, Nat.reduceSub, Nat.reduceMul, Nat.reduceLeDiff, Nat.reduceEqDiff, Nat.reduceBEq, k0, hp, List.length_map, wds_low, strs_low, fos_low]
        decide
    by_cases k1 : k = 1
    · simp only [go_sem, Nat.reduceAdd, Nat.reduceSub, Nat.reduceMul, Nat.reduceLeDiff, Nat.reduceEqDiff, Nat.reduceBEq, k1, List.length_map, wds_low, strs_low, fos_low, Int.reduceEq, or_true, true_or, false_or, or_false]
      decide
    by_cases k9 : k = 9
    · simp only [go_sem, Nat.reduceAdd, Nat.reduceSub, Nat.reduceMul, Nat.reduceLeDiff, Nat.reduceEqDiff, Nat.reduceBEq, k9, List.length_map, wds_low, strs_low, fos_low, Int.reduceEq, or_true, true_or, false_or, or_false]
      decide
    by_cases k10 : k = 10
    · simp only [go_sem, Nat.reduceAdd, Nat.reduceSub, Nat.reduceMul, Nat.reduceLeDiff, Nat.reduceEqDiff, Nat.reduceBEq, k10, List.length_map, wds_low, strs_low, fos_low, Int.reduceEq, or_true, true_or, false_or, or_false]
      decide
    by_cases k2 : k = 2
    · simp only [go_sem, Nat.reduceAdd, Nat.reduceSub, Nat.reduceMul, Nat.reduceLeDiff, Nat.reduceEqDiff, Nat.reduceBEq, k2, List.length_map, wds_low, strs_low, fos_low, Int.reduceEq, or_true, true_or, false_or, or_false]
      decide
    by_cases k7 : k = 7
    · simp only [go_sem, Nat.reduceAdd, Nat.reduceSub, Nat.reduceMul, Nat.reduceLeDiff, Nat.reduceEqDiff, Nat.reduceBEq, k7, List.length_map, wds_low, strs_low, fos_low, Int.reduceEq, or_true, true_or, false_or, or_false]
      decide
    by_cases k8 : k = 8
    · simp only [go_sem, Nat.reduceAdd, Nat.reduceSub, Nat.reduceMul, Nat.reduceLeDiff, Nat.reduceEqDiff, Nat.reduceBEq, k8, List.length_map, wds_low, strs_low, fos_low, Int.reduceEq, or_true, true_or, false_or, or_false]
      decide
    by_cases k5 : k = 5
    · simp only [go_sem, Nat.reduceAdd, Nat.reduceSub, Nat.reduceMul, Nat.reduceLeDiff, Nat.reduceEqDiff, Nat.reduceBEq, k5, List.length_map, wds_low, strs_low, fos_low, Int.reduceEq, or_true, true_or, false_or, or_false]
      decide
    by_cases k6 : k = 6
    · simp only [go_sem, Nat.reduceAdd, Nat.reduceSub, Nat.reduceMul, Nat.reduceLeDiff, Nat.reduceEqDiff, Nat.reduceBEq, k6, List.length_map, wds_low, strs_low, fos_low, Int.reduceEq, or_true, true_or, false_or, or_false]
      decide
    by_cases k3 : k = 3
    · simp only [go_sem, Nat.reduceAdd, Nat.reduceSub, Nat.reduceMul, Nat.reduceLeDiff, Nat.reduceEqDiff, Nat.reduceBEq, k3, List.length_map, wds_low, strs_low, fos_low, Int.reduceEq, or_true, true_or, false_or, or_false]
      decide
    by_cases k4 : k = 4
    · simp only [go_sem, Nat.reduceAdd, Nat.reduceSub, Nat.reduceMul, Nat.reduceLeDiff, Nat.reduceEqDiff, Nat.reduceBEq, k4, List.length_map, wds_low, strs_low, fos_low, Int.reduceEq, or_true, true_or, false_or, or_false]
      decide
    · simp only [go_sem, Nat.reduceAdd, Nat.reduceSub, Nat.reduceMul, Nat.reduceLeDiff, Nat.reduceEqDiff, Nat.reduceBEq, k0, k1, k9, k10, k2, k7, k8, k5, k6, k3, k4, List.length_map, wds_low, strs_low, fos_low, or_false]
      decide
  clear hsh
  refine EvK.go 1000 ?_
  simp only [go_sem, Nat.reduceAdd, Nat.reduceSub, Nat.reduceMul, Nat.reduceLeDiff, Nat.reduceEqDiff, Nat.reduceBEq, Nat.le_refl]
  rw [← hfe]
  refine VCall.isoT [] (hown) (pTL_refl _ _ _) (by simp [go_sem, fo_low]) ?_; rw [frzI_nil]; simp only [ite_self]; refine EvK.go 1000 ?_
  simp only [go_sem, Nat.reduceAdd, Nat.reduceSub, Nat.reduceMul, Nat.reduceLeDiff, Nat.reduceEqDiff, Nat.reduceBEq, List.length_map]
  refine EvK.loopI (ι := {i : Nat // i ≤ ow.length}) 1000 (fun i => mkT 62 [(1, .ptr 0 0), (3, .bool (X && (ow.take i.1).all Wd.ok)), (43, .ps 3 (ow.map Wd.toA)), (44, .int .i64 ow.length), (45, .int .i64 i.1)]) (fun _ => [some (.var [.int .i64 k, .bool l.var, .str l.name, .ps 3 (l.args.map Wd.toA), .bool r.var, .str r.name, .ps 3 (r.args.map Wd.toA), .ps 1 (strs nm), .ps 9 (ps.map Fo.toA)])]) (fun i => ow.length - i.1) ⟨0, by omega⟩ ?_ (fun _ => Nat.zero_le _) ?_
  · simp only [go_sem, Nat.reduceAdd, Nat.reduceSub, Nat.reduceMul, Nat.reduceLeDiff, Nat.reduceEqDiff, Nat.reduceBEq, wds_low, strs_low, fos_low, List.take_zero, List.all_nil, Bool.and_true, Int.natCast_zero]
    decide
  · rintro ⟨i, hi⟩
    by_cases hlt : (i : Int) < ow.length
    · have hlt' : i < ow.length := by omega
      have hwz := hos i hlt'
      have hsn : (ow.take (i + 1)).all Wd.ok = ((ow.take i).all Wd.ok && ow[i].ok) := by rw [take_snoc hlt', List.all_append]; simp
      generalize (ow.take i).all Wd.ok = Y at *
      cases hxy : (X && Y) with
      | false =>
        have hz : (X && (ow.take (i + 1)).all Wd.ok) = false := by rw [hsn, ← Bool.and_assoc, hxy, Bool.false_and]
        simp only [go_sem, Nat.reduceAdd, Nat.reduceSub, Nat.reduceMul, Nat.reduceLeDiff, Nat.reduceEqDiff, Nat.reduceBEq, hlt, List.length_map, Int.toNat_natCast, map_getD hlt', wd_cells, Nat.le_refl, hxy]
        (repeat ((with_reducible refine And.intro ?_ ?_); · omega))
        refine ⟨⟨i + 1, hlt'⟩, ?_, by simp only; omega⟩
        simp only [go_sem, Nat.reduceAdd, Nat.reduceSub, Nat.reduceMul, Nat.reduceLeDiff, Nat.reduceEqDiff, Nat.reduceBEq, wds_low, strs_low, fos_low, hz]
        rw [i64_id (by omega)]
        exact ⟨rfl, by decide⟩
      | true =>
        have hz : (X && (ow.take (i + 1)).all Wd.ok) = ow[i].ok := by rw [hsn, ← Bool.and_assoc, hxy, Bool.true_and]
        simp only [go_sem, Nat.reduceAdd, Nat.reduceSub, Nat.reduceMul, Nat.reduceLeDiff, Nat.reduceEqDiff, Nat.reduceBEq, hlt, List.length_map, Int.toNat_natCast, map_getD hlt', wd_cells, Nat.le_refl, hxy]
        rw [← wd_eq]
        (repeat ((with_reducible refine And.intro ?_ ?_); · omega))
        refine (EachOk_eq ow[i] (by omega) _).mono ?_
        rintro r' σ' ⟨rfl, rfl⟩
        refine EvK.go 1000 ?_
        simp only [go_sem, Nat.reduceAdd, Nat.reduceSub, Nat.reduceMul, Nat.reduceLeDiff, Nat.reduceEqDiff, Nat.reduceBEq]
        refine ⟨⟨i + 1, hlt'⟩, ?_, by simp only; omega⟩
        simp only [go_sem, Nat.reduceAdd, Nat.reduceSub, Nat.reduceMul, Nat.reduceLeDiff, Nat.reduceEqDiff, Nat.reduceBEq, wds_low, strs_low, fos_low, hz]
        rw [i64_id (by omega)]
        exact ⟨rfl, by decide⟩
    · have hie : i = ow.length := by omega
      subst hie
      simp only [go_sem, Nat.reduceAdd, Nat.reduceSub, Nat.reduceMul, Nat.reduceLeDiff, Nat.reduceEqDiff, Nat.reduceBEq, hlt, List.take_length]
      generalize ow.all Wd.ok = Y at *
      refine EvK.go 1000 ?_
      cases hxy : (X && Y) with
      | false =>
        simp only [go_sem, Nat.reduceAdd, Nat.reduceSub, Nat.reduceMul, Nat.reduceLeDiff, Nat.reduceEqDiff, Nat.reduceBEq, hxy]
      | true =>
        simp only [go_sem, Nat.reduceAdd, Nat.reduceSub, Nat.reduceMul, Nat.reduceLeDiff, Nat.reduceEqDiff, Nat.reduceBEq, hxy]
        refine (ContainsForm_eq (ι := Unit) (fun _ => [some (.var [.int .i64 k, .bool l.var, .str l.name, .ps 3 (l.args.map Wd.toA), .bool r.var, .str r.name, .ps 3 (r.args.map Wd.toA), .ps 1 (strs nm), .ps 9 (ps.map Fo.toA)])]) 1 (fun _ => rfl) (.fn 100 [] []) (fun _ p => !p.right) (fun _ _ => ()) ps (by omega) (fun _ => ⟨⟨trivial, trivial, trivial, wds_low _, trivial, trivial, wds_low _, strs_low _, fos_low _, trivial⟩, trivial⟩) ⟨trivial, trivial⟩ (fun j hj _ => ?_) ()).mono ?_
        · have hpz := fsize_le ps j hj
          refine VCall.begin (rs := [.tmp 2]) (m := 5) 1000 Try.func100 rfl rfl rfl rfl rfl ?_
          simp only [go_sem, Nat.reduceAdd, Nat.reduceSub, Nat.reduceMul, Nat.reduceLeDiff, Nat.reduceEqDiff, Nat.reduceBEq, fo_eq, Nat.le_refl]
          rw [← fo_eq]
          refine VCall.isoT [] (ih j hj (by omega)) (pTL_refl _ _ _) (by simp [go_sem, fo_low]) ?_; simp only [flatR, flatA, flatC, if_true]; refine EvK.go 1000 ?_
          simp only [go_sem, Nat.reduceAdd, Nat.reduceSub, Nat.reduceMul, Nat.reduceLeDiff, Nat.reduceEqDiff, Nat.reduceBEq]
          rw [dK_eq]
          exact ⟨[some (.var [.int .i64 k, .bool l.var, .str l.name, .ps 3 (l.args.map Wd.toA), .bool r.var, .str r.name, .ps 3 (r.args.map Wd.toA), .ps 1 (strs nm), .ps 9 (ps.map Fo.toA)])], by simp [go_sem], Nat.le_refl _, ⟨⟨trivial, trivial, trivial, wds_low _, trivial, trivial, wds_low _, strs_low _, fos_low _, trivial⟩, trivial⟩, trivial, rfl, rfl⟩
        rintro r' σ' ⟨rfl, rfl⟩
        rw [idxS_pure (fun p => !Fo.right p) ps 0 (Int.le_refl 0)]
        refine EvK.go 1000 ?_
        simp only [go_sem, Nat.reduceAdd, Nat.reduceSub, Nat.reduceMul, Nat.reduceLeDiff, Nat.reduceEqDiff, Nat.reduceBEq]
        rw [List.all_eq_not_any_not]

theorem CheckF_eq (f : Fo) (hsz : f.size < 2 ^ 62) : CallEq Try.prog 47 [f.toA] (.int .i64 f.check) := by
  refine CallEq.begin (rs := [.tmp 2]) (m := 10) 1000 Try.func47 rfl rfl rfl (by decide) trivial ?_
  simp only [go_sem, Nat.reduceAdd, Nat.reduceSub, Nat.reduceMul, Nat.reduceLeDiff, Nat.reduceEqDiff, Nat.reduceBEq, fo_eq, Nat.le_refl]
  rw [← fo_eq]
  refine VCall.isoT [] (SizeF_eq f hsz) (pTL_refl _ _ _) (by simp [go_sem, fo_low]) ?_; simp only [flatR, flatA, flatC, if_true]; refine EvK.go 1000 ?_
  by_cases c1 : 5000 < f.cnt 0
  · simp only [go_sem, Nat.reduceAdd, Nat.reduceSub, Nat.reduceMul, Nat.reduceLeDiff, Nat.reduceEqDiff, Nat.reduceBEq, c1, Fo.check]
  · simp only [go_sem, Nat.reduceAdd, Nat.reduceSub, Nat.reduceMul, Nat.reduceLeDiff, Nat.reduceEqDiff, Nat.reduceBEq, c1, Nat.le_refl]
    rw [← fo_eq]
    refine VCall.isoT [] (RightF_eq f hsz) (pTL_refl _ _ _) (by simp [go_sem, fo_low]) ?_; simp only [flatR, flatA, flatC, if_true]; refine EvK.go 1000 ?_
    cases c2 : f.right <;> simp only [go_sem, Nat.reduceAdd, Nat.reduceSub, Nat.reduceMul, Nat.reduceLeDiff, Nat.reduceEqDiff, Nat.reduceBEq, Fo.check, c1, c2]

theorem BoundF_eq (f : Fo) : f.size < 2 ^ 62 → CallEq Try.prog 48 [f.toA] (.int .i64 f.bound) := by
  induction f using Fo.rec_parts with
  | h k l r nm ps ih =>
  intro hsz
  simp only [Fo.size] at hsz
  have hlen := flen_le ps
  refine CallEq.begin (rs := [.tmp 2]) (m := 31) 1000 Try.func48 rfl rfl rfl (by decide) trivial ?_
  have hb : Fo.bound (.mk k l r nm ps) = if k = 7 ∨ k = 8 then IntKind.i64.wrap (Fo.bounds ps 0 + nm.length) else Fo.bounds ps 0 := rfl
  rw [hb]
  simp only [go_sem, Nat.reduceAdd, Nat.reduceSub, Nat.reduceMul, Nat.reduceLeDiff, Nat.reduceEqDiff, Nat.reduceBEq, fo_eq, Fo.kind, Fo.l, Fo.r, Fo.names, Fo.parts, List.length_map]
  refine EvK.loopI (ι := {i : Nat // i ≤ ps.length}) 1000 (fun i => mkT 32 [(1, .ptr 0 0), (3, .int .i64 (Fo.bounds (ps.take i.1) 0)), (7, .ps 9 (ps.map Fo.toA)), (8, .int .i64 ps.length), (9, .int .i64 i.1)]) (fun _ => [some (.var [.int .i64 k, .bool l.var, .str l.name, .ps 3 (l.args.map Wd.toA), .bool r.var, .str r.name, .ps 3 (r.args.map Wd.toA), .ps 1 (strs nm), .ps 9 (ps.map Fo.toA)])]) (fun i => ps.length - i.1) ⟨0, by omega⟩ ?_ (fun _ => Nat.zero_le _) ?_
  · simp only [go_sem, Nat.reduceAdd, Nat.reduceSub, Nat.reduceMul, Nat.reduceLeDiff, Nat.reduceEqDiff, Nat.reduceBEq, wds_low, strs_low, fos_low, List.take_zero, Fo.bounds, Int.natCast_zero]
    decide
  · rintro ⟨i, hi⟩
    by_cases hlt : (i : Int) < ps.length
    · have hlt' : i < ps.length := by omega
      have hsn := bounds_snoc ps i hlt' 0
      have hpz := fsize_le ps i hlt'
      generalize Fo.bounds (ps.take i) 0 = b at *
      simp only [go_sem, Nat.reduceAdd, Nat.reduceSub, Nat.reduceMul, Nat.reduceLeDiff, Nat.reduceEqDiff, Nat.reduceBEq, hlt, List.length_map, Int.toNat_natCast, map_getD hlt', fo_cells, Nat.le_refl]
      rw [← fo_eq]
      (repeat ((with_reducible refine And.intro ?_ ?_); · omega))
      refine VCall.isoT [] (ih i hlt' (by omega)) (pTL_refl _ _ _) (by simp [go_sem, fo_low]) ?_; simp only [flatR, flatA, flatC, if_true]; refine EvK.go 1000 ?_
      simp only [go_sem, Nat.reduceAdd, Nat.reduceSub, Nat.reduceMul, Nat.reduceLeDiff, Nat.reduceEqDiff, Nat.reduceBEq]
      refine ⟨⟨i + 1, hlt'⟩, ?_, by simp only; omega⟩
      simp only [go_sem, Nat.reduceAdd, Nat.reduceSub, Nat.reduceMul, Nat.reduceLeDiff, Nat.reduceEqDiff, Nat.reduceBEq, wds_low, strs_low, fos_low, hsn]
      rw [i64_id (by omega)]
      exact ⟨⟨by rw [show (if b < ps[i].bound then ps[i].bound else b) = max b ps[i].bound by omega], rfl⟩, by decide⟩
    · have hie : i = ps.length := by omega
      subst hie
      simp only [go_sem, Nat.reduceAdd, Nat.reduceSub, Nat.reduceMul, Nat.reduceLeDiff, Nat.reduceEqDiff, Nat.reduceBEq, hlt, List.take_length]
      refine EvK.go 1000 ?_
      by_cases k7 : k = 7
      · simp only [go_sem, Nat.reduceAdd, Nat.reduceSub, Nat.reduceMul, Nat.reduceLeDiff, Nat.reduceEqDiff, Nat.reduceBEq, k7, strs_len, true_or]
      by_cases k8 : k = 8
      · simp only [go_sem, Nat.reduceAdd, Nat.reduceSub, Nat.reduceMul, Nat.reduceLeDiff, Nat.reduceEqDiff, Nat.reduceBEq, k7, k8, strs_len, or_true, Int.reduceEq]
      · simp only [go_sem, Nat.reduceAdd, Nat.reduceSub, Nat.reduceMul, Nat.reduceLeDiff, Nat.reduceEqDiff, Nat.reduceBEq, k7, k8, or_false]
end Go.Proofs
