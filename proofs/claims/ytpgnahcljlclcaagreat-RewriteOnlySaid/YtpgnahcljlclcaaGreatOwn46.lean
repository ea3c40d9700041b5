/- Part 46 of my own framework and of the walks of functions: Vf. -/
import Derived.Test.YtpgnahcljlclcaaGreatOwn45
set_option linter.unusedVariables false
set_option linter.unusedSectionVars false
set_option linter.unusedSimpArgs false

/- RewriteOnly: the walk. -/
set_option linter.unusedSimpArgs false
namespace Go.Proofs
open Go Go.Abs
attribute [local go_sem] Nat.reduceAdd Nat.reduceSub Nat.reduceMul Nat.reduceLeDiff Nat.reduceEqDiff Nat.reduceBEq Nat.reduceLT Nat.le_refl Int.natCast_zero Nat.sub_zero List.length_map Int.toNat_natCast Int.natCast_one Int.reduceEq Int.reduceLT Int.reduceLE Int.reduceNe Int.sub_zero Int.zero_add Int.toNat_one
theorem stepX_rt {g : List Sy} {es : List (List Li)} {c : List Li} (h : inX es c) (h0 : (stepX g es c).2.2.2 = 0) : wrongL g (c :: es) = 0 ∧ rtC g (stepX g es c).1 := by
  unfold stepX at h0 ⊢
  by_cases hw : wrongL g (c :: es) = 0
  · rw [if_neg (by simp [hw])] at h0 ⊢
    exact ⟨hw, stepP_rt (inX_rt h hw).2.1 (inX_rt h hw).1 h0⟩
  · rw [if_pos hw] at h0
    exact absurd h0 hw
theorem rtC_siz {g : List Sy} {c : List Li} (h : rtC g c) : sizC c ∧ c.length ≤ 32 := by
  refine ⟨fun l hl => ?_, (clause_lits h.1).2.1⟩
  obtain ⟨a1, a2⟩ := rtC_lit h hl
  have b1 := (rtT_sm a1).2
  have b2 := (rtT_sm a2).2
  omega
theorem stepX_bad {g : List Sy} {es : List (List Li)} {c : List Li} (h : (stepX g es c).2.2.2 ≠ 0) : (stepX g es c).1 = [] ∧ (stepX g es c).2.2.1 = false := by
  unfold stepX at h ⊢
  split
  · exact ⟨rfl, rfl⟩
  · rename_i hw
    rw [if_neg hw] at h
    unfold stepP stepF at h ⊢
    split
    · rename_i h1; rw [h1] at h; exact absurd rfl h
    · rename_i h1
      rw [h1] at h
      simp only at h ⊢
      split
      · rename_i h2; rw [if_pos h2] at h; exact absurd rfl h
      · exact ⟨rfl, rfl⟩
def gA (c : List Li) : AVal := if isU c then .ps 5 (lits c) else .nils
def onlyA (es : List (List Li)) : List AVal := es.map gA
theorem gA_low {n : Nat} (c : List Li) : (gA c).low n := by unfold gA; split; exact lits_low _; trivial
theorem onlyA_low {n : Nat} (es : List (List Li)) : lowL n (onlyA es) := lowL_map fun x _ => gA_low x
theorem onlyA_len (es : List (List Li)) : (onlyA es).length = es.length := by simp [onlyA]
theorem onlyA_snoc (es : List (List Li)) (i : Nat) (h : i < es.length) : onlyA (es.take (i + 1)) = onlyA (es.take i) ++ [gA es[i]] := by
  unfold onlyA
  rw [List.take_add_one, List.getElem?_eq_getElem h, Option.toList_some, List.map_append]; rfl
theorem onlyA_pT {f : Nat → Bool} {σ : Store} : ∀ es : List (List Li), pTL f σ (clsA (onlyU es)) (onlyA es)
  | [] => by rw [show clsA (onlyU []) = [] from rfl, show onlyA [] = [] from rfl, pTL_nil]; trivial
  | c :: es => by
    rw [show clsA (onlyU (c :: es)) = .ps 5 (lits (if isU c then c else [])) :: clsA (onlyU es) from rfl, show onlyA (c :: es) = gA c :: onlyA es from rfl, pTL_cons]
    refine ⟨?_, onlyA_pT es⟩
    unfold gA
    cases isU c with
    | true => exact pT_refl _ _ _
    | false => simp [go_sem, lits]
set_option maxHeartbeats 1000000 in
theorem RewriteOnly_calls (g : List Sy) (es : List (List Li)) (c : List Li) (f1 : ∀ x ∈ es, fitC x) (f2 : fitC c) (hcl : c.length ≤ 2600000000000) {W : World} {vs : Array Value}
    (h2 : vs.size = ([.ps 4 (syms g), .ps 1 (clsA es), .ps 5 (lits c)] : List AVal).length)
    (h3 : ∀ k, k < ([.ps 4 (syms g), .ps 1 (clsA es), .ps 5 (lits c)] : List AVal).length → Rep W noM noB (vs.getD k undef) (([.ps 4 (syms g), .ps 1 (clsA es), .ps 5 (lits c)] : List AVal).getD k .undef)) :
    Calls Tryz.prog 7 vs W fun e w' => e = .returned (.bool true) ∧ RowKit.Below W.heap.size W w' := by
  refine calls_true (args := [.ps 4 (syms g), .ps 1 (clsA es), .ps 5 (lits c)]) (rs := [.tmp 6]) (m := 97) 1000 Tryz.func7 rfl rfl rfl rfl ?_ (fun x hx => by cases hx) h2 h3
  clear h2 h3
  simp only [go_sem]
  refine VCall.isoT [] (FewD_eq g es c hcl) (pTL_refl _ _ _) (by simp [go_sem, syms_low, clsA_low, lits_low]) ?_; simp only [flatR, flatA, flatC, if_true]; refine EvK.go 1000 ?_
  cases hfew : (symsFew g && (fewE es && fewC c)) with
  | false => simp only [go_sem]
  | true =>
  simp only [Bool.and_eq_true] at hfew
  obtain ⟨hg, he, hc⟩ := hfew
  have hin := few_in he hc f1 f2
  have hino := in_only hin
  have hel := (fewE_of he).1
  have hS := StepX_eq g es c hin
  have hSo := StepX_eq g (onlyU es) c hino
  have hrt := fun h => (stepX_rt (g := g) hin h).2
  have hst := fun h => step_only (g := g) (es := es) (c := c) (stepX_rt (g := g) hin h).1
  have hbad : (stepX g es c).2.2.2 ≠ 0 → (stepX g es c).1 = [] := fun h => (stepX_bad h).1
  simp only [go_sem]
  refine EvK.loopR (ι := {i : Nat // i ≤ es.length}) 1000 (fun i => mkT 100 [(0, .ps 4 (syms g)), (1, .ps 1 (clsA es)), (2, .ps 5 (lits c)), (6, .bool false), (7, slA 0 1 (onlyA (es.take i.1))), (8, .int .i64 i.1)]) (fun i => [slB (onlyA (es.take i.1))]) (fun i => es.length - i.1) ⟨0, Nat.zero_le _⟩ [] ?_ (fun _ => by simp) ?_
  · refine leR_mk rfl ?_
    simp only [go_sem, show onlyA [] = [] from rfl, slA_nil, slB_nil, syms_low, clsA_low, lits_low, renL_low0 (syms_low _), renL_low0 (clsA_low _), renL_low0 (lits_low _)]
  · rintro ⟨i, hi⟩
    by_cases hlt : (i : Int) < es.length
    · have hlt' : i < es.length := by omega
      have hw : IntKind.i64.wrap ((i : Int) + 1) = ((i + 1 : Nat) : Int) := by rw [i64_id (by omega)]; omega
      have hg1 := clsA_get hlt'
      have hsn := onlyA_snoc es i hlt'
      have hql : (onlyA (es.take i)).length ≤ 8 := by rw [onlyA_len, List.length_take]; omega
      have lw := onlyA_low (n := 0) (es.take (i + 1))
      rw [hsn] at lw
      generalize onlyA (es.take i) = q at *
      generalize es[i] = d at *
      by_cases c1 : (d.length : Int) = 1
      · obtain ⟨e, rfl⟩ := List.length_eq_one_iff.1 (show d.length = 1 by omega)
        cases hneg : e.neg with
        | true =>
          have hu : isU [e] = false := by simp [isU, hneg]
          have e1 : gA [e] = .nils := by unfold gA; rw [hu]; rfl
          rw [e1] at hsn lw
          simp only [go_sem, hlt, clsA_len, hg1, show lits [e] = [e.toA] from rfl, li_cells, hneg, app_slA, appOk, List.mem_singleton, forall_eq, Nat.zero_lt_one]
          (repeat ((with_reducible refine And.intro ?_ ?_); · omega))
          refine ⟨⟨i + 1, hlt'⟩, [(0, 2), (2, 0)], leR_mk rfl ?_, by simp only; omega⟩
          simp only [hsn]
          rw [slA_app (by simp), slB_app (by simp)]
          simp only [go_sem, hw, syms_low, clsA_low, lits_low, renL_low0 (syms_low _), renL_low0 (clsA_low _), renL_low0 (lits_low _), renL_low0 lw, lowL_mono (Nat.zero_le _) lw]
        | false =>
          have hu : isU [e] = true := by simp [isU, hneg]
          have e1 : gA [e] = .ps 5 [e.toA] := by unfold gA; rw [hu]; rfl
          rw [e1] at hsn lw
          simp only [go_sem, hlt, clsA_len, hg1, show lits [e] = [e.toA] from rfl, li_cells, hneg, app_slA, appOk, List.mem_singleton, forall_eq, Nat.zero_lt_one]
          (repeat ((with_reducible refine And.intro ?_ ?_); · omega))
          refine ⟨⟨i + 1, hlt'⟩, [(0, 2), (2, 0)], leR_mk rfl ?_, by simp only; omega⟩
          simp only [hsn]
          rw [slA_app (by simp), slB_app (by simp)]
          simp only [go_sem, hw, syms_low, clsA_low, lits_low, renL_low0 (syms_low _), renL_low0 (clsA_low _), renL_low0 (lits_low _), renL_low0 lw, lowL_mono (Nat.zero_le _) lw]
      · have hu : isU d = false := by
          unfold isU; split
          · simp at c1
          · rfl
        have e1 : gA d = .nils := by unfold gA; rw [hu]; rfl
        rw [e1] at hsn lw
        simp only [go_sem, hlt, clsA_len, hg1, lits_len, c1, app_slA, appOk, List.mem_singleton, forall_eq, Nat.zero_lt_one]
        (repeat ((with_reducible refine And.intro ?_ ?_); · omega))
        refine ⟨⟨i + 1, hlt'⟩, [(0, 2), (2, 0)], leR_mk rfl ?_, by simp only; omega⟩
        simp only [hsn]
        rw [slA_app (by simp), slB_app (by simp)]
        simp only [go_sem, hw, syms_low, clsA_low, lits_low, renL_low0 (syms_low _), renL_low0 (clsA_low _), renL_low0 (lits_low _), renL_low0 lw, lowL_mono (Nat.zero_le _) lw]
    · have hi' : i = es.length := by omega
      subst hi'
      rw [List.take_length]
      have hpt : pT (among [0]) [slB (onlyA es)] (.ps 1 (clsA (onlyU es))) (slA 0 1 (onlyA es)) := by
        by_cases h0 : onlyA es = []
        · have h1 := onlyA_pT (f := among [0]) (σ := [slB (onlyA es)]) es
          rw [h0] at h1 ⊢
          have h2 : clsA (onlyU es) = [] := by
            have : es = [] := by simpa [onlyA] using h0
            subst this; rfl
          rw [h2, slA_nil]
          simp [go_sem]
        · rw [slA_ne h0, slB_ne h0]
          simp only [go_sem, Nat.reduceAdd, among_cons, among_nil]
          have ht : List.take (onlyA es).length (onlyA es) = onlyA es := List.take_of_length_le (Nat.le_refl _)
          rw [ht]
          exact onlyA_pT es
      generalize stepX g (onlyU es) c = y at *
      generalize stepX g es c = x at *
      simp only [go_sem, clsA_len, hlt]
      refine EvK.go 1000 ?_
      simp only [go_sem]
      refine VCall.isoT [] hS (pTL_refl _ _ _) ⟨syms_low _, clsA_low _, lits_low _, trivial⟩ ?_
      rw [frzI_nil]; simp only [ite_self]
      refine EvK.go 1000 ?_
      simp only [go_sem]
      refine VCall.isoT [0] hSo ?_ ⟨syms_low _, clsA_low _, lits_low _, trivial⟩ ?_
      · simp only [go_sem]
        exact hpt
      generalize (if flatR (.tup [.ps 5 (lits y.1), .int .i64 y.2.1, .bool y.2.2.1, .int .i64 y.2.2.2]) = true then [slB (onlyA es)] else frzI (among [0]) 0 [slB (onlyA es)]) = S
      refine EvK.go 1000 ?_
      simp only [go_sem]
      by_cases h0 : x.2.2.2 = 0
      · obtain rfl := hst h0
        obtain ⟨z1, z2⟩ := rtC_siz (hrt h0)
        have hE := Exact10D_eq y.1 y.1 z1 z1 (by omega)
        rw [(eqbC_iff _ _).2 rfl] at hE
        simp only [go_sem, h0]
        refine VCall.isoT [] (AwakeD_eq) (pTL_refl _ _ _) (by simp [go_sem, ]) ?_; simp only [flatR, flatA, flatC, if_true]; refine EvK.go 1000 ?_
        simp only [go_sem, h0]
        refine VCall.isoT [] (hE) (pTL_refl _ _ _) (by simp [go_sem, lits_low]) ?_; simp only [flatR, flatA, flatC, if_true]; refine EvK.go 1000 ?_
        simp only [go_sem, decide_true, beq_self_eq_true]
        trace_state
      · have hb := hbad h0
        simp only [go_sem, h0]
        refine VCall.isoT [] (AwakeD_eq) (pTL_refl _ _ _) (by simp [go_sem, ]) ?_; simp only [flatR, flatA, flatC, if_true]; refine EvK.go 1000 ?_
        simp only [go_sem, hb, lits, List.map_nil, List.length_nil]
        trace_state
end Go.Proofs
