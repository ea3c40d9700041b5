/- Part 50 of my own framework and of the walks of functions: Nm, Nn, No, Np, Nq, Nr, Ns, Nt, Nu, Nv. -/
import Derived.Test.YtngbclnedkmiaaaDoorOwn49
set_option linter.unusedVariables false
set_option linter.unusedSectionVars false
set_option linter.unusedSimpArgs false

/- The program's reader: an input. -/
set_option linter.unusedSimpArgs false
namespace Go.Proofs
open Go Go.Abs

structure InP where
  name : By
  role : By
  cls : Bool
  form : Fo
def InP.toA (x : InP) : AVal := .agg ([.str (ofB x.name), .str (ofB x.role), .bool x.cls] ++ x.form.toA.cells)
theorem in_eq (x : InP) : x.toA = .agg [.str (ofB x.name), .str (ofB x.role), .bool x.cls, .int .i64 x.form.kind, .bool x.form.l.var, .str x.form.l.name, .ps 3 (x.form.l.args.map Wd.toA), .bool x.form.r.var, .str x.form.r.name, .ps 3 (x.form.r.args.map Wd.toA), .ps 1 (strs x.form.names), .ps 9 (x.form.parts.map Fo.toA)] := by
  rw [InP.toA, fo_cells]; rfl
theorem in_low (x : InP) : x.toA.low 0 := by
  rw [in_eq]; exact ⟨trivial, trivial, trivial, trivial, trivial, trivial, wds_low _, trivial, trivial, wds_low _, strs_low _, fos_low _, trivial⟩
def cnfB : By := [99, 110, 102]
def fofB : By := [102, 111, 102]
/-- What stands behind the formula of an input. -/
def closeP (E : Int) (l : List Tok) (nm ro : By) (f : Fo) (l6 : List Tok) : PR InP :=
  PR.bind (signP E [41] l6) fun _ l7 => PR.bind (signP E [46] l7) fun _ l8 =>
    if textP l = cnfB then (if f.cla = true then .ok (⟨nm, ro, true, f⟩, l8) else .error (4, hereP E l)) else
    if f.free = [] then .ok (⟨nm, ro, false, f⟩, l8) else .error (8, hereP E l)
def inputP (E : Int) (l : List Tok) : PR InP :=
  if kindP l = 0 ∧ (textP l = cnfB ∨ textP l = fofB) then
    PR.bind (signP E [40] l.tail) fun _ l1 => PR.bind (nameP E 0 l1) fun nm l2 => PR.bind (signP E [44] l2) fun _ l3 => PR.bind (nameP E 0 l3) fun ro l4 =>
      PR.bind (signP E [44] l4) fun _ l5 => PR.bind (formulaP (unaryP E 50) l5) fun f l6 => closeP E l nm ro f l6
  else .error (oddP E l)

theorem Input_eq (E : Int) (l : List Tok) (hs : l.length ≤ 99999) : Ans (.fn 20 [] []) [.ptr 0 0] E l 0 InP.toA (inputP E l) := by
  refine Ans.begin (rs := [.cell 2 39]) (m := 81) Tryd.func20 rfl rfl rfl (by decide) ?_
  refine EvK.go 1000 ?_
  simp only [go_sem, Nat.reduceAdd, Nat.reduceSub, Nat.reduceMul, Nat.reduceLeDiff, Nat.reduceEqDiff, Nat.reduceBEq]
  refine (Next_eq E l 0).call ⟨trivial, trivial⟩ ⟨Nat.one_pos, trivial⟩ (fun x l' h => ?_) (fun e l' d' h => by cases h)
  obtain ⟨rfl, rfl⟩ : nxt E l = x ∧ l = l' := by cases h; exact ⟨rfl, rfl⟩
  clear h
  refine EvK.go 1000 ?_
  have hA : ∀ x : By, ((ofB x).toList == (⟨#[99, 110, 102]⟩ : ByteArray).toList) = decide (x = cnfB) := fun x => by
    rw [str_eq, bs_ofB]; rfl
  have hB : ∀ x : By, ((ofB x).toList == (⟨#[102, 111, 102]⟩ : ByteArray).toList) = decide (x = fofB) := fun x => by
    rw [str_eq, bs_ofB]; rfl
  have hin : inputP E l = if kindP l = 0 ∧ (textP l = cnfB ∨ textP l = fofB) then
    PR.bind (signP E [40] l.tail) fun _ l1 => PR.bind (nameP E 0 l1) fun nm l2 => PR.bind (signP E [44] l2) fun _ l3 => PR.bind (nameP E 0 l3) fun ro l4 =>
      PR.bind (signP E [44] l4) fun _ l5 => PR.bind (formulaP (unaryP E 50) l5) fun f l6 => closeP E l nm ro f l6
    else .error (oddP E l) := rfl
  by_cases c : kindP l = 0 ∧ (textP l = cnfB ∨ textP l = fofB)
  · rw [if_pos c] at hin
    obtain ⟨c0, c1⟩ := c
    have c0' : (¬ kindP l = 0) = False := eq_false (fun h => h c0)
    obtain ⟨t, r, rfl⟩ : ∃ t r, l = t :: r := by
      cases l with
      | nil => cases c0
      | cons t r => exact ⟨t, r, rfl⟩
    by_cases hcn : textP (t :: r) = cnfB
    · skip
      simp only [go_sem, Nat.reduceAdd, Nat.reduceSub, Nat.reduceMul, Nat.reduceLeDiff, Nat.reduceEqDiff, Nat.reduceBEq, tok_cs, nxt_kind, nxt_text, hA, hB, hcn, decide_true, decide_false, Bool.not_true, Bool.not_false, c0', rdB, toks_cons, succ0, pos1, le1, le01, tail1]
      rw [rdB_eq, hin]
      simp only [List.tail_cons]
      have ht0 : r.length ≤ 99998 := by simp only [List.length_cons] at hs; omega
      have hat : (nxt E (t :: r)).at' = hereP E (t :: r) := nxt_at _ _
      generalize hH : hereP E (t :: r) = H at hat
      rw [hat]
      generalize (nxt E (t :: r)).at' = at0 at *
      refine (Sign_eq E r 0 [40]).call ⟨trivial, trivial⟩ ⟨Nat.one_pos, trivial, trivial⟩ (fun y l' h => ?_) (fun e l' d' h u hu => pan_er hu (bind_er h))
      rw [bind_ok h]
      obtain ⟨_, rfl⟩ := sign_ok h
      have htl1 := tail_len r
      clear h
      generalize r.tail = l1 at htl1 ⊢
      refine EvK.go 1000 ?_
      simp only [go_sem, Nat.reduceAdd, Nat.reduceSub, Nat.reduceMul, Nat.reduceLeDiff, Nat.reduceEqDiff, Nat.reduceBEq]
      refine (Name_eqP E l1 0 0 (by decide)).call ⟨trivial, trivial⟩ ⟨Nat.one_pos, trivial, trivial⟩ (fun nm l' h => ?_) (fun e l' d' h u hu => pan_er hu (bind_er h))
      rw [bind_ok h]
      obtain ⟨_, _, _, rfl⟩ := name_ok h
      have htl2 := tail_len l1
      clear h
      generalize l1.tail = l2 at htl2 ⊢
      refine EvK.go 1000 ?_
      simp only [go_sem, Nat.reduceAdd, Nat.reduceSub, Nat.reduceMul, Nat.reduceLeDiff, Nat.reduceEqDiff, Nat.reduceBEq]
      refine (Sign_eq E l2 0 [44]).call ⟨trivial, trivial⟩ ⟨Nat.one_pos, trivial, trivial⟩ (fun y l' h => ?_) (fun e l' d' h u hu => pan_er hu (bind_er h))
      rw [bind_ok h]
      obtain ⟨_, rfl⟩ := sign_ok h
      have htl3 := tail_len l2
      clear h
      generalize l2.tail = l3 at htl3 ⊢
      refine EvK.go 1000 ?_
      simp only [go_sem, Nat.reduceAdd, Nat.reduceSub, Nat.reduceMul, Nat.reduceLeDiff, Nat.reduceEqDiff, Nat.reduceBEq]
      refine (Name_eqP E l3 0 0 (by decide)).call ⟨trivial, trivial⟩ ⟨Nat.one_pos, trivial, trivial⟩ (fun ro l' h => ?_) (fun e l' d' h u hu => pan_er hu (bind_er h))
      rw [bind_ok h]
      obtain ⟨_, _, _, rfl⟩ := name_ok h
      have htl4 := tail_len l3
      clear h
      generalize l3.tail = l4 at htl4 ⊢
      refine EvK.go 1000 ?_
      simp only [go_sem, Nat.reduceAdd, Nat.reduceSub, Nat.reduceMul, Nat.reduceLeDiff, Nat.reduceEqDiff, Nat.reduceBEq]
      refine (Sign_eq E l4 0 [44]).call ⟨trivial, trivial⟩ ⟨Nat.one_pos, trivial, trivial⟩ (fun y l' h => ?_) (fun e l' d' h u hu => pan_er hu (bind_er h))
      rw [bind_ok h]
      obtain ⟨_, rfl⟩ := sign_ok h
      have htl5 := tail_len l4
      clear h
      generalize l4.tail = l5 at htl5 ⊢
      refine EvK.go 1000 ?_
      simp only [go_sem, Nat.reduceAdd, Nat.reduceSub, Nat.reduceMul, Nat.reduceLeDiff, Nat.reduceEqDiff, Nat.reduceBEq]
      refine (Formula_eq (E := E) (d := 0) (u := unaryP E 50) ?_ (fun l x l' h => unary_len 50 l x l' h) l5 (by omega)).call ⟨trivial, trivial⟩ ⟨Nat.one_pos, trivial⟩ (fun f l6 h => ?_) (fun e l' d' h u hu => pan_er hu (bind_er h))
      · intro l hl
        exact Unary_eq E 50 (by decide) l 0 rfl hl
      rw [bind_ok h]
      have hf := formula_fine (unary_fine 50) h
      clear h
      refine EvK.go 1000 ?_
      simp only [go_sem, Nat.reduceAdd, Nat.reduceSub, Nat.reduceMul, Nat.reduceLeDiff, Nat.reduceEqDiff, Nat.reduceBEq, fo_c9, fo_all, fo_take, Fo.cs, fo_cells, fo_agg, lt09]
      unfold closeP
      refine (Sign_eq E l6 0 [41]).call ⟨trivial, trivial⟩ ⟨Nat.one_pos, trivial, trivial⟩ (fun y l' h => ?_) (fun e l' d' h u hu => pan_er hu (bind_er h))
      rw [bind_ok h]
      obtain ⟨_, rfl⟩ := sign_ok h
      have htl7 := tail_len l6
      clear h
      generalize l6.tail = l7 at htl7 ⊢
      refine EvK.go 1000 ?_
      simp only [go_sem, Nat.reduceAdd, Nat.reduceSub, Nat.reduceMul, Nat.reduceLeDiff, Nat.reduceEqDiff, Nat.reduceBEq]
      refine (Sign_eq E l7 0 [46]).call ⟨trivial, trivial⟩ ⟨Nat.one_pos, trivial, trivial⟩ (fun y l' h => ?_) (fun e l' d' h u hu => pan_er hu (bind_er h))
      rw [bind_ok h]
      obtain ⟨_, rfl⟩ := sign_ok h
      have htl8 := tail_len l7
      clear h
      generalize l7.tail = l8 at htl8 ⊢
      refine EvK.go 1000 ?_
      simp only [go_sem, Nat.reduceAdd, Nat.reduceSub, Nat.reduceMul, Nat.reduceLeDiff, Nat.reduceEqDiff, Nat.reduceBEq]
      rw [if_pos hcn, ← fo_eq f]
      refine CallOr.ok (VCall.isoT [] (Clause_eq f hf.1 (by have := hf.2; omega)) (pTL_refl _ _ _) ⟨fo_low0 _, trivial⟩ ?_)
      rw [frzI_nil]
      simp only [ite_self]
      refine EvK.go 1000 ?_
      cases hcl : f.cla with
      | true =>
        simp only [go_sem, Nat.reduceAdd, Nat.reduceSub, Nat.reduceMul, Nat.reduceLeDiff, Nat.reduceEqDiff, Nat.reduceBEq]
        exact tree_ok (x := (⟨nm, ro, true, f⟩ : InP)) (l := l8) rfl (by rw [in_eq]; exact pT_refl _ _ _) (in_low _)
      | false =>
        simp only [go_sem, Nat.reduceAdd, Nat.reduceSub, Nat.reduceMul, Nat.reduceLeDiff, Nat.reduceEqDiff, Nat.reduceBEq]
        subst hH
        exact pan_er rfl rfl
    · have hfc : (fofB = cnfB) = False := by decide
      have hfo : textP (t :: r) = fofB := by
        rcases c1 with h | h
        · exact absurd h hcn
        · exact h
      simp only [go_sem, Nat.reduceAdd, Nat.reduceSub, Nat.reduceMul, Nat.reduceLeDiff, Nat.reduceEqDiff, Nat.reduceBEq, tok_cs, nxt_kind, nxt_text, hA, hB, hcn, hfo, hfc, decide_true, decide_false, Bool.not_true, Bool.not_false, c0', rdB, toks_cons, succ0, pos1, le1, le01, tail1]
      rw [rdB_eq, hin]
      simp only [List.tail_cons]
      have ht0 : r.length ≤ 99998 := by simp only [List.length_cons] at hs; omega
      have hat : (nxt E (t :: r)).at' = hereP E (t :: r) := nxt_at _ _
      generalize hH : hereP E (t :: r) = H at hat
      rw [hat]
      generalize (nxt E (t :: r)).at' = at0 at *
      refine (Sign_eq E r 0 [40]).call ⟨trivial, trivial⟩ ⟨Nat.one_pos, trivial, trivial⟩ (fun y l' h => ?_) (fun e l' d' h u hu => pan_er hu (bind_er h))
      rw [bind_ok h]
      obtain ⟨_, rfl⟩ := sign_ok h
      have htl1 := tail_len r
      clear h
      generalize r.tail = l1 at htl1 ⊢
      refine EvK.go 1000 ?_
      simp only [go_sem, Nat.reduceAdd, Nat.reduceSub, Nat.reduceMul, Nat.reduceLeDiff, Nat.reduceEqDiff, Nat.reduceBEq]
      refine (Name_eqP E l1 0 0 (by decide)).call ⟨trivial, trivial⟩ ⟨Nat.one_pos, trivial, trivial⟩ (fun nm l' h => ?_) (fun e l' d' h u hu => pan_er hu (bind_er h))
      rw [bind_ok h]
      obtain ⟨_, _, _, rfl⟩ := name_ok h
      have htl2 := tail_len l1
      clear h
      generalize l1.tail = l2 at htl2 ⊢
      refine EvK.go 1000 ?_
      simp only [go_sem, Nat.reduceAdd, Nat.reduceSub, Nat.reduceMul, Nat.reduceLeDiff, Nat.reduceEqDiff, Nat.reduceBEq]
      refine (Sign_eq E l2 0 [44]).call ⟨trivial, trivial⟩ ⟨Nat.one_pos, trivial, trivial⟩ (fun y l' h => ?_) (fun e l' d' h u hu => pan_er hu (bind_er h))
      rw [bind_ok h]
      obtain ⟨_, rfl⟩ := sign_ok h
      have htl3 := tail_len l2
      clear h
      generalize l2.tail = l3 at htl3 ⊢
      refine EvK.go 1000 ?_
      simp only [go_sem, Nat.reduceAdd, Nat.reduceSub, Nat.reduceMul, Nat.reduceLeDiff, Nat.reduceEqDiff, Nat.reduceBEq]
      refine (Name_eqP E l3 0 0 (by decide)).call ⟨trivial, trivial⟩ ⟨Nat.one_pos, trivial, trivial⟩ (fun ro l' h => ?_) (fun e l' d' h u hu => pan_er hu (bind_er h))
      rw [bind_ok h]
      obtain ⟨_, _, _, rfl⟩ := name_ok h
      have htl4 := tail_len l3
      clear h
      generalize l3.tail = l4 at htl4 ⊢
      refine EvK.go 1000 ?_
      simp only [go_sem, Nat.reduceAdd, Nat.reduceSub, Nat.reduceMul, Nat.reduceLeDiff, Nat.reduceEqDiff, Nat.reduceBEq]
      refine (Sign_eq E l4 0 [44]).call ⟨trivial, trivial⟩ ⟨Nat.one_pos, trivial, trivial⟩ (fun y l' h => ?_) (fun e l' d' h u hu => pan_er hu (bind_er h))
      rw [bind_ok h]
      obtain ⟨_, rfl⟩ := sign_ok h
      have htl5 := tail_len l4
      clear h
      generalize l4.tail = l5 at htl5 ⊢
      refine EvK.go 1000 ?_
      simp only [go_sem, Nat.reduceAdd, Nat.reduceSub, Nat.reduceMul, Nat.reduceLeDiff, Nat.reduceEqDiff, Nat.reduceBEq]
      refine (Formula_eq (E := E) (d := 0) (u := unaryP E 50) ?_ (fun l x l' h => unary_len 50 l x l' h) l5 (by omega)).call ⟨trivial, trivial⟩ ⟨Nat.one_pos, trivial⟩ (fun f l6 h => ?_) (fun e l' d' h u hu => pan_er hu (bind_er h))
      · intro l hl
        exact Unary_eq E 50 (by decide) l 0 rfl hl
      rw [bind_ok h]
      have hf := formula_fine (unary_fine 50) h
      clear h
      refine EvK.go 1000 ?_
      simp only [go_sem, Nat.reduceAdd, Nat.reduceSub, Nat.reduceMul, Nat.reduceLeDiff, Nat.reduceEqDiff, Nat.reduceBEq, fo_c9, fo_all, fo_take, Fo.cs, fo_cells, fo_agg, lt09]
      unfold closeP
      refine (Sign_eq E l6 0 [41]).call ⟨trivial, trivial⟩ ⟨Nat.one_pos, trivial, trivial⟩ (fun y l' h => ?_) (fun e l' d' h u hu => pan_er hu (bind_er h))
      rw [bind_ok h]
      obtain ⟨_, rfl⟩ := sign_ok h
      have htl7 := tail_len l6
      clear h
      generalize l6.tail = l7 at htl7 ⊢
      refine EvK.go 1000 ?_
      simp only [go_sem, Nat.reduceAdd, Nat.reduceSub, Nat.reduceMul, Nat.reduceLeDiff, Nat.reduceEqDiff, Nat.reduceBEq]
      refine (Sign_eq E l7 0 [46]).call ⟨trivial, trivial⟩ ⟨Nat.one_pos, trivial, trivial⟩ (fun y l' h => ?_) (fun e l' d' h u hu => pan_er hu (bind_er h))
      rw [bind_ok h]
      obtain ⟨_, rfl⟩ := sign_ok h
      have htl8 := tail_len l7
      clear h
      generalize l7.tail = l8 at htl8 ⊢
      refine EvK.go 1000 ?_
      simp only [go_sem, Nat.reduceAdd, Nat.reduceSub, Nat.reduceMul, Nat.reduceLeDiff, Nat.reduceEqDiff, Nat.reduceBEq]
      rw [if_neg hcn, ← fo_eq f]
      refine CallOr.ok (VCall.isoT [] (Free_eq f (by have := hf.2; omega)) (pTL_refl _ _ _) ⟨fo_low0 _, trivial⟩ ?_)
      rw [frzI_nil]
      simp only [ite_self]
      refine EvK.go 1000 ?_
      cases hcl : f.free with
      | nil =>
        have z0 : ((0 : Int) < ((0 : Nat) : Int)) = False := eq_false (by decide)
        simp only [go_sem, Nat.reduceAdd, Nat.reduceSub, Nat.reduceMul, Nat.reduceLeDiff, Nat.reduceEqDiff, Nat.reduceBEq, strs_len, List.length_nil, z0]
        exact tree_ok (x := (⟨nm, ro, false, f⟩ : InP)) (l := l8) rfl (by rw [in_eq]; exact pT_refl _ _ _) (in_low _)
      | cons x xs =>
        simp only [go_sem, Nat.reduceAdd, Nat.reduceSub, Nat.reduceMul, Nat.reduceLeDiff, Nat.reduceEqDiff, Nat.reduceBEq, strs_len, List.length_cons, pos1]
        subst hH
        exact pan_er rfl rfl
  · have hAB : ¬ kindP l = 0 ∨ (¬ textP l = cnfB ∧ ¬ textP l = fofB) := by
      by_cases c0 : kindP l = 0
      · refine .inr ⟨fun h => c ⟨c0, .inl h⟩, fun h => c ⟨c0, .inr h⟩⟩
      · exact .inl c0
    rw [if_neg c] at hin
    rw [hin]
    by_cases c0 : kindP l = 0
    · obtain ⟨c1, c2⟩ : ¬ textP l = cnfB ∧ ¬ textP l = fofB := by
        rcases hAB with h | h
        · exact absurd c0 h
        · exact h
      simp only [go_sem, Nat.reduceAdd, Nat.reduceSub, Nat.reduceMul, Nat.reduceLeDiff, Nat.reduceEqDiff, Nat.reduceBEq, tok_cs, nxt_kind, nxt_text, hA, hB, c0, c1, c2, decide_false, Bool.not_false]
      refine (Odd_eq E l 0).call ⟨trivial, trivial⟩ ⟨Nat.one_pos, trivial⟩ (fun x l' h => by cases h) (fun e l' d' h u hu => ?_)
      cases h
      exact pan_er hu rfl
    · simp only [go_sem, Nat.reduceAdd, Nat.reduceSub, Nat.reduceMul, Nat.reduceLeDiff, Nat.reduceEqDiff, Nat.reduceBEq, tok_cs, nxt_kind, nxt_text, hA, hB, c0]
      refine (Odd_eq E l 0).call ⟨trivial, trivial⟩ ⟨Nat.one_pos, trivial⟩ (fun x l' h => by cases h) (fun e l' d' h u hu => ?_)
      cases h
      exact pan_er hu rfl
end Go.Proofs

/- The program's way to catch an error. -/
set_option linter.unusedSimpArgs false
namespace Go.Proofs
open Go Go.Abs

def stB (e : Er) : Option Blk := some (.var [.int .i64 e.1, .int .i64 e.2])

theorem nil_ne : binA Tryd.prog .neq 20 .nilif .nilif = some (.bool false) := by kernel_rfl

theorem RecN_eq (σ : Store) (b : Nat) (e0 : Er) (hb : getS σ b = some (.var [.int .i64 e0.1, .int .i64 e0.2])) :
    VDefG Tryd.prog (.fn 25 [] [.ptr b 0]) σ .returning .returning (fun σ' => σ' = σ.set b (stB (0, 0))) := by
  have hlt := getS_lt hb
  refine VDefG.recovers (ra := .nilif) Tryd.func25 rfl rfl rfl (.inl ⟨rfl, rfl⟩) ?_
  show EvR _ _ _ [] [1] _ _
  refine EvR.op (by rfl) (by rfl) (r := .nilif) (σ' := σ) rfl (fun h => h) (EvR.nil ⟨rfl, ?_⟩)
  show EvS _ _ _ ⟨mkT 16 [(0, .ptr b 0), (1, .nilif), (3, .nilif)], σ⟩ _
  refine EvS.mono (vcK_sound 1000 (Q := retQ Tryd.prog [] fun _ σ' => σ' = σ.set b (stB (0, 0))) [.code _] .normal _ _ ?_) fun e s q => by cases e <;> exact q
  simp only [go_sem, Nat.reduceAdd, Nat.reduceSub, Nat.reduceMul, Nat.reduceLeDiff, Nat.reduceEqDiff, Nat.reduceBEq, hb, setS_lt hlt, taN, nil_ne]
  rfl

theorem RecP_eq (σ : Store) (b : Nat) (e0 e : Er) (u : Value) (hu : pvV (stopA e) = some u) (hb : getS σ b = some (.var [.int .i64 e0.1, .int .i64 e0.2])) :
    VDefG Tryd.prog (.fn 25 [] [.ptr b 0]) σ (.panicking [{ v := u, recovered := false }]) .returning (fun σ' => σ' = σ.set b (stB e)) := by
  have hlt := getS_lt hb
  refine VDefG.recovers (ra := stopA e) Tryd.func25 rfl rfl rfl (.inr ⟨u, rfl, hu⟩) ?_
  show EvR _ _ _ [] [1] _ _
  refine EvR.op (by rfl) (by rfl) (r := stopA e) (σ' := σ) rfl (fun h => h) (EvR.nil ⟨rfl, ?_⟩)
  show EvS _ _ _ ⟨mkT 16 [(0, .ptr b 0), (1, stopA e), (3, stopA e)], σ⟩ _
  refine EvS.mono (vcK_sound 1000 (Q := retQ Tryd.prog [] fun _ σ' => σ' = σ.set b (stB e)) [.code _] .normal _ _ ?_) fun e s q => by cases e <;> exact q
  simp only [go_sem, Nat.reduceAdd, Nat.reduceSub, Nat.reduceMul, Nat.reduceLeDiff, Nat.reduceEqDiff, Nat.reduceBEq, hb, setS_lt hlt, stopA, taK]
  rfl

/-- How the body of a function that catches comes to its end. -/
def endC (n : Nat) (K : Er → Store → Store → Prop) (e : AExit) (st : St) : Prop :=
  match e with
  | .normal | .ret => ∃ s τ x0 x1 x3 x4 x5 x6, st = ⟨[x0, x1, .ptr n 0, x3, x4, x5, x6], s ++ stB (0, 0) :: τ⟩ ∧ K (0, 0) s τ
  | .panic u => ∃ e s τ x0 x1 x3 x4 x5 x6, st = ⟨[x0, x1, .ptr n 0, x3, x4, x5, x6], s ++ stB (0, 0) :: τ⟩ ∧ K e s τ ∧ pvV (stopA e) = some u
  | _ => False

theorem leSo_same : ∀ (s : Store) (x : Option Blk) (τ : Store), leSo (s ++ none :: τ) (s ++ x :: τ)
  | [], _, τ => ⟨.inr rfl, leSo_refl τ⟩
  | _ :: s, x, τ => ⟨.inl rfl, leSo_same s x τ⟩
theorem set_mid {s τ : Store} {n : Nat} {x y : Option Blk} (h : s.length = n) : (s ++ x :: τ).set n y = s ++ y :: τ := by
  subst h; simp
theorem get_mid {s τ : Store} {n : Nat} {B : Blk} (h : s.length = n) : getS (s ++ some B :: τ) n = some B := by
  subst h; simp [getS]
theorem caught_res {s τ : Store} {n : Nat} {e : Er} (h : s.length = n) (x0 x1 x3 x4 x5 x6 : AVal) : resultsA Tryd.prog ⟨[x0, x1, .ptr n 0, x3, x4, x5, x6], s ++ stB e :: τ⟩ [.cell 2 51] = some (.agg [.int .i64 e.1, .int .i64 e.2]) := by
  have hg := get_mid (τ := τ) (B := .var [.int .i64 e.1, .int .i64 e.2]) h
  simp only [stB]
  simp only [go_sem, Nat.reduceAdd, Nat.reduceSub, Nat.reduceMul, Nat.reduceLeDiff, Nat.reduceEqDiff, Nat.reduceBEq, hg]

/-- What the caught function's call leaves behind in the store, and the error. -/
theorem Caught_eq {f : AVal} {σ : Store} {K : Er → Store → Store → Prop} (hl : ∀ e s τ, K e s τ → s.length = σ.length ∧ lowSo (s ++ none :: τ : Store).length (s ++ none :: τ)) (hf : f.low σ.length) (hfn : ∃ g x y, f = .fn g x y)
    (h : VCall Tryd.prog f [] (σ ++ [stB (0, 0)]) (fun r σ' => ∃ s τ, σ' = s ++ stB (0, 0) :: τ ∧ K (0, 0) s τ) ∨
      VPan Tryd.prog f [] (σ ++ [stB (0, 0)]) (fun r σ' => ∃ e s τ, r = stopA e ∧ σ' = s ++ stB (0, 0) :: τ ∧ K e s τ)) :
    VCall Tryd.prog (.fn 13 [] []) [f] σ (fun r σ' => ∃ e s τ, r = .agg [.int .i64 e.1, .int .i64 e.2] ∧ σ' = s ++ none :: τ ∧ K e s τ) := by
  have key : CallSh Tryd.prog 13 [f] σ (dropK (fun r σ' => ∃ e s τ, r = .agg [.int .i64 e.1, .int .i64 e.2] ∧ σ' = s ++ none :: τ ∧ K e s τ) σ.length) ∨ CallPan Tryd.prog 13 [f] σ (fun _ _ => False) := by
    refine CallSh.defers (m := 1) (f := 3) Tryd.func13 rfl rfl rfl rfl (.inl fun _ _ h => h) ?_
    show EvR _ _ _ [] [0] ⟨[f, .undef, .undef, .undef, .undef, .undef, .undef], σ⟩ _
    refine EvR.op (by rfl) (by rfl) (r := .ptr σ.length 0) (σ' := σ ++ [stB (0, 0)]) ?_ (fun h => Nat.le_trans h (by simp)) (EvR.nil ⟨rfl, ?_⟩)
    · show opE _ _ _ _ (.alloc 51) = _
      simp only [opE, lay51, Option.bind_some, setS_new]; rfl
    show EvR _ _ _ [1] [0] ⟨[f, .undef, .ptr σ.length 0, .undef, .undef, .undef, .undef], σ ++ [stB (0, 0)]⟩ _
    refine EvR.op (by rfl) (by rfl) (r := .fn 25 [] [.ptr σ.length 0]) (σ' := σ ++ [stB (0, 0)]) ?_ (fun h => h) (EvR.nil ⟨⟨_, _, _, rfl⟩, ?_⟩)
    · rfl
    show EvS _ ⟨(σ ++ [stB (0, 0)]).length, none⟩ _ ⟨[f, .undef, .ptr σ.length 0, .fn 25 [] [.ptr σ.length 0], .undef, .undef, .undef], σ ++ [stB (0, 0)]⟩ (endQ _ [.cell 2 51] (.fn 25 [] [.ptr σ.length 0]) _ _)
    refine EvS.mono (show EvK Tryd.prog ⟨(σ ++ [stB (0, 0)]).length, none⟩ (endC σ.length K) [.code _, .thr] .normal ⟨[f, .undef, .ptr σ.length 0, .fn 25 [] [.ptr σ.length 0], .undef, .undef, .undef], σ ++ [stB (0, 0)]⟩ from ?_) fun e s q => ?_
    · obtain ⟨g, xa, xb, rfl⟩ := hfn
      refine EvK.go 1000 ?_
      simp only [go_sem, Nat.reduceAdd, Nat.reduceSub, Nat.reduceMul, Nat.reduceLeDiff, Nat.reduceEqDiff, Nat.reduceBEq]
      rcases h with h | h
      · refine CallOr.ok (h.mono ?_)
        rintro r σ' ⟨s, τ, rfl, hk⟩
        have hsl := (hl _ _ _ hk).1
        have hg : getS (s ++ stB (0, 0) :: τ) σ.length = some (.var [.int .i64 0, .int .i64 0]) := get_mid hsl
        have hlt : σ.length < (s ++ stB (0, 0) :: τ).length := by simp [hsl]
        refine EvK.go 1000 ?_
        simp only [go_sem, Nat.reduceAdd, Nat.reduceSub, Nat.reduceMul, Nat.reduceLeDiff, Nat.reduceEqDiff, Nat.reduceBEq, hg, setS_lt hlt]
        exact ⟨s, τ, _, _, _, _, _, _, by rw [set_mid hsl]; rfl, hk⟩
      · refine CallOr.pan (VCallG.mono h ?_)
        rintro r σ' ⟨e, s, τ, rfl, rfl, hk⟩
        exact ⟨_, rfl, e, s, τ, _, _, _, _, _, _, rfl, hk, rfl⟩
    have q := evK_thr.1 q
    simp only [EvK] at q
    have fin : ∀ e s τ x0 x1 x3 x4 x5 x6, K e s τ → ∃ r, resultsA Tryd.prog ⟨[x0, x1, .ptr σ.length 0, x3, x4, x5, x6], s ++ stB e :: τ⟩ [.cell 2 51] = some r ∧ dropK (fun r σ' => ∃ e s τ, r = .agg [.int .i64 e.1, .int .i64 e.2] ∧ σ' = s ++ none :: τ ∧ K e s τ) σ.length r (s ++ stB e :: τ) := fun e s τ x0 x1 x3 x4 x5 x6 hk => by
      obtain ⟨h1, h2⟩ := hl e s τ hk
      exact ⟨_, caught_res h1 x0 x1 x3 x4 x5 x6, s ++ none :: τ, leSo_same _ _ _, by simp only [List.length_append, List.length_cons]; omega, h2, ⟨trivial, trivial, trivial⟩, e, s, τ, rfl, rfl, hk⟩
    cases e with
    | exit id => exact q.elim
    | goto id => exact q.elim
    | normal =>
      obtain ⟨s', τ, x0, x1, x3, x4, x5, x6, rfl, hk⟩ := q
      refine (RecN_eq _ σ.length (0, 0) (get_mid (hl _ _ _ hk).1)).mono ?_
      rintro σ' rfl
      rw [set_mid (hl _ _ _ hk).1]
      exact fin _ _ _ x0 x1 x3 x4 x5 x6 hk
    | ret =>
      obtain ⟨s', τ, x0, x1, x3, x4, x5, x6, rfl, hk⟩ := q
      refine (RecN_eq _ σ.length (0, 0) (get_mid (hl _ _ _ hk).1)).mono ?_
      rintro σ' rfl
      rw [set_mid (hl _ _ _ hk).1]
      exact fin _ _ _ x0 x1 x3 x4 x5 x6 hk
    | panic u =>
      obtain ⟨e, s', τ, x0, x1, x3, x4, x5, x6, rfl, hk, hu⟩ := q
      refine .inr ((RecP_eq _ σ.length (0, 0) e u hu (get_mid (hl _ _ _ hk).1)).mono ?_)
      rintro σ' rfl
      rw [set_mid (hl _ _ _ hk).1]
      exact fin _ _ _ x0 x1 x3 x4 x5 x6 hk
  refine VCall.sh (CallSh.drop ?_)
  rcases key with h | h
  · exact h
  · intro X base β w vs h1 h2 h3 fr cs h4
    obtain ⟨_, _, _, _, _, q, _⟩ := h X base β w vs h1 h2 h3 fr cs h4
    exact q.elim
end Go.Proofs

/- The program's Form. -/
set_option linter.unusedSimpArgs false
namespace Go.Proofs
open Go Go.Abs

theorem Ans.normAt {f : AVal} {args args' : List AVal} {E : Int} {l : List Tok} {d : Int} {α : Type} {toA : α → AVal} {res : PR α} {σ : Store} {K : AVal → Store → Prop} {x : α} {l' : List Tok} (h : Ans f args E l d toA res) (hres : res = .ok (x, l')) (i : Nat) (hi : σ[i]? = some (rdB E l d)) (hargs : renL (fun _ => i) args = args') (hf : f.low 0) (ha : lowL 1 args) (hx : (toA x).low 0)
    (h1 : K (toA x) (σ.set i (rdB E l' d))) : VCall Tryd.prog f args' σ K := by
  subst hres hargs
  refine VCall.at1 i hi (rd_low _ _ _ _) hf ha ?_
  rcases h with h | h
  · refine h.mono ?_
    rintro r σ' ⟨x, l', hx', rfl, rfl⟩
    cases hx'
    exact ⟨hx, _, rfl, rd_low _ _ _ _, h1⟩
  · intro X base β w vf vs a1 a2 a3 a4 fr cs a5
    obtain ⟨_, _, _, _, _, ⟨e, l', d', hx, _⟩, _⟩ := h X base β w vf vs a1 a2 a3 a4 fr cs a5
    cases hx
theorem Ans.panAt {f : AVal} {args args' : List AVal} {E : Int} {l : List Tok} {d : Int} {α : Type} {toA : α → AVal} {res : PR α} {σ : Store} {K : AVal → Store → Prop} {e : Er} (h : Ans f args E l d toA res) (hres : res = .error e) (i : Nat) (hi : σ[i]? = some (rdB E l d)) (hargs : renL (fun _ => i) args = args') (hf : f.low 0) (ha : lowL 1 args)
    (h1 : ∀ l' d', K (stopA e) (σ.set i (rdB E l' d'))) : VPan Tryd.prog f args' σ K := by
  subst hres hargs
  refine VCall.at1 i hi (rd_low _ _ _ _) hf ha ?_
  rcases h with h | h
  · intro X base β w vf vs a1 a2 a3 a4 fr cs a5
    obtain ⟨_, _, _, _, _, ⟨x, l', hx, _⟩, _⟩ := h X base β w vf vs a1 a2 a3 a4 fr cs a5
    cases hx
  · refine VCallG.mono h ?_
    rintro r σ' ⟨e, l', d', hx, rfl, rfl⟩
    cases hx
    exact ⟨stop_low _ _, _, rfl, rd_low _ _ _ _, h1 l' d'⟩

def formP (E : Int) (l : List Tok) : PR Fo := PR.bind (formulaP (unaryP E 50) l) fun f l' => if l' = [] then .ok (f, []) else .error (4, hereP E l')
def zF : List AVal := [.int .i64 0, .bool false, .str ⟨#[]⟩, .nils, .bool false, .str ⟨#[]⟩, .nils, .nils, .nils]
def formK (E : Int) (l : List Tok) (e : Er) (s τ : Store) : Prop :=
  τ = [] ∧ ((e = (0, 0) ∧ ∃ f, formP E l = .ok (f, []) ∧ s = [some (.var zF), none, none, some (.var f.toA.cells)]) ∨ (formP E l = .error e ∧ s = [some (.var zF), none, none, none]))

theorem Formula50 (E : Int) (l : List Tok) (hs : l.length ≤ 99999) : Ans (.fn 15 [] []) [.ptr 0 0] E l 0 Fo.toA (formulaP (unaryP E 50) l) :=
  Formula_eq (E := E) (d := 0) (u := unaryP E 50) (fun l hl => Unary_eq E 50 (by decide) l 0 rfl hl) (fun l x l' h => unary_len 50 l x l' h) l hs

theorem e00 : ((0 : Int) < 0) = False := eq_false (by decide)
theorem cells_low (f : Fo) (n : Nat) : lowL n f.toA.cells := by
  rw [fo_cells]; exact ⟨trivial, trivial, trivial, wds_low _, trivial, trivial, wds_low _, strs_low _, fos_low _, trivial⟩
theorem form_er {E : Int} {l : List Tok} {e : Er} (hP : formP E l = .error e) (B1 B2 B3 : Option Blk) :
    dropK (fun r σ' => ∃ e s τ, r = stopA e ∧ σ' = s ++ stB (0, 0) :: τ ∧ formK E l e s τ) 5 (stopA e) [some (.var zF), B1, B2, B3, stB (0, 0)] :=
  ⟨[some (.var zF), none, none, none, stB (0, 0)], ⟨.inl rfl, .inr rfl, .inr rfl, .inr rfl, .inl rfl, trivial⟩, Nat.le_refl _, ⟨⟨trivial, trivial, trivial, trivial, trivial, trivial, trivial, trivial, trivial, trivial⟩, trivial, trivial, trivial, ⟨trivial, trivial, trivial⟩, trivial⟩, stop_low _ _, e, [some (.var zF), none, none, none], [], rfl, rfl, rfl, .inr ⟨hP, rfl⟩⟩

theorem Form1_eq (E : Int) (l : List Tok) (hs : l.length ≤ 99999) :
    VCall Tryd.prog (.fn 14 [] [.ptr 2 0, .ptr 3 0]) [] ([some (.var zF), rdB E l 0, some (.var [.ptr 1 0]), some (.var zF)] ++ [stB (0, 0)]) (fun r σ' => ∃ s τ, σ' = s ++ stB (0, 0) :: τ ∧ formK E l (0, 0) s τ) ∨
      VPan Tryd.prog (.fn 14 [] [.ptr 2 0, .ptr 3 0]) [] ([some (.var zF), rdB E l 0, some (.var [.ptr 1 0]), some (.var zF)] ++ [stB (0, 0)]) (fun r σ' => ∃ e s τ, r = stopA e ∧ σ' = s ++ stB (0, 0) :: τ ∧ formK E l e s τ) := by
  have hF := Formula50 E l hs
  rw [List.cons_append, List.cons_append, List.cons_append, List.cons_append, List.nil_append]
  cases hR : formulaP (unaryP E 50) l with
  | error e =>
    right
    have hP : formP E l = .error e := by rw [formP, hR]; rfl
    refine VPan.begin (rs := []) (m := 10) (all := [.ptr 2 0, .ptr 3 0]) Tryd.func14 rfl rfl rfl rfl (by decide) ?_
    refine EvK.go 1000 ?_
    simp only [go_sem, Nat.reduceAdd, Nat.reduceSub, Nat.reduceMul, Nat.reduceLeDiff, Nat.reduceEqDiff, Nat.reduceBEq]
    refine CallOr.pan (hF.panAt hR 1 rfl rfl ⟨trivial, trivial⟩ ⟨Nat.one_pos, trivial⟩ fun l' d' => ?_)
    exact ⟨_, rfl, _, rfl, form_er hP _ _ _⟩
  | ok p =>
    obtain ⟨f, l'⟩ := p
    cases l' with
    | nil =>
      left
      have hP : formP E l = .ok (f, []) := by rw [formP, hR]; rfl
      refine VCall.begin (rs := []) (m := 10) (all := [.ptr 2 0, .ptr 3 0]) 1000 Tryd.func14 rfl rfl rfl rfl (by decide) ?_
      simp only [go_sem, Nat.reduceAdd, Nat.reduceSub, Nat.reduceMul, Nat.reduceLeDiff, Nat.reduceEqDiff, Nat.reduceBEq]
      refine hF.normAt hR 1 rfl rfl ⟨trivial, trivial⟩ ⟨Nat.one_pos, trivial⟩ (fo_low0 f) ?_
      rw [show (([some (.var zF), rdB E l 0, some (.var [.ptr 1 0]), some (.var zF), stB (0, 0)] : Store).set 1 (rdB E [] 0)) = [some (.var zF), rdB E [] 0, some (.var [.ptr 1 0]), some (.var zF), stB (0, 0)] from rfl]
      refine EvK.go 1000 ?_
      simp only [go_sem, Nat.reduceAdd, Nat.reduceSub, Nat.reduceMul, Nat.reduceLeDiff, Nat.reduceEqDiff, Nat.reduceBEq, fo_c9, fo_all, fo_take, Fo.cs, fo_cells, fo_agg, lt09, zF, rdB, toks_nil, cast0, e00]
      exact ⟨[some (.var zF), none, none, some (.var f.toA.cells), stB (0, 0)], ⟨.inl rfl, .inr rfl, .inr rfl, .inl (by rw [fo_cells]), .inl rfl, trivial⟩, Nat.le_refl _,
        ⟨⟨trivial, trivial, trivial, trivial, trivial, trivial, trivial, trivial, trivial, trivial⟩, trivial, trivial, cells_low f 5, ⟨trivial, trivial, trivial⟩, trivial⟩, trivial, [some (.var zF), none, none, some (.var f.toA.cells)], [], rfl, rfl, .inl ⟨rfl, f, hP, rfl⟩⟩
    | cons t l1 =>
      right
      have hP : formP E l = .error (4, hereP E (t :: l1)) := by rw [formP, hR]; rfl
      refine VPan.begin (rs := []) (m := 10) (all := [.ptr 2 0, .ptr 3 0]) Tryd.func14 rfl rfl rfl rfl (by decide) ?_
      refine EvK.go 1000 ?_
      simp only [go_sem, Nat.reduceAdd, Nat.reduceSub, Nat.reduceMul, Nat.reduceLeDiff, Nat.reduceEqDiff, Nat.reduceBEq]
      refine CallOr.ok (hF.normAt hR 1 rfl rfl ⟨trivial, trivial⟩ ⟨Nat.one_pos, trivial⟩ (fo_low0 f) ?_)
      rw [show (([some (.var zF), rdB E l 0, some (.var [.ptr 1 0]), some (.var zF), stB (0, 0)] : Store).set 1 (rdB E (t :: l1) 0)) = [some (.var zF), rdB E (t :: l1) 0, some (.var [.ptr 1 0]), some (.var zF), stB (0, 0)] from rfl]
      refine EvK.go 1000 ?_
      simp only [go_sem, Nat.reduceAdd, Nat.reduceSub, Nat.reduceMul, Nat.reduceLeDiff, Nat.reduceEqDiff, Nat.reduceBEq, fo_c9, fo_all, fo_take, Fo.cs, fo_cells, fo_agg, lt09, zF, rdB, toks_cons, succ0, pos1]
      refine CallOr.pan ((Fail_eq E (t :: l1) 0 4).panAt rfl 1 rfl rfl ⟨trivial, trivial⟩ ⟨Nat.one_pos, trivial, trivial⟩ fun l' d' => ?_)
      exact ⟨_, rfl, _, rfl, form_er hP _ _ _⟩

/-- The program's answer to a formula alone. -/
def formR (s : By) : AVal × Int × Int :=
  match allB s with
  | (l, at', e) => if e ≠ 0 then (.agg zF, at', e) else
    match formP s.length l with
    | .ok (f, _) => (f.toA, s.length, 0)
    | .error e => (.agg zF, e.2, e.1)
def formT (r : AVal × Int × Int) : AVal := .tup [r.1, .int .i64 r.2.1, .int .i64 r.2.2]

theorem zF_low (n : Nat) : (AVal.agg zF).low n := ⟨trivial, trivial, trivial, trivial, trivial, trivial, trivial, trivial, trivial, trivial⟩
theorem formR_low (s : By) : (formT (formR s)).low 0 := by
  have h : (formR s).1.low 0 := by
    unfold formR
    split
    split
    · exact zF_low 0
    · split
      · exact fo_low0 _
      · exact zF_low 0
  exact ⟨h, trivial, trivial, trivial⟩

theorem FormP_eq (s : ByteArray) (hs : s.size < 100000) (hlen : (allB (bs s)).1.length ≤ 99999) (hn : ∀ e, formP (bs s).length (allB (bs s)).1 = .error e → e.1 ≠ 0) : CallEq Tryd.prog 6 [.str s] (formT (formR (bs s))) := by
  refine CallEq.begin (rs := [.cell 2 28, .tmp 3, .tmp 4]) (m := 39) 1000 Tryd.func6 rfl rfl rfl (by decide) (formR_low _) ?_
  have hA := AllP_eq s (by omega)
  unfold formR
  obtain ⟨⟨l, at0, e⟩, hx⟩ : ∃ x, allB (bs s) = x := ⟨_, rfl⟩
  rw [hx] at hA hlen hn ⊢
  simp only [allA] at hA hlen hn
  simp only [go_sem, Nat.reduceAdd, Nat.reduceSub, Nat.reduceMul, Nat.reduceLeDiff, Nat.reduceEqDiff, Nat.reduceBEq]
  refine VCall.isoT [] hA (pTL_refl _ _ _) ⟨trivial, trivial⟩ ?_
  rw [frzI_nil]
  simp only [ite_self]
  refine EvK.go 1000 ?_
  by_cases he : e = 0
  · subst he
    simp only [go_sem, Nat.reduceAdd, Nat.reduceSub, Nat.reduceMul, Nat.reduceLeDiff, Nat.reduceEqDiff, Nat.reduceBEq, bs_len]
    have hc := Caught_eq (f := .fn 14 [] [.ptr 2 0, .ptr 3 0]) (σ := [some (.var zF), rdB s.size l 0, some (.var [.ptr 1 0]), some (.var zF)]) (K := formK s.size l) (by
      rintro e s' τ ⟨rfl, ⟨rfl, f, h1, rfl⟩ | ⟨h1, rfl⟩⟩
      · exact ⟨rfl, ⟨zF_low _, trivial, trivial, cells_low f _, trivial, trivial⟩⟩
      · exact ⟨rfl, ⟨zF_low _, trivial, trivial, trivial, trivial, trivial⟩⟩) ⟨trivial, (by show (2 : Nat) < 4; decide), (by show (3 : Nat) < 4; decide), trivial⟩ ⟨_, _, _, rfl⟩ (Form1_eq s.size l hlen)
    refine hc.mono ?_
    rintro r σ' ⟨e, s', τ, rfl, rfl, rfl, ⟨rfl, f, h1, rfl⟩ | ⟨h1, rfl⟩⟩
    · rw [h1]
      simp only [List.cons_append, List.nil_append]
      refine EvK.go 1000 ?_
      simp only [go_sem, Nat.reduceAdd, Nat.reduceSub, Nat.reduceMul, Nat.reduceLeDiff, Nat.reduceEqDiff, Nat.reduceBEq, fo_c9, fo_all, fo_take, Fo.cs, fo_cells, fo_agg, lt09, zF]
      exact ⟨pT_fo _ _ _, rfl, rfl, rfl⟩
    · rw [h1]
      have hne := hn e (by rw [bs_len]; exact h1)
      simp only [List.cons_append, List.nil_append]
      refine EvK.go 1000 ?_
      simp only [go_sem, Nat.reduceAdd, Nat.reduceSub, Nat.reduceMul, Nat.reduceLeDiff, Nat.reduceEqDiff, Nat.reduceBEq, hne, zF]
      refine EvK.draw [.no, ⟨none, [], [0]⟩, ⟨none, [], [0]⟩, ⟨none, [], [0]⟩, ⟨none, [], [0]⟩, ⟨none, [0], []⟩, .no, .no] 6 6 mixed rfl rfl (by decide) ?_
      simp only [go_sem, Nat.reduceAdd, Nat.reduceSub, Nat.reduceMul, Nat.reduceLeDiff, Nat.reduceEqDiff, Nat.reduceBEq, padS]
      refine EvK.go 1000 ?_
      simp only [go_sem, Nat.reduceAdd, Nat.reduceSub, Nat.reduceMul, Nat.reduceLeDiff, Nat.reduceEqDiff, Nat.reduceBEq]
      exact pT_refl _ _ _
  · simp only [go_sem, Nat.reduceAdd, Nat.reduceSub, Nat.reduceMul, Nat.reduceLeDiff, Nat.reduceEqDiff, Nat.reduceBEq, he]
    exact pT_refl _ _ _
end Go.Proofs

/- The program's Text. -/
set_option linter.unusedSimpArgs false
namespace Go.Proofs
open Go Go.Abs

theorem CallSh.or_drop {P : Program} {σ : Store} {g : FuncId} {fn : Func} {c : Code} {first captured args all : List AVal} {K Kp : AVal → Store → Prop} {m : Nat} {rs : List ResultVar} (hf : P.funcs[g]? = some fn) (hb : fn.body = some c) (hr : fn.results.toList = rs)
    (hall : first ++ args ++ captured = all) (hm : fn.ntmps - all.length = m) (hname : (fn.name == "runtime.NumGoroutine") = false) (hs : (∀ r σ', ¬ Kp r σ') ∨ (∀ r σ', ¬ K r σ'))
    (h : EvK P ⟨σ.length, none⟩ (retX P rs (dropK K σ.length) (dropK Kp σ.length)) [.code c, .thr] .normal ⟨all ++ List.replicate m .undef, σ⟩) :
    VCall P (.fn g first captured) args σ K ∨ VPan P (.fn g first captured) args σ Kp := by
  subst hr hm hall
  have h' : EvS P ⟨σ.length, none⟩ c (St.enter fn (first ++ args ++ captured) σ) (retX P fn.results.toList (dropK K σ.length) (dropK Kp σ.length)) := EvS.mono h fun e s q => by
    have := evK_thr.1 q
    simpa only [EvK] using this
  rcases CallSh.bodyX hf hb hname h' (hs.imp (fun hs r σ' ⟨_, _, _, _, _, q⟩ => hs _ _ q) (fun hs r σ' ⟨_, _, _, _, _, q⟩ => hs _ _ q)) with h | h
  · exact .inl (VCall.sh (CallSh.drop h))
  · exact .inr (VCall.sh (CallSh.drop h))

def ins (l : List InP) : List AVal := l.map InP.toA
theorem ins_add (l : List InP) (x : InP) : ins (l ++ [x]) = ins l ++ [x.toA] := by simp [ins]
theorem ins_len (l : List InP) : (ins l).length = l.length := by simp [ins]
theorem ins_low {n : Nat} (l : List InP) : lowL n (ins l) := lowL_map fun x _ => by
  rw [in_eq]; exact ⟨trivial, trivial, trivial, trivial, trivial, trivial, wds_low _, trivial, trivial, wds_low _, strs_low _, fos_low _, trivial⟩
theorem in_cs (x : InP) : x.toA.cells = [.str (ofB x.name), .str (ofB x.role), .bool x.cls, .int .i64 x.form.kind, .bool x.form.l.var, .str x.form.l.name, .ps 3 (x.form.l.args.map Wd.toA), .bool x.form.r.var, .str x.form.r.name, .ps 3 (x.form.r.args.map Wd.toA), .ps 1 (strs x.form.names), .ps 9 (x.form.parts.map Fo.toA)] := by rw [in_eq]; rfl
theorem in_agg (x : InP) : isAggA x.toA = true := by rw [in_eq]; rfl

/-- All inputs. -/
def inputsP (E : Int) : Nat → List InP → List Tok → Except Er (List InP)
  | 0, acc, _ => .ok acc
  | k + 1, acc, l => if l = [] then .ok acc else if 500 ≤ acc.length then .error (2, hereP E l) else
    match inputP E l with
    | .ok (x, l') => inputsP E k (acc ++ [x]) l'
    | .error e => .error e

theorem input_len {E : Int} {l l' : List Tok} {x : InP} (h : inputP E l = .ok (x, l')) : l'.length + 5 ≤ l.length := by
  unfold inputP at h
  split at h
  · rename_i c
    obtain ⟨_, l1, h1, h⟩ := bind_inv h
    obtain ⟨_, l2, h2, h⟩ := bind_inv h
    obtain ⟨_, l3, h3, h⟩ := bind_inv h
    obtain ⟨_, l4, h4, h⟩ := bind_inv h
    obtain ⟨_, l5, h5, h⟩ := bind_inv h
    obtain ⟨f, l6, h6, h⟩ := bind_inv h
    have e1 := tail_of_sign h1
    have e2 := tail_of_name h2
    have e3 := tail_of_sign h3
    have e4 := tail_of_name h4
    have e5 := tail_of_sign h5
    have e6 := formula_len (fun l x l' h => unary_len 50 l x l' h) h6
    unfold closeP at h
    obtain ⟨_, l7, h7, h⟩ := bind_inv h
    obtain ⟨_, l8, h8, h⟩ := bind_inv h
    have e7 := tail_of_sign h7
    have e8 := tail_of_sign h8
    have e0 := tail_len l
    split at h
    · split at h
      · cases h; omega
      · cases h
    · split at h
      · cases h; omega
      · cases h
  · cases h

def textO (E : Int) (l : List Tok) (s τ : Store) : Prop := ∃ xs, inputsP E l.length [] l = .ok xs ∧ s = [none, none, some (.var [slA 4 12 (ins xs)])] ∧ τ = [slB (ins xs)]
def textE (E : Int) (l : List Tok) (e : Er) (s τ : Store) : Prop := inputsP E l.length [] l = .error e ∧ s = [none, none, none] ∧ τ = []
def textK (E : Int) (l : List Tok) (e : Er) (s τ : Store) : Prop := (e = (0, 0) ∧ textO E l s τ) ∨ textE E l e s τ

theorem len_slA (σ : Store) (b sz : Nat) (l : List AVal) : lenA .slice σ (slA b sz l) = some l.length := by
  cases l <;> rfl
theorem ok_in (x : InP) : appOk ⟨12, true, 192, [.str ⟨#[]⟩, .str ⟨#[]⟩, .bool false, .int .i64 0, .bool false, .str ⟨#[]⟩, .nils, .bool false, .str ⟨#[]⟩, .nils, .nils, .nils], .struct⟩ [x.toA] = True :=
  eq_true ⟨fun y hy => by rw [List.mem_singleton.1 hy, in_cs]; exact ⟨rfl, rfl⟩, by decide, by decide, rfl⟩

def textSt (E : Int) (l : List Tok) (acc : List InP) : Store := [rdB E l 0, some (.var [.ptr 0 0]), some (.var [slA 4 12 (ins acc)]), stB (0, 0), slB (ins acc)]

theorem slA_low5 (l : List AVal) : (slA 4 12 l).low 5 := by
  cases l with
  | nil => trivial
  | cons x l => show (4 : Nat) < 5; decide
theorem slB_low5 {l : List AVal} (h : lowL 5 l) : lowO 5 (slB l) := by
  cases l with
  | nil => trivial
  | cons x l => exact h

theorem text_er {E : Int} {l : List Tok} {e : Er} (h : inputsP E l.length [] l = .error e) (B0 B1 B2 : Option Blk) (τ : Store) :
    dropK (fun r σ' => ∃ e s τ, r = stopA e ∧ σ' = s ++ stB (0, 0) :: τ ∧ textE E l e s τ) 4 (stopA e) (B0 :: B1 :: B2 :: stB (0, 0) :: τ) :=
  ⟨[none, none, none, stB (0, 0)], ⟨.inr rfl, .inr rfl, .inr rfl, .inl rfl, trivial⟩, Nat.le_refl _, ⟨trivial, trivial, trivial, ⟨trivial, trivial, trivial⟩, trivial⟩, stop_low _ _, e, [none, none, none], [], rfl, rfl, h, rfl, rfl⟩

theorem Text1_eq (E : Int) (l : List Tok) (hs : l.length ≤ 99999) :
    VCall Tryd.prog (.fn 19 [] [.ptr 1 0, .ptr 2 0]) [] ([rdB E l 0, some (.var [.ptr 0 0]), some (.var [.nils])] ++ [stB (0, 0)]) (fun r σ' => ∃ s τ, σ' = s ++ stB (0, 0) :: τ ∧ textO E l s τ) ∨
      VPan Tryd.prog (.fn 19 [] [.ptr 1 0, .ptr 2 0]) [] ([rdB E l 0, some (.var [.ptr 0 0]), some (.var [.nils])] ++ [stB (0, 0)]) (fun r σ' => ∃ e s τ, r = stopA e ∧ σ' = s ++ stB (0, 0) :: τ ∧ textE E l e s τ) := by
  rw [List.cons_append, List.cons_append, List.cons_append, List.nil_append]
  refine CallSh.or_drop (rs := []) (m := 16) (all := [.ptr 1 0, .ptr 2 0]) Tryd.func19 rfl rfl rfl rfl (by decide) ?_ ?_
  · cases hR : inputsP E l.length [] l with
    | ok x => exact .inl fun r σ' ⟨e, s, τ, _, _, h, _⟩ => by rw [hR] at h; cases h
    | error e => exact .inr fun r σ' ⟨s, τ, _, xs, h, _⟩ => by rw [hR] at h; cases h
  generalize hR : inputsP E l.length [] l = R
  refine EvK.go 1000 ?_
  refine EvK.loopRX (ι := {p : Nat × List InP × List Tok // inputsP E p.1 p.2.1 p.2.2 = R ∧ p.2.2.length ≤ p.1 ∧ p.2.1.length + p.2.2.length ≤ 99999}) 1000 (fun _ => mkT 18 [(0, .ptr 1 0), (1, .ptr 2 0)])
    (fun p => textSt E p.1.2.2 p.1.2.1)
    (fun p => p.1.1) ⟨(l.length, [], l), hR, Nat.le_refl _, by simp only [List.length_nil]; omega⟩ [] ?_ (fun _ => by show (4 : Nat) ≤ 5; omega) ?_
  · refine leR_mk rfl ?_
    simp only [go_sem, Nat.reduceAdd, Nat.reduceSub, Nat.reduceMul, Nat.reduceLeDiff, Nat.reduceEqDiff, Nat.reduceBEq, textSt, ins, List.map_nil, slA_nil, slB_nil, toks_low, rdB, stB, renL_low0, ren_low0]
    decide
  · rintro ⟨⟨fuel, acc, l4⟩, h1, h2, h3⟩
    simp only at h1 h2 h3
    simp only [textSt]
    cases l4 with
    | nil =>
      have hR' : R = .ok acc := by rw [← h1]; cases fuel <;> rfl
      simp only [go_sem, Nat.reduceAdd, Nat.reduceSub, Nat.reduceMul, Nat.reduceLeDiff, Nat.reduceEqDiff, Nat.reduceBEq, rdB, toks_nil, cast0, e00]
      refine EvK.go 1000 ?_
      simp only [go_sem, Nat.reduceAdd, Nat.reduceSub, Nat.reduceMul, Nat.reduceLeDiff, Nat.reduceEqDiff, Nat.reduceBEq]
      refine ⟨[none, none, some (.var [slA 4 12 (ins acc)]), stB (0, 0), slB (ins acc)], ⟨.inr rfl, .inr rfl, .inl rfl, .inl rfl, .inl rfl, trivial⟩, by show (4 : Nat) ≤ 5; omega, ?_, trivial, [none, none, some (.var [slA 4 12 (ins acc)])], [slB (ins acc)], rfl, acc, by rw [hR, hR'], rfl, rfl⟩
      exact ⟨trivial, trivial, ⟨slA_low5 _, trivial⟩, ⟨trivial, trivial, trivial⟩, slB_low5 (ins_low _), trivial⟩
    | cons t l4 =>
      obtain ⟨fu, rfl⟩ : ∃ fu, fuel = fu + 1 := ⟨fuel - 1, by simp only [List.length_cons] at h2; omega⟩
      by_cases c5 : (500 : Int) ≤ acc.length
      · have hR' : R = .error (2, hereP E (t :: l4)) := by
          rw [← h1, inputsP, if_neg (by simp), if_pos (by omega)]
        simp only [go_sem, Nat.reduceAdd, Nat.reduceSub, Nat.reduceMul, Nat.reduceLeDiff, Nat.reduceEqDiff, Nat.reduceBEq, rdB, toks_cons, succ0, pos1, len_slA, ins_len, c5]
        refine (Fail_eq E (t :: l4) 0 2).call (τ := [some (.var [.ptr 0 0]), some (.var [slA 4 12 (ins acc)]), stB (0, 0), slB (ins acc)]) ⟨trivial, trivial⟩ ⟨Nat.one_pos, trivial, trivial⟩ (fun x l' h => by cases h) (fun e l' d' h u hu => ?_)
        cases h
        exact ⟨_, hu, text_er (hR.trans hR') _ _ _ _⟩
      · have hne : (t :: l4) ≠ [] := by simp
        have hgo : inputsP E (fu + 1) acc (t :: l4) = match inputP E (t :: l4) with
          | .ok (x, l') => inputsP E fu (acc ++ [x]) l'
          | .error e => .error e := by rw [inputsP, if_neg hne, if_neg (by omega)]
        rw [hgo] at h1
        have hlen4 : (t :: l4).length ≤ 99999 := by omega
        simp only [go_sem, Nat.reduceAdd, Nat.reduceSub, Nat.reduceMul, Nat.reduceLeDiff, Nat.reduceEqDiff, Nat.reduceBEq, rdB, toks_cons, succ0, pos1, len_slA, ins_len, c5]
        simp only [← toks_cons, rdB_eq]
        generalize (t :: l4) = l5 at *
        cases hT : inputP E l5 with
        | error e =>
          rw [hT] at h1
          refine EvK.drawP [⟨none, [], [0, 5]⟩, .no, ⟨none, [0], []⟩, ⟨some 5, [5], []⟩, ⟨some 6, [4, 5, 6], []⟩, ⟨none, [2], []⟩] 5 7 mixed rfl rfl (by decide) 2 [2, 3, 4, 5] rfl rfl rfl rfl rfl rfl ?_
          simp only [go_sem, Nat.reduceAdd, Nat.reduceSub, Nat.reduceMul, Nat.reduceLeDiff, Nat.reduceEqDiff, Nat.reduceBEq, padS, List.contains_cons]
          refine EvK.fact ((Input_eq E l5 hlen4).pan hT ⟨trivial, trivial⟩ ⟨Nat.one_pos, trivial⟩ fun l' d' => ⟨_, rfl, ⟨stopA e, rfl, ?_⟩⟩)
          exact text_er (hR.trans h1.symm) _ _ _ _
        | ok p =>
          obtain ⟨x, l6⟩ := p
          rw [hT] at h1
          have hlen6 := input_len hT
          refine EvK.draw [⟨none, [], [0, 5]⟩, .no, ⟨none, [0], []⟩, ⟨some 5, [5], []⟩, ⟨some 6, [4, 5, 6], []⟩, ⟨none, [2], []⟩] 5 7 mixed rfl rfl (by decide) ?_
          simp only [go_sem, Nat.reduceAdd, Nat.reduceSub, Nat.reduceMul, Nat.reduceLeDiff, Nat.reduceEqDiff, Nat.reduceBEq, padS]
          refine (Input_eq E l5 hlen4).draw hT ⟨trivial, trivial⟩ ⟨Nat.one_pos, trivial⟩ ?_
          simp only [go_sem, Nat.reduceAdd, Nat.reduceSub, Nat.reduceMul, Nat.reduceLeDiff, Nat.reduceEqDiff, Nat.reduceBEq, in_agg, ok_in, lt09, in_cs, app_slA]
          refine ⟨by decide, by rw [ins_len]; omega, ?_⟩
          refine EvK.go 1000 ?_
          simp only [go_sem, Nat.reduceAdd, Nat.reduceSub, Nat.reduceMul, Nat.reduceLeDiff, Nat.reduceEqDiff, Nat.reduceBEq]
          refine ⟨⟨(fu, acc ++ [x], l6), h1, by simp only; omega, by simp only [List.length_append, List.length_singleton]; omega⟩, [(4, 6), (6, 4)], leR_mk rfl ?_, by simp only; omega⟩
          simp only [textSt, ins_add, slA_snoc, slB_snoc]
          have lw : lowL 0 (ins acc ++ [x.toA]) := by rw [← ins_add]; exact ins_low _
          simp only [go_sem, Nat.reduceAdd, Nat.reduceSub, Nat.reduceMul, Nat.reduceLeDiff, Nat.reduceEqDiff, Nat.reduceBEq, toks_low, rdB, renL_low0, renL_low0 lw, stB]
          exact ⟨by decide, by decide, by decide, by rw [← ins_add]; exact ins_low _⟩

/-- The program's answer to a text. -/
def textR (s : By) : List InP × Int × Int :=
  match allB s with
  | (l, at', e) => if e ≠ 0 then ([], at', e) else
    match inputsP s.length l.length [] l with
    | .ok xs => (xs, s.length, 0)
    | .error e => ([], e.2, e.1)
def textT (r : List InP × Int × Int) : AVal := .tup [.ps 12 (ins r.1), .int .i64 r.2.1, .int .i64 r.2.2]

theorem TextP_eq (s : ByteArray) (hs : s.size < 100000) (hlen : (allB (bs s)).1.length ≤ 99999) (hn : ∀ e, inputsP (bs s).length (allB (bs s)).1.length [] (allB (bs s)).1 = .error e → e.1 ≠ 0) : CallEq Tryd.prog 9 [.str s] (textT (textR (bs s))) := by
  refine CallEq.begin (rs := [.tmp 2, .tmp 3, .tmp 4]) (m := 37) 1000 Tryd.func9 rfl rfl rfl (by decide) ⟨ins_low _, trivial, trivial, trivial⟩ ?_
  have hA := AllP_eq s (by omega)
  unfold textR
  obtain ⟨⟨l, at0, e⟩, hx⟩ : ∃ x, allB (bs s) = x := ⟨_, rfl⟩
  rw [hx] at hA hlen hn ⊢
  simp only [allA] at hA hlen hn
  simp only [go_sem, Nat.reduceAdd, Nat.reduceSub, Nat.reduceMul, Nat.reduceLeDiff, Nat.reduceEqDiff, Nat.reduceBEq]
  refine VCall.isoT [] hA (pTL_refl _ _ _) ⟨trivial, trivial⟩ ?_
  rw [frzI_nil]
  simp only [ite_self]
  refine EvK.go 1000 ?_
  by_cases he : e = 0
  · subst he
    simp only [go_sem, Nat.reduceAdd, Nat.reduceSub, Nat.reduceMul, Nat.reduceLeDiff, Nat.reduceEqDiff, Nat.reduceBEq, bs_len]
    have hc := Caught_eq (f := .fn 19 [] [.ptr 1 0, .ptr 2 0]) (σ := [rdB s.size l 0, some (.var [.ptr 0 0]), some (.var [.nils])]) (K := textK s.size l) (by
      rintro e s' τ (⟨rfl, xs, h1, rfl, rfl⟩ | ⟨h1, rfl, rfl⟩)
      · exact ⟨rfl, ⟨trivial, trivial, ⟨slA_low5 _, trivial⟩, trivial, slB_low5 (ins_low _), trivial⟩⟩
      · exact ⟨rfl, ⟨trivial, trivial, trivial, trivial, trivial⟩⟩) ⟨trivial, (by show (1 : Nat) < 3; decide), (by show (2 : Nat) < 3; decide), trivial⟩ ⟨_, _, _, rfl⟩ ((Text1_eq s.size l hlen).imp (fun h => h.mono fun r σ' ⟨s, τ, h1, h2⟩ => ⟨s, τ, h1, .inl ⟨rfl, h2⟩⟩) (fun h => VCallG.mono h fun r σ' ⟨e, s, τ, h0, h1, h2⟩ => ⟨e, s, τ, h0, h1, .inr h2⟩))
    refine hc.mono ?_
    rintro r σ' ⟨e, s', τ, rfl, rfl, ⟨rfl, xs, h1, rfl, rfl⟩ | ⟨h1, rfl, rfl⟩⟩
    · rw [h1]
      simp only [List.cons_append, List.nil_append]
      refine EvK.go 1000 ?_
      simp only [go_sem, Nat.reduceAdd, Nat.reduceSub, Nat.reduceMul, Nat.reduceLeDiff, Nat.reduceEqDiff, Nat.reduceBEq, slA_cell]
      exact ⟨of_eq_true (pT_slA rfl rfl), rfl, rfl, rfl⟩
    · rw [h1]
      have hne := hn e (by rw [bs_len]; exact h1)
      simp only [List.cons_append, List.nil_append]
      refine EvK.go 1000 ?_
      simp only [go_sem, Nat.reduceAdd, Nat.reduceSub, Nat.reduceMul, Nat.reduceLeDiff, Nat.reduceEqDiff, Nat.reduceBEq, hne]
      refine EvK.draw [.no, .no, .no, .no, .no, .no, .no] 5 5 mixed rfl rfl (by decide) ?_
      simp only [go_sem, Nat.reduceAdd, Nat.reduceSub, Nat.reduceMul, Nat.reduceLeDiff, Nat.reduceEqDiff, Nat.reduceBEq, padS]
      refine EvK.go 1000 ?_
      simp only [go_sem, Nat.reduceAdd, Nat.reduceSub, Nat.reduceMul, Nat.reduceLeDiff, Nat.reduceEqDiff, Nat.reduceBEq]
      exact ⟨rfl, rfl, rfl, rfl⟩
  · simp only [go_sem, Nat.reduceAdd, Nat.reduceSub, Nat.reduceMul, Nat.reduceLeDiff, Nat.reduceEqDiff, Nat.reduceBEq, he]
    exact ⟨rfl, rfl, rfl, rfl⟩
end Go.Proofs

/- Errors have a code, and a place in the text. -/
set_option linter.unusedSimpArgs false
namespace Go.Proofs
open Go Go.Abs

def Sane {α : Type} (Q : Int → Prop) (r : PR α) : Prop :=
  match r with
  | .ok (_, l') => ∀ t ∈ l', Q t.at'
  | .error e => e.1 ≠ 0 ∧ Q e.2

section
variable {Q : Int → Prop} {E : Int} (hE : Q E)
theorem sane_bind {α β : Type} {x : PR α} {f : α → List Tok → PR β} (h : Sane Q x) (hf : ∀ a l, (∀ t ∈ l, Q t.at') → Sane Q (f a l)) : Sane Q (PR.bind x f) := by
  match x, h with
  | .ok (a, l), h => exact hf a l h
  | .error e, h => exact h
theorem sane_ok {α : Type} {a : α} {l : List Tok} (h : ∀ t ∈ l, Q t.at') : Sane Q (.ok (a, l) : PR α) := h
theorem sane_tail {l : List Tok} (h : ∀ t ∈ l, Q t.at') : ∀ t ∈ l.tail, Q t.at' := fun t ht => h t (List.mem_of_mem_tail ht)
include hE
theorem sane_here {l : List Tok} (h : ∀ t ∈ l, Q t.at') : Q (hereP E l) := by
  cases l with
  | nil => exact hE
  | cons t l => exact h t (by simp)
theorem sane_odd {α : Type} {l : List Tok} (h : ∀ t ∈ l, Q t.at') : Sane Q (.error (oddP E l) : PR α) := by
  cases l with
  | nil => exact ⟨by show (5 : Int) ≠ 0; decide, hE⟩
  | cons t l => exact ⟨by show (4 : Int) ≠ 0; decide, h t (by simp)⟩
theorem sane_at {α : Type} {l : List Tok} {k : Int} (hk : k ≠ 0) (h : ∀ t ∈ l, Q t.at') : Sane Q (.error (k, hereP E l) : PR α) := ⟨hk, sane_here hE h⟩
theorem sane_sign {sg : By} {l : List Tok} (h : ∀ t ∈ l, Q t.at') : Sane Q (signP E sg l) := by
  unfold signP; split
  · exact sane_tail h
  · exact sane_odd hE h
theorem sane_name {k : Int} {l : List Tok} (h : ∀ t ∈ l, Q t.at') : Sane Q (nameP E k l) := by
  unfold nameP; split
  · exact sane_tail h
  · exact sane_odd hE h
theorem sane_more {α : Type} {sg : By} {u : List Tok → PR α} (hu : ∀ l, (∀ t ∈ l, Q t.at') → Sane Q (u l)) : ∀ (k : Nat) (acc : List α) (l : List Tok), (∀ t ∈ l, Q t.at') → Sane Q (moreP sg u k acc l)
  | 0, acc, l, h => h
  | k + 1, acc, l, h => by
    unfold moreP; split
    · exact sane_bind (hu _ (sane_tail h)) fun a l h => sane_more hu k _ _ h
    · exact h
theorem sane_term : ∀ (n : Nat) (l : List Tok), (∀ t ∈ l, Q t.at') → Sane Q (termP E n l)
  | 0, l, h => sane_at hE (by decide) h
  | n + 1, l, h => by
    simp only [termP, termF]
    split
    · exact sane_bind (sane_name hE h) fun a l h => h
    · refine sane_bind (sane_name hE h) fun a l h => ?_
      split
      · refine sane_bind (sane_term n _ (sane_tail h)) fun a l h => ?_
        refine sane_bind (sane_more hE (fun l h => sane_term n l h) _ _ _ h) fun a l h => ?_
        exact sane_bind (sane_sign hE h) fun a l h => h
      · exact h
theorem sane_atom {n : Nat} {l : List Tok} (h : ∀ t ∈ l, Q t.at') : Sane Q (atomP E n l) := by
  unfold atomP; split
  · unfold systemP; split
    · exact sane_tail h
    · split
      · exact sane_tail h
      · exact sane_at hE (by decide) h
  · refine sane_bind (sane_term hE n l h) fun a l h => ?_
    split
    · exact sane_bind (sane_term hE n _ (sane_tail h)) fun a l h => h
    · split
      · exact sane_bind (sane_term hE n _ (sane_tail h)) fun a l h => h
      · split
        · exact sane_odd hE h
        · exact h
section
variable {u : List Tok → PR Fo} (hu : ∀ l, (∀ t ∈ l, Q t.at') → Sane Q (u l))
include hu
theorem sane_bound {k : Int} {l : List Tok} (h : ∀ t ∈ l, Q t.at') : Sane Q (boundP E u k l) := by
  unfold boundP
  refine sane_bind (sane_sign hE h) fun a l h => ?_
  refine sane_bind (sane_name hE h) fun a l h => ?_
  refine sane_bind (sane_more hE (fun l h => sane_name hE h) _ _ _ h) fun a l h => ?_
  refine sane_bind (sane_sign hE h) fun a l h => ?_
  refine sane_bind (sane_sign hE h) fun a l h => ?_
  exact sane_bind (hu _ h) fun a l h => h
theorem sane_chain {sg : By} {k : Int} {a : Fo} {l : List Tok} (h : ∀ t ∈ l, Q t.at') : Sane Q (chainP u sg k a l) := by
  unfold chainP
  exact sane_bind (sane_more hE hu _ _ _ h) fun a l h => h
theorem sane_formula {l : List Tok} (h : ∀ t ∈ l, Q t.at') : Sane Q (formulaP u l) := by
  unfold formulaP
  refine sane_bind (hu _ h) fun a l h => ?_
  have two : ∀ {g : Fo → Fo}, Sane Q (PR.bind (u l.tail) fun b l => .ok (g b, l)) := sane_bind (hu _ (sane_tail h)) fun a l h => h
  split
  · exact sane_chain hE hu h
  · split
    · exact sane_chain hE hu h
    · split
      · exact two
      · split
        · exact two
        · split
          · exact two
          · split
            · exact two
            · exact h
theorem sane_unaryF {n : Nat} {l : List Tok} (h : ∀ t ∈ l, Q t.at') : Sane Q (unaryF E n u l) := by
  unfold unaryF; split
  · exact sane_bind (hu _ (sane_tail h)) fun a l h => h
  · split
    · exact sane_bound hE hu (sane_tail h)
    · split
      · exact sane_bound hE hu (sane_tail h)
      · split
        · unfold bracketsP
          refine sane_bind (sane_formula hE hu (sane_tail h)) fun a l h => ?_
          exact sane_bind (sane_sign hE h) fun a l h => h
        · exact sane_atom hE h
end
theorem sane_unary : ∀ (n : Nat) (l : List Tok), (∀ t ∈ l, Q t.at') → Sane Q (unaryP E n l)
  | 0, l, h => sane_at hE (by decide) h
  | n + 1, l, h => sane_unaryF hE (sane_unary n) h
theorem sane_form {l : List Tok} (h : ∀ t ∈ l, Q t.at') : Sane Q (formP E l) := by
  unfold formP
  refine sane_bind (sane_formula hE (sane_unary hE 50) h) fun a l h => ?_
  split
  · exact sane_ok fun t ht => by cases ht
  · exact sane_at hE (by decide) h
theorem sane_input {l : List Tok} (h0 : ∀ t ∈ l, Q t.at') : Sane Q (inputP E l) := by
  unfold inputP; split
  · refine sane_bind (sane_sign hE (sane_tail h0)) fun a l h => ?_
    refine sane_bind (sane_name hE h) fun a l h => ?_
    refine sane_bind (sane_sign hE h) fun a l h => ?_
    refine sane_bind (sane_name hE h) fun a l h => ?_
    refine sane_bind (sane_sign hE h) fun a l h => ?_
    refine sane_bind (sane_formula hE (sane_unary hE 50) h) fun a l h => ?_
    unfold closeP
    refine sane_bind (sane_sign hE h) fun a l h => ?_
    refine sane_bind (sane_sign hE h) fun a l h => ?_
    split
    · split
      · exact h
      · exact sane_at hE (by decide) h0
    · split
      · exact h
      · exact sane_at hE (by decide) h0
  · exact sane_odd hE h0
theorem sane_inputs : ∀ (k : Nat) (acc : List InP) (l : List Tok), (∀ t ∈ l, Q t.at') → ∀ e, inputsP E k acc l = .error e → e.1 ≠ 0 ∧ Q e.2
  | 0, acc, l, h, e, he => by cases he
  | k + 1, acc, l, h, e, he => by
    unfold inputsP at he
    split at he
    · cases he
    · split at he
      · cases he; exact ⟨by show (2 : Int) ≠ 0; decide, sane_here hE h⟩
      · have hs := sane_input hE h
        split at he
        · rename_i x l' hx
          rw [hx] at hs
          exact sane_inputs k _ _ hs _ he
        · rename_i e' hx
          rw [hx] at hs
          cases he; exact hs
end

theorem desc_len : ∀ (L : List (Nat × Int × By)) (n : Nat), L.Pairwise (fun a b => b.1 < a.1) → (∀ a ∈ L, 1 ≤ a.1 ∧ a.1 ≤ n) → L.length ≤ n
  | [], n, _, _ => Nat.zero_le _
  | a :: L, n, hp, ha => by
    obtain ⟨h1, h2⟩ := List.pairwise_cons.1 hp
    have h3 := ha a (by simp)
    have := desc_len L (a.1 - 1) h2 fun b hb => ⟨(ha b (by simp [hb])).1, by have := h1 b hb; omega⟩
    simp only [List.length_cons]; omega
theorem lex_count {s : By} {L : List (Nat × Int × By)} (h : lex s = some L) : L.length ≤ s.length := by
  obtain ⟨h1, h2⟩ := lex_le s.length s L (Nat.le_refl _) h
  exact desc_len L _ h2 fun a ha => ⟨lex_pos s.length s L (Nat.le_refl _) h a ha, h1 a ha⟩

/-- What the text's tokens are. -/
theorem all_facts {s : By} (hs : s.length ≤ 65536) : (allB s).1.length ≤ 65536 ∧ ∀ t ∈ (allB s).1, 0 ≤ t.at' ∧ t.at' ≤ s.length := by
  cases h : lex s with
  | none =>
    obtain ⟨p, e, _, _, _, h3⟩ := allB_none hs h
    rw [h3]; exact ⟨Nat.zero_le _, fun t ht => by cases ht⟩
  | some L =>
    rw [allB_some hs h]
    have h1 := lex_count h
    obtain ⟨h2, _⟩ := lex_le s.length s L (Nat.le_refl _) h
    refine ⟨by simp only [List.length_map]; omega, fun t ht => ?_⟩
    obtain ⟨a, ha, rfl⟩ := List.mem_map.1 ht
    have := h2 a ha
    unfold tokAt
    exact ⟨by simp only; omega, by simp only; omega⟩
def inT (n : Nat) (p : Int) : Prop := 0 ≤ p ∧ p ≤ n

theorem FormS_eq (s : ByteArray) (hs : s.size ≤ 65536) : CallEq Tryd.prog 6 [.str s] (formT (formR (bs s))) := by
  have hb : (bs s).length ≤ 65536 := by rw [bs_len]; exact hs
  obtain ⟨h1, h2⟩ := all_facts hb
  refine FormP_eq s (by omega) (by omega) fun e he => ?_
  have := sane_form (Q := inT (bs s).length) (E := (bs s).length) ⟨by omega, Int.le_refl _⟩ h2
  rw [he] at this
  exact this.1
theorem TextS_eq (s : ByteArray) (hs : s.size ≤ 65536) : CallEq Tryd.prog 9 [.str s] (textT (textR (bs s))) := by
  have hb : (bs s).length ≤ 65536 := by rw [bs_len]; exact hs
  obtain ⟨h1, h2⟩ := all_facts hb
  refine TextP_eq s (by omega) (by omega) fun e he => ?_
  exact (sane_inputs (Q := inT (bs s).length) (E := (bs s).length) ⟨by omega, Int.le_refl _⟩ _ _ _ h2 e he).1
theorem formR_at (s : By) (hs : s.length ≤ 65536) : 0 ≤ (formR s).2.1 ∧ (formR s).2.1 ≤ s.length := by
  obtain ⟨_, h2⟩ := all_facts hs
  have hE : inT s.length (s.length : Int) := ⟨by omega, Int.le_refl _⟩
  have := sane_form (Q := inT s.length) (E := s.length) hE h2
  unfold formR
  split
  rename_i l at0 e hx
  rw [hx] at this
  split
  · rename_i he
    cases h : lex s with
    | none =>
      obtain ⟨p, e, _, h0, h1, h3⟩ := allB_none hs h
      rw [h3] at hx; cases hx; exact ⟨h0, h1⟩
    | some L =>
      rw [allB_some hs h] at hx; cases hx; exact absurd rfl he
  · split
    · exact hE
    · rename_i e' h'
      simp only [h'] at this
      exact this.2
end Go.Proofs

/- What is read stays read with more tokens behind, unless it is too deep. -/
set_option linter.unusedSimpArgs false
namespace Go.Proofs
open Go Go.Abs

theorem termF_nil {E : Int} {u : List Tok → PR Wd} : termF E u [] = .error (5, E) := rfl
def Cl (l X : List Tok) : Prop := l ≠ [] ∨ isP [41] X = true
/-- The tokens, at other places, and more behind them. -/
def ap (g : Tok → Tok) (X l : List Tok) : List Tok := l.map g ++ X
def Up {α : Type} (b : Prop) (g : Tok → Tok) (X l : List Tok) (r r' : PR α) : Prop :=
  ∀ x l', r = .ok (x, l') → l'.length ≤ l.length ∧ (Cl l' X → r' = .ok (x, ap g X l') ∨ (b ∧ ∃ p, r' = .error (7, p)))

theorem ne_len {l l' : List Tok} (h : l'.length ≤ l.length) (hn : l' ≠ []) : l ≠ [] := by
  rintro rfl; exact hn (List.length_eq_zero_iff.1 (Nat.le_zero.1 h))
theorem cl_len {l l' X : List Tok} (h : l'.length ≤ l.length) (hc : Cl l' X) : Cl l X := hc.imp (ne_len h) id
section
variable {g : Tok → Tok} (hg : ∀ t, (g t).kind = t.kind ∧ (g t).text = t.text)
theorem ap_len (X l : List Tok) : (ap g X l).length = l.length + X.length := by simp [ap]
include hg in
theorem is_app {sg : By} {l X : List Tok} (h : l ≠ []) : isP sg (ap g X l) = isP sg l := by
  cases l with
  | nil => exact absurd rfl h
  | cons t l => show (decide ((g t).kind = 3) && decide ((g t).text = sg)) = _; rw [(hg t).1, (hg t).2]; rfl
theorem is_close {sg : By} {X : List Tok} (hs : sg ≠ [41]) (h : isP [41] X = true) : isP sg X = false := by
  cases X with
  | nil => rfl
  | cons t X =>
    simp only [isP, Bool.and_eq_true, decide_eq_true_eq] at h
    simp only [isP, h.2, Bool.and_eq_false_iff, decide_eq_false_iff_not]
    exact .inr fun e => hs e.symm
theorem is_ne {sg : By} {l : List Tok} (h : isP sg l = true) : l ≠ [] := by rintro rfl; cases h
include hg in
theorem is_stop {sg : By} {l X : List Tok} (hs : sg ≠ [41]) (h : isP sg l = false) (hc : Cl l X) : isP sg (ap g X l) = false := by
  by_cases hl : l = []
  · subst hl
    rcases hc with hc | hc
    · exact absurd rfl hc
    · exact is_close hs hc
  · rw [is_app hg hl]; exact h
theorem tail_app {l X : List Tok} (h : l ≠ []) : (ap g X l).tail = ap g X l.tail := by
  cases l with
  | nil => exact absurd rfl h
  | cons t l => rfl
include hg in
theorem kind_app {l X : List Tok} (h : l ≠ []) : kindP (ap g X l) = kindP l := by
  cases l with
  | nil => exact absurd rfl h
  | cons t l => exact (hg t).1
include hg in
theorem text_app {l X : List Tok} (h : l ≠ []) : textP (ap g X l) = textP l := by
  cases l with
  | nil => exact absurd rfl h
  | cons t l => exact (hg t).2
end

section
variable {b : Prop} {g : Tok → Tok} (hg : ∀ t, (g t).kind = t.kind ∧ (g t).text = t.text) {X : List Tok} {E E' : Int}
theorem ap_ne {l : List Tok} (h : l ≠ []) : ap g X l ≠ [] := by
  cases l with
  | nil => exact absurd rfl h
  | cons t l => simp [ap]
theorem up_ok {α : Type} {l : List Tok} {a : α} : Up b g X l (.ok (a, l)) (.ok (a, ap g X l)) := fun x l' h => by
  cases h; exact ⟨Nat.le_refl _, fun _ => .inl rfl⟩
theorem up_er {α : Type} {l : List Tok} {e : Er} {r : PR α} : Up b g X l (.error e) r := fun x l' h => by cases h
theorem up_le {α : Type} {l l1 : List Tok} {r r' : PR α} (h : Up b g X l r r') (hl : l.length ≤ l1.length) : Up b g X l1 r r' := fun x l' e => by
  obtain ⟨h1, h2⟩ := h x l' e
  exact ⟨Nat.le_trans h1 hl, h2⟩
theorem up_bind {α β : Type} {l : List Tok} {x x' : PR α} {f f' : α → List Tok → PR β} (h : Up b g X l x x') (hf : ∀ a l1, l1.length ≤ l.length → Up b g X l1 (f a l1) (f' a (ap g X l1))) : Up b g X l (PR.bind x f) (PR.bind x' f') := fun y l2 e => by
  obtain ⟨a, l1, h1, h2⟩ := bind_inv e
  obtain ⟨q1, q2⟩ := h a l1 h1
  obtain ⟨p1, p2⟩ := hf a l1 q1 y l2 h2
  refine ⟨Nat.le_trans p1 q1, fun hc => ?_⟩
  rcases q2 (cl_len p1 hc) with q | ⟨hb, p, q⟩
  · rw [q]; exact p2 hc
  · rw [q]; exact .inr ⟨hb, p, rfl⟩
include hg
theorem up_if {α : Type} {sg : By} (hs : sg ≠ [41]) {l : List Tok} {p q p' q' : PR α} (h1 : isP sg l = true → Up b g X l p p') (h2 : Up b g X l q q') : Up b g X l (if isP sg l = true then p else q) (if isP sg (ap g X l) = true then p' else q') := fun y l' e => by
  by_cases c : isP sg l = true
  · rw [if_pos c] at e
    rw [is_app hg (is_ne c), if_pos c]
    exact h1 c y l' e
  · rw [if_neg c] at e
    obtain ⟨q1, q2⟩ := h2 y l' e
    refine ⟨q1, fun hc => ?_⟩
    rw [is_stop hg hs (by simpa using c) (cl_len q1 hc), if_neg (by decide)]
    exact q2 hc
theorem up_sign {sg : By} {l : List Tok} : Up b g X l (signP E sg l) (signP E' sg (ap g X l)) := fun x l' e => by
  obtain ⟨h1, rfl⟩ := sign_ok e
  refine ⟨tail_len l, fun _ => .inl ?_⟩
  rw [signP, is_app hg (is_ne h1), if_pos h1, tail_app (is_ne h1)]
theorem up_name {k : Int} {l : List Tok} : Up b g X l (nameP E k l) (nameP E' k (ap g X l)) := fun x l' e => by
  obtain ⟨h1, h2, rfl, rfl⟩ := name_ok e
  refine ⟨tail_len l, fun _ => .inl ?_⟩
  rw [nameP, kind_app hg h2, text_app hg h2, tail_app h2, if_pos ⟨h1, ap_ne h2⟩]
theorem up_more {α : Type} {sg : By} (hs : sg ≠ [41]) {u u' : List Tok → PR α} (hu : ∀ l, Up b g X l (u l) (u' (ap g X l))) : ∀ (k k' : Nat) (acc : List α) (l : List Tok), l.length ≤ k → (ap g X l).length ≤ k' → Up b g X l (moreP sg u k acc l) (moreP sg u' k' acc (ap g X l))
  | 0, k', acc, l, h, h' => fun y l' e => by
    obtain rfl := List.length_eq_zero_iff.1 (Nat.le_zero.1 h)
    cases e
    refine ⟨Nat.le_refl _, fun hc => .inl ?_⟩
    rw [more_stop (is_stop hg hs rfl hc)]
  | k + 1, k', acc, l, h, h' => by
    by_cases c : isP sg l = true
    · have e0 := is_len c
      have hne := is_ne c
      obtain ⟨k2, rfl⟩ : ∃ k2, k' = k2 + 1 := ⟨k' - 1, by rw [ap_len] at h'; omega⟩
      rw [more_go c, more_go (by rw [is_app hg hne]; exact c), tail_app hne]
      refine up_le (up_bind (hu _) fun a l1 hl => up_more hs hu k k2 _ l1 (by omega) ?_) (tail_len l)
      rw [ap_len] at h' ⊢; omega
    · rw [Bool.not_eq_true] at c
      rw [more_stop c]
      intro y l' e
      cases e
      refine ⟨Nat.le_refl _, fun hc => .inl ?_⟩
      rw [more_stop (is_stop hg hs c hc)]
theorem up_term : ∀ (n n' : Nat), n' ≤ n → (n' < n → b) → ∀ l, Up b g X l (termP E n l) (termP E' n' (ap g X l))
  | 0, n', _, _, l => up_er
  | n + 1, 0, _, hb, l => fun x l' e => by
    refine ⟨term_len _ _ _ _ e, fun _ => .inr ⟨hb (by omega), _, rfl⟩⟩
  | n + 1, n' + 1, hn, hb, l => by
    have ih := up_term n n' (by omega) (fun h => hb (by omega))
    simp only [termP]
    by_cases hl : l = []
    · subst hl
      rw [termF_nil]
      exact up_er
    · unfold termF
      rw [kind_app hg hl]
      split
      · exact up_bind (up_name hg) fun a l1 _ => up_ok
      · refine up_bind (up_name hg) fun a l1 _ => ?_
        refine up_if hg (by decide) (fun c => ?_) up_ok
        rw [tail_app (is_ne c)]
        refine up_le (up_bind (ih _) fun a l2 _ => ?_) (tail_len l1)
        refine up_bind (up_more hg (by decide) ih _ _ _ _ (Nat.le_refl _) (Nat.le_refl _)) fun a l3 _ => ?_
        exact up_bind (up_sign hg) fun a l4 _ => up_ok
theorem up_atom {n n' : Nat} (hn : n' ≤ n) (hb : n' < n → b) (l : List Tok) : Up b g X l (atomP E n l) (atomP E' n' (ap g X l)) := by
  by_cases hl : l = []
  · subst hl
    intro x l' e
    rw [show atomP E n [] = PR.bind (termP E n []) _ from rfl] at e
    obtain ⟨a, l1, h1, _⟩ := bind_inv e
    cases n with
    | zero => cases h1
    | succ n => rw [show termP E (n + 1) [] = .error (5, E) from rfl] at h1; cases h1
  · unfold atomP
    rw [kind_app hg hl]
    split
    · unfold systemP
      rw [text_app hg hl, tail_app hl]
      split
      · exact up_le up_ok (tail_len l)
      · split
        · exact up_le up_ok (tail_len l)
        · exact up_er
    · refine up_bind (up_term hg n n' hn hb l) fun a l1 _ => ?_
      refine up_if hg (by decide) (fun c => ?_) (up_if hg (by decide) (fun c => ?_) ?_)
      · rw [tail_app (is_ne c)]
        exact up_le (up_bind (up_term hg n n' hn hb _) fun a l2 _ => up_ok) (tail_len l1)
      · rw [tail_app (is_ne c)]
        exact up_le (up_bind (up_term hg n n' hn hb _) fun a l2 _ => up_ok) (tail_len l1)
      · split
        · exact up_er
        · exact up_ok
section
variable {u u' : List Tok → PR Fo} (hu : ∀ l, Up b g X l (u l) (u' (ap g X l)))
include hu
theorem up_bound {k : Int} (l : List Tok) : Up b g X l (boundP E u k l) (boundP E' u' k (ap g X l)) := by
  unfold boundP
  refine up_bind (up_sign hg) fun _ l1 _ => ?_
  refine up_bind (up_name hg) fun v l2 _ => ?_
  refine up_bind (up_more hg (by decide) (fun l => (up_name hg)) _ _ _ _ (Nat.le_refl _) (Nat.le_refl _)) fun vs l3 _ => ?_
  refine up_bind (up_sign hg) fun _ l4 _ => ?_
  refine up_bind (up_sign hg) fun _ l5 _ => ?_
  exact up_bind (hu _) fun f l6 _ => up_ok
theorem up_chain {sg : By} (hs : sg ≠ [41]) {k : Int} {a : Fo} (l : List Tok) : Up b g X l (chainP u sg k a l) (chainP u' sg k a (ap g X l)) := by
  unfold chainP
  exact up_bind (up_more hg hs hu _ _ _ _ (Nat.le_refl _) (Nat.le_refl _)) fun fs l1 _ => up_ok
theorem up_formula (l : List Tok) : Up b g X l (formulaP u l) (formulaP u' (ap g X l)) := by
  unfold formulaP
  refine up_bind (hu l) fun a l1 _ => ?_
  have two : ∀ {sg : By} {h : Fo → Fo}, isP sg l1 = true → Up b g X l1 (PR.bind (u l1.tail) fun b l => .ok (h b, l)) (PR.bind (u' (ap g X l1).tail) fun b l => .ok (h b, l)) := fun c => by
    rw [tail_app (is_ne c)]
    exact up_le (up_bind (hu _) fun b l2 _ => up_ok) (tail_len l1)
  refine up_if hg (by decide) (fun c => up_chain hg hu (by decide) l1) ?_
  refine up_if hg (by decide) (fun c => up_chain hg hu (by decide) l1) ?_
  refine up_if hg (by decide) two ?_
  refine up_if hg (by decide) two ?_
  refine up_if hg (by decide) two ?_
  exact up_if hg (by decide) two up_ok
theorem up_unaryF {n n' : Nat} (hn : n' ≤ n) (hb : n' < n → b) (l : List Tok) : Up b g X l (unaryF E n u l) (unaryF E' n' u' (ap g X l)) := by
  unfold unaryF
  refine up_if hg (by decide) (fun c => ?_) (up_if hg (by decide) (fun c => ?_) (up_if hg (by decide) (fun c => ?_) (up_if hg (by decide) (fun c => ?_) (up_atom hg hn hb l))))
  · rw [tail_app (is_ne c)]
    exact up_le (up_bind (hu _) fun f l1 _ => up_ok) (tail_len l)
  · rw [tail_app (is_ne c)]
    exact up_le (up_bound hg hu _) (tail_len l)
  · rw [tail_app (is_ne c)]
    exact up_le (up_bound hg hu _) (tail_len l)
  · rw [tail_app (is_ne c)]
    unfold bracketsP
    refine up_le (up_bind (up_formula hg hu _) fun f l1 _ => ?_) (tail_len l)
    exact up_bind (up_sign hg) fun _ l2 _ => up_ok
end
theorem up_unary : ∀ (n n' : Nat), n' ≤ n → (n' < n → b) → ∀ l, Up b g X l (unaryP E n l) (unaryP E' n' (ap g X l))
  | 0, n', _, _, l => up_er
  | n + 1, 0, _, hb, l => fun x l' e => ⟨unary_len _ _ _ _ e, fun _ => .inr ⟨hb (by omega), _, rfl⟩⟩
  | n + 1, n' + 1, hn, hb, l => by
    simp only [unaryP]
    exact up_unaryF hg (up_unary n n' (by omega) fun h => hb (by omega)) (by omega) (fun h => hb (by omega)) l
end
end Go.Proofs

/- Texts put together, cut into tokens. -/
set_option linter.unusedSimpArgs false
namespace Go.Proofs
open Go Go.Abs

theorem cut_app : ∀ (r b Z : By), cutC r = some b → cutC (r ++ Z) = some (b ++ Z)
  | [], b, Z, h => by cases h
  | c :: r, b, Z, h => by
    have hr : r ≠ [] := by
      rintro rfl
      have := cutC_len h
      simp at this
    obtain ⟨d, r, rfl⟩ : ∃ d r', r = d :: r' := by
      cases r with
      | nil => exact absurd rfl hr
      | cons d r => exact ⟨d, r, rfl⟩
    have e : ∀ v : By, cutC (c :: d :: v) = if c = 42 ∧ d = 47 then some v else cutC (d :: v) := fun v => by
      show (if c = 42 ∧ (d :: v).head? = some 47 then some ((d :: v).drop 1) else cutC (d :: v)) = _
      simp
    rw [List.cons_append, List.cons_append]
    rw [e] at h ⊢
    split at h
    · rename_i hc; cases h; rw [if_pos hc]
    · rename_i hc
      rw [if_neg hc]
      exact cut_app (d :: r) b Z h
theorem skip_end_app : ∀ (n : Nat) (s t : By), s.length ≤ n → skip s = [] → skip (s ++ 10 :: t) = skip t
  | n, [], t, _, _ => skip_white rfl
  | n + 1, c :: r, t, hn, h => by
    simp only [List.length_cons] at hn
    rw [List.cons_append]
    cases hw : isW c with
    | true =>
      rw [skip_white hw] at h ⊢
      exact skip_end_app n r t (by omega) h
    | false =>
      by_cases c37 : c = 37
      · subst c37
        rw [skip_pct] at h ⊢
        rw [List.dropWhile_append]
        have hd := dropW_len (p := (· != 10)) r
        split
        · rw [show (10 :: t).dropWhile (· != 10) = 10 :: t from rfl]
          exact skip_white rfl
        · exact skip_end_app n _ t (by omega) h
      · by_cases c3 : c = 47 ∧ r.head? = some 42
        · obtain ⟨rfl, c4⟩ := c3
          cases r with
          | nil => simp at c4
          | cons d r =>
            simp at c4
            subst c4
            rw [List.cons_append]
            cases hc : cutC r with
            | none => rw [skip_open hc] at h; cases h
            | some b =>
              rw [skip_cmt hc] at h
              rw [skip_cmt (cut_app r b _ hc)]
              have := cutC_len hc
              simp only [List.length_cons] at hn
              exact skip_end_app n b t (by omega) h
        · rw [skip_stop hw c37 c3] at h; cases h

theorem lex_app : ∀ (n : Nat) (s : By) (L : List (Nat × Int × By)), s.length ≤ n → lex s = some L → ∀ t : By, lex (s ++ 10 :: t) = (lex t).map fun M => L.map (fun a => (a.1 + (t.length + 1), a.2)) ++ M := by
  intro n
  induction n with
  | zero =>
    intro s L hn h t
    obtain rfl := List.length_eq_zero_iff.1 (Nat.le_zero.1 hn)
    rw [lex_end rfl] at h
    cases h
    rw [List.nil_append, lex_skip (l' := t) (skip_white rfl)]
    cases lex t <;> rfl
  | succ n ih =>
    intro s L hn h t
    by_cases hs : skip s = []
    · rw [lex_end hs] at h
      cases h
      rw [lex_skip (skip_end_app _ s t (Nat.le_refl _) hs)]
      cases lex t <;> rfl
    cases ht : tokB (skip s) with
    | none => rw [lex_bad hs ht] at h; cases h
    | some x =>
      rw [lex_tok ht] at h
      cases hM : lex ((skip s).drop x.2.2) with
      | none => rw [hM] at h; cases h
      | some M =>
        rw [hM] at h
        have h2 := (Option.some.inj h).symm
        subst h2
        obtain ⟨g1, g2⟩ := tok_len ht
        have hsl := skip_len s
        obtain ⟨G, hG⟩ := skip_suffix _ s (Nat.le_refl _)
        have hgap := gap_keep _ G (skip s) (skip s ++ 10 :: t) (Nat.le_refl _) hs (by rw [← hG])
        rw [← List.append_assoc, ← hG] at hgap
        have htk : tokB (skip s ++ 10 :: t) = some x := by
          have := tok_keep (w := (skip s).take x.2.2) (y := (skip s).drop x.2.2) (z := []) (z' := 10 :: t) (by rw [List.append_nil, List.take_append_drop]; exact ht) (by rw [List.length_take]; omega) (.inr ⟨_, _, rfl, .inr rfl⟩)
          rwa [← List.append_assoc, List.take_append_drop] at this
        have hsk : skip (s ++ 10 :: t) = skip s ++ 10 :: t := by rw [hgap, skip_tok htk]
        rw [lex_tok (by rw [hsk]; exact htk), hsk, List.drop_append_of_le_length g2, ih _ M (by rw [List.length_drop]; omega) hM t, Option.map_map]
        congr 1
        funext N
        simp only [Function.comp_apply, List.map_cons, List.cons_append, List.length_append, List.length_cons]

def gAt (c : Int) (t : Tok) : Tok := ⟨t.kind, t.at' + c, t.text⟩
theorem gAt_ok (c : Int) (t : Tok) : (gAt c t).kind = t.kind ∧ (gAt c t).text = t.text := ⟨rfl, rfl⟩
theorem tok_shift {N m K : Nat} {L : List (Nat × Int × By)} {c : Int} (hN : (N : Int) = c + m + K) : (L.map fun a => (a.1 + K, a.2)).map (tokAt N) = (L.map (tokAt m)).map (gAt c) := by
  rw [List.map_map, List.map_map]
  refine List.map_congr_left fun a _ => ?_
  simp only [Function.comp_apply, tokAt, gAt, Tok.mk.injEq, true_and, and_true]
  omega
theorem sign_lex {x : By} (u : By) (hs : skip (x ++ u) = x ++ u) (ht : tokB (x ++ u) = some (3, x, x.length)) : lex (x ++ u) = (lex u).map (((x ++ u).length, 3, x) :: ·) := by
  have h := lex_tok (l := x ++ u) (x := (3, x, x.length)) (by rw [hs]; exact ht)
  rw [hs] at h
  rw [h, List.drop_left]
theorem lex_open (u : By) : lex (40 :: u) = (lex u).map ((u.length + 1, 3, [40]) :: ·) := sign_lex (x := [40]) u (skip_stop rfl (by decide) (by rintro ⟨h, _⟩; cases h)) rfl
theorem lex_not (u : By) : lex (126 :: u) = (lex u).map ((u.length + 1, 3, [126]) :: ·) := sign_lex (x := [126]) u (skip_stop rfl (by decide) (by rintro ⟨h, _⟩; cases h)) rfl
theorem lex_close (u : By) : lex (41 :: u) = (lex u).map ((u.length + 1, 3, [41]) :: ·) := sign_lex (x := [41]) u (skip_stop rfl (by decide) (by rintro ⟨h, _⟩; cases h)) rfl
theorem lex_nil : lex [] = some [] := lex_end rfl

/-- A text in brackets. -/
def brB (s : By) : By := 40 :: (s ++ [10, 41])
theorem lex_br {s : By} {L : List (Nat × Int × By)} (h : lex s = some L) : lex (brB s) = some ((s.length + 3, 3, [40]) :: (L.map (fun a => (a.1 + 2, a.2)) ++ [(1, 3, [41])])) := by
  rw [brB, lex_open, show s ++ [10, 41] = s ++ 10 :: [41] from rfl, lex_app _ s L (Nat.le_refl _) h, lex_close, lex_nil]
  simp
theorem allB_br {s : By} (hs : s.length ≤ 60000) {L : List (Nat × Int × By)} (h : lex s = some L) : allB (brB s) = (⟨3, 0, [40]⟩ :: ap (gAt 1) [⟨3, s.length + 2, [41]⟩] (L.map (tokAt s.length)), ((s.length + 3 : Nat) : Int), 0) := by
  have hl : (brB s).length = s.length + 3 := by simp [brB]
  rw [allB_some (by omega) (lex_br h), hl, List.map_cons, List.map_append, tok_shift (m := s.length) (c := 1) (by omega)]
  simp only [ap, tokAt, List.map_cons, List.map_nil, Prod.mk.injEq, List.cons.injEq, Tok.mk.injEq, true_and, and_true, List.append_cancel_left_eq]
  refine ⟨by omega, ?_⟩
  omega
end Go.Proofs

/- Formulas in brackets, read. -/
set_option linter.unusedSimpArgs false
namespace Go.Proofs
open Go Go.Abs

def opT (p : Int) : Tok := ⟨3, p, [40]⟩
def clT (p : Int) : Tok := ⟨3, p, [41]⟩
def Deep {α : Type} (r : PR α) : Prop := ∃ p, r = .error (7, p)

theorem br_unary {E E' : Int} {l : List Tok} {f : Fo} (h : formulaP (unaryP E 50) l = .ok (f, [])) {g : Tok → Tok} (hg : ∀ t, (g t).kind = t.kind ∧ (g t).text = t.text) (n : Nat) (hn : n ≤ 50) (p q : Int) (Y : List Tok) :
    unaryP E' (n + 1) (opT p :: ap g (clT q :: Y) l) = .ok (f, Y) ∨ Deep (unaryP E' (n + 1) (opT p :: ap g (clT q :: Y) l)) := by
  have hu : unaryP E' (n + 1) (opT p :: ap g (clT q :: Y) l) = bracketsP E' (unaryP E' n) (ap g (clT q :: Y) l) := rfl
  rw [hu, bracketsP]
  obtain ⟨_, h2⟩ := up_formula (b := True) (X := clT q :: Y) (u' := unaryP E' n) hg (fun l => up_unary (b := True) (X := clT q :: Y) (E := E) (E' := E') hg 50 n hn (fun _ => trivial) l) l f [] h
  rcases h2 (.inr rfl) with h3 | ⟨_, p', h3⟩
  · rw [h3]; exact .inl rfl
  · rw [h3]; exact .inr ⟨p', rfl⟩
theorem formula_stop {u : List Tok → PR Fo} {l : List Tok} {f : Fo} (h : u l = .ok (f, [])) : formulaP u l = .ok (f, []) := by
  rw [formulaP, h]; rfl
theorem deep_bind {α β : Type} {x : PR α} {f : α → List Tok → PR β} (h : Deep x) : Deep (PR.bind x f) := by
  obtain ⟨p, rfl⟩ := h; exact ⟨p, rfl⟩
theorem form_inv {E : Int} {l : List Tok} {f : Fo} {l' : List Tok} (h : formP E l = .ok (f, l')) : formulaP (unaryP E 50) l = .ok (f, []) := by
  unfold formP at h
  obtain ⟨a, l1, h1, h2⟩ := bind_inv h
  split at h2
  · rename_i hl; cases h2; rw [h1, hl]
  · cases h2

theorem form_br {E E' : Int} {l : List Tok} {f : Fo} (h : formulaP (unaryP E 50) l = .ok (f, [])) {g : Tok → Tok} (hg : ∀ t, (g t).kind = t.kind ∧ (g t).text = t.text) (p q : Int) :
    formP E' (opT p :: ap g [clT q] l) = .ok (f, []) ∨ Deep (formP E' (opT p :: ap g [clT q] l)) := by
  rcases br_unary (E' := E') h hg 49 (by decide) p q [] with h1 | h1
  · left; rw [formP, formula_stop h1]; rfl
  · right; unfold formP formulaP; exact deep_bind (deep_bind h1)
theorem form_not {E E' : Int} {l : List Tok} {f : Fo} (h : formulaP (unaryP E 50) l = .ok (f, [])) {g : Tok → Tok} (hg : ∀ t, (g t).kind = t.kind ∧ (g t).text = t.text) (r p q : Int) :
    formP E' (⟨3, r, [126]⟩ :: opT p :: ap g [clT q] l) = .ok (notF f, []) ∨ Deep (formP E' (⟨3, r, [126]⟩ :: opT p :: ap g [clT q] l)) := by
  have hu : unaryP E' 50 (⟨3, r, [126]⟩ :: opT p :: ap g [clT q] l) = PR.bind (unaryP E' 49 (opT p :: ap g [clT q] l)) fun f l => .ok (notF f, l) := rfl
  rcases br_unary (E' := E') h hg 48 (by decide) p q [] with h1 | h1
  · left; rw [formP, formula_stop (by rw [hu, h1]; rfl)]; rfl
  · right; unfold formP formulaP; rw [hu]; exact deep_bind (deep_bind (deep_bind h1))

theorem formR_ok {s : By} (hs : s.length ≤ 65536) (h : (formR s).2.2 = 0) : ∃ L f, lex s = some L ∧ formulaP (unaryP s.length 50) (L.map (tokAt s.length)) = .ok (f, []) ∧ formR s = (f.toA, (s.length : Int), 0) := by
  cases hL : lex s with
  | none =>
    obtain ⟨p, e, he, _, _, h3⟩ := allB_none hs hL
    rw [formR, h3] at h
    simp only [he, ne_eq, not_false_eq_true, if_true] at h
  | some L =>
    have hA := allB_some hs hL
    obtain ⟨_, h2⟩ := all_facts hs
    rw [hA] at h2
    have hs2 := sane_form (Q := inT s.length) (E := s.length) ⟨by omega, Int.le_refl _⟩ h2
    rw [formR, hA] at h ⊢
    simp only [ne_eq, not_true_eq_false, if_false] at h ⊢
    cases hP : formP s.length (L.map (tokAt s.length)) with
    | ok p =>
      obtain ⟨f, l'⟩ := p
      exact ⟨L, f, rfl, form_inv hP, rfl⟩
    | error e =>
      rw [hP] at hs2 h
      exact absurd h hs2.1
theorem formR_of {s : By} {l : List Tok} (hA : allB s = (l, (s.length : Int), 0)) {f : Fo} (h : formP s.length l = .ok (f, []) ∨ Deep (formP s.length l)) : formR s = (f.toA, (s.length : Int), 0) ∨ (formR s).2.2 = 7 := by
  rw [formR, hA]
  simp only [ne_eq, not_true_eq_false, if_false]
  rcases h with h | ⟨p, h⟩
  · rw [h]; exact .inl rfl
  · rw [h]; exact .inr rfl

theorem brB_len (s : By) : (brB s).length = s.length + 3 := by simp [brB]
theorem br_law {s : By} (hs : s.length ≤ 60000) {L : List (Nat × Int × By)} {f : Fo} (h : lex s = some L) (hf : formulaP (unaryP s.length 50) (L.map (tokAt s.length)) = .ok (f, [])) :
    (formR (brB s) = (f.toA, ((s.length + 3 : Nat) : Int), 0) ∨ (formR (brB s)).2.2 = 7) ∧ (formR (126 :: brB s) = ((notF f).toA, ((s.length + 4 : Nat) : Int), 0) ∨ (formR (126 :: brB s)).2.2 = 7) := by
  have hl := brB_len s
  constructor
  · have := formR_of (f := f) (s := brB s) (by rw [allB_br hs h, hl]; rfl) (form_br hf (gAt_ok 1) 0 (s.length + 2))
    rwa [hl] at this
  · have hL2 : lex (126 :: brB s) = some ((s.length + 4, 3, [126]) :: (s.length + 3, 3, [40]) :: (L.map (fun a => (a.1 + 2, a.2)) ++ [(1, 3, [41])])) := by
      rw [lex_not, lex_br h, hl]; rfl
    have hlen : (126 :: brB s).length = s.length + 4 := by simp [brB]
    have hA : allB (126 :: brB s) = (⟨3, 0, [126]⟩ :: opT 1 :: ap (gAt 2) [clT (s.length + 3)] (L.map (tokAt s.length)), ((126 :: brB s).length : Int), 0) := by
      rw [allB_some (by omega) hL2, hlen, List.map_cons, List.map_cons, List.map_append, tok_shift (m := s.length) (c := 2) (by omega)]
      simp only [ap, opT, clT, tokAt, List.map_cons, List.map_nil, Prod.mk.injEq, List.cons.injEq, Tok.mk.injEq, true_and, and_true, List.append_cancel_left_eq]
      omega
    have := formR_of (f := notF f) hA (form_not hf (gAt_ok 2) 0 1 (s.length + 3))
    rwa [hlen] at this
end Go.Proofs

/- The document's comparing of words and formulas: a thing is as itself. -/
set_option linter.unusedSimpArgs false
namespace Go.Proofs
open Go Go.Abs

theorem Names_same (l : List ByteArray) (hl : l.length < 2 ^ 62) : CallEq Tryd.prog 18 [.ps 1 (strs l), .ps 1 (strs l)] (.bool true) := by
  refine CallEq.begin (rs := [.tmp 4]) (m := 24) 1000 Tryd.func18 rfl rfl rfl (by decide) trivial ?_
  simp only [go_sem, Nat.reduceAdd, Nat.reduceSub, Nat.reduceMul, Nat.reduceLeDiff, Nat.reduceEqDiff, Nat.reduceBEq, strs_len]
  refine EvK.loopI (ι := {i : Nat // i ≤ l.length}) 1000 (fun i => mkT 26 [(0, .ps 1 (strs l)), (1, .ps 1 (strs l)), (4, .bool false), (5, .int .i64 i.1)]) (fun _ => []) (fun i => l.length - i.1) ⟨0, Nat.zero_le _⟩ ?_ (fun _ => Nat.zero_le _) ?_
  · simp only [go_sem, Nat.reduceAdd, Nat.reduceSub, Nat.reduceMul, Nat.reduceLeDiff, Nat.reduceEqDiff, Nat.reduceBEq, strs_low, strs_len, Int.natCast_zero]
  · rintro ⟨i, hi⟩
    by_cases hlt : (i : Int) < l.length
    · have hlt' : i < l.length := by omega
      simp only [go_sem, Nat.reduceAdd, Nat.reduceSub, Nat.reduceMul, Nat.reduceLeDiff, Nat.reduceEqDiff, Nat.reduceBEq, hlt, strs_len]
      refine EvK.draw [] 0 0 mixed rfl rfl (Nat.le_refl _) ?_
      simp only [go_sem, Nat.reduceAdd, Nat.reduceSub, Nat.reduceMul, Nat.reduceLeDiff, Nat.reduceEqDiff, Nat.reduceBEq, hlt, strs_len, Int.toNat_natCast, strs_get hlt']
      refine ⟨by omega, by omega, ?_⟩
      refine EvK.go 1000 ?_
      simp only [go_sem, Nat.reduceAdd, Nat.reduceSub, Nat.reduceMul, Nat.reduceLeDiff, Nat.reduceEqDiff, Nat.reduceBEq]
      refine ⟨⟨i + 1, hlt'⟩, ?_, by simp only; omega⟩
      simp only [go_sem, Nat.reduceAdd, Nat.reduceSub, Nat.reduceMul, Nat.reduceLeDiff, Nat.reduceEqDiff, Nat.reduceBEq, strs_low]
      rw [i64_id (by omega)]; rfl
    · simp only [go_sem, Nat.reduceAdd, Nat.reduceSub, Nat.reduceMul, Nat.reduceLeDiff, Nat.reduceEqDiff, Nat.reduceBEq, hlt, strs_len]
      refine EvK.go 1000 ?_
      simp only [go_sem, Nat.reduceAdd, Nat.reduceSub, Nat.reduceMul, Nat.reduceLeDiff, Nat.reduceEqDiff, Nat.reduceBEq]
theorem SameW_eq : ∀ w : Wd, w.size < 10000000 → CallEq Tryd.prog 17 [w.toA, w.toA] (.bool true) := by
  refine Wd.rec_args ?_
  intro v n as_ ih hsz
  simp only [Wd.size] at hsz
  refine CallEq.beginK (rs := [.tmp 4]) (m := 44) Tryd.func17 rfl rfl rfl (by decide) trivial ?_
  have hc : (Wd.mk v n as_).toA.cells = [.bool v, .str n, .ps 3 (as_.map Wd.toA)] := by rw [wd_cells]; rfl
  generalize (Wd.mk v n as_).toA = wA at hc
  have hl := wlen_le as_
  refine EvK.go 1000 ?_
  simp only [go_sem, Nat.reduceAdd, Nat.reduceSub, Nat.reduceMul, Nat.reduceLeDiff, Nat.reduceEqDiff, Nat.reduceBEq, hc, Nat.le_refl, List.length_map]
  refine EvK.loopI (ι := {i : Nat // i ≤ as_.length}) 1000 (fun i => mkT 46 [(2, .ptr 0 0), (3, .ptr 1 0), (4, .bool false), (5, .int .i64 i.1)]) (fun _ => [some (.var [.bool v, .str n, .ps 3 (as_.map Wd.toA)]), some (.var [.bool v, .str n, .ps 3 (as_.map Wd.toA)])]) (fun i => as_.length - i.1) ⟨0, Nat.zero_le _⟩ ?_ (fun _ => Nat.zero_le _) ?_
  · simp only [go_sem, Nat.reduceAdd, Nat.reduceSub, Nat.reduceMul, Nat.reduceLeDiff, Nat.reduceEqDiff, Nat.reduceBEq, wds_low, List.length_map, Int.natCast_zero]
    decide
  · rintro ⟨i, hi⟩
    by_cases hlt : (i : Int) < as_.length
    · have hlt' : i < as_.length := by omega
      have hws := wsize_le as_ i hlt'
      simp only [go_sem, Nat.reduceAdd, Nat.reduceSub, Nat.reduceMul, Nat.reduceLeDiff, Nat.reduceEqDiff, Nat.reduceBEq, hlt, List.length_map]
      refine EvK.draw [] 2 2 mixed rfl rfl (Nat.le_refl _) ?_
      simp only [go_sem, Nat.reduceAdd, Nat.reduceSub, Nat.reduceMul, Nat.reduceLeDiff, Nat.reduceEqDiff, Nat.reduceBEq, padS, hlt, List.length_map, Int.toNat_natCast, map_getD hlt', wd_cells, Nat.le_refl]
      refine ⟨by omega, by omega, ?_⟩
      simp only [← wd_eq]
      refine draw_iso (ih i hlt' (by omega)) (pTL_refl _ _ _) ⟨wd_low0 _, wd_low0 _, trivial⟩ ?_
      simp only [merge_same]
      simp only [go_sem, Nat.reduceAdd, Nat.reduceSub, Nat.reduceMul, Nat.reduceLeDiff, Nat.reduceEqDiff, Nat.reduceBEq]
      refine EvK.go 1000 ?_
      simp only [go_sem, Nat.reduceAdd, Nat.reduceSub, Nat.reduceMul, Nat.reduceLeDiff, Nat.reduceEqDiff, Nat.reduceBEq]
      refine ⟨⟨i + 1, hlt'⟩, ?_, by simp only; omega⟩
      simp only [go_sem, Nat.reduceAdd, Nat.reduceSub, Nat.reduceMul, Nat.reduceLeDiff, Nat.reduceEqDiff, Nat.reduceBEq, wds_low, List.length_map]
      exact ⟨by rw [i64_id (by omega)]; rfl, by decide⟩
    · simp only [go_sem, Nat.reduceAdd, Nat.reduceSub, Nat.reduceMul, Nat.reduceLeDiff, Nat.reduceEqDiff, Nat.reduceBEq, hlt, List.length_map]
      refine EvK.go 1000 ?_
      simp only [go_sem, Nat.reduceAdd, Nat.reduceSub, Nat.reduceMul, Nat.reduceLeDiff, Nat.reduceEqDiff, Nat.reduceBEq]
theorem Same_eq : ∀ f : Fo, f.size < 10000000 → CallEq Tryd.prog 8 [f.toA, f.toA] (.bool true) := by
  refine Fo.rec_parts ?_
  intro k lw rw_ names ps ih hsz
  simp only [Fo.size] at hsz
  refine CallEq.beginK (rs := [.tmp 4]) (m := 61) Tryd.func8 rfl rfl rfl (by decide) trivial ?_
  have hc : (Fo.mk k lw rw_ names ps).toA.cells = [.int .i64 k, .bool lw.var, .str lw.name, .ps 3 (lw.args.map Wd.toA), .bool rw_.var, .str rw_.name, .ps 3 (rw_.args.map Wd.toA), .ps 1 (strs names), .ps 9 (ps.map Fo.toA)] := by rw [fo_cells]; rfl
  generalize (Fo.mk k lw rw_ names ps).toA = fA at hc
  have hl := flen_le ps
  refine EvK.go 1000 ?_
  simp only [go_sem, Nat.reduceAdd, Nat.reduceSub, Nat.reduceMul, Nat.reduceLeDiff, Nat.reduceEqDiff, Nat.reduceBEq, hc, Nat.le_refl]
  rw [← wd_eq]
  refine VCall.isoT [] (SameW_eq lw (by omega)) (pTL_refl _ _ _) ⟨wd_low0 _, wd_low0 _, trivial⟩ ?_
  rw [frzI_nil]
  simp only [ite_self]
  refine EvK.go 1000 ?_
  simp only [go_sem, Nat.reduceAdd, Nat.reduceSub, Nat.reduceMul, Nat.reduceLeDiff, Nat.reduceEqDiff, Nat.reduceBEq]
  rw [← wd_eq]
  refine VCall.isoT [] (SameW_eq rw_ (by omega)) (pTL_refl _ _ _) ⟨wd_low0 _, wd_low0 _, trivial⟩ ?_
  rw [frzI_nil]
  simp only [ite_self]
  refine EvK.go 1000 ?_
  simp only [go_sem, Nat.reduceAdd, Nat.reduceSub, Nat.reduceMul, Nat.reduceLeDiff, Nat.reduceEqDiff, Nat.reduceBEq]
  refine VCall.isoT [] (Names_same names (by omega)) (pTL_refl _ _ _) ⟨strs_low _, strs_low _, trivial⟩ ?_
  rw [frzI_nil]
  simp only [ite_self]
  refine EvK.go 1000 ?_
  simp only [go_sem, Nat.reduceAdd, Nat.reduceSub, Nat.reduceMul, Nat.reduceLeDiff, Nat.reduceEqDiff, Nat.reduceBEq, List.length_map]
  refine EvK.loopI (ι := {i : Nat // i ≤ ps.length}) 1000 (fun i => mkT 63 [(2, .ptr 0 0), (3, .ptr 1 0), (4, .bool false), (5, .int .i64 i.1)]) (fun _ => [some (.var [.int .i64 k, .bool lw.var, .str lw.name, .ps 3 (lw.args.map Wd.toA), .bool rw_.var, .str rw_.name, .ps 3 (rw_.args.map Wd.toA), .ps 1 (strs names), .ps 9 (ps.map Fo.toA)]), some (.var [.int .i64 k, .bool lw.var, .str lw.name, .ps 3 (lw.args.map Wd.toA), .bool rw_.var, .str rw_.name, .ps 3 (rw_.args.map Wd.toA), .ps 1 (strs names), .ps 9 (ps.map Fo.toA)])]) (fun i => ps.length - i.1) ⟨0, Nat.zero_le _⟩ ?_ (fun _ => Nat.zero_le _) ?_
  · simp only [go_sem, Nat.reduceAdd, Nat.reduceSub, Nat.reduceMul, Nat.reduceLeDiff, Nat.reduceEqDiff, Nat.reduceBEq, wds_low, strs_low, fos_low, List.length_map, Int.natCast_zero]
    decide
  · rintro ⟨i, hi⟩
    by_cases hlt : (i : Int) < ps.length
    · have hlt' : i < ps.length := by omega
      have hws := fsize_le ps i hlt'
      simp only [go_sem, Nat.reduceAdd, Nat.reduceSub, Nat.reduceMul, Nat.reduceLeDiff, Nat.reduceEqDiff, Nat.reduceBEq, hlt, List.length_map]
      refine EvK.draw [] 2 2 mixed rfl rfl (Nat.le_refl _) ?_
      simp only [go_sem, Nat.reduceAdd, Nat.reduceSub, Nat.reduceMul, Nat.reduceLeDiff, Nat.reduceEqDiff, Nat.reduceBEq, padS, hlt, List.length_map, Int.toNat_natCast, map_getD hlt', fo_cells, Nat.le_refl]
      refine ⟨by omega, by omega, ?_⟩
      simp only [← fo_eq]
      refine draw_iso (ih i hlt' (by omega)) (pTL_refl _ _ _) ⟨fo_low0 _, fo_low0 _, trivial⟩ ?_
      simp only [merge_same]
      simp only [go_sem, Nat.reduceAdd, Nat.reduceSub, Nat.reduceMul, Nat.reduceLeDiff, Nat.reduceEqDiff, Nat.reduceBEq]
      refine EvK.go 1000 ?_
      simp only [go_sem, Nat.reduceAdd, Nat.reduceSub, Nat.reduceMul, Nat.reduceLeDiff, Nat.reduceEqDiff, Nat.reduceBEq]
      refine ⟨⟨i + 1, hlt'⟩, ?_, by simp only; omega⟩
      simp only [go_sem, Nat.reduceAdd, Nat.reduceSub, Nat.reduceMul, Nat.reduceLeDiff, Nat.reduceEqDiff, Nat.reduceBEq, wds_low, strs_low, fos_low, List.length_map]
      exact ⟨by rw [i64_id (by omega)]; rfl, by decide⟩
    · simp only [go_sem, Nat.reduceAdd, Nat.reduceSub, Nat.reduceMul, Nat.reduceLeDiff, Nat.reduceEqDiff, Nat.reduceBEq, hlt, List.length_map]
      refine EvK.go 1000 ?_
      simp only [go_sem, Nat.reduceAdd, Nat.reduceSub, Nat.reduceMul, Nat.reduceLeDiff, Nat.reduceEqDiff, Nat.reduceBEq]
end Go.Proofs

/- The document's example. -/
set_option linter.unusedSimpArgs false
namespace Go.Proofs
open Go Go.Abs

def exA : By := [33, 91, 88, 93, 58, 32, 40, 112, 40, 88, 41, 32, 61, 62, 32, 88, 32, 61, 32, 97, 41]
def exB : By := [102, 111, 102, 40, 97, 44, 32, 97, 120, 105, 111, 109, 44, 32, 112, 40, 88, 41, 41, 46]
def exAT : List Tok := [⟨3, 0, [33]⟩, ⟨3, 1, [91]⟩, ⟨1, 2, [88]⟩, ⟨3, 3, [93]⟩, ⟨3, 4, [58]⟩, ⟨3, 6, [40]⟩, ⟨0, 7, [112]⟩, ⟨3, 8, [40]⟩, ⟨1, 9, [88]⟩, ⟨3, 10, [41]⟩, ⟨3, 12, [61, 62]⟩, ⟨1, 15, [88]⟩, ⟨3, 17, [61]⟩, ⟨0, 19, [97]⟩, ⟨3, 20, [41]⟩]
def exBT : List Tok := [⟨0, 0, [102, 111, 102]⟩, ⟨3, 3, [40]⟩, ⟨0, 4, [97]⟩, ⟨3, 5, [44]⟩, ⟨0, 7, [97, 120, 105, 111, 109]⟩, ⟨3, 12, [44]⟩, ⟨0, 14, [112]⟩, ⟨3, 15, [40]⟩, ⟨1, 16, [88]⟩, ⟨3, 17, [41]⟩, ⟨3, 18, [41]⟩, ⟨3, 19, [46]⟩]
theorem exA_all : allB exA = (exAT, 21, 0) := by kernel_rfl
theorem exB_all : allB exB = (exBT, 20, 0) := by kernel_rfl
def exQ : Fo := .mk 5 wdZ wdZ [] [.mk 0 (.mk false (ofB [112]) [.mk true (ofB [88]) []]) wdZ [] [], .mk 1 (.mk true (ofB [88]) []) (.mk false (ofB [97]) []) [] []]
def exF : Fo := .mk 7 wdZ wdZ [ofB [88]] [exQ]
theorem exA_form : formP 21 exAT = .ok (exF, []) := by kernel_rfl
theorem exA_free : exF.free = [] := by kernel_rfl
theorem exB_text : inputsP 20 12 [] exBT = .error (8, 0) := by kernel_rfl
theorem exA_R : formR exA = (exF.toA, 21, 0) := by
  rw [formR, exA_all]
  simp only [ne_eq, not_true_eq_false, if_false]
  rw [show ((exA.length : Nat) : Int) = 21 from rfl, exA_form]
theorem exB_R : textR exB = ([], 0, 8) := by
  rw [textR, exB_all]
  simp only [ne_eq, not_true_eq_false, if_false]
  rw [show ((exB.length : Nat) : Int) = 20 from rfl, show exBT.length = 12 from rfl, exB_text]

theorem z00 : (((0 : Nat) : Int) = 0) = True := eq_true rfl
theorem one1 : (((1 : Nat) : Int) = 1) = True := eq_true rfl
theorem lt01 : ((0 : Int) < ((1 : Nat) : Int)) = True := eq_true (by decide)
theorem le00 : ((0 : Int) ≤ 0) = True := eq_true (by decide)
set_option maxHeartbeats 1600000 in
theorem AwakeP_eq : CallEq Tryd.prog 7 [] (.bool true) := by
  refine CallEq.begin (rs := [.tmp 0]) (m := 62) 1000 Tryd.func7 rfl rfl rfl (by decide) trivial ?_
  have hA := FormS_eq (ofB exA) (by decide)
  have hB := TextS_eq (ofB exB) (by decide)
  have hF := Free_eq exF (by decide)
  rw [bs_ofB, exA_R] at hA
  rw [bs_ofB, exB_R] at hB
  rw [exA_free] at hF
  simp only [formT] at hA
  simp only [textT] at hB
  have fc : exF.toA.cells = [.int .i64 7, .bool false, .str ⟨#[]⟩, .ps 3 [], .bool false, .str ⟨#[]⟩, .ps 3 [], .ps 1 [.str ⟨#[88]⟩], .ps 9 [exQ.toA]] := by rw [fo_cells]; rfl
  have qc : exQ.toA.cells = [.int .i64 5, .bool false, .str ⟨#[]⟩, .ps 3 [], .bool false, .str ⟨#[]⟩, .ps 3 [], .ps 1 [], .ps 9 (exQ.parts.map Fo.toA)] := by rw [fo_cells]; rfl
  have fe : exF.toA = .agg [.int .i64 7, .bool false, .str ⟨#[]⟩, .ps 3 [], .bool false, .str ⟨#[]⟩, .ps 3 [], .ps 1 [.str ⟨#[88]⟩], .ps 9 [exQ.toA]] := by rw [fo_eq]; rfl
  have fl := fo_low0 exF
  generalize exF.toA = fA at *
  generalize exQ.toA = qA at *
  simp only [go_sem, Nat.reduceAdd, Nat.reduceSub, Nat.reduceMul, Nat.reduceLeDiff, Nat.reduceEqDiff, Nat.reduceBEq]
  refine VCall.isoT [] hA (pTL_refl _ _ _) ⟨trivial, trivial⟩ ?_
  rw [frzI_nil]
  simp only [ite_self]
  refine EvK.go 1000 ?_
  simp only [go_sem, Nat.reduceAdd, Nat.reduceSub, Nat.reduceMul, Nat.reduceLeDiff, Nat.reduceEqDiff, Nat.reduceBEq, fc, Nat.le_refl]
  refine VCall.isoT [] hB (pTL_refl _ _ _) ⟨trivial, trivial⟩ ?_
  rw [frzI_nil]
  simp only [ite_self]
  refine EvK.go 1000 ?_
  simp only [go_sem, Nat.reduceAdd, Nat.reduceSub, Nat.reduceMul, Nat.reduceLeDiff, Nat.reduceEqDiff, Nat.reduceBEq, qc, one1, lt01, le00, Int.toNat_zero, List.getD_cons_zero, Nat.le_refl]
  rw [← fe]
  refine VCall.isoT [] hF (pTL_refl _ _ _) ⟨fl, trivial⟩ ?_
  rw [frzI_nil]
  simp only [ite_self]
  refine EvK.go 1000 ?_
  simp only [go_sem, Nat.reduceAdd, Nat.reduceSub, Nat.reduceMul, Nat.reduceLeDiff, Nat.reduceEqDiff, Nat.reduceBEq, strs_len, List.length_nil, z00]
end Go.Proofs
