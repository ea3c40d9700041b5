/- Part 48 of my own framework and of the walks of functions: Nb, Nc, Nd, Ne, Nf, Ng, Nh, Ni, Nj, Nk, Nl, Nm0. -/
import Derived.Test.YtngbclnedkmiaaaDoorOwn47
set_option linter.unusedVariables false
set_option linter.unusedSectionVars false
set_option linter.unusedSimpArgs false

/- The program's reader of tokens: what a call answers, and the small functions. -/
set_option linter.unusedSimpArgs false
namespace Go.Proofs
open Go Go.Abs

def stopA (e : Er) : AVal := .iface 51 (.agg [.int .i64 e.1, .int .i64 e.2])
theorem stop_low (e : Er) (n : Nat) : (stopA e).low n := ⟨trivial, trivial, trivial⟩
def rdB (E : Int) (l : List Tok) (d : Int) : Option Blk := some (.var [.ps 3 (toks l), .int .i64 E, .int .i64 d])
theorem rd_low (E : Int) (l : List Tok) (d : Int) (n : Nat) : lowO n (rdB E l d) := ⟨toks_low l, trivial, trivial, trivial⟩

def okK {α : Type} (toA : α → AVal) (res : PR α) (E d : Int) (r : AVal) (σ : Store) : Prop := ∃ x l, res = .ok (x, l) ∧ r = toA x ∧ σ = [rdB E l d]
def erK {α : Type} (res : PR α) (E : Int) (r : AVal) (σ : Store) : Prop := ∃ e l d, res = .error e ∧ r = stopA e ∧ σ = [rdB E l d]

/-- A call of the reader answers as the grammar does: the tokens that are left are in the reader, it stands as deep as before. -/
def Ans (f : AVal) (args : List AVal) (E : Int) (l : List Tok) (d : Int) {α : Type} (toA : α → AVal) (res : PR α) : Prop :=
  VCall Tryd.prog f args [rdB E l d] (okK toA res E d) ∨ VPan Tryd.prog f args [rdB E l d] (erK res E)

theorem ok_er {α : Type} (toA : α → AVal) (res : PR α) (E d : Int) : (∀ r σ', ¬ erK res E r σ') ∨ (∀ r σ', ¬ okK toA res E d r σ') := by
  cases res with
  | ok x => left; rintro r σ' ⟨e, l, d, h, _⟩; cases h
  | error e => right; rintro r σ' ⟨x, l, h, _⟩; cases h

theorem Ans.begin {g : FuncId} {fn : Func} {c : Code} {args : List AVal} {E : Int} {l : List Tok} {d : Int} {α : Type} {toA : α → AVal} {res : PR α} {m : Nat} {rs : List ResultVar} (hf : Tryd.prog.funcs[g]? = some fn) (hb : fn.body = some c) (hr : fn.results.toList = rs)
    (hm : fn.ntmps - args.length = m) (hname : (fn.name == "runtime.NumGoroutine") = false)
    (h : EvK Tryd.prog ⟨1, none⟩ (retX Tryd.prog rs (treeK (okK toA res E d) 1) (treeK (erK res E) 1)) [.code c, .thr] .normal ⟨args ++ List.replicate m .undef, [rdB E l d]⟩) : Ans (.fn g [] []) args E l d toA res :=
  CallSh.or_begin hf hb hr (by simp) hm hname (ok_er toA res E d) h

/-- Where such a call stands. -/
theorem Ans.call {f : AVal} {args : List AVal} {E : Int} {l : List Tok} {d : Int} {α : Type} {toA : α → AVal} {res : PR α} {τ : Store} {K : AVal → Store → Prop} {Kp : Value → Store → Prop} (h : Ans f args E l d toA res) (hf : f.low 1) (ha : lowL 1 args)
    (h1 : ∀ x l', res = .ok (x, l') → K (toA x) (rdB E l' d :: τ)) (h2 : ∀ e l' d', res = .error e → ∀ u, pvV (stopA e) = some u → Kp u (rdB E l' d' :: τ)) : CallOr Tryd.prog f args (rdB E l d :: τ) K Kp := by
  have hs : lowSo [rdB E l d].length [rdB E l d] := ⟨rd_low _ _ _ _, trivial⟩
  rcases h with h | h
  · refine .inl (VCall.tail (σ := [rdB E l d]) (τ := τ) hf ha hs (h.mono ?_))
    rintro r σ' ⟨x, l', hx, rfl, rfl⟩
    exact ⟨rfl, h1 x l' hx⟩
  · refine .inr (VCall.tail (σ := [rdB E l d]) (τ := τ) hf ha hs (VCallG.mono h ?_))
    rintro r σ' ⟨e, l', d', hx, rfl, rfl⟩
    exact ⟨rfl, _, rfl, h2 e l' d' hx _ rfl⟩

theorem Ans.norm {f : AVal} {args : List AVal} {E : Int} {l : List Tok} {d : Int} {α : Type} {toA : α → AVal} {res : PR α} {τ : Store} {K : AVal → Store → Prop} {x : α} {l' : List Tok} (h : Ans f args E l d toA res) (hres : res = .ok (x, l')) (hf : f.low 1) (ha : lowL 1 args)
    (h1 : K (toA x) (rdB E l' d :: τ)) : VCall Tryd.prog f args (rdB E l d :: τ) K := by
  have hs : lowSo [rdB E l d].length [rdB E l d] := ⟨rd_low _ _ _ _, trivial⟩
  subst hres
  rcases h with h | h
  · refine VCall.tail (σ := [rdB E l d]) (τ := τ) hf ha hs (h.mono ?_)
    rintro r σ' ⟨x, l', hx, rfl, rfl⟩
    cases hx
    exact ⟨rfl, h1⟩
  · refine VCall.tail (σ := [rdB E l d]) (τ := τ) hf ha hs ?_
    intro X base β w vf vs a1 a2 a3 a4 fr cs a5
    obtain ⟨_, _, _, _, _, ⟨e, l', d', hx, _⟩, _⟩ := h X base β w vf vs a1 a2 a3 a4 fr cs a5
    cases hx

theorem Ans.pan {f : AVal} {args : List AVal} {E : Int} {l : List Tok} {d : Int} {α : Type} {toA : α → AVal} {res : PR α} {τ : Store} {K : AVal → Store → Prop} {e : Er} (h : Ans f args E l d toA res) (hres : res = .error e) (hf : f.low 1) (ha : lowL 1 args)
    (h1 : ∀ l' d', K (stopA e) (rdB E l' d' :: τ)) : VPan Tryd.prog f args (rdB E l d :: τ) K := by
  have hs : lowSo [rdB E l d].length [rdB E l d] := ⟨rd_low _ _ _ _, trivial⟩
  subst hres
  rcases h with h | h
  · refine VCall.tail (σ := [rdB E l d]) (τ := τ) hf ha hs ?_
    intro X base β w vf vs a1 a2 a3 a4 fr cs a5
    obtain ⟨_, _, _, _, _, ⟨x, l', hx, _⟩, _⟩ := h X base β w vf vs a1 a2 a3 a4 fr cs a5
    cases hx
  · refine VCall.tail (σ := [rdB E l d]) (τ := τ) hf ha hs (VCallG.mono h ?_)
    rintro r σ' ⟨e, l', d', hx, rfl, rfl⟩
    cases hx
    exact ⟨rfl, h1 l' d'⟩

/-- The ends of a walk. -/
theorem tree_ok {α : Type} {toA : α → AVal} {res : PR α} {E d : Int} {x : α} {l : List Tok} {r0 : AVal} {τ : Store} (h : res = .ok (x, l)) (hp : pT (fun b => decide (1 ≤ b)) (rdB E l d :: τ) (toA x) r0) (hl : (toA x).low 0) : treeK (okK toA res E d) 1 r0 (rdB E l d :: τ) :=
  ⟨toA x, [rdB E l d], hp, ⟨.inl rfl, trivial⟩, rfl, ⟨rd_low _ _ _ _, trivial⟩, hl, x, l, h, rfl, rfl⟩
theorem tree_er {α : Type} {res : PR α} {E d : Int} {e : Er} {l : List Tok} {τ : Store} (h : res = .error e) : treeK (erK res E) 1 (stopA e) (rdB E l d :: τ) :=
  ⟨stopA e, [rdB E l d], ⟨rfl, pTL_refl _ _ _⟩, ⟨.inl rfl, trivial⟩, rfl, ⟨rd_low _ _ _ _, trivial⟩, stop_low e 0, e, l, d, h, rfl, rfl⟩
theorem pan_er {α : Type} {res : PR α} {E d : Int} {e : Er} {l : List Tok} {τ : Store} {u : Value} (hu : pvV (stopA e) = some u) (h : res = .error e) : ∃ r, pvV r = some u ∧ treeK (erK res E) 1 r (rdB E l d :: τ) := ⟨_, hu, tree_er h⟩

def unitA (_ : Unit) : AVal := .tup []

theorem rdB_eq (E : Int) (l : List Tok) (d : Int) : some (.var [.ps 3 (toks l), .int .i64 E, .int .i64 d]) = rdB E l d := rfl
theorem toks_cons (t : Tok) (l : List Tok) : toks (t :: l) = t.toA :: toks l := rfl
theorem toks_nil : toks [] = [] := rfl

theorem tok_cs (t : Tok) : t.toA.cells = [.int .i64 t.kind, .int .i64 t.at', .str (ofB t.text)] := rfl
theorem tokA_eq (t : Tok) : t.toA = .agg [.int .i64 t.kind, .int .i64 t.at', .str (ofB t.text)] := rfl
theorem cast0 : ((0 : Nat) : Int) = 0 := rfl
theorem succ0 (n : Nat) : (((n + 1 : Nat) : Int) = 0) = False := eq_false (by omega)
theorem pos1 (n : Nat) : (0 < ((n + 1 : Nat) : Int)) = True := eq_true (by omega)
theorem toks_take (l : List Tok) : (toks l).take ((toks l).length + 1 - 1) = toks l := by simp
theorem le1 (n : Nat) : ((1 : Int) ≤ ((n + 1 : Nat) : Int)) = True := eq_true (by omega)
theorem tail1 (a : AVal) (L : List AVal) : List.take (L.length + 1 - Int.toNat 1) (List.drop (Int.toNat 1) (a :: L)) = L := by simp
theorem le01 : ((0 : Int) ≤ 1) = True := eq_true (by omega)
theorem and_r (p : Prop) : (p ∧ True) = p := by simp

def endT (E : Int) : Tok := ⟨4, E, []⟩
def nxt (E : Int) (l : List Tok) : Tok := l.head?.getD (endT E)
theorem nxt_at (E : Int) (l : List Tok) : (nxt E l).at' = hereP E l := by cases l <;> rfl
theorem nxt_kind (E : Int) (l : List Tok) : (nxt E l).kind = kindP l := by cases l <;> rfl
theorem nxt_text (E : Int) (l : List Tok) : (nxt E l).text = textP l := by cases l <;> rfl

theorem Next_eq (E : Int) (l : List Tok) (d : Int) : Ans (.fn 32 [] []) [.ptr 0 0] E l d Tok.toA (.ok (nxt E l, l)) := by
  refine Ans.begin (rs := [.cell 2 62]) (m := 19) Tryd.func32 rfl rfl rfl (by decide) ?_
  cases l with
  | nil =>
    refine EvK.go 1000 ?_
    simp only [go_sem, Nat.reduceAdd, Nat.reduceSub, Nat.reduceMul, Nat.reduceLeDiff, Nat.reduceEqDiff, Nat.reduceBEq, rdB, toks_nil, cast0]
    exact tree_ok (l := []) rfl (pT_refl _ _ _) ⟨trivial, trivial, trivial, trivial⟩
  | cons t l =>
    refine EvK.go 1000 ?_
    simp only [go_sem, Nat.reduceAdd, Nat.reduceSub, Nat.reduceMul, Nat.reduceLeDiff, Nat.reduceEqDiff, Nat.reduceBEq, rdB, toks_cons, tok_cs, succ0, pos1, Int.le_refl]
    exact tree_ok (l := t :: l) rfl (pT_refl _ _ _) ⟨trivial, trivial, trivial, trivial⟩

theorem Fail_eq (E : Int) (l : List Tok) (d : Int) (e : Int) : Ans (.fn 16 [] []) [.ptr 0 0, .int .i64 e] E l d unitA (.error (e, hereP E l)) := by
  refine Ans.begin (rs := []) (m := 8) Tryd.func16 rfl rfl rfl (by decide) ?_
  refine EvK.go 1000 ?_
  simp only [go_sem, Nat.reduceAdd, Nat.reduceSub, Nat.reduceMul, Nat.reduceLeDiff, Nat.reduceEqDiff, Nat.reduceBEq]
  refine (Next_eq E l d).call ⟨trivial, trivial⟩ ⟨Nat.one_pos, trivial⟩ (fun x l' h => ?_) (fun e l' d' h => by cases h)
  obtain ⟨rfl, rfl⟩ : nxt E l = x ∧ l = l' := by cases h; exact ⟨rfl, rfl⟩
  refine EvK.go 1000 ?_
  simp only [go_sem, Nat.reduceAdd, Nat.reduceSub, Nat.reduceMul, Nat.reduceLeDiff, Nat.reduceEqDiff, Nat.reduceBEq, tokA_eq, nxt_at]
  exact pan_er rfl rfl

theorem Odd_eq (E : Int) (l : List Tok) (d : Int) : Ans (.fn 33 [] []) [.ptr 0 0] E l d unitA (.error (oddP E l)) := by
  refine Ans.begin (rs := []) (m := 11) Tryd.func33 rfl rfl rfl (by decide) ?_
  cases l with
  | nil =>
    refine EvK.go 1000 ?_
    simp only [go_sem, Nat.reduceAdd, Nat.reduceSub, Nat.reduceMul, Nat.reduceLeDiff, Nat.reduceEqDiff, Nat.reduceBEq, rdB, toks_nil, cast0]
    refine (Fail_eq E [] d 5).call ⟨trivial, trivial⟩ ⟨Nat.one_pos, trivial, trivial⟩ (fun x l' h => by cases h) (fun e l' d' h u hu => ?_)
    cases h
    exact pan_er hu rfl
  | cons t l =>
    refine EvK.go 1000 ?_
    simp only [go_sem, Nat.reduceAdd, Nat.reduceSub, Nat.reduceMul, Nat.reduceLeDiff, Nat.reduceEqDiff, Nat.reduceBEq, rdB, toks_cons, tok_cs, succ0, pos1, Int.le_refl]
    refine (Fail_eq E (t :: l) d 4).call ⟨trivial, trivial⟩ ⟨Nat.one_pos, trivial, trivial⟩ (fun x l' h => by cases h) (fun e l' d' h u hu => ?_)
    cases h
    exact pan_er hu rfl

theorem is_eq (E : Int) (l : List Tok) (sg : By) : isP sg l = (decide ((nxt E l).kind = 3) && decide ((nxt E l).text = sg)) := by
  cases l with
  | nil => simp [isP, nxt, endT]
  | cons t l => rfl

theorem Is_eq (E : Int) (l : List Tok) (d : Int) (sg : By) : Ans (.fn 28 [] []) [.ptr 0 0, .str (ofB sg)] E l d AVal.bool (.ok (isP sg l, l)) := by
  refine Ans.begin (rs := [.tmp 4]) (m := 15) Tryd.func28 rfl rfl rfl (by decide) ?_
  refine EvK.go 1000 ?_
  simp only [go_sem, Nat.reduceAdd, Nat.reduceSub, Nat.reduceMul, Nat.reduceLeDiff, Nat.reduceEqDiff, Nat.reduceBEq]
  refine (Next_eq E l d).call ⟨trivial, trivial⟩ ⟨Nat.one_pos, trivial⟩ (fun x l' h => ?_) (fun e l' d' h => by cases h)
  obtain ⟨rfl, rfl⟩ : nxt E l = x ∧ l = l' := by cases h; exact ⟨rfl, rfl⟩
  refine EvK.go 1000 ?_
  rw [is_eq E]
  by_cases c : (nxt E l).kind = 3
  · simp only [go_sem, Nat.reduceAdd, Nat.reduceSub, Nat.reduceMul, Nat.reduceLeDiff, Nat.reduceEqDiff, Nat.reduceBEq, tokA_eq, rdB, c, str_eq, bs_ofB]
    exact tree_ok (l := l) rfl rfl trivial
  · simp only [go_sem, Nat.reduceAdd, Nat.reduceSub, Nat.reduceMul, Nat.reduceLeDiff, Nat.reduceEqDiff, Nat.reduceBEq, tokA_eq, rdB, c]
    exact tree_ok (l := l) rfl rfl trivial

theorem is_cons {sg : By} {l : List Tok} (h : isP sg l = true) : ∃ t r, l = t :: r := by
  cases l with
  | nil => cases h
  | cons t r => exact ⟨t, r, rfl⟩

theorem Take_eq (E : Int) (l : List Tok) (d : Int) (sg : By) : Ans (.fn 30 [] []) [.ptr 0 0, .str (ofB sg)] E l d AVal.bool (.ok (isP sg l, if isP sg l = true then l.tail else l)) := by
  refine Ans.begin (rs := [.tmp 4]) (m := 17) Tryd.func30 rfl rfl rfl (by decide) ?_
  refine EvK.go 1000 ?_
  simp only [go_sem, Nat.reduceAdd, Nat.reduceSub, Nat.reduceMul, Nat.reduceLeDiff, Nat.reduceEqDiff, Nat.reduceBEq]
  refine (Is_eq E l d sg).call ⟨trivial, trivial⟩ ⟨Nat.one_pos, trivial, trivial⟩ (fun x l' h => ?_) (fun e l' d' h => by cases h)
  obtain ⟨rfl, rfl⟩ : isP sg l = x ∧ l = l' := by cases h; exact ⟨rfl, rfl⟩
  refine EvK.go 1000 ?_
  by_cases c : isP sg l = true
  · obtain ⟨t, r, rfl⟩ := is_cons c
    simp only [go_sem, Nat.reduceAdd, Nat.reduceSub, Nat.reduceMul, Nat.reduceLeDiff, Nat.reduceEqDiff, Nat.reduceBEq, rdB, c, toks_cons, succ0, pos1, le1, le01, tail1]
    exact tree_ok (l := r) rfl rfl trivial
  · rw [Bool.not_eq_true] at c
    simp only [go_sem, Nat.reduceAdd, Nat.reduceSub, Nat.reduceMul, Nat.reduceLeDiff, Nat.reduceEqDiff, Nat.reduceBEq, c]
    exact tree_ok (l := l) rfl rfl trivial

theorem Sign_eq (E : Int) (l : List Tok) (d : Int) (sg : By) : Ans (.fn 34 [] []) [.ptr 0 0, .str (ofB sg)] E l d unitA (signP E sg l) := by
  refine Ans.begin (rs := []) (m := 8) Tryd.func34 rfl rfl rfl (by decide) ?_
  refine EvK.go 1000 ?_
  simp only [go_sem, Nat.reduceAdd, Nat.reduceSub, Nat.reduceMul, Nat.reduceLeDiff, Nat.reduceEqDiff, Nat.reduceBEq]
  refine (Take_eq E l d sg).call ⟨trivial, trivial⟩ ⟨Nat.one_pos, trivial, trivial⟩ (fun x l' h => ?_) (fun e l' d' h => by cases h)
  cases h
  refine EvK.go 1000 ?_
  unfold signP
  by_cases c : isP sg l = true
  · simp only [go_sem, Nat.reduceAdd, Nat.reduceSub, Nat.reduceMul, Nat.reduceLeDiff, Nat.reduceEqDiff, Nat.reduceBEq, c]
    exact tree_ok (l := l.tail) rfl (pTL_refl _ _ _) trivial
  · rw [Bool.not_eq_true] at c
    simp only [go_sem, Nat.reduceAdd, Nat.reduceSub, Nat.reduceMul, Nat.reduceLeDiff, Nat.reduceEqDiff, Nat.reduceBEq, c]
    refine (Odd_eq E l d).call ⟨trivial, trivial⟩ ⟨Nat.one_pos, trivial⟩ (fun x l' h => by cases h) (fun e l' d' h u hu => ?_)
    cases h
    exact pan_er hu rfl

theorem Name_eqP (E : Int) (l : List Tok) (d k : Int) (hk : k ≠ 4) : Ans (.fn 35 [] []) [.ptr 0 0, .int .i64 k] E l d (fun x => .str (ofB x)) (nameP E k l) := by
  refine Ans.begin (rs := [.tmp 4]) (m := 22) Tryd.func35 rfl rfl rfl (by decide) ?_
  refine EvK.go 1000 ?_
  simp only [go_sem, Nat.reduceAdd, Nat.reduceSub, Nat.reduceMul, Nat.reduceLeDiff, Nat.reduceEqDiff, Nat.reduceBEq]
  refine (Next_eq E l d).call ⟨trivial, trivial⟩ ⟨Nat.one_pos, trivial⟩ (fun x l' h => ?_) (fun e l' d' h => by cases h)
  cases h
  refine EvK.go 1000 ?_
  unfold nameP
  cases l with
  | nil =>
    have c : ¬ (4 : Int) = k := Ne.symm hk
    simp only [go_sem, Nat.reduceAdd, Nat.reduceSub, Nat.reduceMul, Nat.reduceLeDiff, Nat.reduceEqDiff, Nat.reduceBEq, tokA_eq, nxt, endT, List.head?_nil, Option.getD_none, kindP, c]
    refine (Odd_eq E [] d).call ⟨trivial, trivial⟩ ⟨Nat.one_pos, trivial⟩ (fun x l' h => by cases h) (fun e l' d' h u hu => ?_)
    cases h
    exact pan_er hu rfl
  | cons t r =>
    by_cases c : t.kind = k
    · simp only [go_sem, Nat.reduceAdd, Nat.reduceSub, Nat.reduceMul, Nat.reduceLeDiff, Nat.reduceEqDiff, Nat.reduceBEq, tokA_eq, nxt, List.head?_cons, Option.getD_some, kindP, c, rdB, toks_cons, succ0, pos1, le1, le01, tail1, List.tail_cons]
      exact tree_ok (l := r) (by simp [textP]) rfl trivial
    · simp only [go_sem, Nat.reduceAdd, Nat.reduceSub, Nat.reduceMul, Nat.reduceLeDiff, Nat.reduceEqDiff, Nat.reduceBEq, tokA_eq, nxt, List.head?_cons, Option.getD_some, kindP, c]
      refine (Odd_eq E (t :: r) d).call ⟨trivial, trivial⟩ ⟨Nat.one_pos, trivial⟩ (fun x l' h => by cases h) (fun e l' d' h u hu => ?_)
      cases h
      exact pan_er hu rfl
end Go.Proofs

/- The program's reader of tokens: going deeper, and terms. -/
set_option linter.unusedSimpArgs false
namespace Go.Proofs
open Go Go.Abs

theorem wrap_id {d : Int} (h : -9223372036854775808 ≤ d ∧ d ≤ 9223372036854775807) : IntKind.i64.wrap d = d := i64_id h

def boxR : Option Blk := some (.var [.ptr 0 0])

theorem Enter_ok (E : Int) (l : List Tok) (d : Int) (B : Option Blk) (h0 : 0 ≤ d) (h1 : d < 50) (hB : lowO 3 B) : VCall Tryd.prog (.fn 42 [] []) [.ptr 0 0] [rdB E l d, B]
    (fun r σ' => r = .fn 61 [] [.ptr 2 0] ∧ σ' = [rdB E l (d + 1), B, boxR]) := by
  refine VCall.begin (rs := [.tmp 2]) (m := 17) (all := [.ptr 0 0]) 1000 Tryd.func42 rfl rfl rfl rfl (by decide) ?_
  have hw : IntKind.i64.wrap (d + 1) = d + 1 := wrap_id (by omega)
  have c : ¬ 50 < d + 1 := by omega
  simp only [go_sem, Nat.reduceAdd, Nat.reduceSub, Nat.reduceMul, Nat.reduceLeDiff, Nat.reduceEqDiff, Nat.reduceBEq, rdB, hw, c]
  rw [dK_eq]
  exact ⟨_, leSo_refl _, by simp, ⟨rd_low E l (d + 1) _, hB, ⟨Nat.succ_pos _, trivial⟩, trivial⟩, ⟨trivial, (by show (2 : Nat) < 3; decide), trivial⟩, rfl, rfl⟩

theorem Enter_pan (E : Int) (l : List Tok) (B : Option Blk) (hB : lowO 3 B) : VPan Tryd.prog (.fn 42 [] []) [.ptr 0 0] [rdB E l 50, B]
    (fun r σ' => r = stopA (7, hereP E l) ∧ ∃ l' d', σ' = [rdB E l' d', B, boxR]) := by
  refine VPan.begin (rs := [.tmp 2]) (m := 17) (all := [.ptr 0 0]) Tryd.func42 rfl rfl rfl rfl (by decide) ?_
  have hw : IntKind.i64.wrap (50 + 1) = 51 := by decide
  have c : (50 : Int) < 51 := by omega
  refine EvK.go 1000 ?_
  simp only [go_sem, Nat.reduceAdd, Nat.reduceSub, Nat.reduceMul, Nat.reduceLeDiff, Nat.reduceEqDiff, Nat.reduceBEq, rdB, hw, c]
  refine (Fail_eq E l 51 7).call (τ := [B, boxR]) ⟨trivial, trivial⟩ ⟨Nat.one_pos, trivial, trivial⟩ (fun x l' h => by cases h) (fun e l' d' h u hu => ?_)
  cases h
  refine ⟨_, hu, ?_⟩
  rw [dK_eq]
  exact ⟨_, leSo_refl _, by simp, ⟨rd_low E l' d' _, hB, ⟨Nat.succ_pos _, trivial⟩, trivial⟩, stop_low _ _, rfl, l', d', rfl⟩

theorem Enter1_eq (E : Int) (l : List Tok) (d : Int) (B : Option Blk) (τ : Store) (md : FrameMode) (hmd : LeftM md) : VDefG Tryd.prog (.fn 61 [] [.ptr 2 0]) (rdB E l d :: B :: boxR :: τ) md md
    (fun σ' => σ' = rdB E l (IntKind.i64.wrap (d - 1)) :: B :: boxR :: τ) := by
  refine VDefG.walk (rs := []) (m := 7) (all := [.ptr 2 0]) 1000 Tryd.func61 rfl rfl rfl rfl (by decide) hmd ?_
  simp only [go_sem, Nat.reduceAdd, Nat.reduceSub, Nat.reduceMul, Nat.reduceLeDiff, Nat.reduceEqDiff, Nat.reduceBEq, rdB, boxR]
  exact ⟨_, rfl⟩

/-- How the body of a function that goes deeper comes to its end, before it goes back. -/
def endD {α : Type} (rs : List ResultVar) (toA : α → AVal) (res : PR α) (E d : Int) (e : AExit) (s : St) : Prop :=
  match e with
  | .normal | .ret => ∃ l' B τ, s.σ = rdB E l' (d + 1) :: B :: boxR :: τ ∧ ∃ r, resultsA Tryd.prog ⟨s.tm, rdB E l' d :: B :: boxR :: τ⟩ rs = some r ∧ treeK (okK toA res E d) 1 r (rdB E l' d :: B :: boxR :: τ)
  | .panic u => ∃ l' d' B τ r, s.σ = rdB E l' d' :: B :: boxR :: τ ∧ pvV r = some u ∧ ∀ d2, treeK (erK res E) 1 r (rdB E l' d2 :: B :: boxR :: τ)
  | _ => False

theorem Ans.deep {g : FuncId} {fn : Func} {id0 id1 : Nat} {T : TypeId} {a b : Tmp} {c2 : Code} {E : Int} {l : List Tok} {n : Nat} {d : Int} {α : Type} {toA : α → AVal} {res : Nat → PR α} {m : Nat} {rs : List ResultVar} {lay : Lay}
    {t0 t1 t2 t3 : TypeId} {p0 p1 p2 p3 : String} {e0 e1 e2 e3 : Array Edge} {ts ts' : Array TypeId}
    (hf : Tryd.prog.funcs[g]? = some fn) (hb : fn.body = some (.seq (.region id0 #[⟨some 2, .alloc T, t0, p0, e0, none⟩] false) (.seq (.region id1 #[⟨some a, .move (.tmp 0), t1, p1, e1, none⟩, ⟨some b, .call ⟨.value (.func 42), #[.tmp a], ts⟩, t2, p2, e2, none⟩, ⟨none, .defer ⟨.value (.tmp b), #[], ts'⟩, t3, p3, e3, none⟩] false) c2)))
    (hr : fn.results.toList = rs) (hm : fn.ntmps = m + 1) (hname : (fn.name == "runtime.NumGoroutine") = false) (hlay : layOf Tryd.prog T = some lay) (hz : lowL 3 lay.zero) (ha0 : a ≠ 0) (ha2 : a < m + 1) (hb2 : b < m + 1) (hd : d = 50 - (n : Int)) (hn : n ≤ 50)
    (h0 : n = 0 → res 0 = .error (7, hereP E l))
    (h : ∀ k, n = k + 1 → EvK Tryd.prog ⟨3, none⟩ (endD rs toA (res n) E d) [.code c2, .thr] .normal ⟨((((.ptr 0 0 :: List.replicate m .undef : List AVal).set 2 (.ptr 1 0)).set a (.ptr 0 0)).set b (.fn 61 [] [.ptr 2 0])), [rdB E l (d + 1), some (.var lay.zero), boxR]⟩) :
    Ans (.fn g [] []) [.ptr 0 0] E l d toA (res n) := by
  have key : CallSh Tryd.prog g [.ptr 0 0] [rdB E l d] (treeK (okK toA (res n) E d) 1) ∨ CallPan Tryd.prog g [.ptr 0 0] [rdB E l d] (treeK (erK (res n) E) 1) := by
    refine CallSh.defers (m := 2) (f := b) hf hb hname rfl rfl ?_ ?_
    · exact (ok_er toA (res n) E d).imp (fun hs r σ' ⟨_, _, _, _, _, _, _, q⟩ => hs _ _ q) (fun hs r σ' ⟨_, _, _, _, _, _, _, q⟩ => hs _ _ q)
    subst hr
    have hst : St.enter fn [.ptr 0 0] [rdB E l d] = ⟨.ptr 0 0 :: List.replicate m .undef, [rdB E l d]⟩ := by simp [St.enter, hm]
    rw [hst]
    generalize hR : (List.replicate m AVal.undef) = R at *
    have hlen : R.length = m := by rw [← hR]; simp
    show EvR _ _ _ [] [0] _ _
    refine EvR.op (o := ⟨some 2, .alloc T, t0, p0, e0, none⟩) (r := .ptr 1 0) (σ' := [rdB E l d, some (.var lay.zero)]) (by simp) (by simp [gdA]) ?_ (fun h => Nat.le_trans h (by simp)) (EvR.nil ⟨rfl, ?_⟩)
    · simp only [opE, hlay, Option.bind_some]; rfl
    show EvR _ _ _ [2] [0, 1] ⟨(.ptr 0 0 :: R : List AVal).set 2 (.ptr 1 0), [rdB E l d, some (.var lay.zero)]⟩ _
    refine EvR.op (o := ⟨some a, .move (.tmp 0), t1, p1, e1, none⟩) (r := .ptr 0 0) (σ' := [rdB E l d, some (.var lay.zero)]) (by simp) (by simp [gdA]) rfl (fun h => h) ?_
    show EvR _ _ _ [2] [1] ⟨((.ptr 0 0 :: R : List AVal).set 2 (.ptr 1 0)).set a (.ptr 0 0), [rdB E l d, some (.var lay.zero)]⟩ _
    generalize hT : ((.ptr 0 0 :: R : List AVal).set 2 (.ptr 1 0)).set a (.ptr 0 0) = tm2 at *
    have hlen2 : tm2.length = m + 1 := by rw [← hT]; simp [hlen]
    have hga : ev tm2 (.tmp a) = .ptr 0 0 := by
      show List.getD _ _ _ = _
      rw [← hT]
      exact getD_set_same _ _ _ (by simp [hlen]; omega)
    match n, hd, hn, h0, h with
    | 0, hd, hn, h0, h =>
      obtain rfl : d = 50 := by omega
      refine EvR.pan (o := ⟨some b, .call ⟨.value (.func 42), #[.tmp a], ts⟩, t2, p2, e2, none⟩) (f := .func 42) (args := #[.tmp a]) (ts := ts) (by simp) (by simp [gdA]) rfl ?_
      show VPan _ (.fn 42 [] []) [ev tm2 (.tmp a)] [rdB E l 50, some (.var lay.zero)] _
      rw [hga]
      refine VCallG.mono (Enter_pan E l (some (.var lay.zero)) hz) ?_
      rintro r σ' ⟨rfl, l', d', rfl⟩
      exact ⟨_, rfl, _, rfl, tree_er (h0 rfl)⟩
    | k + 1, hd, hn, h0, h =>
      refine EvR.call (o := ⟨some b, .call ⟨.value (.func 42), #[.tmp a], ts⟩, t2, p2, e2, none⟩) (f := .func 42) (args := #[.tmp a]) (ts := ts) (by simp) (by simp [gdA]) rfl ?_
      show VCall _ (.fn 42 [] []) [ev tm2 (.tmp a)] [rdB E l d, some (.var lay.zero)] _
      rw [hga]
      refine (Enter_ok E l d (some (.var lay.zero)) (by omega) (by omega) hz).mono ?_
      rintro r σ' ⟨rfl, rfl⟩
      refine EvR.nil ?_
      have hgb : ev (tm2.set b (.fn 61 [] [.ptr 2 0])) (.tmp b) = .fn 61 [] [.ptr 2 0] := by
        show List.getD _ _ _ = _
        exact getD_set_same _ _ _ (by rw [hlen2]; exact hb2)
      refine ⟨⟨_, _, _, hgb⟩, ?_⟩
      show EvS _ ⟨3, none⟩ c2 ⟨tm2.set b (.fn 61 [] [.ptr 2 0]), [rdB E l (d + 1), some (.var lay.zero), boxR]⟩ (endQ _ _ (ev (tm2.set b (.fn 61 [] [.ptr 2 0])) (.tmp b)) _ _)
      rw [hgb]
      refine EvS.mono (h k rfl) fun e s q => ?_
      have q := evK_thr.1 q
      simp only [EvK] at q
      cases e with
      | exit id => exact q.elim
      | goto id => exact q.elim
      | normal =>
        obtain ⟨l', B, τ, hs, q⟩ := q
        rw [show s = ⟨s.tm, s.σ⟩ from rfl, hs]
        refine (Enter1_eq E l' (d + 1) B τ _ (.inl rfl)).mono ?_
        rintro σ' rfl
        rw [show IntKind.i64.wrap (d + 1 - 1) = d by rw [show d + 1 - 1 = d by omega]; exact wrap_id (by omega)]
        exact q
      | ret =>
        obtain ⟨l', B, τ, hs, q⟩ := q
        rw [show s = ⟨s.tm, s.σ⟩ from rfl, hs]
        refine (Enter1_eq E l' (d + 1) B τ _ (.inl rfl)).mono ?_
        rintro σ' rfl
        rw [show IntKind.i64.wrap (d + 1 - 1) = d by rw [show d + 1 - 1 = d by omega]; exact wrap_id (by omega)]
        exact q
      | panic u =>
        obtain ⟨l', d', B, τ, r, hs, hu, q⟩ := q
        rw [show s = ⟨s.tm, s.σ⟩ from rfl, hs]
        refine .inl ((Enter1_eq E l' d' B τ _ (.inr ⟨u, rfl⟩)).mono ?_)
        rintro σ' rfl
        exact ⟨r, hu, q _⟩
  rcases key with h | h
  · exact .inl (VCall.sh (CallSh.tree h))
  · exact .inr (VCall.sh (CallSh.tree h))
end Go.Proofs

/- The program's reader of tokens: terms. -/
set_option linter.unusedSimpArgs false
namespace Go.Proofs
open Go Go.Abs

theorem isB (E : Int) (l : List Tok) : isP [40] l = true → ∃ t r, l = t :: r := is_cons

theorem bind_ok {α β : Type} {x : PR α} {a : α} {l : List Tok} {f : α → List Tok → PR β} (h : x = .ok (a, l)) : PR.bind x f = f a l := by rw [h]; rfl
theorem bind_er {α β : Type} {x : PR α} {e : Er} {f : α → List Tok → PR β} (h : x = .error e) : PR.bind x f = .error e := by rw [h]; rfl

theorem eD_normal {α : Type} {rs : List ResultVar} {toA : α → AVal} {res : PR α} {E d : Int} {s : St} : endD rs toA res E d .normal s = ∃ l' B τ, s.σ = rdB E l' (d + 1) :: B :: boxR :: τ ∧ ∃ r, resultsA Tryd.prog ⟨s.tm, rdB E l' d :: B :: boxR :: τ⟩ rs = some r ∧ treeK (okK toA res E d) 1 r (rdB E l' d :: B :: boxR :: τ) := rfl
theorem eD_ret {α : Type} {rs : List ResultVar} {toA : α → AVal} {res : PR α} {E d : Int} {s : St} : endD rs toA res E d .ret s = ∃ l' B τ, s.σ = rdB E l' (d + 1) :: B :: boxR :: τ ∧ ∃ r, resultsA Tryd.prog ⟨s.tm, rdB E l' d :: B :: boxR :: τ⟩ rs = some r ∧ treeK (okK toA res E d) 1 r (rdB E l' d :: B :: boxR :: τ) := rfl
theorem eD_panic {α : Type} {rs : List ResultVar} {toA : α → AVal} {res : PR α} {E d : Int} {s : St} {u : Value} : endD rs toA res E d (.panic u) s = ∃ l' d' B τ r, s.σ = rdB E l' d' :: B :: boxR :: τ ∧ pvV r = some u ∧ ∀ d2, treeK (erK res E) 1 r (rdB E l' d2 :: B :: boxR :: τ) := rfl

/-- A panic goes through. -/
theorem eD_pan {α : Type} {rs : List ResultVar} {toA : α → AVal} {res : PR α} {E d d' : Int} {e : Er} {l' : List Tok} {B : Option Blk} {τ : Store} {tm : List AVal} {u : Value} (hu : pvV (stopA e) = some u) (h : res = .error e) :
    endD rs toA res E d (.panic u) ⟨tm, rdB E l' d' :: B :: boxR :: τ⟩ := ⟨l', d', B, τ, stopA e, rfl, hu, fun _ => tree_er h⟩

theorem bind_okk {α β : Type} {a : α} {l : List Tok} {f : α → List Tok → PR β} : PR.bind (.ok (a, l)) f = f a l := rfl
theorem wd_agg (w : Wd) : isAggA w.toA = true := by rw [wd_eq]; rfl
theorem ok_wd (w : Wd) : appOk ⟨3, true, 48, [.bool false, .str ⟨#[]⟩, .nils], .struct⟩ [w.toA] = True := eq_true ⟨fun x hx => by rw [List.mem_singleton.1 hx, wd_cells]; exact ⟨rfl, rfl⟩, by decide, by decide, rfl⟩
theorem lt03 : ((0 : Nat) < 3) = True := eq_true (by decide)
def wds (l : List Wd) : List AVal := l.map Wd.toA
theorem wds_add (l : List Wd) (x : Wd) : wds (l ++ [x]) = wds l ++ [x.toA] := by simp [wds]
theorem wds_len (l : List Wd) : (wds l).length = l.length := by simp [wds]

theorem wd_c3 (w : Wd) : (w.toA.cells.length = 3) = True := eq_true (by rw [wd_cells]; rfl)
theorem wd_all (w : Wd) : (w.toA.cells.all AVal.isCell = true) = True := eq_true (by rw [wd_cells]; rfl)

theorem slA_cell (b sz : Nat) (l : List AVal) : ((slA b sz l).isCell = true) = True := eq_true (by cases l <;> rfl)

theorem merge_same (wr : List Nat) : ∀ (i : Nat) (τ : Store), mergeW wr i τ τ = τ
  | _, [] => rfl
  | i, x :: τ => by simp only [mergeW, merge_same wr (i + 1) τ, ite_self]

/-- Such a call in a region that draws. -/
theorem Ans.draw {f : AVal} {args : List AVal} {E : Int} {l : List Tok} {d : Int} {α : Type} {toA : α → AVal} {res : PR α} {τ : Store} {x : α} {l' : List Tok} {lo : Ctx} {Q : AExit → St → Prop} {k : List KI} {ops : Array Oper} {dst : Option Tmp} {ol : List Oper} {fs : List Fp} {tm : List AVal}
    (h : Ans f args E l d toA res) (hres : res = .ok (x, l')) (hf : f.low 1) (ha : lowL 1 args) (hk : drawK Tryd.prog lo Q k ops ol fs (put tm dst (toA x)) (rdB E l' d :: τ)) :
    drawC Tryd.prog lo Q k ops [0] dst ol fs tm (rdB E l d :: τ) (rdB E l d :: τ) f args := by
  refine ⟨toA x, rdB E l' d :: τ, h.norm hres hf ha ⟨rfl, rfl⟩, ⟨.inl rfl, sameO_refl _ _ _⟩, ?_⟩
  have : mergeW [0] 0 (rdB E l' d :: τ) (rdB E l d :: τ) = rdB E l' d :: τ := by
    show (if ([0] : List Nat).contains 0 = true then rdB E l' d else rdB E l d) :: mergeW [0] 1 τ τ = _
    rw [merge_same]; rfl
  rw [this]; exact hk

theorem Term_eq (E : Int) : ∀ (n : Nat), n ≤ 50 → ∀ (l : List Tok) (d : Int), d = 50 - (n : Int) → l.length ≤ 100000 → Ans (.fn 64 [] []) [.ptr 0 0] E l d Wd.toA (termP E n l) := by
  intro n
  induction n with
  | zero =>
    intro hn l d hd hs
    exact Ans.deep (res := fun n => termP E n l) (rs := [.cell 2 24]) (m := 36) (n := 0) Tryd.func64 rfl rfl rfl (by decide) lay24 ⟨trivial, trivial, trivial, trivial⟩ (by decide) (by decide) (by decide) hd hn (fun _ => rfl) (fun k h => by omega)
  | succ k ih =>
    intro hn l d hd hs
    refine Ans.deep (res := fun n => termP E n l) (rs := [.cell 2 24]) (m := 36) (n := k + 1) Tryd.func64 rfl rfl rfl (by decide) lay24 ⟨trivial, trivial, trivial, trivial⟩ (by decide) (by decide) (by decide) hd hn (fun h => by omega) (fun k' h => ?_)
    obtain rfl : k' = k := by omega
    have hd1 : d + 1 = 50 - (k' : Int) := by omega
    show EvK _ _ (endD _ _ (termP E (k' + 1) l) E d) _ _ _
    rw [show termP E (k' + 1) l = termF E (termP E k') l from rfl]
    generalize hdd : d + 1 = d1 at hd1 ⊢
    have hih := fun l hs => ih (by omega) l d1 hd1 hs
    refine EvK.go 1000 ?_
    simp only [go_sem, Nat.reduceAdd, Nat.reduceSub, Nat.reduceMul, Nat.reduceLeDiff, Nat.reduceEqDiff, Nat.reduceBEq]
    refine (Next_eq E l d1).call ⟨trivial, trivial⟩ ⟨Nat.one_pos, trivial⟩ (fun x l' h => ?_) (fun e l' d' h => by cases h)
    cases h
    refine EvK.go 1000 ?_
    unfold termF
    by_cases c1 : kindP l = 1
    · have c1' : (nxt E l).kind = 1 := by rw [nxt_kind]; exact c1
      simp only [go_sem, Nat.reduceAdd, Nat.reduceSub, Nat.reduceMul, Nat.reduceLeDiff, Nat.reduceEqDiff, Nat.reduceBEq, tokA_eq, c1', c1]
      refine (Name_eqP E l d1 1 (by decide)).call ⟨trivial, trivial⟩ ⟨Nat.one_pos, trivial, trivial⟩ (fun x l' h => ?_) (fun e l' d' h u hu => eD_pan hu (bind_er h))
      rw [bind_ok h]
      refine EvK.go 1000 ?_
      simp only [go_sem, Nat.reduceAdd, Nat.reduceSub, Nat.reduceMul, Nat.reduceLeDiff, Nat.reduceEqDiff, Nat.reduceBEq, eD_ret]
      refine ⟨l', _, _, by rw [hdd], ?_⟩
      simp only [go_sem, Nat.reduceAdd, Nat.reduceSub, Nat.reduceMul, Nat.reduceLeDiff, Nat.reduceEqDiff, Nat.reduceBEq]
      exact tree_ok (l := l') rfl ⟨rfl, rfl, rfl, rfl⟩ (wd_low0 _)
    · have c1' : ¬ (nxt E l).kind = 1 := by rw [nxt_kind]; exact c1
      simp only [go_sem, Nat.reduceAdd, Nat.reduceSub, Nat.reduceMul, Nat.reduceLeDiff, Nat.reduceEqDiff, Nat.reduceBEq, tokA_eq, c1', c1]
      refine (Name_eqP E l d1 0 (by decide)).call ⟨trivial, trivial⟩ ⟨Nat.one_pos, trivial, trivial⟩ (fun x l' h => ?_) (fun e l' d' h u hu => eD_pan hu (bind_er h))
      rw [bind_ok h]
      have hl' : l'.length ≤ l.length := by obtain ⟨_, _, _, rfl⟩ := name_ok h; exact tail_len l
      clear h
      generalize l' = l1 at hl'
      have ht1 := tail_len l1
      refine EvK.go 1000 ?_
      simp only [go_sem, Nat.reduceAdd, Nat.reduceSub, Nat.reduceMul, Nat.reduceLeDiff, Nat.reduceEqDiff, Nat.reduceBEq]
      refine (Take_eq E l1 d1 [40]).call ⟨trivial, trivial⟩ ⟨Nat.one_pos, trivial, trivial⟩ (fun y l2 h => ?_) (fun e l' d' h => by cases h)
      cases h
      refine EvK.go 1000 ?_
      by_cases c2 : isP [40] l1 = true
      · simp only [go_sem, Nat.reduceAdd, Nat.reduceSub, Nat.reduceMul, Nat.reduceLeDiff, Nat.reduceEqDiff, Nat.reduceBEq, c2]
        cases hT : termP E k' l1.tail with
        | error e =>
          refine EvK.drawP [⟨none, [], [0, 4]⟩, ⟨none, [], [0, 4]⟩, .no, ⟨none, [0], []⟩, ⟨some 4, [4], []⟩, ⟨some 5, [4, 5], []⟩, .no, ⟨none, [3], []⟩] 4 6 mixed rfl rfl (by decide) 3 [3, 4, 5, 6, 7] rfl rfl rfl rfl rfl rfl ?_
          simp only [go_sem, Nat.reduceAdd, Nat.reduceSub, Nat.reduceMul, Nat.reduceLeDiff, Nat.reduceEqDiff, Nat.reduceBEq, padS, List.contains_cons]
          exact EvK.fact ((hih l1.tail (by omega)).pan hT ⟨trivial, trivial⟩ ⟨Nat.one_pos, trivial⟩ fun l' d' => ⟨_, rfl, fun tm' => eD_pan rfl rfl⟩)
        | ok p =>
          obtain ⟨a, l3⟩ := p
          refine EvK.draw [⟨none, [], [0, 4]⟩, ⟨none, [], [0, 4]⟩, .no, ⟨none, [0], []⟩, ⟨some 4, [4], []⟩, ⟨some 5, [4, 5], []⟩, .no, ⟨none, [3], []⟩] 4 6 mixed rfl rfl (by decide) ?_
          simp only [go_sem, Nat.reduceAdd, Nat.reduceSub, Nat.reduceMul, Nat.reduceLeDiff, Nat.reduceEqDiff, Nat.reduceBEq, padS]
          refine (hih l1.tail (by omega)).draw hT ⟨trivial, trivial⟩ ⟨Nat.one_pos, trivial⟩ ?_
          simp only [go_sem, Nat.reduceAdd, Nat.reduceSub, Nat.reduceMul, Nat.reduceLeDiff, Nat.reduceEqDiff, Nat.reduceBEq, wd_agg, ok_wd, lt03, wd_c3, wd_all]
          have hlen := term_len _ _ _ _ hT
          simp only [bind_okk]
          generalize hR : moreP [44] (termP E k') l3.length [a] l3 = R
          refine EvK.go 1000 ?_
          simp only [go_sem, Nat.reduceAdd, Nat.reduceSub, Nat.reduceMul, Nat.reduceLeDiff, Nat.reduceEqDiff, Nat.reduceBEq]
          refine EvK.loopRX (ι := {p : Nat × List Wd × List Tok // moreP [44] (termP E k') p.1 p.2.1 p.2.2 = R ∧ p.2.2.length ≤ p.1 ∧ p.2.1.length + p.2.2.length ≤ 100000}) 1000 (fun _ => mkT 37 [(0, .ptr 0 0), (2, .ptr 1 0), (3, .ptr 3 0)])
            (fun p => [rdB E p.1.2.2 d1, some (.var [.bool false, .str ⟨#[]⟩, .nils]), boxR, some (.var [.bool false, .str (ofB x), slA 4 3 (wds p.1.2.1)]), slB (wds p.1.2.1)]) (fun p => p.1.1) ⟨(l3.length, [a], l3), hR, Nat.le_refl _, by have := is_len c2; simp only [List.length_singleton]; omega⟩ [(4, 5), (5, 4)] ?_ (fun _ => by show (3 : Nat) ≤ 5; omega) ?_
          · refine leR_mk rfl ?_
            simp only [go_sem, Nat.reduceAdd, Nat.reduceSub, Nat.reduceMul, Nat.reduceLeDiff, Nat.reduceEqDiff, Nat.reduceBEq, wds, List.map_cons, List.map_nil, slA_cons, slB_cons, toks_low, rdB, boxR, renL_low0, ren_low0, wd_low]
            decide
          · rintro ⟨⟨fuel, acc, l4⟩, h1, h2, h3⟩
            simp only at h1 h2 h3
            simp only [go_sem, Nat.reduceAdd, Nat.reduceSub, Nat.reduceMul, Nat.reduceLeDiff, Nat.reduceEqDiff, Nat.reduceBEq]
            refine (Take_eq E l4 d1 [44]).call ⟨trivial, trivial⟩ ⟨Nat.one_pos, trivial, trivial⟩ (fun y l2 h => ?_) (fun e l' d' h => by cases h)
            cases h
            refine EvK.go 1000 ?_
            by_cases c3 : isP [44] l4 = true
            · obtain ⟨fu, rfl⟩ : ∃ fu, fuel = fu + 1 := ⟨fuel - 1, by have := is_len c3; omega⟩
              rw [more_go c3] at h1
              have hlen3 := is_len c3
              simp only [go_sem, Nat.reduceAdd, Nat.reduceSub, Nat.reduceMul, Nat.reduceLeDiff, Nat.reduceEqDiff, Nat.reduceBEq, c3]
              cases hT2 : termP E k' l4.tail with
              | error e =>
                rw [bind_er hT2] at h1
                subst h1
                refine EvK.drawP [⟨none, [], [0, 5]⟩, ⟨none, [], [0, 5]⟩, .no, ⟨none, [0], []⟩, ⟨some 5, [5], []⟩, ⟨some 6, [4, 5, 6], []⟩, .no, ⟨none, [3], []⟩] 5 7 mixed rfl rfl (by decide) 3 [3, 4, 5, 6, 7] rfl rfl rfl rfl rfl rfl ?_
                simp only [go_sem, Nat.reduceAdd, Nat.reduceSub, Nat.reduceMul, Nat.reduceLeDiff, Nat.reduceEqDiff, Nat.reduceBEq, padS, List.contains_cons]
                exact EvK.fact ((hih l4.tail (by omega)).pan hT2 ⟨trivial, trivial⟩ ⟨Nat.one_pos, trivial⟩ fun l' d' => ⟨_, rfl, fun tm' => eD_pan rfl rfl⟩)
              | ok p =>
                obtain ⟨a2, l5⟩ := p
                rw [bind_ok hT2] at h1
                have hlen2 := term_len _ _ _ _ hT2
                refine EvK.draw [⟨none, [], [0, 5]⟩, ⟨none, [], [0, 5]⟩, .no, ⟨none, [0], []⟩, ⟨some 5, [5], []⟩, ⟨some 6, [4, 5, 6], []⟩, .no, ⟨none, [3], []⟩] 5 7 mixed rfl rfl (by decide) ?_
                simp only [go_sem, Nat.reduceAdd, Nat.reduceSub, Nat.reduceMul, Nat.reduceLeDiff, Nat.reduceEqDiff, Nat.reduceBEq, padS]
                refine (hih l4.tail (by omega)).draw hT2 ⟨trivial, trivial⟩ ⟨Nat.one_pos, trivial⟩ ?_
                simp only [go_sem, Nat.reduceAdd, Nat.reduceSub, Nat.reduceMul, Nat.reduceLeDiff, Nat.reduceEqDiff, Nat.reduceBEq, wd_agg, ok_wd, lt03, wd_c3, wd_all, app_slA]
                refine ⟨by rw [wds_len]; omega, ?_⟩
                refine EvK.go 1000 ?_
                simp only [go_sem, Nat.reduceAdd, Nat.reduceSub, Nat.reduceMul, Nat.reduceLeDiff, Nat.reduceEqDiff, Nat.reduceBEq]
                refine ⟨⟨(fu, acc ++ [a2], l5), h1, by simp only; omega, by simp only [List.length_append, List.length_singleton]; omega⟩, [(4, 6), (6, 4)], leR_mk rfl ?_, by simp only; omega⟩
                simp only [wds_add, slA_snoc, slB_snoc]
                have lw : lowL 0 (wds acc ++ [a2.toA]) := by rw [← wds_add]; exact wds_low _
                simp only [go_sem, Nat.reduceAdd, Nat.reduceSub, Nat.reduceMul, Nat.reduceLeDiff, Nat.reduceEqDiff, Nat.reduceBEq, toks_low, rdB, boxR, renL_low0, renL_low0 lw]
                exact ⟨by decide, by decide, by decide, lowL_mono (Nat.zero_le 5) lw⟩
            · rw [Bool.not_eq_true] at c3
              rw [more_stop c3] at h1
              subst h1
              simp only [go_sem, Nat.reduceAdd, Nat.reduceSub, Nat.reduceMul, Nat.reduceLeDiff, Nat.reduceEqDiff, Nat.reduceBEq, c3]
              refine EvK.go 1000 ?_
              simp only [go_sem, Nat.reduceAdd, Nat.reduceSub, Nat.reduceMul, Nat.reduceLeDiff, Nat.reduceEqDiff, Nat.reduceBEq]
              refine (Sign_eq E l4 d1 [41]).call ⟨trivial, trivial⟩ ⟨Nat.one_pos, trivial, trivial⟩ (fun y l2 h => ?_) (fun e l' d' h u hu => eD_pan hu (by rw [bind_okk, bind_er h]))
              rw [bind_okk, bind_ok h]
              refine EvK.go 1000 ?_
              simp only [go_sem, Nat.reduceAdd, Nat.reduceSub, Nat.reduceMul, Nat.reduceLeDiff, Nat.reduceEqDiff, Nat.reduceBEq, eD_ret, slA_cell]
              refine ⟨l2, _, _, by rw [hdd], ?_⟩
              simp only [go_sem, Nat.reduceAdd, Nat.reduceSub, Nat.reduceMul, Nat.reduceLeDiff, Nat.reduceEqDiff, Nat.reduceBEq]
              refine tree_ok (l := l2) rfl ?_ (wd_low0 _)
              rw [wd_eq]
              simp only [go_sem, Nat.reduceAdd, Nat.reduceSub, Nat.reduceMul, Nat.reduceLeDiff, Nat.reduceEqDiff, Nat.reduceBEq]
              refine ⟨rfl, rfl, ?_⟩
              show pT _ _ (.ps 3 (wds acc)) _
              rw [pT_slA rfl rfl]
              trivial
      · rw [Bool.not_eq_true] at c2
        simp only [go_sem, Nat.reduceAdd, Nat.reduceSub, Nat.reduceMul, Nat.reduceLeDiff, Nat.reduceEqDiff, Nat.reduceBEq, c2]
        rw [eD_ret]
        refine ⟨l1, _, _, by rw [hdd], ?_⟩
        simp only [go_sem, Nat.reduceAdd, Nat.reduceSub, Nat.reduceMul, Nat.reduceLeDiff, Nat.reduceEqDiff, Nat.reduceBEq]
        exact tree_ok (l := l1) rfl ⟨rfl, rfl, rfl, rfl⟩ (wd_low0 _)
end Go.Proofs

/- The program's reader of tokens: atoms. -/
set_option linter.unusedSimpArgs false
namespace Go.Proofs
open Go Go.Abs

theorem fo_agg (f : Fo) : isAggA f.toA = true := by rw [fo_eq]; rfl
theorem fo_c9 (f : Fo) : (f.toA.cells.length = 9) = True := eq_true (by rw [fo_cells]; rfl)
theorem fo_all (f : Fo) : (f.toA.cells.all AVal.isCell = true) = True := eq_true (by rw [fo_cells]; rfl)
theorem ok_fo (f : Fo) : appOk ⟨9, true, 152, [.int .i64 0, .bool false, .str ⟨#[]⟩, .nils, .bool false, .str ⟨#[]⟩, .nils, .nils, .nils], .struct⟩ [f.toA] = True :=
  eq_true ⟨fun x hx => by rw [List.mem_singleton.1 hx, fo_cells]; exact ⟨rfl, rfl⟩, by decide, by decide, rfl⟩
theorem lt09 : ((0 : Nat) < 9) = True := eq_true (by decide)
theorem fo_take (f : Fo) : f.toA.cells.take 9 = f.cs := by rw [fo_cells]; rfl

theorem pT_fo (F : Nat → Bool) (σ : Store) (f : Fo) : pT F σ f.toA (.agg [.int .i64 f.kind, .bool f.l.var, .str f.l.name, .ps 3 (f.l.args.map Wd.toA), .bool f.r.var, .str f.r.name, .ps 3 (f.r.args.map Wd.toA), .ps 1 (strs f.names), .ps 9 (f.parts.map Fo.toA)]) := by
  rw [fo_eq]; exact pT_refl _ _ _

theorem Not_eq (f : Fo) : CallEq Tryd.prog 31 [f.toA] (notF f).toA := by
  refine CallEq.begin (rs := [.cell 2 28]) (m := 5) 1000 Tryd.func31 rfl rfl rfl (by decide) (fo_low0 _) ?_
  simp only [go_sem, Nat.reduceAdd, Nat.reduceSub, Nat.reduceMul, Nat.reduceLeDiff, Nat.reduceEqDiff, Nat.reduceBEq, fo_eq, Fo.cs, lt09]
  exact ⟨rfl, rfl, rfl, rfl, rfl, rfl, rfl, rfl, pT_fo _ _ _, rfl⟩

theorem Two_eq (k : Int) (x y : Fo) : CallEq Tryd.prog 27 [.int .i64 k, x.toA, y.toA] (twoF k x y).toA := by
  refine CallEq.begin (rs := [.cell 6 28]) (m := 9) 1000 Tryd.func27 rfl rfl rfl (by decide) (fo_low0 _) ?_
  simp only [go_sem, Nat.reduceAdd, Nat.reduceSub, Nat.reduceMul, Nat.reduceLeDiff, Nat.reduceEqDiff, Nat.reduceBEq, fo_eq, lt09]
  exact ⟨rfl, rfl, rfl, rfl, rfl, rfl, rfl, rfl, pT_fo _ _ _, pT_fo _ _ _, rfl⟩

theorem text_cons {l : List Tok} {x : By} (h : textP l = x) (hx : x ≠ []) : ∃ t r, l = t :: r := by
  cases l with
  | nil => exact absurd h.symm hx
  | cons t r => exact ⟨t, r, rfl⟩

theorem System_eq (E : Int) (l : List Tok) (d : Int) : Ans (.fn 63 [] []) [.ptr 0 0] E l d Fo.toA (systemP E l) := by
  refine Ans.begin (rs := [.cell 2 28]) (m := 30) Tryd.func63 rfl rfl rfl (by decide) ?_
  refine EvK.go 1000 ?_
  simp only [go_sem, Nat.reduceAdd, Nat.reduceSub, Nat.reduceMul, Nat.reduceLeDiff, Nat.reduceEqDiff, Nat.reduceBEq]
  refine (Next_eq E l d).call ⟨trivial, trivial⟩ ⟨Nat.one_pos, trivial⟩ (fun x l' h => ?_) (fun e l' d' h => by cases h)
  cases h
  have b1 : bs ⟨#[36, 116, 114, 117, 101]⟩ = [36, 116, 114, 117, 101] := rfl
  have b2 : bs ⟨#[36, 102, 97, 108, 115, 101]⟩ = [36, 102, 97, 108, 115, 101] := rfl
  refine EvK.go 1000 ?_
  unfold systemP
  by_cases c1 : textP l = [36, 116, 114, 117, 101]
  · obtain ⟨t, r, rfl⟩ := text_cons c1 (by simp)
    have c1' : t.text = [36, 116, 114, 117, 101] := c1
    simp only [go_sem, Nat.reduceAdd, Nat.reduceSub, Nat.reduceMul, Nat.reduceLeDiff, Nat.reduceEqDiff, Nat.reduceBEq, tokA_eq, str_eq, bs_ofB, b1, nxt, List.head?_cons, Option.getD_some, c1', c1, rdB, toks_cons, succ0, pos1, le1, le01, tail1, List.tail_cons]
    exact tree_ok (l := r) rfl ⟨rfl, rfl, rfl, rfl, rfl, rfl, rfl, rfl, rfl, rfl⟩ (fo_low0 _)
  · have c1' : ¬ (nxt E l).text = [36, 116, 114, 117, 101] := by rw [nxt_text]; exact c1
    by_cases c2 : textP l = [36, 102, 97, 108, 115, 101]
    · obtain ⟨t, r, rfl⟩ := text_cons c2 (by simp)
      have c2' : t.text = [36, 102, 97, 108, 115, 101] := c2
      have e : ¬ (([36, 102, 97, 108, 115, 101] : By) = [36, 116, 114, 117, 101]) := by decide
      simp only [go_sem, Nat.reduceAdd, Nat.reduceSub, Nat.reduceMul, Nat.reduceLeDiff, Nat.reduceEqDiff, Nat.reduceBEq, tokA_eq, str_eq, bs_ofB, b1, b2, nxt, List.head?_cons, Option.getD_some, c2', c2, e, rdB, toks_cons, succ0, pos1, le1, le01, tail1, List.tail_cons]
      exact tree_ok (l := r) rfl ⟨rfl, rfl, rfl, rfl, rfl, rfl, rfl, rfl, rfl, rfl⟩ (fo_low0 _)
    · have c2' : ¬ (nxt E l).text = [36, 102, 97, 108, 115, 101] := by rw [nxt_text]; exact c2
      simp only [go_sem, Nat.reduceAdd, Nat.reduceSub, Nat.reduceMul, Nat.reduceLeDiff, Nat.reduceEqDiff, Nat.reduceBEq, tokA_eq, str_eq, bs_ofB, b1, b2, c1', c2', c1, c2]
      refine (Fail_eq E l d 4).call ⟨trivial, trivial⟩ ⟨Nat.one_pos, trivial, trivial⟩ (fun x l' h => by cases h) (fun e l' d' h u hu => ?_)
      cases h
      exact pan_er hu rfl

theorem Atom_eq (E : Int) (n : Nat) (hn : n ≤ 50) (l : List Tok) (d : Int) (hd : d = 50 - (n : Int)) (hs : l.length ≤ 100000) : Ans (.fn 47 [] []) [.ptr 0 0] E l d Fo.toA (atomP E n l) := by
  have ht := fun l hs => Term_eq E n hn l d hd hs
  refine Ans.begin (rs := [.cell 2 28]) (m := 33) Tryd.func47 rfl rfl rfl (by decide) ?_
  refine EvK.go 1000 ?_
  simp only [go_sem, Nat.reduceAdd, Nat.reduceSub, Nat.reduceMul, Nat.reduceLeDiff, Nat.reduceEqDiff, Nat.reduceBEq]
  refine (Next_eq E l d).call ⟨trivial, trivial⟩ ⟨Nat.one_pos, trivial⟩ (fun x l' h => ?_) (fun e l' d' h => by cases h)
  cases h
  refine EvK.go 1000 ?_
  unfold atomP
  by_cases c1 : kindP l = 2
  · have c1' : (nxt E l).kind = 2 := by rw [nxt_kind]; exact c1
    simp only [go_sem, Nat.reduceAdd, Nat.reduceSub, Nat.reduceMul, Nat.reduceLeDiff, Nat.reduceEqDiff, Nat.reduceBEq, tokA_eq, c1', c1]
    refine (System_eq E l d).call ⟨trivial, trivial⟩ ⟨Nat.one_pos, trivial⟩ (fun x l' h => ?_) (fun e l' d' h u hu => pan_er hu h)
    refine EvK.go 1000 ?_
    simp only [go_sem, Nat.reduceAdd, Nat.reduceSub, Nat.reduceMul, Nat.reduceLeDiff, Nat.reduceEqDiff, Nat.reduceBEq, fo_c9, fo_all, fo_cells]
    exact tree_ok (l := l') h (pT_fo _ _ _) (fo_low0 _)
  · have c1' : ¬ (nxt E l).kind = 2 := by rw [nxt_kind]; exact c1
    simp only [go_sem, Nat.reduceAdd, Nat.reduceSub, Nat.reduceMul, Nat.reduceLeDiff, Nat.reduceEqDiff, Nat.reduceBEq, tokA_eq, c1', c1]
    refine (ht l hs).call ⟨trivial, trivial⟩ ⟨Nat.one_pos, trivial⟩ (fun a l1 h => ?_) (fun e l' d' h u hu => pan_er hu (bind_er h))
    rw [bind_ok h]
    have hl1 := term_len _ _ _ _ h
    have ht1 := tail_len l1
    refine EvK.go 1000 ?_
    simp only [go_sem, Nat.reduceAdd, Nat.reduceSub, Nat.reduceMul, Nat.reduceLeDiff, Nat.reduceEqDiff, Nat.reduceBEq, wd_cells]
    refine (Take_eq E l1 d [61]).call ⟨trivial, trivial⟩ ⟨Nat.one_pos, trivial, trivial⟩ (fun y l2 h => ?_) (fun e l' d' h => by cases h)
    cases h
    refine EvK.go 1000 ?_
    by_cases c2 : isP [61] l1 = true
    · simp only [go_sem, Nat.reduceAdd, Nat.reduceSub, Nat.reduceMul, Nat.reduceLeDiff, Nat.reduceEqDiff, Nat.reduceBEq, c2]
      cases hT : termP E n l1.tail with
      | error e =>
        refine EvK.drawP [⟨none, [], [0]⟩, .no, ⟨none, [0], []⟩, .no, ⟨none, [1], []⟩] 3 3 mixed rfl rfl (by decide) 2 [2, 3, 4] rfl rfl rfl rfl rfl rfl ?_
        simp only [go_sem, Nat.reduceAdd, Nat.reduceSub, Nat.reduceMul, Nat.reduceLeDiff, Nat.reduceEqDiff, Nat.reduceBEq, padS, List.contains_cons]
        exact EvK.fact ((ht l1.tail (by omega)).pan hT ⟨trivial, trivial⟩ ⟨Nat.one_pos, trivial⟩ fun l' d' => ⟨_, rfl, pan_er rfl rfl⟩)
      | ok p =>
        obtain ⟨b, l3⟩ := p
        refine EvK.draw [⟨none, [], [0]⟩, .no, ⟨none, [0], []⟩, .no, ⟨none, [1], []⟩] 3 3 mixed rfl rfl (by decide) ?_
        simp only [go_sem, Nat.reduceAdd, Nat.reduceSub, Nat.reduceMul, Nat.reduceLeDiff, Nat.reduceEqDiff, Nat.reduceBEq, padS]
        refine (ht l1.tail (by omega)).draw hT ⟨trivial, trivial⟩ ⟨Nat.one_pos, trivial⟩ ?_
        simp only [go_sem, Nat.reduceAdd, Nat.reduceSub, Nat.reduceMul, Nat.reduceLeDiff, Nat.reduceEqDiff, Nat.reduceBEq, wd_c3, wd_all, wd_cells]
        refine EvK.go 1000 ?_
        simp only [go_sem, Nat.reduceAdd, Nat.reduceSub, Nat.reduceMul, Nat.reduceLeDiff, Nat.reduceEqDiff, Nat.reduceBEq]
        exact tree_ok (l := l3) rfl ⟨rfl, rfl, rfl, pT_refl _ _ _, rfl, rfl, pT_refl _ _ _, rfl, rfl, rfl⟩ (fo_low0 _)
    · rw [Bool.not_eq_true] at c2
      simp only [go_sem, Nat.reduceAdd, Nat.reduceSub, Nat.reduceMul, Nat.reduceLeDiff, Nat.reduceEqDiff, Nat.reduceBEq, c2]
      refine (Take_eq E l1 d [33, 61]).call ⟨trivial, trivial⟩ ⟨Nat.one_pos, trivial, trivial⟩ (fun y l2 h => ?_) (fun e l' d' h => by cases h)
      cases h
      refine EvK.go 1000 ?_
      by_cases c3 : isP [33, 61] l1 = true
      · simp only [go_sem, Nat.reduceAdd, Nat.reduceSub, Nat.reduceMul, Nat.reduceLeDiff, Nat.reduceEqDiff, Nat.reduceBEq, c3]
        cases hT : termP E n l1.tail with
        | error e =>
          refine EvK.drawP [⟨none, [], [0]⟩, .no, ⟨none, [0], []⟩, .no, .no, ⟨none, [1], []⟩] 3 3 mixed rfl rfl (by decide) 2 [2, 3, 4, 5] rfl rfl rfl rfl rfl rfl ?_
          simp only [go_sem, Nat.reduceAdd, Nat.reduceSub, Nat.reduceMul, Nat.reduceLeDiff, Nat.reduceEqDiff, Nat.reduceBEq, padS, List.contains_cons]
          exact EvK.fact ((ht l1.tail (by omega)).pan hT ⟨trivial, trivial⟩ ⟨Nat.one_pos, trivial⟩ fun l' d' => ⟨_, rfl, pan_er rfl rfl⟩)
        | ok p =>
          obtain ⟨b, l3⟩ := p
          refine EvK.draw [⟨none, [], [0]⟩, .no, ⟨none, [0], []⟩, .no, .no, ⟨none, [1], []⟩] 3 3 mixed rfl rfl (by decide) ?_
          simp only [go_sem, Nat.reduceAdd, Nat.reduceSub, Nat.reduceMul, Nat.reduceLeDiff, Nat.reduceEqDiff, Nat.reduceBEq, padS]
          refine (ht l1.tail (by omega)).draw hT ⟨trivial, trivial⟩ ⟨Nat.one_pos, trivial⟩ ?_
          simp only [go_sem, Nat.reduceAdd, Nat.reduceSub, Nat.reduceMul, Nat.reduceLeDiff, Nat.reduceEqDiff, Nat.reduceBEq, wd_c3, wd_all, wd_cells]
          have hn := Not_eq (.mk 1 a b [] [])
          rw [fo_eq (.mk 1 a b [] [])] at hn
          refine draw_iso hn ?_ ?_ ?_
          · exact ⟨⟨rfl, rfl, rfl, pT_refl _ _ _, rfl, rfl, pT_refl _ _ _, rfl, rfl, rfl⟩, rfl⟩
          · have := fo_low0 (.mk 1 a b [] [])
            rw [fo_eq] at this
            exact ⟨this, trivial⟩
          · simp only [go_sem, Nat.reduceAdd, Nat.reduceSub, Nat.reduceMul, Nat.reduceLeDiff, Nat.reduceEqDiff, Nat.reduceBEq, fo_c9, fo_all, fo_cells]
            refine EvK.go 1000 ?_
            simp only [go_sem, Nat.reduceAdd, Nat.reduceSub, Nat.reduceMul, Nat.reduceLeDiff, Nat.reduceEqDiff, Nat.reduceBEq]
            exact tree_ok (l := l3) rfl (pT_fo _ _ _) (fo_low0 _)
      · rw [Bool.not_eq_true] at c3
        simp only [go_sem, Nat.reduceAdd, Nat.reduceSub, Nat.reduceMul, Nat.reduceLeDiff, Nat.reduceEqDiff, Nat.reduceBEq, c3]
        cases hv : a.var with
        | true =>
          simp only [go_sem, Nat.reduceAdd, Nat.reduceSub, Nat.reduceMul, Nat.reduceLeDiff, Nat.reduceEqDiff, Nat.reduceBEq]
          refine (Odd_eq E l1 d).call ⟨trivial, trivial⟩ ⟨Nat.one_pos, trivial⟩ (fun x l' h => by cases h) (fun e l' d' h u hu => ?_)
          cases h
          exact pan_er hu rfl
        | false =>
          simp only [go_sem, Nat.reduceAdd, Nat.reduceSub, Nat.reduceMul, Nat.reduceLeDiff, Nat.reduceEqDiff, Nat.reduceBEq]
          exact tree_ok (l := l1) rfl ⟨rfl, (by show AVal.bool false = AVal.bool a.var; rw [hv]), rfl, pT_refl _ _ _, rfl, rfl, rfl, rfl, rfl, rfl⟩ (fo_low0 _)
end Go.Proofs

/- The program's reader of tokens: chains, quantifiers, formulas. -/
set_option linter.unusedSimpArgs false
namespace Go.Proofs
open Go Go.Abs

def fos (l : List Fo) : List AVal := l.map Fo.toA
theorem fos_add (l : List Fo) (x : Fo) : fos (l ++ [x]) = fos l ++ [x.toA] := by simp [fos]
theorem fos_len (l : List Fo) : (fos l).length = l.length := by simp [fos]
theorem fos_low0 {n : Nat} (l : List Fo) : lowL n (fos l) := fos_low l

theorem ok_str (x : ByteArray) : appOk ⟨1, false, 16, [.str ⟨#[]⟩], .str⟩ [.str x] = True :=
  eq_true ⟨fun y hy => by rw [List.mem_singleton.1 hy]; exact ⟨rfl, rfl⟩, by decide, by decide, rfl⟩
def nms (l : List By) : List AVal := l.map fun x => .str (ofB x)
theorem nms_add (l : List By) (x : By) : nms (l ++ [x]) = nms l ++ [.str (ofB x)] := by simp [nms]
theorem nms_len (l : List By) : (nms l).length = l.length := by simp [nms]
theorem nms_low {n : Nat} (l : List By) : lowL n (nms l) := lowL_map fun _ _ => trivial
theorem nms_strs (l : List By) : strs (l.map ofB) = nms l := by simp [strs, nms]

section
variable {E d : Int} {u : List Tok → PR Fo} (hu : ∀ l, l.length ≤ 100000 → Ans (.fn 26 [] []) [.ptr 0 0] E l d Fo.toA (u l)) (hul : ∀ l x l', u l = .ok (x, l') → l'.length ≤ l.length)
include hu hul

theorem Chain_eq (l : List Tok) (sg : By) (k : Int) (a : Fo) (hs : l.length ≤ 99999) : Ans (.fn 29 [] []) [.ptr 0 0, .str (ofB sg), .int .i64 k, a.toA] E l d Fo.toA (chainP u sg k a l) := by
  refine Ans.begin (rs := [.cell 8 28]) (m := 21) Tryd.func29 rfl rfl rfl (by decide) ?_
  unfold chainP
  generalize hR : moreP sg u l.length [a] l = R
  refine EvK.go 1000 ?_
  simp only [go_sem, Nat.reduceAdd, Nat.reduceSub, Nat.reduceMul, Nat.reduceLeDiff, Nat.reduceEqDiff, Nat.reduceBEq, fo_c9, fo_all, fo_take, Fo.cs, fo_cells, fo_agg, lt09]
  refine EvK.loopRX (ι := {p : Nat × List Fo × List Tok // moreP sg u p.1 p.2.1 p.2.2 = R ∧ p.2.2.length ≤ p.1 ∧ p.2.1.length + p.2.2.length ≤ 100000}) 1000 (fun _ => mkT 25 [(0, .ptr 0 0), (1, .str (ofB sg)), (8, .ptr 2 0), (9, .ptr 4 0)])
    (fun p => [rdB E p.1.2.2 d, none, some (.var [.int .i64 0, .bool false, .str ⟨#[]⟩, .nils, .bool false, .str ⟨#[]⟩, .nils, .nils, .nils]), slB (fos p.1.2.1), some (.var [.int .i64 k, .bool false, .str ⟨#[]⟩, .nils, .bool false, .str ⟨#[]⟩, .nils, .nils, slA 3 9 (fos p.1.2.1)])])
    (fun p => p.1.1) ⟨(l.length, [a], l), hR, Nat.le_refl _, by simp only [List.length_singleton]; omega⟩ [] ?_ (fun _ => by show (1 : Nat) ≤ 5; omega) ?_
  · refine leR_mk rfl ?_
    have e1 := wds_low (n := 0) a.l.args
    have e2 := wds_low (n := 0) a.r.args
    have e3 := strs_low (n := 0) a.names
    have e4 := fos_low (n := 0) a.parts
    simp only [go_sem, Nat.reduceAdd, Nat.reduceSub, Nat.reduceMul, Nat.reduceLeDiff, Nat.reduceEqDiff, Nat.reduceBEq, fos, List.map_cons, List.map_nil, slA_cons, slB_cons, toks_low, rdB, renL_low0, ren_low0, fo_low, fo_eq, renL_low0 e1, renL_low0 e2, renL_low0 e3, renL_low0 e4]
    exact ⟨by decide, ⟨wds_low _, wds_low _, strs_low _, fos_low _⟩, by decide⟩
  · rintro ⟨⟨fuel, acc, l4⟩, h1, h2, h3⟩
    simp only at h1 h2 h3
    simp only [go_sem, Nat.reduceAdd, Nat.reduceSub, Nat.reduceMul, Nat.reduceLeDiff, Nat.reduceEqDiff, Nat.reduceBEq]
    refine (Take_eq E l4 d sg).call ⟨trivial, trivial⟩ ⟨Nat.one_pos, trivial, trivial⟩ (fun y l2 h => ?_) (fun e l' d' h => by cases h)
    cases h
    refine EvK.go 1000 ?_
    by_cases c3 : isP sg l4 = true
    · obtain ⟨fu, rfl⟩ : ∃ fu, fuel = fu + 1 := ⟨fuel - 1, by have := is_len c3; omega⟩
      rw [more_go c3] at h1
      have hlen3 := is_len c3
      simp only [go_sem, Nat.reduceAdd, Nat.reduceSub, Nat.reduceMul, Nat.reduceLeDiff, Nat.reduceEqDiff, Nat.reduceBEq, c3]
      cases hT2 : u l4.tail with
      | error e =>
        rw [bind_er hT2] at h1
        subst h1
        refine EvK.drawP [⟨none, [], [0, 5]⟩, ⟨none, [], [0, 5]⟩, .no, ⟨none, [0], []⟩, ⟨some 5, [5], []⟩, ⟨some 6, [3, 5, 6], []⟩, .no, ⟨none, [4], []⟩] 5 7 mixed rfl rfl (by decide) 3 [3, 4, 5, 6, 7] rfl rfl rfl rfl rfl rfl ?_
        simp only [go_sem, Nat.reduceAdd, Nat.reduceSub, Nat.reduceMul, Nat.reduceLeDiff, Nat.reduceEqDiff, Nat.reduceBEq, padS, List.contains_cons]
        exact EvK.fact ((hu l4.tail (by omega)).pan hT2 ⟨trivial, trivial⟩ ⟨Nat.one_pos, trivial⟩ fun l' d' => ⟨_, rfl, pan_er rfl rfl⟩)
      | ok p =>
        obtain ⟨a2, l5⟩ := p
        rw [bind_ok hT2] at h1
        have hlen2 := hul _ _ _ hT2
        refine EvK.draw [⟨none, [], [0, 5]⟩, ⟨none, [], [0, 5]⟩, .no, ⟨none, [0], []⟩, ⟨some 5, [5], []⟩, ⟨some 6, [3, 5, 6], []⟩, .no, ⟨none, [4], []⟩] 5 7 mixed rfl rfl (by decide) ?_
        simp only [go_sem, Nat.reduceAdd, Nat.reduceSub, Nat.reduceMul, Nat.reduceLeDiff, Nat.reduceEqDiff, Nat.reduceBEq, padS]
        refine (hu l4.tail (by omega)).draw hT2 ⟨trivial, trivial⟩ ⟨Nat.one_pos, trivial⟩ ?_
        simp only [go_sem, Nat.reduceAdd, Nat.reduceSub, Nat.reduceMul, Nat.reduceLeDiff, Nat.reduceEqDiff, Nat.reduceBEq, fo_agg, ok_fo, lt09, fo_c9, fo_all, app_slA]
        refine ⟨by rw [fos_len]; omega, ?_⟩
        refine EvK.go 1000 ?_
        simp only [go_sem, Nat.reduceAdd, Nat.reduceSub, Nat.reduceMul, Nat.reduceLeDiff, Nat.reduceEqDiff, Nat.reduceBEq]
        refine ⟨⟨(fu, acc ++ [a2], l5), h1, by simp only; omega, by simp only [List.length_append, List.length_singleton]; omega⟩, [(3, 6), (6, 3)], leR_mk rfl ?_, by simp only; omega⟩
        simp only [fos_add, slA_snoc, slB_snoc]
        have lw : lowL 0 (fos acc ++ [a2.toA]) := by rw [← fos_add]; exact fos_low0 _
        simp only [go_sem, Nat.reduceAdd, Nat.reduceSub, Nat.reduceMul, Nat.reduceLeDiff, Nat.reduceEqDiff, Nat.reduceBEq, toks_low, rdB, renL_low0, renL_low0 lw]
        exact ⟨by decide, lowL_mono (Nat.zero_le 5) lw, by decide⟩
    · rw [Bool.not_eq_true] at c3
      rw [more_stop c3] at h1
      subst h1
      simp only [go_sem, Nat.reduceAdd, Nat.reduceSub, Nat.reduceMul, Nat.reduceLeDiff, Nat.reduceEqDiff, Nat.reduceBEq, c3]
      refine EvK.go 1000 ?_
      simp only [go_sem, Nat.reduceAdd, Nat.reduceSub, Nat.reduceMul, Nat.reduceLeDiff, Nat.reduceEqDiff, Nat.reduceBEq, slA_cell]
      refine tree_ok (l := l4) rfl ⟨rfl, rfl, rfl, rfl, rfl, rfl, rfl, rfl, ?_, rfl⟩ (fo_low0 _)
      show pT _ _ (.ps 9 (Fo.toAL acc)) _
      rw [foAL_eq]
      show pT _ _ (.ps 9 (fos acc)) _
      rw [pT_slA rfl rfl]
      trivial

theorem Bound_eq (l : List Tok) (k : Int) (hs : l.length ≤ 99999) : Ans (.fn 62 [] []) [.ptr 0 0, .int .i64 k] E l d Fo.toA (boundP E u k l) := by
  refine Ans.begin (rs := [.cell 4 28]) (m := 29) Tryd.func62 rfl rfl rfl (by decide) ?_
  unfold boundP
  refine EvK.go 1000 ?_
  simp only [go_sem, Nat.reduceAdd, Nat.reduceSub, Nat.reduceMul, Nat.reduceLeDiff, Nat.reduceEqDiff, Nat.reduceBEq]
  refine (Sign_eq E l d [91]).call ⟨trivial, trivial⟩ ⟨Nat.one_pos, trivial, trivial⟩ (fun y l1 h => ?_) (fun e l' d' h u hu => pan_er hu (bind_er h))
  rw [bind_ok h]
  obtain ⟨_, rfl⟩ := sign_ok h
  have ht1 := tail_len l
  clear h
  generalize l.tail = l1 at ht1 ⊢
  refine EvK.go 1000 ?_
  simp only [go_sem, Nat.reduceAdd, Nat.reduceSub, Nat.reduceMul, Nat.reduceLeDiff, Nat.reduceEqDiff, Nat.reduceBEq]
  refine (Name_eqP E l1 d 1 (by decide)).call ⟨trivial, trivial⟩ ⟨Nat.one_pos, trivial, trivial⟩ (fun v l2 h => ?_) (fun e l' d' h u hu => pan_er hu (bind_er h))
  rw [bind_ok h]
  obtain ⟨_, hne, _, rfl⟩ := name_ok h
  have ht2 : l1.tail.length + 1 = l1.length := by
    cases l1 with
    | nil => exact absurd rfl hne
    | cons t r => rfl
  clear h
  generalize l1.tail = l2 at ht2 ⊢
  generalize hR : moreP [44] (nameP E 1) l2.length [v] l2 = R
  refine EvK.go 1000 ?_
  simp only [go_sem, Nat.reduceAdd, Nat.reduceSub, Nat.reduceMul, Nat.reduceLeDiff, Nat.reduceEqDiff, Nat.reduceBEq, Nat.zero_lt_one]
  refine EvK.loopRX (ι := {p : Nat × List By × List Tok // moreP [44] (nameP E 1) p.1 p.2.1 p.2.2 = R ∧ p.2.2.length ≤ p.1 ∧ p.2.1.length + p.2.2.length ≤ 99999}) 1000 (fun _ => mkT 31 [(0, .ptr 0 0), (4, .ptr 1 0), (5, .ptr 3 0)])
    (fun p => [rdB E p.1.2.2 d, some (.var [.int .i64 0, .bool false, .str ⟨#[]⟩, .nils, .bool false, .str ⟨#[]⟩, .nils, .nils, .nils]), slB (nms p.1.2.1), some (.var [.int .i64 k, .bool false, .str ⟨#[]⟩, .nils, .bool false, .str ⟨#[]⟩, .nils, slA 2 1 (nms p.1.2.1), .nils])])
    (fun p => p.1.1) ⟨(l2.length, [v], l2), hR, Nat.le_refl _, by simp only [List.length_singleton]; omega⟩ [] ?_ (fun _ => by show (1 : Nat) ≤ 4; omega) ?_
  · refine leR_mk rfl ?_
    simp only [go_sem, Nat.reduceAdd, Nat.reduceSub, Nat.reduceMul, Nat.reduceLeDiff, Nat.reduceEqDiff, Nat.reduceBEq, nms, List.map_cons, List.map_nil, slA_cons, slB_cons, toks_low, rdB, renL_low0, ren_low0]
    decide
  · rintro ⟨⟨fuel, acc, l4⟩, h1, h2, h3⟩
    simp only at h1 h2 h3
    simp only [go_sem, Nat.reduceAdd, Nat.reduceSub, Nat.reduceMul, Nat.reduceLeDiff, Nat.reduceEqDiff, Nat.reduceBEq]
    refine (Take_eq E l4 d [44]).call ⟨trivial, trivial⟩ ⟨Nat.one_pos, trivial, trivial⟩ (fun y l2 h => ?_) (fun e l' d' h => by cases h)
    cases h
    refine EvK.go 1000 ?_
    by_cases c3 : isP [44] l4 = true
    · obtain ⟨fu, rfl⟩ : ∃ fu, fuel = fu + 1 := ⟨fuel - 1, by have := is_len c3; omega⟩
      rw [more_go c3] at h1
      have hlen3 := is_len c3
      simp only [go_sem, Nat.reduceAdd, Nat.reduceSub, Nat.reduceMul, Nat.reduceLeDiff, Nat.reduceEqDiff, Nat.reduceBEq, c3]
      cases hT2 : nameP E 1 l4.tail with
      | error e =>
        rw [bind_er hT2] at h1
        subst h1
        refine EvK.drawP [⟨none, [], [0, 4]⟩, ⟨none, [], [0, 4]⟩, .no, ⟨none, [0], []⟩, ⟨some 4, [4], []⟩, ⟨some 5, [2, 4, 5], []⟩, .no, ⟨none, [3], []⟩] 4 6 mixed rfl rfl (by decide) 3 [3, 4, 5, 6, 7] rfl rfl rfl rfl rfl rfl ?_
        simp only [go_sem, Nat.reduceAdd, Nat.reduceSub, Nat.reduceMul, Nat.reduceLeDiff, Nat.reduceEqDiff, Nat.reduceBEq, padS, List.contains_cons]
        exact EvK.fact ((Name_eqP E l4.tail d 1 (by decide)).pan hT2 ⟨trivial, trivial⟩ ⟨Nat.one_pos, trivial, trivial⟩ fun l' d' => ⟨_, rfl, pan_er rfl rfl⟩)
      | ok p =>
        obtain ⟨a2, l5⟩ := p
        rw [bind_ok hT2] at h1
        have hlen2 : l5.length ≤ l4.tail.length := by obtain ⟨_, _, _, rfl⟩ := name_ok hT2; exact tail_len _
        refine EvK.draw [⟨none, [], [0, 4]⟩, ⟨none, [], [0, 4]⟩, .no, ⟨none, [0], []⟩, ⟨some 4, [4], []⟩, ⟨some 5, [2, 4, 5], []⟩, .no, ⟨none, [3], []⟩] 4 6 mixed rfl rfl (by decide) ?_
        simp only [go_sem, Nat.reduceAdd, Nat.reduceSub, Nat.reduceMul, Nat.reduceLeDiff, Nat.reduceEqDiff, Nat.reduceBEq, padS]
        refine (Name_eqP E l4.tail d 1 (by decide)).draw hT2 ⟨trivial, trivial⟩ ⟨Nat.one_pos, trivial, trivial⟩ ?_
        simp only [go_sem, Nat.reduceAdd, Nat.reduceSub, Nat.reduceMul, Nat.reduceLeDiff, Nat.reduceEqDiff, Nat.reduceBEq, ok_str, Nat.zero_lt_one, app_slA]
        refine ⟨by rw [nms_len]; omega, ?_⟩
        refine EvK.go 1000 ?_
        simp only [go_sem, Nat.reduceAdd, Nat.reduceSub, Nat.reduceMul, Nat.reduceLeDiff, Nat.reduceEqDiff, Nat.reduceBEq]
        refine ⟨⟨(fu, acc ++ [a2], l5), h1, by simp only; omega, by simp only [List.length_append, List.length_singleton]; omega⟩, [(2, 5), (5, 2)], leR_mk rfl ?_, by simp only; omega⟩
        simp only [nms_add, slA_snoc, slB_snoc]
        have lw : lowL 0 (nms acc ++ [.str (ofB a2)]) := by rw [← nms_add]; exact nms_low _
        simp only [go_sem, Nat.reduceAdd, Nat.reduceSub, Nat.reduceMul, Nat.reduceLeDiff, Nat.reduceEqDiff, Nat.reduceBEq, toks_low, rdB, renL_low0, renL_low0 lw]
        exact ⟨by decide, lowL_mono (Nat.zero_le 4) lw, by decide⟩
    · rw [Bool.not_eq_true] at c3
      rw [more_stop c3] at h1
      subst h1
      simp only [bind_okk]
      simp only [go_sem, Nat.reduceAdd, Nat.reduceSub, Nat.reduceMul, Nat.reduceLeDiff, Nat.reduceEqDiff, Nat.reduceBEq, c3]
      refine EvK.go 1000 ?_
      simp only [go_sem, Nat.reduceAdd, Nat.reduceSub, Nat.reduceMul, Nat.reduceLeDiff, Nat.reduceEqDiff, Nat.reduceBEq]
      have hl4 : l4.length ≤ 99999 := by omega
      refine (Sign_eq E l4 d [93]).call ⟨trivial, trivial⟩ ⟨Nat.one_pos, trivial, trivial⟩ (fun y l5 h => ?_) (fun e l' d' h u hu => pan_er hu (bind_er h))
      rw [bind_ok h]
      obtain ⟨_, rfl⟩ := sign_ok h
      have ht5 := tail_len l4
      clear h
      generalize l4.tail = l5 at ht5 ⊢
      refine EvK.go 1000 ?_
      simp only [go_sem, Nat.reduceAdd, Nat.reduceSub, Nat.reduceMul, Nat.reduceLeDiff, Nat.reduceEqDiff, Nat.reduceBEq]
      refine (Sign_eq E l5 d [58]).call ⟨trivial, trivial⟩ ⟨Nat.one_pos, trivial, trivial⟩ (fun y l6 h => ?_) (fun e l' d' h u hu => pan_er hu (bind_er h))
      rw [bind_ok h]
      obtain ⟨_, rfl⟩ := sign_ok h
      have ht6 := tail_len l5
      clear h
      generalize l5.tail = l6 at ht6 ⊢
      refine EvK.go 1000 ?_
      simp only [go_sem, Nat.reduceAdd, Nat.reduceSub, Nat.reduceMul, Nat.reduceLeDiff, Nat.reduceEqDiff, Nat.reduceBEq]
      refine (hu l6 (by omega)).call ⟨trivial, trivial⟩ ⟨Nat.one_pos, trivial⟩ (fun f l7 h => ?_) (fun e l' d' h u hu => pan_er hu (bind_er h))
      rw [bind_ok h]
      refine EvK.go 1000 ?_
      simp only [go_sem, Nat.reduceAdd, Nat.reduceSub, Nat.reduceMul, Nat.reduceLeDiff, Nat.reduceEqDiff, Nat.reduceBEq, fo_c9, fo_all, fo_agg, lt09, slA_cell]
      refine tree_ok (l := l7) rfl ⟨rfl, rfl, rfl, rfl, rfl, rfl, rfl, ?_, ⟨rfl, rfl, Nat.le_refl 1, pT_refl _ _ _, rfl⟩, rfl⟩ (fo_low0 _)
      rw [nms_strs, pT_slA rfl rfl]
      trivial
end
end Go.Proofs

/- The program's reader of tokens: formulas. -/
set_option linter.unusedSimpArgs false
namespace Go.Proofs
open Go Go.Abs

section
variable {E d : Int} {u : List Tok → PR Fo} (hu : ∀ l, l.length ≤ 100000 → Ans (.fn 26 [] []) [.ptr 0 0] E l d Fo.toA (u l)) (hul : ∀ l x l', u l = .ok (x, l') → l'.length ≤ l.length)
include hu hul

theorem Formula_eq (l : List Tok) (hs : l.length ≤ 99999) : Ans (.fn 15 [] []) [.ptr 0 0] E l d Fo.toA (formulaP u l) := by
  refine Ans.begin (rs := [.cell 2 28]) (m := 52) Tryd.func15 rfl rfl rfl (by decide) ?_
  unfold formulaP
  refine EvK.go 1000 ?_
  simp only [go_sem, Nat.reduceAdd, Nat.reduceSub, Nat.reduceMul, Nat.reduceLeDiff, Nat.reduceEqDiff, Nat.reduceBEq]
  refine (hu l (by omega)).call ⟨trivial, trivial⟩ ⟨Nat.one_pos, trivial⟩ (fun a l1 h => ?_) (fun e l' d' h u hu => pan_er hu (bind_er h))
  rw [bind_ok h]
  have hl1 := hul _ _ _ h
  clear h
  have ht1 := tail_len l1
  refine EvK.go 1000 ?_
  simp only [go_sem, Nat.reduceAdd, Nat.reduceSub, Nat.reduceMul, Nat.reduceLeDiff, Nat.reduceEqDiff, Nat.reduceBEq, fo_c9, fo_all, fo_take, Fo.cs, fo_cells, fo_agg, lt09]
  refine (Is_eq E l1 d [124]).call ⟨trivial, trivial⟩ ⟨Nat.one_pos, trivial, trivial⟩ (fun y l2 h => ?_) (fun e l' d' h => by cases h)
  cases h
  refine EvK.go 1000 ?_
  by_cases c1 : isP [124] l1 = true
  · simp only [go_sem, Nat.reduceAdd, Nat.reduceSub, Nat.reduceMul, Nat.reduceLeDiff, Nat.reduceEqDiff, Nat.reduceBEq, c1]
    have hc := Chain_eq hu hul l1 [124] 4 a (by omega)
    rw [fo_eq a] at hc
    refine hc.call ⟨trivial, trivial⟩ ?_ (fun f l2 h => ?_) (fun e l' d' h u hu => pan_er hu h)
    · exact ⟨Nat.one_pos, trivial, trivial, (fo_eq a) ▸ fo_low a, trivial⟩
    refine EvK.go 1000 ?_
    simp only [go_sem, Nat.reduceAdd, Nat.reduceSub, Nat.reduceMul, Nat.reduceLeDiff, Nat.reduceEqDiff, Nat.reduceBEq, fo_c9, fo_all, fo_cells]
    exact tree_ok (l := l2) h (pT_fo _ _ _) (fo_low0 _)
  rw [Bool.not_eq_true] at c1
  simp only [go_sem, Nat.reduceAdd, Nat.reduceSub, Nat.reduceMul, Nat.reduceLeDiff, Nat.reduceEqDiff, Nat.reduceBEq, c1]
  refine (Is_eq E l1 d [38]).call ⟨trivial, trivial⟩ ⟨Nat.one_pos, trivial, trivial⟩ (fun y l2 h => ?_) (fun e l' d' h => by cases h)
  cases h
  refine EvK.go 1000 ?_
  by_cases c2 : isP [38] l1 = true
  · simp only [go_sem, Nat.reduceAdd, Nat.reduceSub, Nat.reduceMul, Nat.reduceLeDiff, Nat.reduceEqDiff, Nat.reduceBEq, c2]
    have hc := Chain_eq hu hul l1 [38] 3 a (by omega)
    rw [fo_eq a] at hc
    refine hc.call ⟨trivial, trivial⟩ ?_ (fun f l2 h => ?_) (fun e l' d' h u hu => pan_er hu h)
    · exact ⟨Nat.one_pos, trivial, trivial, (fo_eq a) ▸ fo_low a, trivial⟩
    refine EvK.go 1000 ?_
    simp only [go_sem, Nat.reduceAdd, Nat.reduceSub, Nat.reduceMul, Nat.reduceLeDiff, Nat.reduceEqDiff, Nat.reduceBEq, fo_c9, fo_all, fo_cells]
    exact tree_ok (l := l2) h (pT_fo _ _ _) (fo_low0 _)
  rw [Bool.not_eq_true] at c2
  simp only [go_sem, Nat.reduceAdd, Nat.reduceSub, Nat.reduceMul, Nat.reduceLeDiff, Nat.reduceEqDiff, Nat.reduceBEq, c2]
  refine (Take_eq E l1 d [61, 62]).call ⟨trivial, trivial⟩ ⟨Nat.one_pos, trivial, trivial⟩ (fun y l2 h => ?_) (fun e l' d' h => by cases h)
  cases h
  refine EvK.go 1000 ?_
  by_cases c3 : isP [61, 62] l1 = true
  · simp only [go_sem, Nat.reduceAdd, Nat.reduceSub, Nat.reduceMul, Nat.reduceLeDiff, Nat.reduceEqDiff, Nat.reduceBEq, c3]
    cases hT : u l1.tail with
    | error e =>
      refine EvK.drawP [⟨none, [], [0]⟩, ⟨none, [], [0]⟩, .no, ⟨none, [0], []⟩, .no, ⟨none, [1], []⟩] 3 3 mixed rfl rfl (by decide) 3 [3, 4, 5] rfl rfl rfl rfl rfl rfl ?_
      simp only [go_sem, Nat.reduceAdd, Nat.reduceSub, Nat.reduceMul, Nat.reduceLeDiff, Nat.reduceEqDiff, Nat.reduceBEq, padS, List.contains_cons]
      exact EvK.fact ((hu l1.tail (by omega)).pan hT ⟨trivial, trivial⟩ ⟨Nat.one_pos, trivial⟩ fun l' d' => ⟨_, rfl, pan_er rfl rfl⟩)
    | ok p =>
      obtain ⟨b, l3⟩ := p
      refine EvK.draw [⟨none, [], [0]⟩, ⟨none, [], [0]⟩, .no, ⟨none, [0], []⟩, .no, ⟨none, [1], []⟩] 3 3 mixed rfl rfl (by decide) ?_
      simp only [go_sem, Nat.reduceAdd, Nat.reduceSub, Nat.reduceMul, Nat.reduceLeDiff, Nat.reduceEqDiff, Nat.reduceBEq, padS]
      refine (hu l1.tail (by omega)).draw hT ⟨trivial, trivial⟩ ⟨Nat.one_pos, trivial⟩ ?_
      simp only [go_sem, Nat.reduceAdd, Nat.reduceSub, Nat.reduceMul, Nat.reduceLeDiff, Nat.reduceEqDiff, Nat.reduceBEq, fo_cells]
      refine draw_iso (Two_eq 5 a b) ⟨rfl, pT_fo _ _ _, pT_refl _ _ _, rfl⟩ ⟨trivial, fo_low0 _, fo_low0 _, trivial⟩ ?_
      simp only [go_sem, Nat.reduceAdd, Nat.reduceSub, Nat.reduceMul, Nat.reduceLeDiff, Nat.reduceEqDiff, Nat.reduceBEq, fo_c9, fo_all, fo_cells]
      refine EvK.go 1000 ?_
      simp only [go_sem, Nat.reduceAdd, Nat.reduceSub, Nat.reduceMul, Nat.reduceLeDiff, Nat.reduceEqDiff, Nat.reduceBEq]
      exact tree_ok (l := l3) rfl (pT_fo _ _ _) (fo_low0 _)
  rw [Bool.not_eq_true] at c3
  simp only [go_sem, Nat.reduceAdd, Nat.reduceSub, Nat.reduceMul, Nat.reduceLeDiff, Nat.reduceEqDiff, Nat.reduceBEq, c3]
  refine (Take_eq E l1 d [60, 61]).call ⟨trivial, trivial⟩ ⟨Nat.one_pos, trivial, trivial⟩ (fun y l2 h => ?_) (fun e l' d' h => by cases h)
  cases h
  refine EvK.go 1000 ?_
  by_cases c4 : isP [60, 61] l1 = true
  · simp only [go_sem, Nat.reduceAdd, Nat.reduceSub, Nat.reduceMul, Nat.reduceLeDiff, Nat.reduceEqDiff, Nat.reduceBEq, c4]
    cases hT : u l1.tail with
    | error e =>
      refine EvK.drawP [⟨none, [], [0]⟩, .no, ⟨none, [0], []⟩, ⟨none, [], [0]⟩, .no, ⟨none, [1], []⟩] 3 3 mixed rfl rfl (by decide) 2 [2, 4, 5] rfl rfl rfl rfl rfl rfl ?_
      simp only [go_sem, Nat.reduceAdd, Nat.reduceSub, Nat.reduceMul, Nat.reduceLeDiff, Nat.reduceEqDiff, Nat.reduceBEq, padS, List.contains_cons]
      exact EvK.fact ((hu l1.tail (by omega)).pan hT ⟨trivial, trivial⟩ ⟨Nat.one_pos, trivial⟩ fun l' d' => ⟨_, rfl, pan_er rfl rfl⟩)
    | ok p =>
      obtain ⟨b, l3⟩ := p
      refine EvK.draw [⟨none, [], [0]⟩, .no, ⟨none, [0], []⟩, ⟨none, [], [0]⟩, .no, ⟨none, [1], []⟩] 3 3 mixed rfl rfl (by decide) ?_
      simp only [go_sem, Nat.reduceAdd, Nat.reduceSub, Nat.reduceMul, Nat.reduceLeDiff, Nat.reduceEqDiff, Nat.reduceBEq, padS]
      refine (hu l1.tail (by omega)).draw hT ⟨trivial, trivial⟩ ⟨Nat.one_pos, trivial⟩ ?_
      simp only [go_sem, Nat.reduceAdd, Nat.reduceSub, Nat.reduceMul, Nat.reduceLeDiff, Nat.reduceEqDiff, Nat.reduceBEq, fo_cells]
      refine draw_iso (Two_eq 5 b a) ⟨rfl, pT_refl _ _ _, pT_fo _ _ _, rfl⟩ ⟨trivial, fo_low0 _, fo_low0 _, trivial⟩ ?_
      simp only [go_sem, Nat.reduceAdd, Nat.reduceSub, Nat.reduceMul, Nat.reduceLeDiff, Nat.reduceEqDiff, Nat.reduceBEq, fo_c9, fo_all, fo_cells]
      refine EvK.go 1000 ?_
      simp only [go_sem, Nat.reduceAdd, Nat.reduceSub, Nat.reduceMul, Nat.reduceLeDiff, Nat.reduceEqDiff, Nat.reduceBEq]
      exact tree_ok (l := l3) rfl (pT_fo _ _ _) (fo_low0 _)
  rw [Bool.not_eq_true] at c4
  simp only [go_sem, Nat.reduceAdd, Nat.reduceSub, Nat.reduceMul, Nat.reduceLeDiff, Nat.reduceEqDiff, Nat.reduceBEq, c4]
  refine (Take_eq E l1 d [60, 61, 62]).call ⟨trivial, trivial⟩ ⟨Nat.one_pos, trivial, trivial⟩ (fun y l2 h => ?_) (fun e l' d' h => by cases h)
  cases h
  refine EvK.go 1000 ?_
  by_cases c5 : isP [60, 61, 62] l1 = true
  · simp only [go_sem, Nat.reduceAdd, Nat.reduceSub, Nat.reduceMul, Nat.reduceLeDiff, Nat.reduceEqDiff, Nat.reduceBEq, c5]
    cases hT : u l1.tail with
    | error e =>
      refine EvK.drawP [⟨none, [], [0]⟩, ⟨none, [], [0]⟩, .no, ⟨none, [0], []⟩, .no, ⟨none, [1], []⟩] 3 3 mixed rfl rfl (by decide) 3 [3, 4, 5] rfl rfl rfl rfl rfl rfl ?_
      simp only [go_sem, Nat.reduceAdd, Nat.reduceSub, Nat.reduceMul, Nat.reduceLeDiff, Nat.reduceEqDiff, Nat.reduceBEq, padS, List.contains_cons]
      exact EvK.fact ((hu l1.tail (by omega)).pan hT ⟨trivial, trivial⟩ ⟨Nat.one_pos, trivial⟩ fun l' d' => ⟨_, rfl, pan_er rfl rfl⟩)
    | ok p =>
      obtain ⟨b, l3⟩ := p
      refine EvK.draw [⟨none, [], [0]⟩, ⟨none, [], [0]⟩, .no, ⟨none, [0], []⟩, .no, ⟨none, [1], []⟩] 3 3 mixed rfl rfl (by decide) ?_
      simp only [go_sem, Nat.reduceAdd, Nat.reduceSub, Nat.reduceMul, Nat.reduceLeDiff, Nat.reduceEqDiff, Nat.reduceBEq, padS]
      refine (hu l1.tail (by omega)).draw hT ⟨trivial, trivial⟩ ⟨Nat.one_pos, trivial⟩ ?_
      simp only [go_sem, Nat.reduceAdd, Nat.reduceSub, Nat.reduceMul, Nat.reduceLeDiff, Nat.reduceEqDiff, Nat.reduceBEq, fo_cells]
      refine draw_iso (Two_eq 6 a b) ⟨rfl, pT_fo _ _ _, pT_refl _ _ _, rfl⟩ ⟨trivial, fo_low0 _, fo_low0 _, trivial⟩ ?_
      simp only [go_sem, Nat.reduceAdd, Nat.reduceSub, Nat.reduceMul, Nat.reduceLeDiff, Nat.reduceEqDiff, Nat.reduceBEq, fo_c9, fo_all, fo_cells]
      refine EvK.go 1000 ?_
      simp only [go_sem, Nat.reduceAdd, Nat.reduceSub, Nat.reduceMul, Nat.reduceLeDiff, Nat.reduceEqDiff, Nat.reduceBEq]
      exact tree_ok (l := l3) rfl (pT_fo _ _ _) (fo_low0 _)
  rw [Bool.not_eq_true] at c5
  simp only [go_sem, Nat.reduceAdd, Nat.reduceSub, Nat.reduceMul, Nat.reduceLeDiff, Nat.reduceEqDiff, Nat.reduceBEq, c5]
  refine (Take_eq E l1 d [60, 126, 62]).call ⟨trivial, trivial⟩ ⟨Nat.one_pos, trivial, trivial⟩ (fun y l2 h => ?_) (fun e l' d' h => by cases h)
  cases h
  refine EvK.go 1000 ?_
  by_cases c6 : isP [60, 126, 62] l1 = true
  · simp only [go_sem, Nat.reduceAdd, Nat.reduceSub, Nat.reduceMul, Nat.reduceLeDiff, Nat.reduceEqDiff, Nat.reduceBEq, c6]
    cases hT : u l1.tail with
    | error e =>
      refine EvK.drawP [⟨none, [], [0]⟩, ⟨none, [], [0]⟩, .no, ⟨none, [0], []⟩, .no, .no, ⟨none, [1], []⟩] 3 3 mixed rfl rfl (by decide) 3 [3, 4, 5, 6] rfl rfl rfl rfl rfl rfl ?_
      simp only [go_sem, Nat.reduceAdd, Nat.reduceSub, Nat.reduceMul, Nat.reduceLeDiff, Nat.reduceEqDiff, Nat.reduceBEq, padS, List.contains_cons]
      exact EvK.fact ((hu l1.tail (by omega)).pan hT ⟨trivial, trivial⟩ ⟨Nat.one_pos, trivial⟩ fun l' d' => ⟨_, rfl, pan_er rfl rfl⟩)
    | ok p =>
      obtain ⟨b, l3⟩ := p
      refine EvK.draw [⟨none, [], [0]⟩, ⟨none, [], [0]⟩, .no, ⟨none, [0], []⟩, .no, .no, ⟨none, [1], []⟩] 3 3 mixed rfl rfl (by decide) ?_
      simp only [go_sem, Nat.reduceAdd, Nat.reduceSub, Nat.reduceMul, Nat.reduceLeDiff, Nat.reduceEqDiff, Nat.reduceBEq, padS]
      refine (hu l1.tail (by omega)).draw hT ⟨trivial, trivial⟩ ⟨Nat.one_pos, trivial⟩ ?_
      simp only [go_sem, Nat.reduceAdd, Nat.reduceSub, Nat.reduceMul, Nat.reduceLeDiff, Nat.reduceEqDiff, Nat.reduceBEq, fo_cells]
      refine draw_iso (Two_eq 6 a b) ⟨rfl, pT_fo _ _ _, pT_refl _ _ _, rfl⟩ ⟨trivial, fo_low0 _, fo_low0 _, trivial⟩ ?_
      simp only [go_sem, Nat.reduceAdd, Nat.reduceSub, Nat.reduceMul, Nat.reduceLeDiff, Nat.reduceEqDiff, Nat.reduceBEq]
      refine draw_iso (Not_eq (twoF 6 a b)) ⟨pT_refl _ _ _, rfl⟩ ⟨fo_low0 _, trivial⟩ ?_
      simp only [go_sem, Nat.reduceAdd, Nat.reduceSub, Nat.reduceMul, Nat.reduceLeDiff, Nat.reduceEqDiff, Nat.reduceBEq, fo_c9, fo_all, fo_cells]
      refine EvK.go 1000 ?_
      simp only [go_sem, Nat.reduceAdd, Nat.reduceSub, Nat.reduceMul, Nat.reduceLeDiff, Nat.reduceEqDiff, Nat.reduceBEq]
      exact tree_ok (l := l3) rfl (pT_fo _ _ _) (fo_low0 _)
  rw [Bool.not_eq_true] at c6
  simp only [go_sem, Nat.reduceAdd, Nat.reduceSub, Nat.reduceMul, Nat.reduceLeDiff, Nat.reduceEqDiff, Nat.reduceBEq, c6]
  exact tree_ok (l := l1) rfl (pT_fo _ _ _) (fo_low0 _)

theorem Brackets_eq (l : List Tok) (hs : l.length ≤ 99999) : Ans (.fn 46 [] []) [.ptr 0 0] E l d Fo.toA (bracketsP E u l) := by
  refine Ans.begin (rs := [.cell 2 28]) (m := 8) Tryd.func46 rfl rfl rfl (by decide) ?_
  unfold bracketsP
  refine EvK.go 1000 ?_
  simp only [go_sem, Nat.reduceAdd, Nat.reduceSub, Nat.reduceMul, Nat.reduceLeDiff, Nat.reduceEqDiff, Nat.reduceBEq]
  refine (Formula_eq hu hul l hs).call ⟨trivial, trivial⟩ ⟨Nat.one_pos, trivial⟩ (fun a l1 h => ?_) (fun e l' d' h u hu => pan_er hu (bind_er h))
  rw [bind_ok h]
  refine EvK.go 1000 ?_
  simp only [go_sem, Nat.reduceAdd, Nat.reduceSub, Nat.reduceMul, Nat.reduceLeDiff, Nat.reduceEqDiff, Nat.reduceBEq, fo_c9, fo_all, fo_take, Fo.cs, fo_cells, fo_agg, lt09]
  refine (Sign_eq E l1 d [41]).call ⟨trivial, trivial⟩ ⟨Nat.one_pos, trivial, trivial⟩ (fun y l2 h => ?_) (fun e l' d' h u hu => pan_er hu (bind_er h))
  rw [bind_ok h]
  refine EvK.go 1000 ?_
  simp only [go_sem, Nat.reduceAdd, Nat.reduceSub, Nat.reduceMul, Nat.reduceLeDiff, Nat.reduceEqDiff, Nat.reduceBEq]
  exact tree_ok (l := l2) rfl (pT_fo _ _ _) (fo_low0 _)

theorem Denied_eq (l : List Tok) (hs : l.length ≤ 99999) : Ans (.fn 43 [] []) [.ptr 0 0] E l d Fo.toA (PR.bind (u l) fun f l => .ok (notF f, l)) := by
  refine Ans.begin (rs := [.cell 2 28]) (m := 5) Tryd.func43 rfl rfl rfl (by decide) ?_
  refine EvK.go 1000 ?_
  simp only [go_sem, Nat.reduceAdd, Nat.reduceSub, Nat.reduceMul, Nat.reduceLeDiff, Nat.reduceEqDiff, Nat.reduceBEq]
  refine (hu l (by omega)).call ⟨trivial, trivial⟩ ⟨Nat.one_pos, trivial⟩ (fun a l1 h => ?_) (fun e l' d' h u hu => pan_er hu (bind_er h))
  rw [bind_ok h]
  refine EvK.go 1000 ?_
  simp only [go_sem, Nat.reduceAdd, Nat.reduceSub, Nat.reduceMul, Nat.reduceLeDiff, Nat.reduceEqDiff, Nat.reduceBEq]
  refine CallOr.ok ?_
  refine VCall.isoT [] (Not_eq a) ⟨pT_refl _ _ _, rfl⟩ ⟨fo_low0 _, trivial⟩ ?_
  rw [frzI_nil]
  simp only [ite_self]
  refine EvK.go 1000 ?_
  simp only [go_sem, Nat.reduceAdd, Nat.reduceSub, Nat.reduceMul, Nat.reduceLeDiff, Nat.reduceEqDiff, Nat.reduceBEq, fo_c9, fo_all, fo_cells]
  exact tree_ok (l := l1) rfl (pT_fo _ _ _) (fo_low0 _)

theorem All_eq (l : List Tok) (hs : l.length ≤ 99999) : Ans (.fn 44 [] []) [.ptr 0 0] E l d Fo.toA (boundP E u 7 l) := by
  refine Ans.begin (rs := [.cell 2 28]) (m := 4) Tryd.func44 rfl rfl rfl (by decide) ?_
  refine EvK.go 1000 ?_
  simp only [go_sem, Nat.reduceAdd, Nat.reduceSub, Nat.reduceMul, Nat.reduceLeDiff, Nat.reduceEqDiff, Nat.reduceBEq]
  refine (Bound_eq hu hul l 7 hs).call ⟨trivial, trivial⟩ ⟨Nat.one_pos, trivial, trivial⟩ (fun a l1 h => ?_) (fun e l' d' h u hu => pan_er hu h)
  refine EvK.go 1000 ?_
  simp only [go_sem, Nat.reduceAdd, Nat.reduceSub, Nat.reduceMul, Nat.reduceLeDiff, Nat.reduceEqDiff, Nat.reduceBEq, fo_c9, fo_all, fo_cells]
  exact tree_ok (l := l1) h (pT_fo _ _ _) (fo_low0 _)

theorem Any_eq (l : List Tok) (hs : l.length ≤ 99999) : Ans (.fn 45 [] []) [.ptr 0 0] E l d Fo.toA (boundP E u 8 l) := by
  refine Ans.begin (rs := [.cell 2 28]) (m := 4) Tryd.func45 rfl rfl rfl (by decide) ?_
  refine EvK.go 1000 ?_
  simp only [go_sem, Nat.reduceAdd, Nat.reduceSub, Nat.reduceMul, Nat.reduceLeDiff, Nat.reduceEqDiff, Nat.reduceBEq]
  refine (Bound_eq hu hul l 8 hs).call ⟨trivial, trivial⟩ ⟨Nat.one_pos, trivial, trivial⟩ (fun a l1 h => ?_) (fun e l' d' h u hu => pan_er hu h)
  refine EvK.go 1000 ?_
  simp only [go_sem, Nat.reduceAdd, Nat.reduceSub, Nat.reduceMul, Nat.reduceLeDiff, Nat.reduceEqDiff, Nat.reduceBEq, fo_c9, fo_all, fo_cells]
  exact tree_ok (l := l1) h (pT_fo _ _ _) (fo_low0 _)
end
end Go.Proofs

/- The program's reader of tokens: what is denied, quantified, or stands in brackets. -/
set_option linter.unusedSimpArgs false
namespace Go.Proofs
open Go Go.Abs

theorem is_texts {l : List Tok} (h : kindP l = 3) (sg : By) : isP sg l = decide (textP l = sg) := by
  cases l with
  | nil => cases h
  | cons t r =>
    have : t.kind = 3 := h
    show (decide (t.kind = 3) && decide (t.text = sg)) = decide (t.text = sg)
    rw [this]; rfl
theorem is_kind {l : List Tok} {sg : By} (h : ¬ kindP l = 3) : isP sg l = false := by
  cases l with
  | nil => rfl
  | cons t r =>
    have : ¬ t.kind = 3 := h
    simp [isP, this]

theorem bin_fn_nil {P : Program} {op : BinOp} {t : TypeId} {f : FuncId} {a b : List AVal} : binA P op t (.fn f a b) .nilfn = cmpA P op t (.fn f a b) .nilfn := rfl
theorem bin_nfn_nil {P : Program} {op : BinOp} {t : TypeId} : binA P op t .nilfn .nilfn = cmpA P op t .nilfn .nilfn := rfl
theorem eqP_tf : eqPtr (some true) (some false) = some false := rfl
theorem eqP_ff : eqPtr (some false) (some false) = some true := rfl

theorem Unary_eq (E : Int) : ∀ (n : Nat), n ≤ 50 → ∀ (l : List Tok) (d : Int), d = 50 - (n : Int) → l.length ≤ 100000 → Ans (.fn 26 [] []) [.ptr 0 0] E l d Fo.toA (unaryP E n l) := by
  intro n
  induction n with
  | zero =>
    intro hn l d hd hs
    exact Ans.deep (res := fun n => unaryP E n l) (rs := [.cell 2 28]) (m := 36) (n := 0) Tryd.func26 rfl rfl rfl (by decide) lay28 ⟨trivial, trivial, trivial, trivial, trivial, trivial, trivial, trivial, trivial, trivial⟩ (by decide) (by decide) (by decide) hd hn (fun _ => rfl) (fun k h => by omega)
  | succ k ih =>
    intro hn l d hd hs
    refine Ans.deep (res := fun n => unaryP E n l) (rs := [.cell 2 28]) (m := 36) (n := k + 1) Tryd.func26 rfl rfl rfl (by decide) lay28 ⟨trivial, trivial, trivial, trivial, trivial, trivial, trivial, trivial, trivial, trivial⟩ (by decide) (by decide) (by decide) hd hn (fun h => by omega) (fun k' h => ?_)
    obtain rfl : k' = k := by omega
    have hd1 : d + 1 = 50 - (k' : Int) := by omega
    show EvK _ _ (endD _ _ (unaryP E (k' + 1) l) E d) _ _ _
    rw [show unaryP E (k' + 1) l = unaryF E k' (unaryP E k') l from rfl]
    generalize hdd : d + 1 = d1 at hd1 ⊢
    have hu := fun l hs => ih (by omega) l d1 hd1 hs
    have hul := unary_len (E := E) k'
    have hat := Atom_eq E k' (by omega) l d1 hd1 hs
    generalize unaryP E k' = u at hu hul ⊢
    have b1 : bs ⟨#[126]⟩ = [126] := rfl
    have b2 : bs ⟨#[33]⟩ = [33] := rfl
    have b3 : bs ⟨#[63]⟩ = [63] := rfl
    have b4 : bs ⟨#[40]⟩ = [40] := rfl
    have n1 : ¬ ([33] : By) = [126] := by decide
    have n2 : ¬ ([63] : By) = [126] := by decide
    have n3 : ¬ ([63] : By) = [33] := by decide
    have n4 : ¬ ([40] : By) = [126] := by decide
    have n5 : ¬ ([40] : By) = [33] := by decide
    have n6 : ¬ ([40] : By) = [63] := by decide
    refine EvK.go 1000 ?_
    simp only [go_sem, Nat.reduceAdd, Nat.reduceSub, Nat.reduceMul, Nat.reduceLeDiff, Nat.reduceEqDiff, Nat.reduceBEq, mapSet, findK, eqCell, str_eq, b1, b2, b3, b4, n1, n2, n3, n4, n5, n6]
    refine (Next_eq E l d1).call ⟨trivial, trivial⟩ ⟨Nat.one_pos, trivial⟩ (fun x l' h => ?_) (fun e l' d' h => by cases h)
    cases h
    refine EvK.go 1000 ?_
    unfold unaryF
    by_cases c0 : kindP l = 3
    · have c0' : (nxt E l).kind = 3 := by rw [nxt_kind]; exact c0
      have ct := nxt_text E l
      by_cases t0 : textP l = [126]
      · obtain ⟨t, r, rfl⟩ := text_cons t0 (by simp)
        have ks : t.kind = 3 := c0
        have tt : t.text = [126] := t0
        have ct2 : (nxt E (t :: r)).text = [126] := tt
        have hs' : r.length ≤ 99999 := by simp only [List.length_cons] at hs; omega
        have i0 : isP [126] (t :: r) = true := by rw [is_texts c0, t0]; rfl
        simp only [go_sem, Nat.reduceAdd, Nat.reduceSub, Nat.reduceMul, Nat.reduceLeDiff, Nat.reduceEqDiff, Nat.reduceBEq, tokA_eq, c0', ct2, lookupIn, findK, eqCell, str_eq, bs_ofB, b1, b2, b3, b4, bin_fn_nil, bin_nfn_nil, eqP_tf, eqP_ff, i0, rdB, toks_cons, succ0, pos1, le1, le01, tail1, List.tail_cons, List.getD_cons_zero, List.getD_cons_succ]
        refine (Denied_eq hu hul r hs').call ⟨trivial, trivial⟩ ⟨Nat.one_pos, trivial⟩ (fun a l1 h => ?_) (fun e l' d' h u hu => eD_pan hu h)
        refine EvK.go 1000 ?_
        simp only [go_sem, Nat.reduceAdd, Nat.reduceSub, Nat.reduceMul, Nat.reduceLeDiff, Nat.reduceEqDiff, Nat.reduceBEq, fo_c9, fo_all, fo_cells, eD_ret]
        refine ⟨l1, _, _, by rw [hdd], ?_⟩
        simp only [go_sem, Nat.reduceAdd, Nat.reduceSub, Nat.reduceMul, Nat.reduceLeDiff, Nat.reduceEqDiff, Nat.reduceBEq]
        exact tree_ok (l := l1) h (pT_fo _ _ _) (fo_low0 _)
      by_cases t1 : textP l = [33]
      · obtain ⟨t, r, rfl⟩ := text_cons t1 (by simp)
        have ks : t.kind = 3 := c0
        have tt : t.text = [33] := t1
        have ct2 : (nxt E (t :: r)).text = [33] := tt
        have hs' : r.length ≤ 99999 := by simp only [List.length_cons] at hs; omega
        have m0 : ¬ ([33] : By) = [126] := by decide
        have i0 : isP [126] (t :: r) = false := by rw [is_texts c0, t1]; rfl
        have i1 : isP [33] (t :: r) = true := by rw [is_texts c0, t1]; rfl
        simp only [go_sem, Nat.reduceAdd, Nat.reduceSub, Nat.reduceMul, Nat.reduceLeDiff, Nat.reduceEqDiff, Nat.reduceBEq, tokA_eq, c0', ct2, lookupIn, findK, eqCell, str_eq, bs_ofB, b1, b2, b3, b4, bin_fn_nil, bin_nfn_nil, eqP_tf, eqP_ff, m0, i0, i1, rdB, toks_cons, succ0, pos1, le1, le01, tail1, List.tail_cons, List.getD_cons_zero, List.getD_cons_succ]
        refine (All_eq hu hul r hs').call ⟨trivial, trivial⟩ ⟨Nat.one_pos, trivial⟩ (fun a l1 h => ?_) (fun e l' d' h u hu => eD_pan hu h)
        refine EvK.go 1000 ?_
        simp only [go_sem, Nat.reduceAdd, Nat.reduceSub, Nat.reduceMul, Nat.reduceLeDiff, Nat.reduceEqDiff, Nat.reduceBEq, fo_c9, fo_all, fo_cells, eD_ret]
        refine ⟨l1, _, _, by rw [hdd], ?_⟩
        simp only [go_sem, Nat.reduceAdd, Nat.reduceSub, Nat.reduceMul, Nat.reduceLeDiff, Nat.reduceEqDiff, Nat.reduceBEq]
        exact tree_ok (l := l1) h (pT_fo _ _ _) (fo_low0 _)
      by_cases t2 : textP l = [63]
      · obtain ⟨t, r, rfl⟩ := text_cons t2 (by simp)
        have ks : t.kind = 3 := c0
        have tt : t.text = [63] := t2
        have ct2 : (nxt E (t :: r)).text = [63] := tt
        have hs' : r.length ≤ 99999 := by simp only [List.length_cons] at hs; omega
        have m0 : ¬ ([63] : By) = [126] := by decide
        have m1 : ¬ ([63] : By) = [33] := by decide
        have i0 : isP [126] (t :: r) = false := by rw [is_texts c0, t2]; rfl
        have i1 : isP [33] (t :: r) = false := by rw [is_texts c0, t2]; rfl
        have i2 : isP [63] (t :: r) = true := by rw [is_texts c0, t2]; rfl
        simp only [go_sem, Nat.reduceAdd, Nat.reduceSub, Nat.reduceMul, Nat.reduceLeDiff, Nat.reduceEqDiff, Nat.reduceBEq, tokA_eq, c0', ct2, lookupIn, findK, eqCell, str_eq, bs_ofB, b1, b2, b3, b4, bin_fn_nil, bin_nfn_nil, eqP_tf, eqP_ff, m0, m1, i0, i1, i2, rdB, toks_cons, succ0, pos1, le1, le01, tail1, List.tail_cons, List.getD_cons_zero, List.getD_cons_succ]
        refine (Any_eq hu hul r hs').call ⟨trivial, trivial⟩ ⟨Nat.one_pos, trivial⟩ (fun a l1 h => ?_) (fun e l' d' h u hu => eD_pan hu h)
        refine EvK.go 1000 ?_
        simp only [go_sem, Nat.reduceAdd, Nat.reduceSub, Nat.reduceMul, Nat.reduceLeDiff, Nat.reduceEqDiff, Nat.reduceBEq, fo_c9, fo_all, fo_cells, eD_ret]
        refine ⟨l1, _, _, by rw [hdd], ?_⟩
        simp only [go_sem, Nat.reduceAdd, Nat.reduceSub, Nat.reduceMul, Nat.reduceLeDiff, Nat.reduceEqDiff, Nat.reduceBEq]
        exact tree_ok (l := l1) h (pT_fo _ _ _) (fo_low0 _)
      by_cases t3 : textP l = [40]
      · obtain ⟨t, r, rfl⟩ := text_cons t3 (by simp)
        have ks : t.kind = 3 := c0
        have tt : t.text = [40] := t3
        have ct2 : (nxt E (t :: r)).text = [40] := tt
        have hs' : r.length ≤ 99999 := by simp only [List.length_cons] at hs; omega
        have m0 : ¬ ([40] : By) = [126] := by decide
        have m1 : ¬ ([40] : By) = [33] := by decide
        have m2 : ¬ ([40] : By) = [63] := by decide
        have i0 : isP [126] (t :: r) = false := by rw [is_texts c0, t3]; rfl
        have i1 : isP [33] (t :: r) = false := by rw [is_texts c0, t3]; rfl
        have i2 : isP [63] (t :: r) = false := by rw [is_texts c0, t3]; rfl
        have i3 : isP [40] (t :: r) = true := by rw [is_texts c0, t3]; rfl
        simp only [go_sem, Nat.reduceAdd, Nat.reduceSub, Nat.reduceMul, Nat.reduceLeDiff, Nat.reduceEqDiff, Nat.reduceBEq, tokA_eq, c0', ct2, lookupIn, findK, eqCell, str_eq, bs_ofB, b1, b2, b3, b4, bin_fn_nil, bin_nfn_nil, eqP_tf, eqP_ff, m0, m1, m2, i0, i1, i2, i3, rdB, toks_cons, succ0, pos1, le1, le01, tail1, List.tail_cons, List.getD_cons_zero, List.getD_cons_succ]
        refine (Brackets_eq hu hul r hs').call ⟨trivial, trivial⟩ ⟨Nat.one_pos, trivial⟩ (fun a l1 h => ?_) (fun e l' d' h u hu => eD_pan hu h)
        refine EvK.go 1000 ?_
        simp only [go_sem, Nat.reduceAdd, Nat.reduceSub, Nat.reduceMul, Nat.reduceLeDiff, Nat.reduceEqDiff, Nat.reduceBEq, fo_c9, fo_all, fo_cells, eD_ret]
        refine ⟨l1, _, _, by rw [hdd], ?_⟩
        simp only [go_sem, Nat.reduceAdd, Nat.reduceSub, Nat.reduceMul, Nat.reduceLeDiff, Nat.reduceEqDiff, Nat.reduceBEq]
        exact tree_ok (l := l1) h (pT_fo _ _ _) (fo_low0 _)
      have i0 : isP [126] l = false := by rw [is_texts c0]; exact decide_eq_false t0
      have i1 : isP [33] l = false := by rw [is_texts c0]; exact decide_eq_false t1
      have i2 : isP [63] l = false := by rw [is_texts c0]; exact decide_eq_false t2
      have i3 : isP [40] l = false := by rw [is_texts c0]; exact decide_eq_false t3
      simp only [go_sem, Nat.reduceAdd, Nat.reduceSub, Nat.reduceMul, Nat.reduceLeDiff, Nat.reduceEqDiff, Nat.reduceBEq, tokA_eq, c0', ct, lookupIn, findK, eqCell, str_eq, bs_ofB, b1, b2, b3, b4, bin_fn_nil, bin_nfn_nil, eqP_tf, eqP_ff, t0, t1, t2, t3, i0, i1, i2, i3]
      refine hat.call ⟨trivial, trivial⟩ ⟨Nat.one_pos, trivial⟩ (fun a l1 h => ?_) (fun e l' d' h u hu => eD_pan hu h)
      refine EvK.go 1000 ?_
      simp only [go_sem, Nat.reduceAdd, Nat.reduceSub, Nat.reduceMul, Nat.reduceLeDiff, Nat.reduceEqDiff, Nat.reduceBEq, fo_c9, fo_all, fo_cells, eD_ret]
      refine ⟨l1, _, _, by rw [hdd], ?_⟩
      simp only [go_sem, Nat.reduceAdd, Nat.reduceSub, Nat.reduceMul, Nat.reduceLeDiff, Nat.reduceEqDiff, Nat.reduceBEq]
      exact tree_ok (l := l1) h (pT_fo _ _ _) (fo_low0 _)
    · have c0' : ¬ (nxt E l).kind = 3 := by rw [nxt_kind]; exact c0
      have i1 := is_kind (sg := [126]) c0
      have i2 := is_kind (sg := [33]) c0
      have i3 := is_kind (sg := [63]) c0
      have i4 := is_kind (sg := [40]) c0
      simp only [go_sem, Nat.reduceAdd, Nat.reduceSub, Nat.reduceMul, Nat.reduceLeDiff, Nat.reduceEqDiff, Nat.reduceBEq, tokA_eq, c0', i1, i2, i3, i4]
      refine hat.call ⟨trivial, trivial⟩ ⟨Nat.one_pos, trivial⟩ (fun a l1 h => ?_) (fun e l' d' h u hu => eD_pan hu h)
      refine EvK.go 1000 ?_
      simp only [go_sem, Nat.reduceAdd, Nat.reduceSub, Nat.reduceMul, Nat.reduceLeDiff, Nat.reduceEqDiff, Nat.reduceBEq, fo_c9, fo_all, fo_cells, eD_ret]
      refine ⟨l1, _, _, by rw [hdd], ?_⟩
      simp only [go_sem, Nat.reduceAdd, Nat.reduceSub, Nat.reduceMul, Nat.reduceLeDiff, Nat.reduceEqDiff, Nat.reduceBEq]
      exact tree_ok (l := l1) h (pT_fo _ _ _) (fo_low0 _)
end Go.Proofs

/- Strings looked for; stores of which not all is told. -/
set_option linter.unusedSimpArgs false
namespace Go.Proofs
open Go Go.Abs

theorem beq_bytes (a b : ByteArray) : (a.toList == b.toList) = decide (a = b) := by
  by_cases h : a = b
  · subst h; simp
  · rw [decide_eq_false h]
    cases hb : (a.toList == b.toList) with
    | true => exact absurd (bytes_eq hb) h
    | false => rfl

/-- The place of the first one of which p holds. -/
def idxP {α : Type} (p : α → Bool) : List α → Int → Int
  | [], _ => -1
  | x :: l, i => if p x then i else idxP p l (i + 1)
theorem idxP_any {α : Type} (p : α → Bool) : ∀ (l : List α) (i : Int), 0 ≤ i → decide (0 ≤ idxP p l i) = l.any p
  | [], i, _ => by simp [idxP]
  | a :: l, i, h => by
    simp only [idxP, List.any_cons]
    by_cases c : p a = true
    · simp [c, h]
    · rw [Bool.not_eq_true] at c
      simp only [c, Bool.false_eq_true, if_false, Bool.false_or]; exact idxP_any p l (i + 1) (by omega)

/-- Is a string among some? -/
def memS (v : ByteArray) (l : List ByteArray) : Bool := l.any fun x => decide (v = x)

theorem IndexStr_eq (l : List ByteArray) (v : ByteArray) (hl : l.length < 2 ^ 62) : CallEq Tryd.prog 37 [.ps 1 (strs l), .str v] (.int .i64 (idxP (fun x => decide (v = x)) l 0)) := by
  refine CallEq.begin (rs := [.tmp 4]) (m := 17) 1000 Tryd.func37 rfl rfl rfl (by decide) trivial ?_
  simp only [go_sem, Nat.reduceAdd, Nat.reduceSub, Nat.reduceMul, Nat.reduceLeDiff, Nat.reduceEqDiff, Nat.reduceBEq]
  refine EvK.loopI (ι := {i : Nat // i ≤ l.length ∧ idxP (fun x => decide (v = x)) (l.drop i) i = idxP (fun x => decide (v = x)) l 0}) 1000 (fun i => mkT 19 [(0, .ps 1 (strs l)), (1, .str v), (7, .int .i64 l.length), (8, .int .i64 i.1)]) (fun _ => []) (fun i => l.length - i.1) ⟨0, by simp⟩ ?_ (fun _ => Nat.zero_le _) ?_
  · simp only [go_sem, Nat.reduceAdd, Nat.reduceSub, Nat.reduceMul, Nat.reduceLeDiff, Nat.reduceEqDiff, Nat.reduceBEq, strs_low, strs_len, Int.natCast_zero]
  · rintro ⟨i, hi, hpre⟩
    by_cases hlt : (i : Int) < l.length
    · have hlt' : i < l.length := by omega
      have hd : idxP (fun x => decide (v = x)) (l.drop i) i = if decide (v = l[i]) = true then (i : Int) else idxP (fun x => decide (v = x)) (l.drop (i + 1)) ((i : Int) + 1) := by
        rw [List.drop_eq_getElem_cons hlt']; rfl
      by_cases e : v = l[i]
      · rw [hd, if_pos (by simp [← e])] at hpre
        simp only [go_sem, Nat.reduceAdd, Nat.reduceSub, Nat.reduceMul, Nat.reduceLeDiff, Nat.reduceEqDiff, Nat.reduceBEq, hlt, strs_len, Int.toNat_natCast, strs_get hlt', beq_bytes, ← e]
        (repeat ((with_reducible refine And.intro ?_ ?_); · omega))
        refine EvK.go 1000 ?_
        simp only [go_sem, Nat.reduceAdd, Nat.reduceSub, Nat.reduceMul, Nat.reduceLeDiff, Nat.reduceEqDiff, Nat.reduceBEq]
        rw [hpre]
      · rw [hd, if_neg (by simp [e])] at hpre
        simp only [go_sem, Nat.reduceAdd, Nat.reduceSub, Nat.reduceMul, Nat.reduceLeDiff, Nat.reduceEqDiff, Nat.reduceBEq, hlt, strs_len, Int.toNat_natCast, strs_get hlt', beq_bytes, e]
        (repeat ((with_reducible refine And.intro ?_ ?_); · omega))
        refine ⟨⟨i + 1, hlt', hpre⟩, ?_, by simp only; omega⟩
        simp only [go_sem, Nat.reduceAdd, Nat.reduceSub, Nat.reduceMul, Nat.reduceLeDiff, Nat.reduceEqDiff, Nat.reduceBEq, strs_low]
        rw [i64_id (by omega)]; trivial
    · have hi' : i = l.length := by omega
      subst hi'
      rw [List.drop_length] at hpre
      simp only [go_sem, Nat.reduceAdd, Nat.reduceSub, Nat.reduceMul, Nat.reduceLeDiff, Nat.reduceEqDiff, Nat.reduceBEq, hlt]
      refine EvK.go 1000 ?_
      simp only [go_sem, Nat.reduceAdd, Nat.reduceSub, Nat.reduceMul, Nat.reduceLeDiff, Nat.reduceEqDiff, Nat.reduceBEq, ← hpre]
      trivial

theorem ContainsStr_eq (l : List ByteArray) (v : ByteArray) (hl : l.length < 2 ^ 62) : CallEq Tryd.prog 22 [.ps 1 (strs l), .str v] (.bool (memS v l)) := by
  refine CallEq.begin (rs := [.tmp 4]) (m := 7) 1000 Tryd.func22 rfl rfl rfl (by decide) trivial ?_
  simp only [go_sem, Nat.reduceAdd, Nat.reduceSub, Nat.reduceMul, Nat.reduceLeDiff, Nat.reduceEqDiff, Nat.reduceBEq]
  refine VCall.isoT [] (IndexStr_eq l v hl) (pTL_refl _ _ _) (by simp [go_sem, strs_low]) ?_; simp only [flatR, flatA, flatC, if_true]; refine EvK.go 1000 ?_
  simp only [go_sem, Nat.reduceAdd, Nat.reduceSub, Nat.reduceMul, Nat.reduceLeDiff, Nat.reduceEqDiff, Nat.reduceBEq, idxP_any _ l 0 (Int.le_refl 0)]
  rfl

/-! ### stores of which not all is told -/
theorem getS_app {σ τ : Store} {b : Nat} (h : b < σ.length) : getS (σ ++ τ) b = getS σ b := by simp only [getS, List.getElem?_append_left h]
theorem getS_end {σ : Store} {x : Option Blk} : getS (σ ++ [x]) σ.length = x := by simp [getS]
theorem getS_set {σ : Store} {b c : Nat} {x : Option Blk} (h : c ≠ b) : getS (σ.set c x) b = getS σ b := by simp only [getS, List.getElem?_set_ne h]
theorem getS_set_same {σ : Store} {b : Nat} {x : Option Blk} (h : b < σ.length) : getS (σ.set b x) b = x := by simp [getS, h]
theorem setS_lt {σ : Store} {b : Nat} {x : Blk} (h : b < σ.length) : setS σ b x = σ.set b (some x) := if_pos h
theorem setS_new {σ : Store} {x : Blk} : setS σ σ.length x = σ ++ [some x] := by simp [setS]
theorem lowSo_set {n : Nat} {x : Option Blk} (hx : lowO n x) : ∀ {σ : Store} (b : Nat), lowSo n σ → lowSo n (σ.set b x)
  | [], b, h => h
  | _ :: _, 0, h => ⟨hx, h.2⟩
  | _ :: _, b + 1, h => ⟨h.1, lowSo_set hx b h.2⟩
theorem getS_lt {σ : Store} {b : Nat} {x : Blk} (h : getS σ b = some x) : b < σ.length := by
  refine Nat.lt_of_not_le fun hle => ?_
  simp [getS, List.getElem?_eq_none hle] at h
end Go.Proofs

/- The program's variables of a word: each one is told once. -/
set_option linter.unusedSimpArgs false
namespace Go.Proofs
open Go Go.Abs

/-- Block 1 is a variable that holds the row of these names, which lies in block j. -/
def outAt (σ : Store) (j : Nat) (L : List ByteArray) : Prop :=
  getS σ 1 = some (.var [slA j 1 (strs L)]) ∧ (L = [] → j = 1) ∧ (L ≠ [] → getS σ j = some (.row (strs L) 0) ∧ 2 ≤ j)

def SeeJ (σ : Store) (j : Nat) (L : List ByteArray) (σ' : Store) (j' : Nat) : Prop :=
  outAt σ' j' L ∧ (j' = j ∨ σ.length ≤ j') ∧ ∀ b, b < σ.length → b ≠ 1 → b ≠ j → getS σ' b = getS σ b
def SeeK (σ : Store) (j : Nat) (L : List ByteArray) (σ' : Store) : Prop :=
  σ.length ≤ σ'.length ∧ lowSo σ'.length σ' ∧ ∃ j', SeeJ σ j L σ' j'

theorem SeeJ.trans {σ σ1 σ2 : Store} {j j1 j2 : Nat} {L1 L2 : List ByteArray} (h : SeeJ σ j L1 σ1 j1) (h' : SeeJ σ1 j1 L2 σ2 j2) (hl : σ.length ≤ σ1.length) : SeeJ σ j L2 σ2 j2 := by
  refine ⟨h'.1, ?_, fun b hb h1 hj => ?_⟩
  · rcases h'.2.1 with e | e
    · rw [e]; exact h.2.1
    · exact .inr (by omega)
  · rw [h'.2.2 b (by omega) h1 (by rcases h.2.1 with e | e <;> omega)]
    exact h.2.2 b hb h1 hj
theorem outAt_app {σ τ : Store} {j : Nat} {L : List ByteArray} (h : outAt σ j L) : outAt (σ ++ τ) j L := by
  obtain ⟨h1, h2, h3⟩ := h
  refine ⟨by rw [getS_app (getS_lt h1)]; exact h1, h2, fun hL => ⟨by rw [getS_app (getS_lt (h3 hL).1)]; exact (h3 hL).1, (h3 hL).2⟩⟩
/-- Blocks laid behind are nobody's. -/
theorem SeeJ.less {σ τ σ1 : Store} {j j1 : Nat} {L1 : List ByteArray} (h : SeeJ (σ ++ τ) j L1 σ1 j1) : SeeJ σ j L1 σ1 j1 := by
  refine ⟨h.1, h.2.1.imp id fun e => by simp only [List.length_append] at e; omega, fun b hb h1 hj => ?_⟩
  rw [h.2.2 b (by simp only [List.length_append]; omega) h1 hj, getS_app hb]
theorem SeeJ.refl {σ : Store} {j : Nat} {L : List ByteArray} (h : outAt σ j L) : SeeJ σ j L σ j := ⟨h, .inl rfl, fun _ _ _ _ => rfl⟩
theorem outAt_ne {σ : Store} {j b : Nat} {L : List ByteArray} {cs : List AVal} (h : outAt σ j L) (hb : getS σ b = some (.var cs)) (h1 : b ≠ 1) : b ≠ j := by
  rintro rfl
  by_cases hL : L = []
  · exact h1 (h.2.1 hL)
  · have := (h.2.2 hL).1
    rw [hb] at this; cases this

def addS (L : List ByteArray) (x : ByteArray) : List ByteArray := if memS x L = true then L else L ++ [x]

theorem strs_snoc (L : List ByteArray) (x : ByteArray) : strs (L ++ [x]) = strs L ++ [.str x] := by simp [strs]

theorem See_eq (σ : Store) (j : Nat) (L : List ByteArray) (x : ByteArray) (h : outAt σ j L) (hlow : lowSo σ.length σ) (hL : L.length < 100000000) : VCall Tryd.prog (.fn 21 [] [.ptr 1 0]) [.str x] σ
    (fun _ σ' => SeeK σ j (addS L x) σ') := by
  obtain ⟨h1, h2, h3⟩ := h
  have hlen := getS_lt h1
  refine VCall.begin (rs := []) (m := 9) (all := [.str x, .ptr 1 0]) 1000 Tryd.func21 rfl rfl rfl rfl (by decide) ?_
  simp only [go_sem, Nat.reduceAdd, Nat.reduceSub, Nat.reduceMul, Nat.reduceLeDiff, Nat.reduceEqDiff, Nat.reduceBEq, h1]
  have hp : pT (among [j]) σ (.ps 1 (strs L)) (slA j 1 (strs L)) := by
    cases L with
    | nil => exact rfl
    | cons y L => exact of_eq_true (pT_slA (by simp [among]) (h3 (by simp)).1)
  refine VCall.isoT [j] (ContainsStr_eq L x (by omega)) ⟨hp, rfl, rfl⟩ ⟨strs_low L, trivial, trivial⟩ ?_
  simp only [flatR, flatA, flatC, if_true]
  refine EvK.go 1000 ?_
  unfold addS
  cases hm : memS x L with
  | true =>
    simp only [go_sem, Nat.reduceAdd, Nat.reduceSub, Nat.reduceMul, Nat.reduceLeDiff, Nat.reduceEqDiff, Nat.reduceBEq]
    rw [dK_eq]
    exact ⟨σ, leSo_refl _, Nat.le_refl _, hlow, trivial, Nat.le_refl _, hlow, j, ⟨h1, h2, h3⟩, .inl rfl, fun _ _ _ _ => rfl⟩
  | false =>
    have hn : (σ ++ [some (.row [.str x] 0)] : Store).length = σ.length + 1 := by simp
    have hg1 : getS (σ ++ [some (.row [.str x] 0)] : Store) 1 = some (.var [slA j 1 (strs L)]) := by rw [getS_app hlen]; exact h1
    by_cases hL0 : L = []
    · subst hL0
      obtain rfl := h2 rfl
      have hge : getS (σ ++ [some (.row [.str x] 0)] : Store) σ.length = some (.row [.str x] 0) := getS_end
      have hg2 : getS (σ ++ [some (.row [.str x] 0)] ++ [some (.row [.str x] 0)] : Store) 1 = some (.var [.nils]) := by rw [getS_app (by simp <;> omega)]; exact hg1
      have hl2 : 1 < (σ ++ [some (.row [.str x] 0)] ++ [some (.row [.str x] 0)] : Store).length := by simp <;> omega
      simp only [go_sem, Nat.reduceAdd, Nat.reduceSub, Nat.reduceMul, Nat.reduceLeDiff, Nat.reduceEqDiff, Nat.reduceBEq, h1, setS_new, getS_app hlen, ok_str, Nat.zero_lt_one, strs, List.map_nil, slA_nil, app_nils, hge, hg2, setS_lt hl2, Nat.le_refl]
      rw [dK_eq]
      have hlo : lowSo ((σ ++ [some (.row [.str x] 0)] ++ [some (.row [.str x] 0)] : Store).set 1 (some (.var [.os (σ ++ [some (.row [.str x] 0)] : Store).length 0 1 1]))).length ((σ ++ [some (.row [.str x] 0)] ++ [some (.row [.str x] 0)] : Store).set 1 (some (.var [.os (σ ++ [some (.row [.str x] 0)] : Store).length 0 1 1]))) := by
        have q1 : lowO ((σ ++ [some (.row [.str x] 0)] ++ [some (.row [.str x] 0)] : Store).set 1 (some (.var [.os (σ ++ [some (.row [.str x] 0)] : Store).length 0 1 1]))).length (some (.var [.os (σ ++ [some (.row [.str x] 0)] : Store).length 0 1 1])) := ⟨by show _ < _; simp, trivial⟩
        exact lowSo_set q1 1 (lowSo_app (lowSo_app (lowSo_mono (by simp) hlow) ⟨⟨trivial, trivial⟩, trivial⟩) ⟨⟨trivial, trivial⟩, trivial⟩)
      refine ⟨_, leSo_refl _, by simp, hlo, trivial, by simp, hlo, σ.length + 1, ⟨?_, by simp, fun _ => ⟨?_, by omega⟩⟩, .inr (by omega), fun b hb h1b _ => ?_⟩
      · rw [getS_set_same hl2, hn]; rfl
      · rw [getS_set (by omega), ← hn, getS_end]; rfl
      · rw [getS_set (by omega), getS_app (by simp <;> omega), getS_app hb]
    · obtain ⟨g1, g2⟩ := h3 hL0
      have hj := getS_lt g1
      have gj : getS (σ ++ [some (.row [.str x] 0)] : Store) j = slB (strs L) := by
        rw [getS_app hj, g1]; cases L with
        | nil => exact absurd rfl hL0
        | cons y L => rfl
      have hge : getS (σ ++ [some (.row [.str x] 0)] : Store) σ.length = some (.row [.str x] 0) := getS_end
      have e2 : ∀ B : Blk, setS ((σ ++ [some (.row [.str x] 0)] : Store).set j none) (σ ++ [some (.row [.str x] 0)] : Store).length B = (σ ++ [some (.row [.str x] 0)] : Store).set j none ++ [some B] := fun B => by
        rw [show (σ ++ [some (.row [.str x] 0)] : Store).length = ((σ ++ [some (.row [.str x] 0)] : Store).set j none).length by simp]; exact setS_new
      have hg2 : ∀ B : Blk, getS ((σ ++ [some (.row [.str x] 0)] : Store).set j none ++ [some B]) 1 = some (.var [slA j 1 (strs L)]) := fun B => by
        rw [getS_app (by simp <;> omega), getS_set (by omega)]; exact hg1
      have hl2 : ∀ B : Blk, 1 < ((σ ++ [some (.row [.str x] 0)] : Store).set j none ++ [some B]).length := fun B => by simp <;> omega
      have hL2 : (strs L).length + 1 ≤ 1000000000 := by rw [strs_len]; omega
      simp only [go_sem, Nat.reduceAdd, Nat.reduceSub, Nat.reduceMul, Nat.reduceLeDiff, Nat.reduceEqDiff, Nat.reduceBEq, h1, setS_new, getS_app hlen, ok_str, Nat.zero_lt_one, app_slA gj, hge, e2, hg2, setS_lt (hl2 _), slA_cell, hL2, Nat.le_refl]
      rw [dK_eq]
      have hlo : ∀ m n : Nat, m ≤ σ.length + 1 → lowSo (σ.length + 2) (((σ ++ [some (Blk.row [.str x] 0)] : Store).set j none ++ [some (Blk.row (strs L ++ [.str x]) 0)] : Store).set 1 (some (Blk.var [.os m 0 n 1]))) := fun m n hm => by
        have q1 : lowO (σ.length + 2) (some (.var [.os m 0 n 1])) := ⟨Nat.lt_succ_of_le hm, trivial⟩
        have q2 : lowL (σ.length + 2) (strs L ++ [.str x]) := by rw [← strs_snoc]; exact strs_low _
        exact lowSo_set q1 1 (lowSo_app (lowSo_set (x := none) trivial j (lowSo_app (lowSo_mono (by omega) hlow) ⟨⟨trivial, trivial⟩, trivial⟩)) ⟨q2, trivial⟩)
      have hlen2 : (((σ ++ [some (Blk.row [.str x] 0)] : Store).set j none ++ [some (Blk.row (strs L ++ [.str x]) 0)] : Store).set 1 (some (Blk.var [.os (σ ++ [some (Blk.row [.str x] 0)] : Store).length 0 ((strs L).length + 1) 1]))).length = σ.length + 2 := by simp
      refine ⟨_, leSo_refl _, by rw [hlen2]; omega, by rw [hlen2]; exact hlo _ _ (by simp), trivial, by rw [hlen2]; omega, by rw [hlen2]; exact hlo _ _ (by simp), σ.length + 1, ⟨?_, by simp, fun _ => ⟨?_, by omega⟩⟩, .inr (by omega), fun b hb h1b hjb => ?_⟩
      · rw [getS_set_same (hl2 _), hn, strs_snoc, slA_snoc]
      · rw [getS_set (by omega), show σ.length + 1 = ((σ ++ [some (.row [.str x] 0)] : Store).set j none).length by simp, getS_end, strs_snoc]
      · rw [getS_set (by omega), getS_app (by simp <;> omega), getS_set (by omega), getS_app hb]
theorem addS_len (L : List ByteArray) (x : ByteArray) : (addS L x).length ≤ L.length + 1 := by
  unfold addS; split <;> simp
mutual
/-- The variables of a word, each once, behind those that are there. -/
def Wd.adds : Wd → List ByteArray → List ByteArray
  | .mk v n as_, L => if v = true then addS L n else Wd.addsL as_ L
def Wd.addsL : List Wd → List ByteArray → List ByteArray
  | [], L => L
  | w :: l, L => Wd.addsL l (w.adds L)
end
mutual
theorem adds_len : ∀ (w : Wd) (L : List ByteArray), (w.adds L).length ≤ L.length + w.size
  | .mk v n as_, L => by
    simp only [Wd.adds, Wd.size]
    split
    · have := addS_len L n; omega
    · have := addsL_len as_ L; omega
theorem addsL_len : ∀ (l : List Wd) (L : List ByteArray), (Wd.addsL l L).length ≤ L.length + Wd.sizes l
  | [], L => by simp [Wd.addsL]
  | w :: l, L => by
    simp only [Wd.addsL, Wd.sizes]
    have := adds_len w L; have := addsL_len l (w.adds L); omega
end
theorem addsL_snoc : ∀ (l : List Wd) (w : Wd) (L : List ByteArray), Wd.addsL (l ++ [w]) L = w.adds (Wd.addsL l L)
  | [], w, L => rfl
  | x :: l, w, L => by simp only [List.cons_append, Wd.addsL]; exact addsL_snoc l w _
theorem addsL_take {l : List Wd} {i : Nat} (h : i < l.length) (L : List ByteArray) : Wd.addsL (l.take (i + 1)) L = (l[i]).adds (Wd.addsL (l.take i) L) := by
  rw [List.take_succ_eq_append_getElem h, addsL_snoc]
theorem setS_last {σ : Store} {x : Option Blk} {B : Blk} : setS (σ ++ [x]) σ.length B = σ ++ [some B] := by
  rw [setS_lt (by simp), List.set_append_right _ _ (Nat.le_refl _), Nat.sub_self]; rfl
theorem set_end {σ : Store} {x y : Option Blk} : (σ ++ [x]).set σ.length y = σ ++ [y] := by
  rw [List.set_append_right _ _ (Nat.le_refl _), Nat.sub_self]; rfl

theorem sizes_take : ∀ (l : List Wd) (i : Nat) (h : i < l.length), Wd.sizes (l.take i) + l[i].size ≤ Wd.sizes l
  | w :: l, 0, _ => by simp only [List.take_zero, Wd.sizes, List.getElem_cons_zero]; omega
  | w :: l, i + 1, h => by
    have := sizes_take l i (by simpa using h)
    simp only [List.take_succ_cons, Wd.sizes, List.getElem_cons_succ]; omega

theorem Words_eq : ∀ (w : Wd) (σ : Store) (j : Nat) (L : List ByteArray), outAt σ j L → lowSo σ.length σ → L.length + w.size < 100000000 →
    VCall Tryd.prog (.fn 23 [] []) [w.toA, .fn 21 [] [.ptr 1 0]] σ (fun _ σ' => SeeK σ j (w.adds L) σ') := by
  refine Wd.rec_args ?_
  intro v n as_ ih σ j L h hlow hL
  have hlen := getS_lt h.1
  have hbox : outAt (σ ++ [some (.var (Wd.mk v n as_).toA.cells)]) j L := outAt_app h
  have hlb : lowSo (σ ++ [some (.var (Wd.mk v n as_).toA.cells)] : Store).length (σ ++ [some (.var (Wd.mk v n as_).toA.cells)] : Store) :=
    by
      have q : ∀ m, lowO m (some (Blk.var (Wd.mk v n as_).toA.cells)) := fun m => by show lowL _ _; rw [wd_cells]; exact ⟨trivial, trivial, wds_low _, trivial⟩
      exact lowSo_app (lowSo_mono (by simp) hlow) ⟨q _, trivial⟩
  have hgb : getS (σ ++ [some (.var (Wd.mk v n as_).toA.cells)]) σ.length = some (.var [.bool v, .str n, .ps 3 (as_.map Wd.toA)]) := by rw [getS_end, wd_cells]; rfl
  simp only [Wd.size] at hL
  refine VCall.begin (rs := []) (m := 21) (all := [(Wd.mk v n as_).toA, .fn 21 [] [.ptr 1 0]]) 1000 Tryd.func23 rfl rfl rfl rfl (by decide) ?_
  generalize hσb : (σ ++ [some (.var (Wd.mk v n as_).toA.cells)] : Store) = σb at hbox hlb hgb
  have hlenb : σb.length = σ.length + 1 := by rw [← hσb]; simp
  simp only [go_sem, Nat.reduceAdd, Nat.reduceSub, Nat.reduceMul, Nat.reduceLeDiff, Nat.reduceEqDiff, Nat.reduceBEq, wd_c3, wd_all, setS_new, hσb, hgb]
  cases v with
  | true =>
    simp only [go_sem, Nat.reduceAdd, Nat.reduceSub, Nat.reduceMul, Nat.reduceLeDiff, Nat.reduceEqDiff, Nat.reduceBEq, hgb]
    refine (See_eq σb j L n hbox hlb (by omega)).mono ?_
    rintro r σ' ⟨k1, k2, j', k3⟩
    refine EvK.go 1000 ?_
    simp only [go_sem, Nat.reduceAdd, Nat.reduceSub, Nat.reduceMul, Nat.reduceLeDiff, Nat.reduceEqDiff, Nat.reduceBEq]
    rw [dK_eq]
    have hlt : σ.length ≤ σ'.length := by omega
    refine ⟨σ', leSo_refl _, hlt, k2, trivial, hlt, k2, j', ?_⟩
    rw [← hσb] at k3
    exact k3.less
  | false =>
    simp only [go_sem, Nat.reduceAdd, Nat.reduceSub, Nat.reduceMul, Nat.reduceLeDiff, Nat.reduceEqDiff, Nat.reduceBEq, hgb]
    refine EvK.loopI (ι := {p : Nat × Store × Nat // p.1 ≤ as_.length ∧ SeeJ σb j (Wd.addsL (as_.take p.1) L) p.2.1 p.2.2 ∧ σb.length ≤ p.2.1.length ∧ lowSo p.2.1.length p.2.1}) 1000
      (fun p => mkT 23 [(1, .fn 21 [] [.ptr 1 0]), (13, .ps 3 (as_.map Wd.toA)), (14, .int .i64 as_.length), (15, .int .i64 p.1.1)]) (fun p => p.1.2.1) (fun p => as_.length - p.1.1) ⟨(0, σb, j), Nat.zero_le _, SeeJ.refl hbox, Nat.le_refl _, hlb⟩ ?_ (fun p => by have := p.2.2.2.1; show σ.length ≤ _; omega) ?_
    · have h1l : 1 < σb.length := by omega
      simp only [go_sem, Nat.reduceAdd, Nat.reduceSub, Nat.reduceMul, Nat.reduceLeDiff, Nat.reduceEqDiff, Nat.reduceBEq, List.length_map, wds_low, hlb, Int.natCast_zero, h1l]
      exact leSo_refl _
    · rintro ⟨⟨i, σ1, j1⟩, hi, k3, k1, k2⟩
      simp only at hi k3 k1 k2
      by_cases hlt : (i : Int) < as_.length
      · have hlt' : i < as_.length := by omega
        have hnew : ∀ B : Blk, getS (σ1 ++ [some B]) σ1.length = some B := fun B => getS_end
        have hsl := wsize_le as_ i hlt'
        have hal := addsL_len (as_.take i) L
        have h1l : 1 < σ1.length := by omega
        simp only [go_sem, Nat.reduceAdd, Nat.reduceSub, Nat.reduceMul, Nat.reduceLeDiff, Nat.reduceEqDiff, Nat.reduceBEq, hlt, List.length_map, Int.toNat_natCast, map_getD hlt', wd_c3, wd_all, wd_cells, Nat.le_refl, setS_new, hnew, setS_last]
        refine ⟨by omega, ?_⟩
        have hcall := ih i hlt' (σ1 ++ [some (.var as_[i].toA.cells)]) j1 (Wd.addsL (as_.take i) L) (outAt_app k3.1) (by
          have q : ∀ m, lowO m (some (Blk.var as_[i].toA.cells)) := fun m => by show lowL _ _; rw [wd_cells]; exact ⟨trivial, trivial, wds_low _, trivial⟩
          exact lowSo_app (lowSo_mono (by simp) k2) ⟨q _, trivial⟩) (by
          have : Wd.sizes (as_.take i) + as_[i].size ≤ Wd.sizes as_ := sizes_take as_ i hlt'
          omega)
        rw [wd_cells, wd_eq] at hcall
        refine hcall.mono ?_
        rintro r σ2 ⟨m1, m2, j2, m3⟩
        refine EvK.go 1000 ?_
        have hk := k3.trans m3.less k1
        rw [← addsL_take hlt'] at hk
        simp only [List.length_append, List.length_singleton] at m1
        simp only [go_sem, Nat.reduceAdd, Nat.reduceSub, Nat.reduceMul, Nat.reduceLeDiff, Nat.reduceEqDiff, Nat.reduceBEq]
        refine ⟨⟨(i + 1, σ2, j2), hlt', hk, by simp only; omega, m2⟩, ?_, by simp only; omega⟩
        have hwl := wlen_le as_
        simp only [go_sem, Nat.reduceAdd, Nat.reduceSub, Nat.reduceMul, Nat.reduceLeDiff, Nat.reduceEqDiff, Nat.reduceBEq, List.length_map, wds_low, m2]
        exact ⟨by rw [i64_id (by omega)]; rfl, leSo_refl _, by omega⟩
      · have hi' : i = as_.length := by omega
        subst hi'
        rw [List.take_length] at k3
        simp only [go_sem, Nat.reduceAdd, Nat.reduceSub, Nat.reduceMul, Nat.reduceLeDiff, Nat.reduceEqDiff, Nat.reduceBEq, hlt]
        refine EvK.go 1000 ?_
        simp only [go_sem, Nat.reduceAdd, Nat.reduceSub, Nat.reduceMul, Nat.reduceLeDiff, Nat.reduceEqDiff, Nat.reduceBEq]
        rw [dK_eq]
        have hlt : σ.length ≤ σ1.length := by omega
        refine ⟨σ1, leSo_refl _, hlt, k2, trivial, hlt, k2, j1, ?_⟩
        rw [← hσb] at k3
        exact k3.less
end Go.Proofs

/- The program's free variables of a formula. -/
set_option linter.unusedSimpArgs false
namespace Go.Proofs
open Go Go.Abs

def hideS (k : Int) (names : List ByteArray) (L : List ByteArray) (x : ByteArray) : List ByteArray := if (k = 7 ∨ k = 8) ∧ memS x names = true then L else addS L x
mutual
/-- The variables that are free. -/
def Fo.free : Fo → List ByteArray
  | .mk k l r names parts => Fo.frees k names parts (r.adds (l.adds []))
def Fo.frees (k : Int) (names : List ByteArray) : List Fo → List ByteArray → List ByteArray
  | [], L => L
  | p :: ps, L => Fo.frees k names ps (p.free.foldl (hideS k names) L)
end
theorem hide_len (k : Int) (names L : List ByteArray) (x : ByteArray) : (hideS k names L x).length ≤ L.length + 1 := by
  unfold hideS; split
  · omega
  · exact addS_len L x
theorem hides_len (k : Int) (names : List ByteArray) : ∀ (l L : List ByteArray), (l.foldl (hideS k names) L).length ≤ L.length + l.length
  | [], L => by simp
  | x :: l, L => by
    have := hides_len k names l (hideS k names L x)
    have := hide_len k names L x
    simp only [List.foldl_cons, List.length_cons]; omega
mutual
theorem free_len : ∀ f : Fo, f.free.length ≤ f.size
  | .mk k l r names parts => by
    simp only [Fo.free, Fo.size]
    have h1 := adds_len l []
    have h2 := adds_len r (l.adds [])
    have h3 := frees_len k names parts (r.adds (l.adds []))
    simp only [List.length_nil] at h1
    omega
theorem frees_len (k : Int) (names : List ByteArray) : ∀ (ps : List Fo) (L : List ByteArray), (Fo.frees k names ps L).length ≤ L.length + Fo.sizes ps
  | [], L => by simp [Fo.frees]
  | p :: ps, L => by
    simp only [Fo.frees, Fo.sizes]
    have h1 := free_len p
    have h2 := hides_len k names p.free L
    have h3 := frees_len k names ps (p.free.foldl (hideS k names) L)
    omega
end
theorem frees_snoc (k : Int) (names : List ByteArray) : ∀ (ps : List Fo) (p : Fo) (L : List ByteArray), Fo.frees k names (ps ++ [p]) L = p.free.foldl (hideS k names) (Fo.frees k names ps L)
  | [], p, L => rfl
  | x :: ps, p, L => by simp only [List.cons_append, Fo.frees]; exact frees_snoc k names ps p _
theorem frees_take {k : Int} {names : List ByteArray} {ps : List Fo} {i : Nat} (h : i < ps.length) (L : List ByteArray) : Fo.frees k names (ps.take (i + 1)) L = (ps[i]).free.foldl (hideS k names) (Fo.frees k names (ps.take i) L) := by
  rw [List.take_succ_eq_append_getElem h, frees_snoc]
theorem fsizes_take : ∀ (l : List Fo) (i : Nat) (h : i < l.length), Fo.sizes (l.take i) + l[i].size ≤ Fo.sizes l
  | w :: l, 0, _ => by simp only [List.take_zero, Fo.sizes, List.getElem_cons_zero]; omega
  | w :: l, i + 1, h => by
    have := fsizes_take l i (by simpa using h)
    simp only [List.take_succ_cons, Fo.sizes, List.getElem_cons_succ]; omega

theorem SeeJ.app {σ σ1 τ : Store} {j j1 : Nat} {L1 : List ByteArray} (h : SeeJ σ j L1 σ1 j1) (hl : σ.length ≤ σ1.length) : SeeJ σ j L1 (σ1 ++ τ) j1 :=
  ⟨outAt_app h.1, h.2.1, fun b hb h1 hj => by rw [getS_app (by omega)]; exact h.2.2 b hb h1 hj⟩

theorem Free_eq : ∀ f : Fo, f.size < 10000000 → CallEq Tryd.prog 10 [f.toA] (.ps 1 (strs f.free)) := by
  refine Fo.rec_parts ?_
  intro k lw rw_ names parts ih hsz
  simp only [Fo.size] at hsz
  refine CallEq.beginK (rs := [.tmp 2]) (m := 52) Tryd.func10 rfl rfl rfl (by decide) (strs_low _) ?_
  have hc : (Fo.mk k lw rw_ names parts).toA.cells = [.int .i64 k, .bool lw.var, .str lw.name, .ps 3 (lw.args.map Wd.toA), .bool rw_.var, .str rw_.name, .ps 3 (rw_.args.map Wd.toA), .ps 1 (strs names), .ps 9 (parts.map Fo.toA)] := by rw [fo_cells]; rfl
  generalize (Fo.mk k lw rw_ names parts).toA = fA at hc
  refine EvK.go 1000 ?_
  simp only [go_sem, Nat.reduceAdd, Nat.reduceSub, Nat.reduceMul, Nat.reduceLeDiff, Nat.reduceEqDiff, Nat.reduceBEq, hc, Nat.le_refl]
  generalize hcs : ([.int .i64 k, .bool lw.var, .str lw.name, .ps 3 (lw.args.map Wd.toA), .bool rw_.var, .str rw_.name, .ps 3 (rw_.args.map Wd.toA), .ps 1 (strs names), .ps 9 (parts.map Fo.toA)] : List AVal) = cs at *
  have hlow0 : lowSo 2 ([some (.var cs), some (.var [.nils])] : Store) := by
    rw [← hcs]
    exact ⟨⟨trivial, trivial, trivial, wds_low _, trivial, trivial, wds_low _, strs_low _, fos_low _, trivial⟩, ⟨trivial, trivial⟩, trivial⟩
  generalize hσ0 : ([some (.var cs), some (.var [.nils])] : Store) = σ0 at hlow0 ⊢
  have hl0 : σ0.length = 2 := by rw [← hσ0]; rfl
  have hb0 : getS σ0 0 = some (.var cs) := by rw [← hσ0]; rfl
  have hw1 := Words_eq lw σ0 1 [] ⟨by rw [← hσ0]; rfl, fun _ => rfl, fun h => absurd rfl h⟩ (by rw [hl0]; exact hlow0) (by simp only [List.length_nil]; omega)
  have hal := adds_len lw []
  have har := adds_len rw_ (lw.adds [])
  simp only [List.length_nil] at hal
  rw [wd_eq] at hw1
  refine hw1.mono ?_
  rintro r σ1 ⟨a1, a2, j1, a3⟩
  have g1 : getS σ1 0 = some (.var cs) := by rw [a3.2.2 0 (by omega) (by decide) (by decide)]; exact hb0
  refine EvK.go 1000 ?_
  simp only [go_sem, Nat.reduceAdd, Nat.reduceSub, Nat.reduceMul, Nat.reduceLeDiff, Nat.reduceEqDiff, Nat.reduceBEq, g1, ← hcs]
  have hw2 := Words_eq rw_ σ1 j1 _ a3.1 a2 (by omega)
  rw [wd_eq] at hw2
  refine hw2.mono ?_
  rintro r σ2 ⟨b1, b2, j2, b3⟩
  have c3 := a3.trans b3 a1
  have g2 : getS σ2 0 = some (.var cs) := by rw [c3.2.2 0 (by omega) (by decide) (by decide)]; exact hb0
  refine EvK.go 1000 ?_
  simp only [go_sem, Nat.reduceAdd, Nat.reduceSub, Nat.reduceMul, Nat.reduceLeDiff, Nat.reduceEqDiff, Nat.reduceBEq, g2, ← hcs]
  have hfl := fun i (h : i < parts.length) => free_len parts[i]
  refine EvK.loopI (ι := {p : Nat × Store × Nat // p.1 ≤ parts.length ∧ SeeJ σ0 1 (Fo.frees k names (parts.take p.1) (rw_.adds (lw.adds []))) p.2.1 p.2.2 ∧ 2 ≤ p.2.1.length ∧ lowSo p.2.1.length p.2.1}) 1000
    (fun p => mkT 53 [(1, .ptr 0 0), (3, .ptr 1 0), (4, .fn 21 [] [.ptr 1 0]), (19, .ps 9 (parts.map Fo.toA)), (20, .int .i64 parts.length), (21, .int .i64 p.1.1)]) (fun p => p.1.2.1) (fun p => parts.length - p.1.1) ⟨(0, σ2, j2), Nat.zero_le _, c3, by show 2 ≤ σ2.length; omega, b2⟩ ?_ (fun p => Nat.zero_le _) ?_
  · have h1l : 1 < σ2.length := by omega
    have h0l : 0 < σ2.length := by omega
    simp only [go_sem, Nat.reduceAdd, Nat.reduceSub, Nat.reduceMul, Nat.reduceLeDiff, Nat.reduceEqDiff, Nat.reduceBEq, List.length_map, fos_low, b2, Int.natCast_zero, h1l, h0l]
    exact leSo_refl _
  · rintro ⟨⟨i, σ3, j3⟩, hi, k3, k1, k2⟩
    simp only at hi k3 k1 k2
    by_cases hlt : (i : Int) < parts.length
    · have hlt' : i < parts.length := by omega
      have hnew : ∀ B : Blk, getS (σ3 ++ [some B]) σ3.length = some B := fun B => getS_end
      have hsl := fsizes_take parts i hlt'
      have hfr := frees_len k names (parts.take i) (rw_.adds (lw.adds []))
      have hfi := hfl i hlt'
      simp only [go_sem, Nat.reduceAdd, Nat.reduceSub, Nat.reduceMul, Nat.reduceLeDiff, Nat.reduceEqDiff, Nat.reduceBEq, hlt, List.length_map, Int.toNat_natCast, map_getD hlt', fo_c9, fo_all, fo_cells, Nat.le_refl, setS_new, hnew, setS_last]
      refine ⟨by omega, ?_⟩
      have hcall := ih i hlt' (by omega)
      refine VCall.isoT [] hcall ⟨pT_fo _ _ _, rfl⟩ ⟨fo_low0 _, trivial⟩ ?_
      rw [frzI_nil]
      simp only [ite_self]
      refine EvK.go 1000 ?_
      simp only [go_sem, Nat.reduceAdd, Nat.reduceSub, Nat.reduceMul, Nat.reduceLeDiff, Nat.reduceEqDiff, Nat.reduceBEq]
      have hg3 : ∀ b, b < 2 → b ≠ 1 → getS σ3 b = getS σ0 b := fun b hb h1 => k3.2.2 b (by omega) h1 h1
      have ht := frees_take (k := k) (names := names) hlt' (rw_.adds (lw.adds []))
      obtain ⟨fr, hfri⟩ : ∃ fr, parts[i].free = fr := ⟨_, rfl⟩
      obtain ⟨Lc, hLc⟩ : ∃ Lc, Fo.frees k names (parts.take i) (rw_.adds (lw.adds [])) = Lc := ⟨_, rfl⟩
      rw [hLc, hfri] at ht
      rw [hLc] at k3 hfr
      rw [hfri] at hfi ⊢
      have hlow3 : lowSo (σ3 ++ [some (Blk.var [.int .i64 parts[i].kind, .bool parts[i].l.var, .str parts[i].l.name, .ps 3 (parts[i].l.args.map Wd.toA), .bool parts[i].r.var, .str parts[i].r.name, .ps 3 (parts[i].r.args.map Wd.toA), .ps 1 (strs parts[i].names), .ps 9 (parts[i].parts.map Fo.toA)])] : Store).length (σ3 ++ [some (Blk.var [.int .i64 parts[i].kind, .bool parts[i].l.var, .str parts[i].l.name, .ps 3 (parts[i].l.args.map Wd.toA), .bool parts[i].r.var, .str parts[i].r.name, .ps 3 (parts[i].r.args.map Wd.toA), .ps 1 (strs parts[i].names), .ps 9 (parts[i].parts.map Fo.toA)])]) :=
        lowSo_app (lowSo_mono (by simp) k2) ⟨⟨trivial, trivial, trivial, wds_low _, trivial, trivial, wds_low _, strs_low _, fos_low _, trivial⟩, trivial⟩
      refine EvK.loopI (ι := {q : Nat × Store × Nat // q.1 ≤ fr.length ∧ SeeJ σ0 1 ((fr.take q.1).foldl (hideS k names) Lc) q.2.1 q.2.2 ∧ 2 ≤ q.2.1.length ∧ lowSo q.2.1.length q.2.1}) 1000
        (fun q => mkT 53 [(1, .ptr 0 0), (3, .ptr 1 0), (4, .fn 21 [] [.ptr 1 0]), (19, .ps 9 (parts.map Fo.toA)), (20, .int .i64 parts.length), (21, .int .i64 i), (26, .ps 1 (strs fr)), (27, .int .i64 fr.length), (28, .int .i64 q.1.1)]) (fun q => q.1.2.1) (fun q => fr.length - q.1.1)
        ⟨(0, _, j3), Nat.zero_le _, k3.app (by omega), by simp only [List.length_append, List.length_singleton]; omega, hlow3⟩ ?_ (fun q => Nat.zero_le _) ?_
      · have h1l : 1 < σ3.length + 1 := by omega
        have h0l : 0 < σ3.length + 1 := by omega
        simp only [go_sem, Nat.reduceAdd, Nat.reduceSub, Nat.reduceMul, Nat.reduceLeDiff, Nat.reduceEqDiff, Nat.reduceBEq, List.length_map, fos_low, Int.natCast_zero, h1l, h0l, strs_len, strs_low, hlow3, List.length_append]
        exact ⟨leSo_refl _, by rw [← List.length_singleton (a := some _), ← List.length_append]; exact hlow3⟩
      · rintro ⟨⟨n, σ4, j4⟩, hn, m3, m1, m2⟩
        simp only at hn m3 m1 m2
        by_cases hltn : (n : Int) < fr.length
        · have hltn' : n < fr.length := by omega
          have g4 : getS σ4 0 = some (.var cs) := by rw [m3.2.2 0 (by omega) (by decide) (by decide)]; exact hb0
          have hh : (fr.take (n + 1)).foldl (hideS k names) Lc = hideS k names ((fr.take n).foldl (hideS k names) Lc) fr[n] := by
            rw [List.take_succ_eq_append_getElem hltn', List.foldl_append]; rfl
          have hbd := hides_len k names (fr.take n) Lc
          rw [List.length_take] at hbd
          have hsee := See_eq σ4 j4 _ fr[n] m3.1 m2 (by omega)
          by_cases k7 : k = 7
          · simp only [go_sem, Nat.reduceAdd, Nat.reduceSub, Nat.reduceMul, Nat.reduceLeDiff, Nat.reduceEqDiff, Nat.reduceBEq, hltn, Int.toNat_natCast, strs_len, strs_get hltn', g4, ← hcs, k7]
            refine ⟨by omega, ?_⟩
            refine VCall.isoT [] (ContainsStr_eq names fr[n] (by omega)) (pTL_refl _ _ _) ⟨strs_low _, trivial, trivial⟩ ?_
            rw [frzI_nil]
            simp only [ite_self]
            refine EvK.go 1000 ?_
            cases hm : memS fr[n] names with
            | true =>
              simp only [go_sem, Nat.reduceAdd, Nat.reduceSub, Nat.reduceMul, Nat.reduceLeDiff, Nat.reduceEqDiff, Nat.reduceBEq]
              refine ⟨⟨(n + 1, σ4, j4), hltn', ?_, m1, m2⟩, ?_, by simp only; omega⟩
              · show SeeJ σ0 1 _ σ4 j4
                rw [hh, hideS, if_pos ⟨by omega, hm⟩]
                exact m3
              · simp only [go_sem, Nat.reduceAdd, Nat.reduceSub, Nat.reduceMul, Nat.reduceLeDiff, Nat.reduceEqDiff, Nat.reduceBEq, List.length_map, fos_low, strs_low, m2]
                exact ⟨by rw [i64_id (by omega)]; rfl, leSo_refl _, by omega⟩
            | false =>
              simp only [go_sem, Nat.reduceAdd, Nat.reduceSub, Nat.reduceMul, Nat.reduceLeDiff, Nat.reduceEqDiff, Nat.reduceBEq]
              refine hsee.mono ?_
              rintro r σ5 ⟨n1, n2, j5, n3⟩
              refine EvK.go 1000 ?_
              simp only [go_sem, Nat.reduceAdd, Nat.reduceSub, Nat.reduceMul, Nat.reduceLeDiff, Nat.reduceEqDiff, Nat.reduceBEq]
              refine ⟨⟨(n + 1, σ5, j5), hltn', ?_, by simp only; omega, n2⟩, ?_, by simp only; omega⟩
              · show SeeJ σ0 1 _ σ5 j5
                rw [hh, hideS, if_neg (by rintro ⟨-, h⟩; rw [hm] at h; cases h)]
                exact m3.trans n3 (by omega)
              · simp only [go_sem, Nat.reduceAdd, Nat.reduceSub, Nat.reduceMul, Nat.reduceLeDiff, Nat.reduceEqDiff, Nat.reduceBEq, List.length_map, fos_low, strs_low, n2]
                exact ⟨by rw [i64_id (by omega)]; rfl, leSo_refl _, by omega⟩
          · by_cases k8 : k = 8
            · have e87 : ((8 : Int) = 7) = False := by decide
              simp only [go_sem, Nat.reduceAdd, Nat.reduceSub, Nat.reduceMul, Nat.reduceLeDiff, Nat.reduceEqDiff, Nat.reduceBEq, hltn, Int.toNat_natCast, strs_len, strs_get hltn', g4, ← hcs, k7, k8, e87]
              refine ⟨by omega, ?_⟩
              refine VCall.isoT [] (ContainsStr_eq names fr[n] (by omega)) (pTL_refl _ _ _) ⟨strs_low _, trivial, trivial⟩ ?_
              rw [frzI_nil]
              simp only [ite_self]
              refine EvK.go 1000 ?_
              cases hm : memS fr[n] names with
              | true =>
                simp only [go_sem, Nat.reduceAdd, Nat.reduceSub, Nat.reduceMul, Nat.reduceLeDiff, Nat.reduceEqDiff, Nat.reduceBEq]
                refine ⟨⟨(n + 1, σ4, j4), hltn', ?_, m1, m2⟩, ?_, by simp only; omega⟩
                · show SeeJ σ0 1 _ σ4 j4
                  rw [hh, hideS, if_pos ⟨by omega, hm⟩]
                  exact m3
                · simp only [go_sem, Nat.reduceAdd, Nat.reduceSub, Nat.reduceMul, Nat.reduceLeDiff, Nat.reduceEqDiff, Nat.reduceBEq, List.length_map, fos_low, strs_low, m2]
                  exact ⟨by rw [i64_id (by omega)]; rfl, leSo_refl _, by omega⟩
              | false =>
                simp only [go_sem, Nat.reduceAdd, Nat.reduceSub, Nat.reduceMul, Nat.reduceLeDiff, Nat.reduceEqDiff, Nat.reduceBEq]
                refine hsee.mono ?_
                rintro r σ5 ⟨n1, n2, j5, n3⟩
                refine EvK.go 1000 ?_
                simp only [go_sem, Nat.reduceAdd, Nat.reduceSub, Nat.reduceMul, Nat.reduceLeDiff, Nat.reduceEqDiff, Nat.reduceBEq]
                refine ⟨⟨(n + 1, σ5, j5), hltn', ?_, by simp only; omega, n2⟩, ?_, by simp only; omega⟩
                · show SeeJ σ0 1 _ σ5 j5
                  rw [hh, hideS, if_neg (by rintro ⟨-, h⟩; rw [hm] at h; cases h)]
                  exact m3.trans n3 (by omega)
                · simp only [go_sem, Nat.reduceAdd, Nat.reduceSub, Nat.reduceMul, Nat.reduceLeDiff, Nat.reduceEqDiff, Nat.reduceBEq, List.length_map, fos_low, strs_low, n2]
                  exact ⟨by rw [i64_id (by omega)]; rfl, leSo_refl _, by omega⟩
            · simp only [go_sem, Nat.reduceAdd, Nat.reduceSub, Nat.reduceMul, Nat.reduceLeDiff, Nat.reduceEqDiff, Nat.reduceBEq, hltn, Int.toNat_natCast, strs_len, strs_get hltn', g4, ← hcs, k7, k8]
              refine ⟨by omega, ?_⟩
              refine hsee.mono ?_
              rintro r σ5 ⟨n1, n2, j5, n3⟩
              refine EvK.go 1000 ?_
              simp only [go_sem, Nat.reduceAdd, Nat.reduceSub, Nat.reduceMul, Nat.reduceLeDiff, Nat.reduceEqDiff, Nat.reduceBEq]
              refine ⟨⟨(n + 1, σ5, j5), hltn', ?_, by simp only; omega, n2⟩, ?_, by simp only; omega⟩
              · show SeeJ σ0 1 _ σ5 j5
                rw [hh, hideS, if_neg (by rintro ⟨h, -⟩; omega)]
                exact m3.trans n3 (by omega)
              · simp only [go_sem, Nat.reduceAdd, Nat.reduceSub, Nat.reduceMul, Nat.reduceLeDiff, Nat.reduceEqDiff, Nat.reduceBEq, List.length_map, fos_low, strs_low, n2]
                exact ⟨by rw [i64_id (by omega)]; rfl, leSo_refl _, by omega⟩
        · have hi' : n = fr.length := by omega
          subst hi'
          rw [List.take_length, ← ht] at m3
          simp only [go_sem, Nat.reduceAdd, Nat.reduceSub, Nat.reduceMul, Nat.reduceLeDiff, Nat.reduceEqDiff, Nat.reduceBEq, hltn]
          refine EvK.go 1000 ?_
          simp only [go_sem, Nat.reduceAdd, Nat.reduceSub, Nat.reduceMul, Nat.reduceLeDiff, Nat.reduceEqDiff, Nat.reduceBEq]
          refine ⟨⟨(i + 1, σ4, j4), hlt', m3, m1, m2⟩, ?_, by simp only; omega⟩
          simp only [go_sem, Nat.reduceAdd, Nat.reduceSub, Nat.reduceMul, Nat.reduceLeDiff, Nat.reduceEqDiff, Nat.reduceBEq, List.length_map, fos_low, m2]
          have hwl := flen_le parts
          exact ⟨by rw [i64_id (by omega)]; rfl, leSo_refl _, by omega⟩
    · have hi' : i = parts.length := by omega
      subst hi'
      rw [List.take_length] at k3
      simp only [go_sem, Nat.reduceAdd, Nat.reduceSub, Nat.reduceMul, Nat.reduceLeDiff, Nat.reduceEqDiff, Nat.reduceBEq, hlt]
      refine EvK.go 1000 ?_
      have g3 := k3.1.1
      simp only [go_sem, Nat.reduceAdd, Nat.reduceSub, Nat.reduceMul, Nat.reduceLeDiff, Nat.reduceEqDiff, Nat.reduceBEq, g3]
      have hfin : (Fo.mk k lw rw_ names parts).free = Fo.frees k names parts (rw_.adds (lw.adds [])) := by simp only [Fo.free]
      rw [hfin]
      generalize Fo.frees k names parts (rw_.adds (lw.adds [])) = L at *
      cases L with
      | nil => exact rfl
      | cons y L => exact of_eq_true (pT_slA rfl (k3.1.2.2 (by simp)).1)
end Go.Proofs

/- The program's literals and clauses. -/
set_option linter.unusedSimpArgs false
namespace Go.Proofs
open Go Go.Abs

def idxF {α : Type} (p : α → Bool) : List α → Int → Int
  | [], _ => -1
  | a :: l, i => if p a then i else idxF p l (i + 1)
theorem idxF_any {α : Type} (p : α → Bool) : ∀ (l : List α) (i : Int), 0 ≤ i → decide (0 ≤ idxF p l i) = l.any p
  | [], i, _ => by simp [idxF]
  | a :: l, i, h => by
    simp only [idxF, List.any_cons]
    by_cases c : p a = true
    · simp [c, h]
    · rw [Bool.not_eq_true] at c
      simp only [c, Bool.false_eq_true, if_false, Bool.false_or]; exact idxF_any p l (i + 1) (by omega)

theorem IndexForm_eq (σ : Store) (c : AVal) (p : Fo → Bool) (l : List Fo) (hl : l.length < 2 ^ 62) (hs : lowSo σ.length σ) (hc : c.low σ.length)
    (hp : ∀ (i : Nat) (h : i < l.length), VCall Tryd.prog c [l[i].toA] σ (fun r σ' => r = .bool (p l[i]) ∧ σ' = σ)) :
    VCall Tryd.prog (.fn 65 [] []) [.ps 9 (l.map Fo.toA), c] σ (fun r σ' => r = .int .i64 (idxF p l 0) ∧ σ' = σ) := by
  refine VCall.begin (rs := [.tmp 4]) (m := 17) 1000 Tryd.func65 rfl rfl rfl rfl rfl ?_
  simp only [go_sem, Nat.reduceAdd, Nat.reduceSub, Nat.reduceMul, Nat.reduceLeDiff, Nat.reduceEqDiff, Nat.reduceBEq]
  refine EvK.loopI (ι := {i : Nat // i ≤ l.length ∧ idxF p (l.drop i) i = idxF p l 0}) 1000 (fun i => mkT 19 [(0, .ps 9 (l.map Fo.toA)), (1, c), (7, .int .i64 l.length), (8, .int .i64 i.1)]) (fun _ => σ) (fun i => l.length - i.1) ⟨0, by simp⟩ ?_ (fun _ => Nat.le_refl _) ?_
  · simp only [go_sem, Nat.reduceAdd, Nat.reduceSub, Nat.reduceMul, Nat.reduceLeDiff, Nat.reduceEqDiff, Nat.reduceBEq, fos_low, List.length_map, hc, hs, Int.natCast_zero]
    exact leSo_refl σ
  · rintro ⟨i, hi, hpre⟩
    by_cases hlt : (i : Int) < l.length
    · have hlt' : i < l.length := by omega
      have hd : idxF p (l.drop i) i = if p l[i] then (i : Int) else idxF p (l.drop (i + 1)) ((i : Int) + 1) := by
        rw [List.drop_eq_getElem_cons hlt']; rfl
      simp only [go_sem, Nat.reduceAdd, Nat.reduceSub, Nat.reduceMul, Nat.reduceLeDiff, Nat.reduceEqDiff, Nat.reduceBEq, hlt, List.length_map, Int.toNat_natCast, map_getD hlt', fo_cells, Nat.le_refl]
      rw [← fo_eq]
      (repeat ((with_reducible refine And.intro ?_ ?_); · omega))
      refine (hp i hlt').mono ?_
      rintro r σ' ⟨rfl, rfl⟩
      refine EvK.go 1000 ?_
      cases e : p l[i] with
      | true =>
        rw [hd, e, if_pos rfl] at hpre
        simp only [go_sem, Nat.reduceAdd, Nat.reduceSub, Nat.reduceMul, Nat.reduceLeDiff, Nat.reduceEqDiff, Nat.reduceBEq]
        refine EvK.go 1000 ?_
        simp only [go_sem, Nat.reduceAdd, Nat.reduceSub, Nat.reduceMul, Nat.reduceLeDiff, Nat.reduceEqDiff, Nat.reduceBEq, ← hpre]
        rw [dK_eq]; exact ⟨σ', leSo_refl σ', Nat.le_refl _, hs, trivial, rfl, rfl⟩
      | false =>
        rw [hd, e, if_neg (by decide)] at hpre
        simp only [go_sem, Nat.reduceAdd, Nat.reduceSub, Nat.reduceMul, Nat.reduceLeDiff, Nat.reduceEqDiff, Nat.reduceBEq]
        refine ⟨⟨i + 1, hlt', hpre⟩, ?_, by simp only; omega⟩
        simp only [go_sem, Nat.reduceAdd, Nat.reduceSub, Nat.reduceMul, Nat.reduceLeDiff, Nat.reduceEqDiff, Nat.reduceBEq, fos_low, hc, hs]
        rw [i64_id (by omega)]; exact ⟨rfl, leSo_refl σ'⟩
    · have hi' : i = l.length := by omega
      subst hi'
      rw [List.drop_length] at hpre
      simp only [go_sem, Nat.reduceAdd, Nat.reduceSub, Nat.reduceMul, Nat.reduceLeDiff, Nat.reduceEqDiff, Nat.reduceBEq, hlt]
      refine EvK.go 1000 ?_
      simp only [go_sem, Nat.reduceAdd, Nat.reduceSub, Nat.reduceMul, Nat.reduceLeDiff, Nat.reduceEqDiff, Nat.reduceBEq, ← hpre]
      rw [dK_eq]; exact ⟨σ, leSo_refl σ, Nat.le_refl _, hs, trivial, rfl, rfl⟩

theorem ContainsForm_eq (σ : Store) (c : AVal) (p : Fo → Bool) (l : List Fo) (hl : l.length < 2 ^ 62) (hs : lowSo σ.length σ) (hc : c.low σ.length)
    (hp : ∀ (i : Nat) (h : i < l.length), VCall Tryd.prog c [l[i].toA] σ (fun r σ' => r = .bool (p l[i]) ∧ σ' = σ)) :
    VCall Tryd.prog (.fn 48 [] []) [.ps 9 (l.map Fo.toA), c] σ (fun r σ' => r = .bool (l.any p) ∧ σ' = σ) := by
  refine VCall.begin (rs := [.tmp 4]) (m := 7) 1000 Tryd.func48 rfl rfl rfl rfl rfl ?_
  simp only [go_sem, Nat.reduceAdd, Nat.reduceSub, Nat.reduceMul, Nat.reduceLeDiff, Nat.reduceEqDiff, Nat.reduceBEq]
  refine (IndexForm_eq σ c p l hl hs hc hp).mono ?_
  rintro r σ' ⟨rfl, rfl⟩
  refine EvK.go 1000 ?_
  simp only [go_sem, Nat.reduceAdd, Nat.reduceSub, Nat.reduceMul, Nat.reduceLeDiff, Nat.reduceEqDiff, Nat.reduceBEq]
  rw [dK_eq, idxF_any p l 0 (by omega)]; exact ⟨σ', leSo_refl σ', Nat.le_refl _, hs, trivial, rfl, rfl⟩
theorem IndexInt_eq (l : List Int) (v : Int) (hl : l.length < 2 ^ 62) : CallEq Tryd.prog 76 [.ps 1 (ints l), .int .i64 v] (.int .i64 (idxF (fun x => decide (v = x)) l 0)) := by
  refine CallEq.begin (rs := [.tmp 4]) (m := 17) 1000 Tryd.func76 rfl rfl rfl (by decide) trivial ?_
  simp only [go_sem, Nat.reduceAdd, Nat.reduceSub, Nat.reduceMul, Nat.reduceLeDiff, Nat.reduceEqDiff, Nat.reduceBEq]
  refine EvK.loopI (ι := {i : Nat // i ≤ l.length ∧ idxF (fun x => decide (v = x)) (l.drop i) i = idxF (fun x => decide (v = x)) l 0}) 1000 (fun i => mkT 19 [(0, .ps 1 (ints l)), (1, .int .i64 v), (7, .int .i64 l.length), (8, .int .i64 i.1)]) (fun _ => []) (fun i => l.length - i.1) ⟨0, by simp⟩ ?_ (fun _ => Nat.zero_le _) ?_
  · simp only [go_sem, Nat.reduceAdd, Nat.reduceSub, Nat.reduceMul, Nat.reduceLeDiff, Nat.reduceEqDiff, Nat.reduceBEq, ints_low, ints_len, Int.natCast_zero]
  · rintro ⟨i, hi, hpre⟩
    by_cases hlt : (i : Int) < l.length
    · have hlt' : i < l.length := by omega
      have hd : idxF (fun x => decide (v = x)) (l.drop i) i = if decide (v = l[i]) = true then (i : Int) else idxF (fun x => decide (v = x)) (l.drop (i + 1)) ((i : Int) + 1) := by
        rw [List.drop_eq_getElem_cons hlt']; rfl
      by_cases e : v = l[i]
      · rw [hd, if_pos (by simp [← e])] at hpre
        simp only [go_sem, Nat.reduceAdd, Nat.reduceSub, Nat.reduceMul, Nat.reduceLeDiff, Nat.reduceEqDiff, Nat.reduceBEq, hlt, ints_len, Int.toNat_natCast, ints_get hlt', ← e]
        (repeat ((with_reducible refine And.intro ?_ ?_); · omega))
        refine EvK.go 1000 ?_
        simp only [go_sem, Nat.reduceAdd, Nat.reduceSub, Nat.reduceMul, Nat.reduceLeDiff, Nat.reduceEqDiff, Nat.reduceBEq]
        rw [hpre]
      · rw [hd, if_neg (by simp [e])] at hpre
        simp only [go_sem, Nat.reduceAdd, Nat.reduceSub, Nat.reduceMul, Nat.reduceLeDiff, Nat.reduceEqDiff, Nat.reduceBEq, hlt, ints_len, Int.toNat_natCast, ints_get hlt', e]
        (repeat ((with_reducible refine And.intro ?_ ?_); · omega))
        refine ⟨⟨i + 1, hlt', hpre⟩, ?_, by simp only; omega⟩
        simp only [go_sem, Nat.reduceAdd, Nat.reduceSub, Nat.reduceMul, Nat.reduceLeDiff, Nat.reduceEqDiff, Nat.reduceBEq, ints_low]
        rw [i64_id (by omega)]; trivial
    · have hi' : i = l.length := by omega
      subst hi'
      rw [List.drop_length] at hpre
      simp only [go_sem, Nat.reduceAdd, Nat.reduceSub, Nat.reduceMul, Nat.reduceLeDiff, Nat.reduceEqDiff, Nat.reduceBEq, hlt]
      refine EvK.go 1000 ?_
      simp only [go_sem, Nat.reduceAdd, Nat.reduceSub, Nat.reduceMul, Nat.reduceLeDiff, Nat.reduceEqDiff, Nat.reduceBEq, ← hpre]
      trivial

theorem ContainsInt_eq (l : List Int) (v : Int) (hl : l.length < 2 ^ 62) : CallEq Tryd.prog 66 [.ps 1 (ints l), .int .i64 v] (.bool (decide (v ∈ l))) := by
  refine CallEq.begin (rs := [.tmp 4]) (m := 7) 1000 Tryd.func66 rfl rfl rfl (by decide) trivial ?_
  simp only [go_sem, Nat.reduceAdd, Nat.reduceSub, Nat.reduceMul, Nat.reduceLeDiff, Nat.reduceEqDiff, Nat.reduceBEq]
  refine VCall.isoT [] (IndexInt_eq l v hl) (pTL_refl _ _ _) (by simp [go_sem, ints_low]) ?_; simp only [flatR, flatA, flatC, if_true]; refine EvK.go 1000 ?_
  simp only [go_sem, Nat.reduceAdd, Nat.reduceSub, Nat.reduceMul, Nat.reduceLeDiff, Nat.reduceEqDiff, Nat.reduceBEq, idxF_any _ l 0 (Int.le_refl 0)]
  congr 1
  rw [Bool.eq_iff_iff]; simp


mutual
/-- What is denied has a part. -/
def Fo.good : Fo → Prop
  | .mk k _ _ _ ps => (k = 2 → ps ≠ []) ∧ Fo.goods ps
def Fo.goods : List Fo → Prop
  | [] => True
  | f :: l => f.good ∧ Fo.goods l
end
theorem goods_get : ∀ (l : List Fo) (i : Nat) (h : i < l.length), Fo.goods l → l[i].good
  | f :: l, 0, _, h => h.1
  | f :: l, i + 1, hi, h => goods_get l i (by simpa using hi) h.2
mutual
def Fo.lit : Fo → Bool
  | .mk k _ _ _ ps => if k = 2 then Fo.lit1 ps else decide (k ∈ [0, 1, 9, 10])
def Fo.lit1 : List Fo → Bool
  | [] => false
  | p :: _ => p.lit
end
mutual
def Fo.cla : Fo → Bool
  | .mk k l r n ps => if k = 4 then Fo.clas ps else (Fo.mk k l r n ps).lit
def Fo.clas : List Fo → Bool
  | [] => true
  | p :: ps => p.cla && Fo.clas ps
end
theorem clas_any : ∀ l : List Fo, (!l.any fun p => !p.cla) = Fo.clas l
  | [] => rfl
  | p :: l => by rw [List.any_cons, Fo.clas, ← clas_any l]; cases p.cla <;> simp

theorem Literal_eq (f : Fo) (hg : f.good) (hsz : f.size < 10000000) : CallEq Tryd.prog 50 [f.toA] (.bool f.lit) := by
  refine CallEq.beginK (rs := [.tmp 2]) (m := 13) Tryd.func50 rfl rfl rfl (by decide) trivial ?_
  have hc := fo_cells f
  have fe := fo_eq f
  generalize f.toA = fA at hc fe
  refine EvK.go 1000 ?_
  simp only [go_sem, Nat.reduceAdd, Nat.reduceSub, Nat.reduceMul, Nat.reduceLeDiff, Nat.reduceEqDiff, Nat.reduceBEq, hc, Nat.le_refl]
  refine EvK.loopI (ι := {p : Fo // p.lit = f.lit ∧ p.good ∧ p.size ≤ f.size}) 1000 (fun _ => mkT 14 [(1, .ptr 0 0), (2, .bool false)]) (fun p => [some (.var p.1.toA.cells)]) (fun p => p.1.size) ⟨f, rfl, hg, Nat.le_refl _⟩ ?_ (fun _ => Nat.zero_le _) ?_
  · simp only [go_sem, Nat.reduceAdd, Nat.reduceSub, Nat.reduceMul, Nat.reduceLeDiff, Nat.reduceEqDiff, Nat.reduceBEq, fo_cells, wds_low, strs_low, fos_low]
    exact Nat.one_pos
  · rintro ⟨⟨k, lw, rw_, names, ps⟩, hp, hgp, hps⟩
    have hck : (Fo.mk k lw rw_ names ps).toA.cells = [.int .i64 k, .bool lw.var, .str lw.name, .ps 3 (lw.args.map Wd.toA), .bool rw_.var, .str rw_.name, .ps 3 (rw_.args.map Wd.toA), .ps 1 (strs names), .ps 9 (ps.map Fo.toA)] := by rw [fo_cells]; rfl
    simp only [hck]
    by_cases c : k = 2
    · subst c
      cases ps with
      | nil => exact absurd rfl (hgp.1 rfl)
      | cons q ps =>
        have hall : (List.take 9 q.toA.cells).all AVal.isCell = true := by rw [fo_cells]; rfl
        have hlen : q.toA.cells.length = 9 := by rw [fo_cells]; rfl
        have htk : List.take 9 q.toA.cells = q.toA.cells := List.take_of_length_le (by omega)
        have hsm : ∀ cs, cs.length = 9 → setMany cs 0 q.toA.cells = q.toA.cells := fun cs hcs => by
          obtain ⟨a0, a1, a2, a3, a4, a5, a6, a7, a8, rfl⟩ : ∃ a0 a1 a2 a3 a4 a5 a6 a7 a8, cs = [a0, a1, a2, a3, a4, a5, a6, a7, a8] := by
            match cs, hcs with
            | [a0, a1, a2, a3, a4, a5, a6, a7, a8], _ => exact ⟨a0, a1, a2, a3, a4, a5, a6, a7, a8, rfl⟩
          rw [fo_cells]; rfl
        simp only [go_sem, Nat.reduceAdd, Nat.reduceSub, Nat.reduceMul, Nat.reduceLeDiff, Nat.reduceEqDiff, Nat.reduceBEq, List.map_cons, List.getD_cons_zero]
        refine ⟨⟨Int.le_refl 0, by omega⟩, by omega, ⟨by rw [htk]; exact hlen, hall⟩, ⟨q, ?_, hgp.2.1, ?_⟩, ?_⟩
        · rw [← hp]; simp only [Fo.lit, if_true, Fo.lit1]
        · simp only [Fo.size, Fo.sizes] at hps; omega
        · refine ⟨⟨?_, Nat.one_pos, ?_⟩, ?_⟩
          · rw [htk, hsm _ rfl]
          · rw [fo_cells]; exact ⟨trivial, trivial, trivial, wds_low _, trivial, trivial, wds_low _, strs_low _, fos_low _, trivial⟩
          · simp only [Fo.size, Fo.sizes]; omega
    · simp only [go_sem, Nat.reduceAdd, Nat.reduceSub, Nat.reduceMul, Nat.reduceLeDiff, Nat.reduceEqDiff, Nat.reduceBEq, c]
      refine EvK.go 1000 ?_
      simp only [go_sem, Nat.reduceAdd, Nat.reduceSub, Nat.reduceMul, Nat.reduceLeDiff, Nat.reduceEqDiff, Nat.reduceBEq]
      refine ⟨Nat.one_pos, ?_⟩
      have hpt : pT (among [1]) [some (.var [.int .i64 k, .bool lw.var, .str lw.name, .ps 3 (lw.args.map Wd.toA), .bool rw_.var, .str rw_.name, .ps 3 (rw_.args.map Wd.toA), .ps 1 (strs names), .ps 9 (ps.map Fo.toA)]), some (.row [.int .i64 0, .int .i64 1, .int .i64 9, .int .i64 10] 0)] (.ps 1 (ints [0, 1, 9, 10])) (.os 1 0 4 1) := of_eq_true (pT_slA rfl rfl)
      refine VCall.isoT [1] (ContainsInt_eq [0, 1, 9, 10] k (by decide)) ⟨hpt, rfl, rfl⟩ ⟨ints_low _, trivial, trivial⟩ ?_
      refine EvK.go 1000 ?_
      simp only [go_sem, Nat.reduceAdd, Nat.reduceSub, Nat.reduceMul, Nat.reduceLeDiff, Nat.reduceEqDiff, Nat.reduceBEq]
      rw [← hp, Fo.lit, if_neg c]
theorem Clause1_eq (f : Fo) (h : CallEq Tryd.prog 36 [f.toA] (.bool f.cla)) : CallEq Tryd.prog 49 [f.toA] (.bool !f.cla) := by
  refine CallEq.beginK (rs := [.tmp 2]) (m := 5) Tryd.func49 rfl rfl rfl (by decide) trivial ?_
  have hc := fo_cells f
  have fe := fo_eq f
  have fl := fo_low0 f
  generalize f.toA = fA at hc fe h fl
  refine EvK.go 1000 ?_
  simp only [go_sem, Nat.reduceAdd, Nat.reduceSub, Nat.reduceMul, Nat.reduceLeDiff, Nat.reduceEqDiff, Nat.reduceBEq, hc, Nat.le_refl]
  rw [← fe]
  refine VCall.isoT [] h (pTL_refl _ _ _) ⟨fl, trivial⟩ ?_
  rw [frzI_nil]
  refine EvK.go 1000 ?_
  simp only [go_sem, Nat.reduceAdd, Nat.reduceSub, Nat.reduceMul, Nat.reduceLeDiff, Nat.reduceEqDiff, Nat.reduceBEq]
theorem Clause_eq : ∀ f : Fo, f.good → f.size < 10000000 → CallEq Tryd.prog 36 [f.toA] (.bool f.cla) := by
  refine Fo.rec_parts ?_
  intro k lw rw_ names ps ih hg hsz
  refine CallEq.beginK (rs := [.tmp 2]) (m := 11) Tryd.func36 rfl rfl rfl (by decide) trivial ?_
  have hc : (Fo.mk k lw rw_ names ps).toA.cells = [.int .i64 k, .bool lw.var, .str lw.name, .ps 3 (lw.args.map Wd.toA), .bool rw_.var, .str rw_.name, .ps 3 (rw_.args.map Wd.toA), .ps 1 (strs names), .ps 9 (ps.map Fo.toA)] := by rw [fo_cells]; rfl
  have fe := fo_eq (Fo.mk k lw rw_ names ps)
  have fl := fo_low0 (Fo.mk k lw rw_ names ps)
  have hlt := Literal_eq (Fo.mk k lw rw_ names ps) (by simpa only [Fo.good] using hg) (by simpa only [Fo.size] using hsz)
  simp only [Fo.good] at hg
  simp only [Fo.size] at hsz
  have hlp := flen_le ps
  simp only [Fo.kind, Fo.l, Fo.r, Fo.names, Fo.parts] at fe
  generalize hfA : (Fo.mk k lw rw_ names ps).toA = fA at hc fe fl hlt
  refine EvK.go 1000 ?_
  simp only [go_sem, Nat.reduceAdd, Nat.reduceSub, Nat.reduceMul, Nat.reduceLeDiff, Nat.reduceEqDiff, Nat.reduceBEq, hc, Nat.le_refl]
  by_cases c : k = 4
  · have hcl : (Fo.mk k lw rw_ names ps).cla = Fo.clas ps := by rw [Fo.cla, if_pos c]
    rw [hcl, ← clas_any]
    simp only [go_sem, Nat.reduceAdd, Nat.reduceSub, Nat.reduceMul, Nat.reduceLeDiff, Nat.reduceEqDiff, Nat.reduceBEq, c]
    refine (ContainsForm_eq _ _ (fun p => !p.cla) ps (by omega) ?_ ?_ ?_).mono ?_
    · exact ⟨⟨trivial, trivial, trivial, wds_low _, trivial, trivial, wds_low _, strs_low _, fos_low _, trivial⟩, trivial⟩
    · exact ⟨trivial, trivial⟩
    · intro i h
      refine VCall.isoT [] (Clause1_eq ps[i] (ih i h (goods_get _ _ h hg.2) ?_)) (pTL_refl _ _ _) ⟨fo_low0 _, trivial⟩ ?_
      · have := fsize_le ps i h; omega
      · rw [frzI_nil]; exact ⟨rfl, rfl⟩
    rintro r σ' ⟨rfl, rfl⟩
    refine EvK.go 1000 ?_
    simp only [go_sem, Nat.reduceAdd, Nat.reduceSub, Nat.reduceMul, Nat.reduceLeDiff, Nat.reduceEqDiff, Nat.reduceBEq]
  · have hcl : (Fo.mk k lw rw_ names ps).cla = (Fo.mk k lw rw_ names ps).lit := by rw [Fo.cla, if_neg c]
    rw [hcl]
    simp only [go_sem, Nat.reduceAdd, Nat.reduceSub, Nat.reduceMul, Nat.reduceLeDiff, Nat.reduceEqDiff, Nat.reduceBEq, c]
    rw [← fe]
    refine VCall.isoT [] hlt (pTL_refl _ _ _) ⟨fl, trivial⟩ ?_
    rw [frzI_nil]
    refine EvK.go 1000 ?_
    simp only [go_sem, Nat.reduceAdd, Nat.reduceSub, Nat.reduceMul, Nat.reduceLeDiff, Nat.reduceEqDiff, Nat.reduceBEq]
end Go.Proofs

/- A parsed formula is not large, and what is denied has a part. -/
set_option linter.unusedSimpArgs false
namespace Go.Proofs
open Go Go.Abs

theorem wsizes_app : ∀ (a b : List Wd), Wd.sizes (a ++ b) = Wd.sizes a + Wd.sizes b
  | [], b => by simp [Wd.sizes]
  | w :: a, b => by simp only [List.cons_append, Wd.sizes, wsizes_app a b]; omega
theorem fsizes_app : ∀ (a b : List Fo), Fo.sizes (a ++ b) = Fo.sizes a + Fo.sizes b
  | [], b => by simp [Fo.sizes]
  | w :: a, b => by simp only [List.cons_append, Fo.sizes, fsizes_app a b]; omega
theorem goods_app : ∀ (a b : List Fo), Fo.goods a → Fo.goods b → Fo.goods (a ++ b)
  | [], b, _, h => h
  | w :: a, b, h, h' => ⟨h.1, goods_app a b h.2 h'⟩
theorem tail_of_name {E k : Int} {l l' : List Tok} {x : By} (h : nameP E k l = .ok (x, l')) : l'.length + 1 = l.length := by
  obtain ⟨_, h2, _, rfl⟩ := name_ok h
  cases l with
  | nil => exact absurd rfl h2
  | cons t l => rfl
theorem tail_of_sign {E : Int} {sg : By} {l l' : List Tok} {x : Unit} (h : signP E sg l = .ok (x, l')) : l'.length + 1 = l.length := by
  obtain ⟨h1, rfl⟩ := sign_ok h
  exact is_len h1

theorem more_inv {α : Type} {sg : By} {u : List Tok → PR α} (I : List α → Nat → Prop) (hI : ∀ a n m, I a n → m ≤ n → I a m) (hu : ∀ l x l' acc, u l = .ok (x, l') → I acc (l.length + 1) → I (acc ++ [x]) l'.length) : ∀ (k : Nat) (acc : List α) (l : List Tok) (r : List α) (l' : List Tok), moreP sg u k acc l = .ok (r, l') → I acc l.length → I r l'.length
  | 0, acc, l, r, l', h, h0 => by cases h; exact h0
  | k + 1, acc, l, r, l', h, h0 => by
    simp only [moreP] at h
    split at h
    · rename_i c
      obtain ⟨a, l1, h1, h2⟩ := bind_inv h
      have h3 := hu _ _ _ acc h1 (by rw [is_len c]; exact h0)
      exact more_inv I hI hu k _ _ _ _ h2 h3
    · cases h; exact h0

theorem term_size {E : Int} : ∀ (n : Nat) (l : List Tok) (a : Wd) (l' : List Tok), termP E n l = .ok (a, l') → a.size + l'.length ≤ l.length
  | 0, l, a, l', h => by cases h
  | n + 1, l, a, l', h => by
    simp only [termP, termF] at h
    split at h
    · obtain ⟨x, l1, h1, h2⟩ := bind_inv h
      have := tail_of_name h1
      cases h2
      simp only [Wd.size, Wd.sizes]; omega
    · obtain ⟨x, l1, h1, h2⟩ := bind_inv h
      have e1 := tail_of_name h1
      split at h2
      · rename_i c
        have e2 := is_len c
        obtain ⟨a1, l2, h3, h4⟩ := bind_inv h2
        have e3 := term_size n _ _ _ h3
        obtain ⟨ws, l3, h5, h6⟩ := bind_inv h4
        have e5 := more_inv (I := fun ws m => Wd.sizes ws + m + 2 ≤ l.length) (fun _ _ _ h h' => by omega) (fun l x l' acc hx h => by
          have := term_size n _ _ _ hx
          rw [wsizes_app]; simp only [Wd.sizes]; omega) _ _ _ _ _ h5 (by simp only [Wd.sizes]; omega)
        obtain ⟨_, l4, h7, h8⟩ := bind_inv h6
        have e7 := tail_of_sign h7
        cases h8
        simp only [Wd.size]; omega
      · cases h2
        simp only [Wd.size, Wd.sizes]; omega

theorem good_mk {k : Int} {l r : Wd} {n : List ByteArray} {ps : List Fo} (h1 : k = 2 → ps ≠ []) (h2 : Fo.goods ps) : (Fo.mk k l r n ps).good := by
  rw [Fo.good]; exact ⟨h1, h2⟩
theorem goods_mk {p : Fo} {ps : List Fo} (h1 : p.good) (h2 : Fo.goods ps) : Fo.goods (p :: ps) := by
  rw [Fo.goods]; exact ⟨h1, h2⟩
theorem goods_nil : Fo.goods [] := by rw [Fo.goods]; trivial
def Fine (f : Fo) (n m : Nat) : Prop := f.good ∧ f.size + 6 * n ≤ 6 * m
theorem fine_not {f : Fo} {n m : Nat} (h : f.good ∧ f.size + 3 + 6 * n ≤ 6 * m) : Fine (notF f) n m :=
  ⟨good_mk (fun _ => by simp) (goods_mk h.1 goods_nil), by simp only [notF, Fo.size, Fo.sizes, wdZ, Wd.size, Wd.sizes, List.length_nil]; omega⟩
theorem fine_two {k : Int} {f g : Fo} {n m : Nat} (hf : f.good) (hg : g.good) (h : f.size + g.size + 3 + 6 * n ≤ 6 * m) : Fine (twoF k f g) n m :=
  ⟨good_mk (fun _ => by simp) (goods_mk hf (goods_mk hg goods_nil)), by simp only [twoF, Fo.size, Fo.sizes, wdZ, Wd.size, Wd.sizes, List.length_nil]; omega⟩
theorem atom_fine {E : Int} {n : Nat} {l l' : List Tok} {f : Fo} (h : atomP E n l = .ok (f, l')) : Fine f l'.length l.length := by
  unfold atomP at h
  split at h
  · rename_i hk
    have e : l.tail.length + 1 = l.length := by
      cases l with
      | nil => cases hk
      | cons t l => rfl
    unfold systemP at h
    split at h
    · cases h; exact ⟨good_mk (fun h => absurd h (by decide)) goods_nil, by simp only [Fo.size, Fo.sizes, wdZ, Wd.size, Wd.sizes, List.length_nil]; omega⟩
    · split at h
      · cases h; exact ⟨good_mk (fun h => absurd h (by decide)) goods_nil, by simp only [Fo.size, Fo.sizes, wdZ, Wd.size, Wd.sizes, List.length_nil]; omega⟩
      · cases h
  · obtain ⟨a, l1, h1, h2⟩ := bind_inv h
    have e1 := term_size _ _ _ _ h1
    have ea : 1 ≤ a.size := by cases a; simp only [Wd.size]; omega
    split at h2
    · rename_i c
      have e2 := is_len c
      obtain ⟨b, l2, h3, h4⟩ := bind_inv h2
      have e3 := term_size _ _ _ _ h3
      cases h4
      exact ⟨good_mk (fun h => absurd h (by decide)) goods_nil, by simp only [Fo.size, Fo.sizes, List.length_nil]; omega⟩
    · split at h2
      · rename_i c
        have e2 := is_len c
        obtain ⟨b, l2, h3, h4⟩ := bind_inv h2
        have e3 := term_size _ _ _ _ h3
        cases h4
        exact fine_not ⟨good_mk (fun h => absurd h (by decide)) goods_nil, by simp only [Fo.size, Fo.sizes, List.length_nil]; omega⟩
      · split at h2
        · cases h2
        · cases h2; exact ⟨good_mk (fun h => absurd h (by decide)) goods_nil, by simp only [Fo.size, Fo.sizes, wdZ, Wd.size, Wd.sizes, List.length_nil]; omega⟩
section
variable {E : Int} {u : List Tok → PR Fo} (hu : ∀ l x l', u l = .ok (x, l') → Fine x l'.length l.length)
include hu
theorem bound_fine {k : Int} (hk : k ≠ 2) {l l' : List Tok} {f : Fo} (h : boundP E u k l = .ok (f, l')) : Fine f l'.length l.length := by
  unfold boundP at h
  obtain ⟨_, l1, h1, h⟩ := bind_inv h
  obtain ⟨v, l2, h2, h⟩ := bind_inv h
  obtain ⟨vs, l3, h3, h⟩ := bind_inv h
  obtain ⟨_, l4, h4, h⟩ := bind_inv h
  obtain ⟨_, l5, h5, h⟩ := bind_inv h
  obtain ⟨g, l6, h6, h⟩ := bind_inv h
  have e1 := tail_of_sign h1
  have e2 := tail_of_name h2
  have e3 := more_inv (I := fun ws m => ws.length + m + 1 ≤ l.length) (fun _ _ _ h h' => by omega) (fun l x l' acc hx h => by
    have := tail_of_name hx
    rw [List.length_append, List.length_singleton]; omega) _ _ _ _ _ h3 (by simp only [List.length_singleton]; omega)
  have e4 := tail_of_sign h4
  have e5 := tail_of_sign h5
  have e6 := hu _ _ _ h6
  cases h
  refine ⟨good_mk (fun h => absurd h hk) (goods_mk e6.1 goods_nil), ?_⟩
  have := e6.2
  simp only [Fo.size, Fo.sizes, wdZ, Wd.size, Wd.sizes, List.length_map]; omega
theorem chain_fine {sg : By} {k : Int} (hk : k ≠ 2) {a : Fo} {l l' : List Tok} {f : Fo} {m : Nat} (ha : Fine a l.length m) (hi : isP sg l = true) (h : chainP u sg k a l = .ok (f, l')) : Fine f l'.length m := by
  unfold chainP at h
  obtain ⟨fs, l1, h1, h⟩ := bind_inv h
  cases h
  have e0 := is_len hi
  have hl : l.length = (l.length - 1) + 1 := by omega
  rw [hl, more_go hi] at h1
  obtain ⟨b, l2, h2, h3⟩ := bind_inv h1
  have e2 := hu _ _ _ h2
  have e3 := more_inv (I := fun fs n => Fo.goods fs ∧ Fo.sizes fs + 6 * n + 6 ≤ 6 * m) (fun _ _ _ h h' => ⟨h.1, by have := h.2; omega⟩) (fun l x l' acc hx h => by
    have := hu _ _ _ hx
    refine ⟨goods_app _ _ h.1 (goods_mk this.1 goods_nil), ?_⟩
    have q1 := this.2
    have q2 := h.2
    rw [fsizes_app]; simp only [Fo.sizes]; omega) _ _ _ _ _ h3 ⟨goods_app _ _ (goods_mk ha.1 goods_nil) (goods_mk e2.1 goods_nil), by
      have q1 := ha.2
      have q2 := e2.2
      simp only [List.singleton_append, Fo.sizes]; omega⟩
  refine ⟨good_mk (fun h => absurd h hk) e3.1, ?_⟩
  have := e3.2
  simp only [Fo.size, wdZ, Wd.size, Wd.sizes, List.length_nil]; omega
theorem formula_fine {l l' : List Tok} {f : Fo} (h : formulaP u l = .ok (f, l')) : Fine f l'.length l.length := by
  unfold formulaP at h
  obtain ⟨a, l1, h1, h⟩ := bind_inv h
  have e1 := hu _ _ _ h1
  have two : ∀ {sg : By} {g : Fo → Fo}, isP sg l1 = true → (∀ b n m, b.good → a.size + b.size + 6 * n + 6 ≤ 6 * m → Fine (g b) n m) → (PR.bind (u l1.tail) fun b l => .ok (g b, l)) = .ok (f, l') → Fine f l'.length l.length := fun hi hg h => by
    obtain ⟨b, l2, h2, h⟩ := bind_inv h
    have e2 := hu _ _ _ h2
    have e0 := is_len hi
    cases h
    have q1 := e1.2
    have q2 := e2.2
    exact hg b _ _ e2.1 (by omega)
  split at h
  · rename_i c; exact chain_fine hu (by decide) e1 c h
  · split at h
    · rename_i c; exact chain_fine hu (by decide) e1 c h
    · split at h
      · rename_i c; exact two c (fun b n m hb hs => fine_two e1.1 hb (by omega)) h
      · split at h
        · rename_i c; exact two c (fun b n m hb hs => fine_two hb e1.1 (by omega)) h
        · split at h
          · rename_i c; exact two c (fun b n m hb hs => fine_two e1.1 hb (by omega)) h
          · split at h
            · rename_i c
              refine two c (fun b n m hb hs => fine_not ⟨(fine_two (n := 0) (m := a.size + b.size + 3) e1.1 hb (by omega)).1, ?_⟩) h
              simp only [twoF, Fo.size, Fo.sizes, wdZ, Wd.size, Wd.sizes, List.length_nil]; omega
            · cases h; exact e1
theorem unaryF_fine {n : Nat} {l l' : List Tok} {f : Fo} (h : unaryF E n u l = .ok (f, l')) : Fine f l'.length l.length := by
  unfold unaryF at h
  split at h
  · rename_i c
    have e0 := is_len c
    obtain ⟨b, l2, h2, h⟩ := bind_inv h
    have e2 := hu _ _ _ h2
    cases h
    have := e2.2
    exact fine_not ⟨e2.1, by omega⟩
  · split at h
    · rename_i c
      have e0 := is_len c
      have := bound_fine hu (by decide) h
      exact ⟨this.1, by have := this.2; omega⟩
    · split at h
      · rename_i c
        have e0 := is_len c
        have := bound_fine hu (by decide) h
        exact ⟨this.1, by have := this.2; omega⟩
      · split at h
        · rename_i c
          have e0 := is_len c
          unfold bracketsP at h
          obtain ⟨b, l2, h2, h⟩ := bind_inv h
          obtain ⟨_, l3, h3, h⟩ := bind_inv h
          have e2 := formula_fine hu h2
          have e3 := tail_of_sign h3
          cases h
          exact ⟨e2.1, by have := e2.2; omega⟩
        · exact atom_fine h
end
theorem unary_fine {E : Int} : ∀ (n : Nat) (l : List Tok) (f : Fo) (l' : List Tok), unaryP E n l = .ok (f, l') → Fine f l'.length l.length
  | 0, l, f, l', h => by cases h
  | n + 1, l, f, l', h => unaryF_fine (unary_fine n) h
end Go.Proofs
