/- Part 45 of my own framework and of the walks of functions: Lr, Ml, Mn, Mo, Lo, Lp, Lq. -/
import Derived.Test.YtpiddadahanpgaaDoorOwn44
import Derived.Test.YtpiddadahanpgaaDoorRows
import Derived.Test.YtpiddadahanpgaaDoorCards
import Derived.Test.YtpiddadahanpgaaDoorTie
import Derived.WalkKit
import Derived.ProofKit
import Derived.OpenShut
import Derived.ShutString
import Derived.Below
import Derived.SizedLaws
import Derived.Deep.DeepHandedRow
import Derived.Lib.LaidTab
import Derived.Shelf.Vars
set_option linter.unusedVariables false
set_option linter.unusedSimpArgs false

/- What the rows of Lex share: the laid tables, strings and integers as arguments. -/
namespace Go.Proofs.YtpiddadahanpgaaDoor.lexRows
open Go.Proofs Go.ChangeShapes Go.WideShapes Go.ChangeAt Go.RowKit
open Go.Abs (TyV closedOk args_tree args_below noM noB Glob)

theorem own : ownKnob Tryd.prog.godebug = none := by kernel_rfl
theorem laidOut : laidOutB Tryd.prog = true := by kernel_rfl
theorem closed : closedOk Tryd.prog [9, 3] = true := by kernel_rfl

def firstCells : Array Value := (Go.Pinned.utf8FirstZ.map fun (z : Nat) => Value.int .u8 (z : Int)).toArray
def rangeCells : Array Value := #[.int .u8 128, .int .u8 191, .int .u8 160, .int .u8 191, .int .u8 128, .int .u8 159, .int .u8 144, .int .u8 191, .int .u8 128, .int .u8 143, .int .u8 0, .int .u8 0, .int .u8 0, .int .u8 0, .int .u8 0, .int .u8 0, .int .u8 0, .int .u8 0, .int .u8 0, .int .u8 0, .int .u8 0, .int .u8 0, .int .u8 0, .int .u8 0, .int .u8 0, .int .u8 0, .int .u8 0, .int .u8 0, .int .u8 0, .int .u8 0, .int .u8 0, .int .u8 0]
def setCells (cs : Array Value) : Obj → Obj
  | .cells _ t frozen => .cells cs t frozen
  | o => o
/-- A world that holds the tables. -/
noncomputable def laidWorld (os : Os) : World :=
  { World.holding Tryd.prog os ⟨#[], #[], []⟩ with heap := Array.modify (Array.modify (World.holding Tryd.prog os ⟨#[], #[], []⟩).heap 1 (setCells firstCells)) 2 (setCells rangeCells) }
theorem laid_met2 (os : Os) : laidMet Tryd.prog Rows.lexDoesRow.laid ((laidWorld os).forCall (fun _ _ => 0) ⟨#[], #[.string .empty, .int .i64 0], []⟩).memory :=
  laidMet_of_run' 8 (by kernel_rfl) (by kernel_rfl)
theorem laid_met1 (os : Os) : laidMet Tryd.prog Rows.lexDoesRow.laid ((laidWorld os).forCall (fun _ _ => 0) ⟨#[], #[.string .empty], []⟩).memory :=
  laidMet_of_run' 8 (by kernel_rfl) (by kernel_rfl)
theorem glob {W : World} (h : W.ShapedOpen Tryd.prog) : Glob W.heap.size W := by
  intro x hx
  simp only [Go.Abs.glCells, List.mem_cons, List.not_mem_nil, or_false] at hx
  subst hx
  obtain ⟨m, hm⟩ := cell_of_shapedOpen_int (P := Tryd.prog) (g := 0) (t := 3) (zero := #[.int .i64 0]) (k := .i64) h (of_decide_eq_true (by kernel_rfl)) (by kernel_rfl) rfl (by kernel_rfl) (by kernel_rfl) Tryd.underlying3
  refine ⟨?_, .int .i64 m, hm, m, rfl⟩
  exact Go.Abs.block_lt hm
theorem str_arg {a : Go.Abs.AVal} (h : TyV Tryd.prog 9 a) : ∃ s, a = .str s := by
  obtain ⟨h1, n, h2⟩ := h
  obtain ⟨s, h3, _⟩ := Go.Abs.TyT_str (by kernel_rfl) h2
  exact ⟨s, Go.Abs.lone_cells (h1.trans (by kernel_rfl)) h3⟩
theorem int_arg {a : Go.Abs.AVal} (h : TyV Tryd.prog 3 a) : ∃ i, a = .int .i64 i := by
  obtain ⟨h1, n, h2⟩ := h
  obtain ⟨i, h3, _⟩ := Go.Abs.TyT_int (by kernel_rfl) h2
  exact ⟨i, Go.Abs.lone_cells (h1.trans (by kernel_rfl)) h3⟩
end Go.Proofs.YtpiddadahanpgaaDoor.lexRows

/- Texts cut into tokens: what a text says when it is cut at a token or white is put there. -/
set_option linter.unusedSimpArgs false
namespace Go.Proofs
open Go Go.Abs

def tokB (l : By) : Option (Int × By × Nat) :=
  if 0 < (nameB l).2.2 then (if 64 < (nameB l).2.1.length then none else some (nameB l))
  else match signL.find? (·.isPrefixOf l) with
    | some x => some (3, x, x.length)
    | none => none
theorem sign_find {l x : By} (h : signL.find? (·.isPrefixOf l) = some x) : x <+: l ∧ 1 ≤ x.length ∧ x ∈ signL := by
  have hx := List.find?_some h
  have hm := List.mem_of_find?_eq_some h
  have h3 : ∀ x ∈ signL, 1 ≤ x.length := by decide
  exact ⟨List.isPrefixOf_iff_prefix.1 hx, h3 _ hm, hm⟩
theorem tok_name {l : By} (h1 : 0 < (nameB l).2.2) (h2 : ¬ 64 < (nameB l).2.1.length) : tokB l = some (nameB l) := by
  rw [tokB, if_pos h1, if_neg h2]
theorem tok_long {l : By} (h1 : 0 < (nameB l).2.2) (h2 : 64 < (nameB l).2.1.length) : tokB l = none := by
  rw [tokB, if_pos h1, if_pos h2]
theorem tok_sign {l x : By} (h1 : ¬ 0 < (nameB l).2.2) (h2 : signL.find? (·.isPrefixOf l) = some x) : tokB l = some (3, x, x.length) := by
  rw [tokB, if_neg h1, h2]
theorem tok_none {l : By} (h1 : ¬ 0 < (nameB l).2.2) (h2 : signL.find? (·.isPrefixOf l) = none) : tokB l = none := by
  rw [tokB, if_neg h1, h2]
theorem tok_cases {l : By} {x : Int × By × Nat} (h : tokB l = some x) : (0 < (nameB l).2.2 ∧ ¬ 64 < (nameB l).2.1.length ∧ x = nameB l) ∨ (¬ 0 < (nameB l).2.2 ∧ ∃ u, signL.find? (·.isPrefixOf l) = some u ∧ x = (3, u, u.length)) := by
  by_cases h1 : 0 < (nameB l).2.2
  · by_cases h2 : 64 < (nameB l).2.1.length
    · rw [tok_long h1 h2] at h; cases h
    · rw [tok_name h1 h2] at h; cases h; exact .inl ⟨h1, h2, rfl⟩
  · cases h2 : signL.find? (·.isPrefixOf l) with
    | none => rw [tok_none h1 h2] at h; cases h
    | some u => rw [tok_sign h1 h2] at h; cases h; exact .inr ⟨h1, u, rfl, rfl⟩
theorem tok_len {l : By} {x : Int × By × Nat} (h : tokB l = some x) : 1 ≤ x.2.2 ∧ x.2.2 ≤ l.length := by
  rcases tok_cases h with ⟨h1, _, rfl⟩ | ⟨_, u, h2, rfl⟩
  · exact ⟨h1, name_le l⟩
  · obtain ⟨g1, g2, _⟩ := sign_find h2
    exact ⟨g2, g1.length_le⟩
theorem tok_nil : tokB [] = none := rfl
theorem name_kind (l : By) : (nameB l).1 ≠ 4 := by
  cases l with
  | nil => decide
  | cons c r =>
    have k0 : (0 : Int) ≠ 4 := by decide
    have k1 : (1 : Int) ≠ 4 := by decide
    have k2 : (2 : Int) ≠ 4 := by decide
    simp only [nameB]
    split
    · split <;> exact k0
    · split
      · exact k0
      · split
        · exact k0
        · split
          · exact k1
          · split
            · exact k2
            · exact k0
theorem tok_kind {l : By} {x : Int × By × Nat} (h : tokB l = some x) : x.1 ≠ 4 := by
  rcases tok_cases h with ⟨_, _, rfl⟩ | ⟨_, u, _, rfl⟩
  · exact name_kind l
  · exact (by decide : (3 : Int) ≠ 4)
theorem tok_start {c : UInt8} {r : By} {x : Int × By × Nat} (h : tokB (c :: r) = some x) : isW c = false ∧ c ≠ 37 ∧ c ≠ 47 := by
  have k1 : tokB (32 :: r) = none := rfl
  have k2 : tokB (9 :: r) = none := rfl
  have k3 : tokB (10 :: r) = none := rfl
  have k4 : tokB (13 :: r) = none := rfl
  have k5 : tokB (37 :: r) = none := rfl
  have k6 : tokB (47 :: r) = none := rfl
  have n1 : c ≠ 32 := fun e => by rw [e, k1] at h; cases h
  have n2 : c ≠ 9 := fun e => by rw [e, k2] at h; cases h
  have n3 : c ≠ 10 := fun e => by rw [e, k3] at h; cases h
  have n4 : c ≠ 13 := fun e => by rw [e, k4] at h; cases h
  refine ⟨?_, fun e => (by rw [e, k5] at h; cases h), fun e => (by rw [e, k6] at h; cases h)⟩
  simp [isW, n1, n2, n3, n4]
theorem skip_tok {l : By} {x : Int × By × Nat} (h : tokB l = some x) : skip l = l := by
  cases l with
  | nil => rfl
  | cons c r =>
    obtain ⟨h1, h2, h3⟩ := tok_start h
    exact skip_stop h1 h2 fun g => h3 g.1

/-! ### all tokens, each with what is left at it -/
def lexL : Nat → By → Option (List (Nat × Int × By))
  | 0, _ => none
  | k + 1, l => if skip l = [] then some [] else match tokB (skip l) with
    | none => none
    | some x => (lexL k ((skip l).drop x.2.2)).map (((skip l).length, x.1, x.2.1) :: ·)
theorem lexL_fuel : ∀ (n : Nat) (l : By) (k k' : Nat), l.length ≤ n → l.length < k → l.length < k' → lexL k l = lexL k' l
  | n, l, k + 1, k' + 1, h, h1, h2 => by
    simp only [lexL]
    by_cases hs : skip l = []
    · rw [if_pos hs, if_pos hs]
    · rw [if_neg hs, if_neg hs]
      cases ht : tokB (skip l) with
      | none => rfl
      | some x =>
        have hl := skip_len l
        obtain ⟨g1, g2⟩ := tok_len ht
        have hd : ((skip l).drop x.2.2).length < l.length := by rw [List.length_drop]; omega
        cases n with
        | zero => omega
        | succ n => simp only [lexL_fuel n ((skip l).drop x.2.2) k k' (by omega) (by omega) (by omega)]
def lex (l : By) : Option (List (Nat × Int × By)) := lexL (l.length + 1) l
theorem lex_end {l : By} (h : skip l = []) : lex l = some [] := by rw [lex, lexL, if_pos h]
theorem lex_bad {l : By} (h : skip l ≠ []) (ht : tokB (skip l) = none) : lex l = none := by rw [lex, lexL, if_neg h, ht]
theorem lex_tok {l : By} {x : Int × By × Nat} (ht : tokB (skip l) = some x) : lex l = (lex ((skip l).drop x.2.2)).map (((skip l).length, x.1, x.2.1) :: ·) := by
  have h : skip l ≠ [] := fun e => by rw [e, tok_nil] at ht; cases ht
  have hl := skip_len l
  obtain ⟨g1, g2⟩ := tok_len ht
  have hd : ((skip l).drop x.2.2).length < l.length := by rw [List.length_drop]; omega
  rw [lex, lexL, if_neg h, ht]
  simp only [lexL_fuel _ ((skip l).drop x.2.2) l.length (((skip l).drop x.2.2).length + 1) (Nat.le_refl _) hd (Nat.lt_succ_self _), lex]
theorem lex_skip {l l' : By} (h : skip l = skip l') : lex l = lex l' := by
  by_cases hs : skip l' = []
  · rw [lex_end hs, lex_end (h.trans hs)]
  · cases ht : tokB (skip l') with
    | none => rw [lex_bad hs ht, lex_bad (by rw [h]; exact hs) (by rw [h]; exact ht)]
    | some x => rw [lex_tok ht, lex_tok (l := l) (by rw [h]; exact ht), h]
theorem lex_le : ∀ (n : Nat) (l : By) (L : List (Nat × Int × By)), l.length ≤ n → lex l = some L → (∀ a ∈ L, a.1 ≤ l.length) ∧ L.Pairwise fun a b => b.1 < a.1
  | n, l, L, h, hL => by
    by_cases hs : skip l = []
    · rw [lex_end hs] at hL; cases hL; exact ⟨fun a ha => (by cases ha), .nil⟩
    · cases ht : tokB (skip l) with
      | none => rw [lex_bad hs ht] at hL; cases hL
      | some x =>
        rw [lex_tok ht] at hL
        cases hM : lex ((skip l).drop x.2.2) with
        | none => rw [hM] at hL; cases hL
        | some M =>
          rw [hM] at hL
          cases hL
          have hl := skip_len l
          obtain ⟨g1, g2⟩ := tok_len ht
          have hd : ((skip l).drop x.2.2).length = (skip l).length - x.2.2 := List.length_drop
          cases n with
          | zero => omega
          | succ n =>
            obtain ⟨i1, i2⟩ := lex_le n _ M (by omega) hM
            refine ⟨fun a ha => ?_, .cons (fun b hb => ?_) i2⟩
            · rcases List.mem_cons.1 ha with rfl | ha
              · exact hl
              · have := i1 a ha; omega
            · have := i1 b hb
              simp only; omega

theorem lex_pos : ∀ (n : Nat) (l : By) (L : List (Nat × Int × By)), l.length ≤ n → lex l = some L → ∀ a ∈ L, 1 ≤ a.1
  | n, l, L, h, hL => by
    by_cases hs : skip l = []
    · rw [lex_end hs] at hL; cases hL; exact fun a ha => (by cases ha)
    · cases ht : tokB (skip l) with
      | none => rw [lex_bad hs ht] at hL; cases hL
      | some x =>
        rw [lex_tok ht] at hL
        cases hM : lex ((skip l).drop x.2.2) with
        | none => rw [hM] at hL; cases hL
        | some M =>
          rw [hM] at hL
          cases hL
          have hl := skip_len l
          obtain ⟨g1, g2⟩ := tok_len ht
          have hd : ((skip l).drop x.2.2).length = (skip l).length - x.2.2 := List.length_drop
          cases n with
          | zero => omega
          | succ n =>
            intro a ha
            rcases List.mem_cons.1 ha with rfl | ha
            · simp only; omega
            · exact lex_pos n _ M (by omega) hM a ha

/-! ### what Next and All say -/
def tokAt (N : Nat) (a : Nat × Int × By) : Tok := ⟨a.2.1, (N : Int) - a.1, a.2.2⟩
theorem next_end {s : By} {i : Nat} (hi : i ≤ s.length) (h : skip (s.drop i) = []) : nextB s i = ((⟨4, (s.length : Int), []⟩, (s.length : Int), 0) : Tok × Int × Int) := by
  rw [nextB, if_neg (by omega), Int.toNat_natCast, if_pos h]
theorem next_tok {s : By} {i : Nat} (hi : i ≤ s.length) {x : Int × By × Nat} (h : tokB (skip (s.drop i)) = some x) :
    nextB s i = (⟨x.1, (s.length : Int) - (skip (s.drop i)).length, x.2.1⟩, (s.length : Int) - (skip (s.drop i)).length + x.2.2, 0) := by
  have hs : skip (s.drop i) ≠ [] := fun e => by rw [e, tok_nil] at h; cases h
  rw [nextB, if_neg (by omega), Int.toNat_natCast, if_neg hs]
  rcases tok_cases h with ⟨h1, h2, rfl⟩ | ⟨h1, u, h2, rfl⟩
  · rw [if_pos h1, if_neg h2]
  · rw [if_neg h1, h2]
theorem next_bad {s : By} {i : Nat} (hi : i ≤ s.length) (hs : skip (s.drop i) ≠ []) (h : tokB (skip (s.drop i)) = none) :
    (nextB s i).2.2 ≠ 0 ∧ 0 ≤ (nextB s i).2.1 ∧ (nextB s i).2.1 ≤ s.length := by
  have hl := skip_len (s.drop i)
  rw [List.length_drop] at hl
  rw [nextB, if_neg (by omega), Int.toNat_natCast, if_neg hs]
  by_cases h1 : 0 < (nameB (skip (s.drop i))).2.2
  · by_cases h2 : 64 < (nameB (skip (s.drop i))).2.1.length
    · rw [if_pos h1, if_pos h2]
      exact ⟨by simp, by simp only; omega, by simp only; omega⟩
    · rw [tok_name h1 h2] at h; cases h
  · cases h2 : signL.find? (·.isPrefixOf (skip (s.drop i))) with
    | some u => rw [tok_sign h1 h2] at h; cases h
    | none =>
      rw [if_neg h1]
      exact ⟨by simp, by simp only; omega, by simp only; omega⟩
theorem drop_skip {s : By} {i : Nat} (hi : i ≤ s.length) : s.drop (s.length - (skip (s.drop i)).length) = skip (s.drop i) := by
  obtain ⟨q, hq⟩ := skip_suffix _ (s.drop i) (Nat.le_refl _)
  have : s = (s.take i ++ q) ++ skip (s.drop i) := by rw [List.append_assoc, ← hq, List.take_append_drop]
  have h2 := suffix_drop this
  exact h2
theorem allF_lex (s : By) : ∀ (k i : Nat) (out : List Tok), i ≤ s.length → s.length - i < k →
    (lex (s.drop i) = none → ∃ p e : Int, e ≠ 0 ∧ 0 ≤ p ∧ p ≤ s.length ∧ allF s k i out = ([], p, e)) ∧
    ∀ L, lex (s.drop i) = some L → allF s k i out = (out ++ L.map (tokAt s.length), (s.length : Int), 0)
  | k + 1, i, out, hi, hk => by
    simp only [allF]
    by_cases hs : skip (s.drop i) = []
    · rw [lex_end hs, next_end hi hs]
      refine ⟨fun h => (by cases h), fun L hL => ?_⟩
      cases hL
      simp
    · cases ht : tokB (skip (s.drop i)) with
      | none =>
        obtain ⟨b1, b2, b3⟩ := next_bad hi hs ht
        rw [lex_bad hs ht, if_pos b1]
        exact ⟨fun _ => ⟨_, _, b1, b2, b3, rfl⟩, fun L hL => by cases hL⟩
      | some x =>
        have hl := skip_len (s.drop i)
        rw [List.length_drop] at hl
        obtain ⟨g1, g2⟩ := tok_len ht
        have hds := drop_skip hi
        have hn : (s.length : Int) - (skip (s.drop i)).length + x.2.2 = ((s.length - (skip (s.drop i)).length + x.2.2 : Nat) : Int) := by omega
        have ih := allF_lex s k (s.length - (skip (s.drop i)).length + x.2.2) (out ++ [⟨x.1, (s.length : Int) - (skip (s.drop i)).length, x.2.1⟩]) (by omega) (by omega)
        rw [← List.drop_drop, hds] at ih
        rw [lex_tok ht, next_tok hi ht]
        simp only
        rw [if_neg (by simp), if_neg (tok_kind ht), hn]
        refine ⟨fun h => ih.1 ?_, fun L hL => ?_⟩
        · cases hM : lex ((skip (s.drop i)).drop x.2.2) with
          | none => rfl
          | some M => rw [hM] at h; cases h
        · cases hM : lex ((skip (s.drop i)).drop x.2.2) with
          | none => rw [hM] at hL; cases hL
          | some M =>
            rw [hM] at hL
            cases hL
            rw [ih.2 M hM, List.map_cons, List.append_assoc]
            rfl
theorem allB_none {s : By} (hs : s.length ≤ 65536) (h : lex s = none) : ∃ p e : Int, e ≠ 0 ∧ 0 ≤ p ∧ p ≤ s.length ∧ allB s = ([], p, e) := by
  rw [allB, if_neg (by omega)]
  exact (allF_lex s (s.length + 1) 0 [] (Nat.zero_le _) (by omega)).1 h
theorem allB_some {s : By} (hs : s.length ≤ 65536) {L : List (Nat × Int × By)} (h : lex s = some L) : allB s = (L.map (tokAt s.length), (s.length : Int), 0) := by
  rw [allB, if_neg (by omega)]
  exact (allF_lex s (s.length + 1) 0 [] (Nat.zero_le _) (by omega)).2 L h
end Go.Proofs

/- Texts cut into tokens: the cut. -/
set_option linter.unusedSimpArgs false
namespace Go.Proofs
open Go Go.Abs

theorem cut_local : ∀ (G r b : By), cutC (G ++ r) = some b → r.length ≤ b.length → ∃ G2 : By, b = G2 ++ r ∧ G2.length ≤ G.length ∧ ∀ Z, cutC (G ++ Z) = some (G2 ++ Z)
  | [], r, b, h, hb => by
    have := cutC_len h
    simp only [List.nil_append] at this
    omega
  | c :: G, r, b, h, hb => by
    simp only [List.cons_append, cutC] at h
    by_cases hc : c = 42 ∧ (G ++ r).head? = some 47
    · rw [if_pos hc] at h
      cases h
      cases G with
      | nil =>
        simp only [List.nil_append] at hb hc
        cases r with
        | nil => simp at hc
        | cons e r => simp at hb; omega
      | cons d G =>
        refine ⟨G, rfl, by simp only [List.length_cons]; omega, fun Z => ?_⟩
        simp only [List.cons_append, cutC]
        rw [if_pos ⟨hc.1, hc.2⟩]
        rfl
    · rw [if_neg hc] at h
      obtain ⟨G2, h1, h2, h3⟩ := cut_local G r b h hb
      refine ⟨G2, h1, by simp only [List.length_cons]; omega, fun Z => ?_⟩
      cases G with
      | nil =>
        have := cutC_len h
        simp only [List.nil_append] at this
        omega
      | cons d G =>
        have e : cutC (c :: (d :: (G ++ Z))) = if c = 42 ∧ (d :: (G ++ Z)).head? = some 47 then some ((d :: (G ++ Z)).drop 1) else cutC (d :: (G ++ Z)) := rfl
        rw [List.cons_append, List.cons_append, e, if_neg (show ¬(c = 42 ∧ (d :: (G ++ Z)).head? = some 47) from hc)]
        exact h3 Z
theorem gap_keep : ∀ (n : Nat) (G r Z : By), G.length ≤ n → r ≠ [] → skip (G ++ r) = r → skip (G ++ Z) = skip Z
  | n, [], r, Z, _, _, _ => rfl
  | n + 1, c :: G, r, Z, hn, hr, h => by
    simp only [List.length_cons] at hn
    rw [List.cons_append] at h ⊢
    have hlen : (c :: (G ++ r)).length = G.length + r.length + 1 := by simp
    cases hw : isW c with
    | true =>
      rw [skip_white hw] at h ⊢
      exact gap_keep n G r Z (by omega) hr h
    | false =>
      by_cases c37 : c = 37
      · subst c37
        rw [skip_pct] at h ⊢
        rw [List.dropWhile_append] at h ⊢
        by_cases he : (G.dropWhile (· != 10)).isEmpty = true
        · rw [if_pos he] at h
          have h1 := skip_len (r.dropWhile (· != 10))
          have h2 := dropW_len (p := (· != 10)) r
          rw [h] at h1
          have h3 : r.dropWhile (· != 10) = r := (List.dropWhile_suffix _).eq_of_length (by omega)
          rw [h3] at h
          cases r with
          | nil => exact absurd rfl hr
          | cons e r =>
            have he10 : e = 10 := by
              by_cases h10 : e = 10
              · exact h10
              · rw [List.dropWhile_cons_of_pos (by simpa using h10)] at h3
                have := dropW_len (p := (· != 10)) r
                rw [h3] at this
                simp only [List.length_cons] at this
                omega
            subst he10
            rw [skip_white rfl] at h
            have := skip_len r
            rw [h] at this
            simp only [List.length_cons] at this
            omega
        · rw [if_neg he] at h ⊢
          have := dropW_len (p := (· != 10)) G
          exact gap_keep n _ r Z (by omega) hr h
      · by_cases c3 : c = 47 ∧ (G ++ r).head? = some 42
        · obtain ⟨rfl, c4⟩ := c3
          cases G with
          | nil =>
            simp only [List.nil_append] at c4 h
            cases r with
            | nil => exact absurd rfl hr
            | cons e r =>
              simp at c4
              subst c4
              cases hc : cutC r with
              | none =>
                rw [skip_open hc] at h
                have := congrArg List.length h
                simp at this
              | some b =>
                rw [skip_cmt hc] at h
                have := cutC_len hc
                have h2 := skip_len b
                rw [h] at h2
                simp only [List.length_cons] at h2
                omega
          | cons d G =>
            simp at c4
            subst c4
            rw [List.cons_append] at h ⊢
            cases hc : cutC (G ++ r) with
            | none =>
              rw [skip_open hc] at h
              have := congrArg List.length h
              simp at this
              omega
            | some b =>
              rw [skip_cmt hc] at h
              have h2 := skip_len b
              rw [h] at h2
              obtain ⟨G2, h3, h4, h5⟩ := cut_local G r b hc h2
              rw [skip_cmt (h5 Z)]
              rw [h3] at h
              simp only [List.length_cons] at hn
              exact gap_keep n G2 r Z (by omega) hr h
        · rw [skip_stop hw c37 c3] at h
          have := congrArg List.length h
          rw [hlen] at this
          omega

theorem quote_local : ∀ (n : Nat) (w v acc t : By), w.length ≤ n → quoteB acc (w ++ v) = some (t, v) → ∀ v', quoteB acc (w ++ v') = some (t, v')
  | n, [], v, acc, t, _, h, v' => by
    have := quoteB_len _ v acc (t, v) (Nat.le_refl _) h
    simp only at this
    omega
  | n + 1, c :: w, v, acc, t, hn, h, v' => by
    simp only [List.length_cons] at hn
    rw [List.cons_append] at h ⊢
    by_cases c39 : c = 39
    · subst c39
      rw [quoteB_39] at h ⊢
      by_cases ha : acc = []
      · rw [if_pos ha] at h; cases h
      · rw [if_neg ha] at h ⊢
        have h1 := Option.some.inj h
        have h2 : w = [] := by
          have := congrArg (fun x => x.2.length) h1
          simp at this
          exact this
        have h3 : acc = t := congrArg Prod.fst h1
        rw [h2, h3]; rfl
    · by_cases cb : c.toNat < 32 ∨ 126 < c.toNat
      · rw [quoteB_bad c39 cb] at h; cases h
      · by_cases c92 : c = 92
        · subst c92
          cases w with
          | nil =>
            rw [List.nil_append] at h
            cases v with
            | nil => cases h
            | cons e v =>
              rw [quoteB_two] at h
              by_cases he : e = 92 ∨ e = 39
              · rw [if_pos he] at h
                have := quoteB_len _ v _ (t, e :: v) (Nat.le_refl _) h
                simp at this
                omega
              · rw [if_neg he] at h; cases h
          | cons d w =>
            rw [List.cons_append, quoteB_two] at h ⊢
            by_cases hd : d = 92 ∨ d = 39
            · rw [if_pos hd] at h ⊢
              simp only [List.length_cons] at hn
              exact quote_local n w v _ t (by omega) h v'
            · rw [if_neg hd] at h; cases h
        · rw [quoteB_one c39 cb c92] at h ⊢
          exact quote_local n w v _ t (by omega) h v'

theorem quoteB_suffix : ∀ (n : Nat) (l acc : By) (x : By × By), l.length ≤ n → quoteB acc l = some x → ∃ e : By, l = e ++ x.2
  | n, [], acc, x, _, h => by rw [quoteB_nil] at h; cases h
  | n + 1, c :: r, acc, x, hn, h => by
    simp only [List.length_cons] at hn
    by_cases c39 : c = 39
    · subst c39
      rw [quoteB_39] at h
      split at h
      · cases h
      · cases h; exact ⟨[39], rfl⟩
    · by_cases cb : c.toNat < 32 ∨ 126 < c.toNat
      · rw [quoteB_bad c39 cb] at h; cases h
      · by_cases c92 : c = 92
        · subst c92
          cases r with
          | nil => rw [quoteB_92] at h; cases h
          | cons d r =>
            rw [quoteB_two] at h
            split at h
            · simp only [List.length_cons] at hn
              obtain ⟨e, he⟩ := quoteB_suffix n r _ x (by omega) h
              exact ⟨92 :: d :: e, by rw [List.cons_append, List.cons_append, ← he]⟩
            · cases h
        · rw [quoteB_one c39 cb c92] at h
          obtain ⟨e, he⟩ := quoteB_suffix n r _ x (by omega) h
          exact ⟨c :: e, by rw [List.cons_append, ← he]⟩
/-- What may stand behind a cut. -/
def okZ (z : By) : Prop := z = [] ∨ ∃ u, z = 32 :: u
theorem run_zero {p : UInt8 → Bool} (h32 : p 32 = false) {y z z' : By} (hz : okZ z') (h : runB p (y ++ z) = 0) : runB p (y ++ z') = 0 := by
  cases y with
  | nil =>
    rcases hz with rfl | ⟨u, rfl⟩
    · rfl
    · simp [runB, List.takeWhile_cons, h32]
  | cons d y =>
    simp only [List.cons_append, runB, List.takeWhile_cons] at h ⊢
    cases hd : p d with
    | true => rw [hd] at h; simp at h
    | false => simp
theorem run_app {p : UInt8 → Bool} (w v : By) : runB p (w ++ v) = if w.all p = true then w.length + runB p v else runB p w := by
  induction w with
  | nil => simp [runB]
  | cons c w ih =>
    simp only [runB, List.cons_append, List.takeWhile_cons, List.all_cons] at ih ⊢
    cases hc : p c with
    | false => simp
    | true =>
      simp only [if_true, List.length_cons, Bool.true_and, ih]
      split <;> omega
theorem run_keep {p : UInt8 → Bool} (h32 : p 32 = false) {w y z z' : By} (hz : okZ z') (h : runB p (w ++ (y ++ z)) = w.length) : runB p (w ++ (y ++ z')) = w.length := by
  rw [run_app] at h ⊢
  by_cases ha : w.all p = true
  · rw [if_pos ha] at h ⊢
    rw [run_zero h32 hz (by omega : runB p (y ++ z) = 0)]; rfl
  · rw [if_neg ha] at h
    exact absurd ((run_all p w).1 h) ha
theorem take_app (w v : By) : (w ++ v).take w.length = w := List.take_left
theorem find_mono {p p' : By → Bool} {u : By} : ∀ {l : List By}, (∀ y ∈ l, p' y = true → p y = true) → l.find? p = some u → p' u = true → l.find? p' = some u
  | y :: l, hm, h, hu => by
    rw [List.find?_cons] at h ⊢
    cases hy : p y with
    | true =>
      rw [hy] at h
      cases h
      rw [hu]
    | false =>
      rw [hy] at h
      have hy' : p' y = false := by
        cases h' : p' y with
        | false => rfl
        | true => rw [hm y List.mem_cons_self h'] at hy; cases hy
      rw [hy']
      exact find_mono (fun x hx => hm x (List.mem_cons_of_mem _ hx)) h hu
theorem pre_cut {x A z z' : By} (h32 : (32 : UInt8) ∉ x) (hz : okZ z') (h : x <+: A ++ z') : x <+: A ++ z := by
  have hA : x <+: A := by
    rcases hz with rfl | ⟨u, rfl⟩
    · rwa [List.append_nil] at h
    · obtain ⟨q, hq⟩ := h
      rcases List.append_eq_append_iff.1 hq with ⟨a, h1, h2⟩ | ⟨a, h1, h2⟩
      · exact ⟨a, h1.symm⟩
      · cases a with
        | nil => exact ⟨[], by rw [List.append_nil, h1, List.append_nil]⟩
        | cons e a =>
          rw [List.cons_append] at h2
          have he := (List.cons.inj h2).1
          exact absurd (by rw [h1, he]; simp) h32
  exact hA.trans (List.prefix_append _ _)

theorem tok_keep {w y z z' : By} {x : Int × By × Nat} (h : tokB (w ++ (y ++ z)) = some x) (hw : w.length = x.2.2) (hz : okZ z') : tokB (w ++ (y ++ z')) = some x := by
  obtain ⟨g1, g2⟩ := tok_len h
  cases w with
  | nil => simp only [List.length_nil] at hw; omega
  | cons c w =>
    rcases tok_cases h with ⟨h1, h2, rfl⟩ | ⟨h1, u, h2, rfl⟩
    · have key : nameB (c :: w ++ (y ++ z')) = nameB (c :: w ++ (y ++ z)) := by
        rw [List.cons_append] at h1 hw ⊢
        rw [List.cons_append]
        by_cases c39 : c = 39
        · subst c39
          cases hq : quoteB [] (w ++ (y ++ z)) with
          | none => rw [name_q0 hq] at h1; simp at h1
          | some q =>
            rw [name_q1 hq] at hw ⊢
            have hql := quoteB_len _ _ _ _ (Nat.le_refl _) hq
            have hsf : q.2 = y ++ z := by
              obtain ⟨e, he⟩ := quoteB_suffix _ _ _ _ (Nat.le_refl _) hq
              have hl : q.2.length = (y ++ z).length := by
                simp only [List.length_append, List.length_cons] at hw hql ⊢; omega
              exact (List.append_inj' he.symm hl).2
            have hq' : quoteB [] (w ++ (y ++ z)) = some (q.1, y ++ z) := by rw [hq, ← hsf]
            have := quote_local _ w (y ++ z) [] q.1 (Nat.le_refl _) hq' (y ++ z')
            rw [name_q1 this, hsf]
            simp only [List.length_append]
            congr 2
            omega
        · cases cd : digitB c with
          | true =>
            rw [name_d c39 cd] at hw ⊢
            rw [name_d c39 cd]
            have hk := run_keep (p := digitB) (by decide) hz (w := c :: w) hw.symm
            rw [List.cons_append] at hk
            simp only at hw
            rw [hk, ← hw, ← List.cons_append, ← List.cons_append, take_app, take_app]
          | false =>
          cases cs : smallB c with
          | true =>
            rw [name_s c39 cd cs] at hw ⊢
            rw [name_s c39 cd cs]
            have hk := run_keep (p := onB) (by decide) hz (w := c :: w) hw.symm
            rw [List.cons_append] at hk
            simp only at hw
            rw [hk, ← hw, ← List.cons_append, ← List.cons_append, take_app, take_app]
          | false =>
          cases cg : greatB c with
          | true =>
            rw [name_g c39 cd cs cg] at hw ⊢
            rw [name_g c39 cd cs cg]
            have hk := run_keep (p := onB) (by decide) hz (w := c :: w) hw.symm
            rw [List.cons_append] at hk
            simp only at hw
            rw [hk, ← hw, ← List.cons_append, ← List.cons_append, take_app, take_app]
          | false =>
          by_cases c36 : c = 36
          · subst c36
            cases w with
            | nil =>
              rw [List.nil_append] at h1 hw
              cases hyz : y ++ z with
              | nil => rw [hyz] at h1; exact absurd h1 (by decide)
              | cons d v =>
                rw [hyz] at h1 hw
                cases sd : smallB d with
                | true =>
                  rw [name_y sd] at hw
                  simp only [List.length_cons, List.length_nil] at hw
                  have : 0 < runB onB (d :: v) := by rw [run_cons, show onB d = true by simp [onB, sd], if_pos rfl]; omega
                  omega
                | false => rw [name_y0 sd] at h1; simp at h1
            | cons d w =>
              rw [List.cons_append] at h1 hw ⊢
              rw [List.cons_append]
              cases sd : smallB d with
              | false => rw [name_y0 sd] at h1; simp at h1
              | true =>
                rw [name_y sd] at hw ⊢
                rw [name_y sd]
                simp only [List.length_cons] at hw
                have hr : runB onB (d :: w ++ (y ++ z)) = (d :: w).length := by rw [List.cons_append, List.length_cons]; omega
                have hk := run_keep (p := onB) (by decide) hz (w := d :: w) hr
                rw [List.cons_append] at hk hr
                rw [hk, hr]
                have ht : ∀ v : By, (36 :: d :: (w ++ v)).take (1 + (d :: w).length) = 36 :: d :: w := fun v => by
                  have := take_app (36 :: d :: w) v
                  rw [List.length_cons] at this
                  rw [Nat.add_comm]; exact this
                rw [ht, ht]
          · rw [name_n c39 cd cs cg c36] at h1; simp at h1
      rw [tok_name (by rw [key]; exact h1) (by rw [key]; exact h2), key]
    · obtain ⟨p1, p2, p3⟩ := sign_find h2
      have hwu : c :: w = u := by
        obtain ⟨q, hq⟩ := p1
        exact (List.append_inj hq (by simpa using hw.symm)).1.symm
      have hsg : ∀ u ∈ signL, (32 : UInt8) ∉ u ∧ ∀ e ∈ u.head?, e ≠ 39 ∧ digitB e = false ∧ smallB e = false ∧ greatB e = false ∧ e ≠ 36 := by decide
      have hc := (hsg u p3).2 c (by rw [← hwu]; rfl)
      refine tok_sign ?_ ?_
      · rw [List.cons_append, name_n hc.1 hc.2.1 hc.2.2.1 hc.2.2.2.1 hc.2.2.2.2]
        decide
      · refine find_mono (fun x hx hp => ?_) h2 ?_
        · rw [List.isPrefixOf_iff_prefix] at hp ⊢
          rw [← List.append_assoc] at hp ⊢
          exact pre_cut (hsg x hx).1 hz hp
        · rw [List.isPrefixOf_iff_prefix, hwu]
          exact List.prefix_append _ _
end Go.Proofs

/- Texts cut into tokens: a text cut at a token, white put there, a name quoted. -/
set_option linter.unusedSimpArgs false
namespace Go.Proofs
open Go Go.Abs

theorem lex_cut : ∀ (n : Nat) (P Q : By) (L1 L2 : List (Nat × Int × By)) (b : Nat × Int × By), P.length ≤ n → lex (P ++ Q) = some (L1 ++ b :: L2) → b.1 = Q.length → 1 ≤ b.1 → (∀ a ∈ L1, Q.length < a.1) →
    lex Q = some (b :: L2) ∧ ∀ Z, okZ Z → lex (P ++ Z) = (lex Z).map (fun M => L1.map (fun a => (a.1 - Q.length + Z.length, a.2)) ++ M)
  | n, P, Q, L1, L2, b, hn, h, hb, hb1, h1 => by
    obtain ⟨G, hG⟩ := skip_suffix _ (P ++ Q) (Nat.le_refl _)
    have hQ : Q ≠ [] := fun e => by rw [e] at hb; simp only [List.length_nil] at hb; omega
    by_cases hs : skip (P ++ Q) = []
    · rw [lex_end hs] at h
      have := congrArg (fun x => x.map List.length) h
      simp at this
    cases ht : tokB (skip (P ++ Q)) with
    | none => rw [lex_bad hs ht] at h; cases h
    | some x =>
      have h' := h
      rw [lex_tok ht] at h'
      cases hM : lex ((skip (P ++ Q)).drop x.2.2) with
      | none => rw [hM] at h'; cases h'
      | some M =>
      rw [hM] at h'
      have h2 := Option.some.inj h'
      cases L1 with
      | nil =>
        rw [List.nil_append] at h2
        obtain ⟨e1, e2⟩ := List.cons.inj h2
        have hl : (skip (P ++ Q)).length = Q.length := by rw [← hb, ← e1]
        obtain ⟨g1, g2⟩ := List.append_inj' hG hl.symm
        rw [← g2] at ht hs
        have hsq : skip (P ++ Q) = Q := g2.symm
        refine ⟨?_, fun Z hZ => ?_⟩
        · rw [lex_skip ((skip_tok ht).trans hsq.symm), h]; rfl
        · have := gap_keep _ P Q Z (Nat.le_refl _) hQ hsq
          rw [lex_skip this]
          cases lex Z <;> simp
      | cons a L1 =>
        rw [List.cons_append] at h2
        obtain ⟨e1, e2⟩ := List.cons.inj h2
        have ha := h1 a List.mem_cons_self
        have hla : (skip (P ++ Q)).length = a.1 := by rw [← e1]
        obtain ⟨g1, g2⟩ := tok_len ht
        have hle := (lex_le _ _ _ (Nat.le_refl _) hM).1 b (by rw [e2]; simp)
        rw [List.length_drop] at hle
        -- the text from the token on
        obtain ⟨P', hP⟩ : ∃ P', P = G ++ P' ∧ skip (P ++ Q) = P' ++ Q := by
          rcases List.append_eq_append_iff.1 hG with ⟨w, k1, k2⟩ | ⟨w, k1, k2⟩
          · have := congrArg List.length k2
            rw [List.length_append] at this
            have hw : w = [] := List.length_eq_zero_iff.1 (by omega)
            subst hw
            refine ⟨[], by rw [List.append_nil] at k1 ⊢; exact k1.symm, ?_⟩
            rw [List.nil_append] at k2 ⊢; exact k2.symm
          · exact ⟨w, k1, k2⟩
        obtain ⟨p1, p2⟩ := hP
        rw [p2] at ht hla hM g2 hle
        rw [List.length_append] at hla g2 hle
        have hm : x.2.2 ≤ P'.length := by omega
        have hPw : P'.take x.2.2 ++ P'.drop x.2.2 = P' := List.take_append_drop _ _
        have hwl : (P'.take x.2.2).length = x.2.2 := by rw [List.length_take]; omega
        have hdq : (P' ++ Q).drop x.2.2 = P'.drop x.2.2 ++ Q := List.drop_append_of_le_length hm
        have hpl : P.length = G.length + P'.length := by rw [p1, List.length_append]
        rw [hdq, e2] at hM
        cases n with
        | zero => omega
        | succ n =>
          have ih := lex_cut n (P'.drop x.2.2) Q L1 L2 b (by rw [List.length_drop]; omega) hM hb hb1 fun c hc => h1 c (List.mem_cons_of_mem _ hc)
          refine ⟨ih.1, fun Z hZ => ?_⟩
          have hgap := gap_keep _ G (P' ++ Q) (P' ++ Z) (Nat.le_refl _) (by intro e; exact hQ (List.append_eq_nil_iff.1 e).2) (by rw [← List.append_assoc, ← p1, p2])
          have htk : tokB (P' ++ Z) = some x := by
            have := tok_keep (w := P'.take x.2.2) (y := P'.drop x.2.2) (z := Q) (z' := Z) (by rw [← List.append_assoc, hPw]; exact ht) hwl hZ
            rwa [← List.append_assoc, hPw] at this
          have hsk : skip (P ++ Z) = P' ++ Z := by rw [p1, List.append_assoc, hgap, skip_tok htk]
          rw [lex_tok (by rw [hsk]; exact htk), hsk, List.drop_append_of_le_length hm, ih.2 Z hZ, Option.map_map]
          congr 1
          funext M
          simp only [Function.comp_apply, List.map_cons, List.cons_append, List.length_append]
          congr 1
          rw [← e1]
          simp only [Prod.mk.injEq, and_true, p2, List.length_append]
          omega

theorem lex_at {s : By} {L1 L2 : List (Nat × Int × By)} {b : Nat × Int × By} (h : lex s = some (L1 ++ b :: L2)) :
    ∃ P Q : By, s = P ++ Q ∧ b.1 = Q.length ∧ 1 ≤ b.1 ∧ ∀ a ∈ L1, Q.length < a.1 := by
  have hl := lex_le _ s _ (Nat.le_refl _) h
  have hb := hl.1 b (by simp)
  refine ⟨s.take (s.length - b.1), s.drop (s.length - b.1), (List.take_append_drop _ _).symm, by rw [List.length_drop]; omega, lex_pos _ s _ (Nat.le_refl _) h b (by simp), fun a ha => ?_⟩
  rw [List.length_drop]
  have := (List.pairwise_append.1 hl.2).2.2 a ha b List.mem_cons_self
  omega

def whiteB : By := [32, 47, 42, 32, 40, 32, 42, 47, 32, 37, 32, 41, 10]
theorem skip_whiteB (x : By) : skip (whiteB ++ x) = skip x := by
  show skip (32 :: 47 :: 42 :: 32 :: 40 :: 32 :: 42 :: 47 :: 32 :: 37 :: 32 :: 41 :: 10 :: x) = skip x
  rw [skip_white rfl, skip_cmt (b := 32 :: 37 :: 32 :: 41 :: 10 :: x) rfl, skip_white rfl, skip_pct]
  show skip (10 :: x) = skip x
  exact skip_white rfl
end Go.Proofs

/- What is quoted is the word again: the law LexBack. -/
set_option linter.unusedSimpArgs false
namespace Go.Proofs
open Go Go.Abs

theorem esc_cons (c : UInt8) (n : By) : escB (c :: n) = (if c = 39 ∨ c = 92 then [92, c] else [c]) ++ escB n := List.flatMap_cons
theorem quote_esc : ∀ (n acc : By), n.any badQ = false → quoteB acc (escB n ++ [39]) = if acc ++ n = [] then none else some (acc ++ n, [])
  | [], acc, _ => by
    rw [List.append_nil]
    show quoteB acc [39] = _
    rw [quoteB_39]
  | c :: n, acc, h => by
    simp only [List.any_cons, Bool.or_eq_false_iff] at h
    have hb : ¬ (c.toNat < 32 ∨ 126 < c.toNat) := by
      have := h.1
      simp only [badQ, Bool.or_eq_false_iff, decide_eq_false_iff_not] at this
      omega
    have ih := quote_esc n (acc ++ [c]) h.2
    have e1 : ¬ (acc ++ [c] ++ n = []) := by simp
    have e2 : ¬ (acc ++ c :: n = []) := by simp
    rw [if_neg e1] at ih
    rw [if_neg e2, esc_cons]
    have e3 : acc ++ [c] ++ n = acc ++ c :: n := by simp
    rw [e3] at ih
    by_cases hc : c = 39 ∨ c = 92
    · rw [if_pos hc]
      show quoteB acc (92 :: c :: (escB n ++ [39])) = _
      rw [quoteB_two, if_pos hc.symm]
      exact ih
    · rw [if_neg hc]
      show quoteB acc (c :: (escB n ++ [39])) = _
      rw [quoteB_one (fun e => hc (.inl e)) hb (fun e => hc (.inr e))]
      exact ih
theorem quote_bad {n q : By} {e : Int} (h : quoteS n = (q, e)) (he : e ≠ 0) : q = [] := by
  unfold quoteS at h
  split at h
  · exact (congrArg Prod.fst h).symm
  · split at h
    · exact (congrArg Prod.fst h).symm
    · split at h
      · exact absurd (congrArg Prod.snd h).symm he
      · exact absurd (congrArg Prod.snd h).symm he
theorem lex_one {l t : By} {m : Nat} (h : tokB l = some (0, t, m)) (hm : m = l.length) : lex l = some [(l.length, 0, t)] := by
  have hs := skip_tok h
  rw [lex_tok (by rw [hs]; exact h), hs, hm, List.drop_length, lex_end rfl]
  rfl
theorem lex_quote {n q : By} (h : quoteS n = (q, 0)) : lex q = some [(q.length, 0, n)] ∧ q.length ≤ 130 := by
  unfold quoteS at h
  by_cases h1 : n = [] ∨ 64 < (n.length : Int)
  · rw [if_pos h1] at h; exact absurd (show (8 : Int) = 0 from congrArg Prod.snd h) (by decide)
  rw [if_neg h1] at h
  have hn : n ≠ [] := fun e => h1 (.inl e)
  have hl : ¬ 64 < n.length := fun e => h1 (.inr (by omega))
  by_cases h2 : n.any badQ = true
  · rw [if_pos h2] at h; exact absurd (show (4 : Int) = 0 from congrArg Prod.snd h) (by decide)
  rw [if_neg h2] at h
  have h2' : n.any badQ = false := by simpa using h2
  by_cases h3 : plainQ n = true
  · rw [if_pos h3] at h
    have hq : n = q := congrArg Prod.fst h
    subst hq
    refine ⟨?_, by omega⟩
    cases n with
    | nil => exact absurd rfl hn
    | cons c r =>
      simp only [plainQ, Bool.or_eq_true, Bool.and_eq_true] at h3
      rcases h3 with ⟨g1, g2⟩ | ⟨g1, g2⟩
      · have hr := (run_all onB (c :: r)).2 g2
        have hN := name_s (c := c) (r := r) (fun e => by rw [e] at g1; exact absurd g1 (by decide)) (small_digit g1) g1
        rw [hr, List.take_length] at hN
        refine lex_one (m := (c :: r).length) ?_ rfl
        rw [← hN]
        exact tok_name (by rw [hN]; simp) (by rw [hN]; exact hl)
      · have hr := (run_all digitB (c :: r)).2 g2
        have hN := name_d (c := c) (r := r) (fun e => by rw [e] at g1; exact absurd g1 (by decide)) g1
        rw [hr, List.take_length] at hN
        refine lex_one (m := (c :: r).length) ?_ rfl
        rw [← hN]
        exact tok_name (by rw [hN]; simp) (by rw [hN]; exact hl)
  · rw [if_neg h3] at h
    have hq : 39 :: (escB n ++ [39]) = q := congrArg Prod.fst h
    subst hq
    have hE := escB_len n
    refine ⟨?_, by simp only [List.length_cons, List.length_append, List.length_nil]; omega⟩
    have hQ := quote_esc n [] h2'
    rw [List.nil_append, if_neg hn] at hQ
    have hN := name_q1 hQ
    simp only at hN
    refine lex_one (m := (39 :: (escB n ++ [39])).length) ?_ rfl
    have hN' : nameB (39 :: (escB n ++ [39])) = (0, n, (39 :: (escB n ++ [39])).length) := by rw [hN]; simp
    rw [← hN']
    exact tok_name (by rw [hN']; simp) (by rw [hN']; exact hl)

theorem LexBack_calls (s : ByteArray) {W : World} {vs : Array Value} (hg : Glob W.heap.size W) (h2 : vs.size = ([.str s] : List AVal).length)
    (h3 : ∀ k, k < ([.str s] : List AVal).length → Rep W noM noB (vs.getD k undef) (([.str s] : List AVal).getD k .undef)) :
    Calls Tryd.prog 5 vs W fun e w' => e = .returned (.bool true) ∧ RowKit.Below W.heap.size W w' := by
  refine calls_true (args := [.str s]) (rs := [.tmp 2]) (m := 52) 1000 Tryd.func5 rfl rfl rfl rfl ?_ hg h2 h3
  clear hg h2 h3
  by_cases h : 500 < (s.size : Int)
  · simp only [go_sem, Nat.reduceAdd, Nat.reduceSub, Nat.reduceMul, Nat.reduceLeDiff, Nat.reduceEqDiff, Nat.reduceBEq, h]
  simp only [go_sem, Nat.reduceAdd, Nat.reduceSub, Nat.reduceMul, Nat.reduceLeDiff, Nat.reduceEqDiff, Nat.reduceBEq, h]
  refine VCall.isoT [] (QuoteP_eq s (by omega)) (pTL_refl _ _ _) (by simp [go_sem, ]) ?_; rw [frzI_nil]; simp only [ite_self]; refine EvK.go 1000 ?_
  cases hq : quoteS (bs s) with
  | mk q e =>
  by_cases he : e = 0
  · subst he
    obtain ⟨hL, hle⟩ := lex_quote hq
    have hA := AllP_eq (ofB q) (by rw [ofB_size]; omega)
    rw [bs_ofB, allB_some (by omega) hL, show [(q.length, (0 : Int), bs s)].map (tokAt q.length) = [⟨0, 0, bs s⟩] by simp [tokAt]] at hA
    have g0 : (toks [⟨0, 0, bs s⟩]).getD 0 .undef = .agg [.int .i64 0, .int .i64 0, .str s] := by
      show Tok.toA ⟨0, 0, bs s⟩ = _
      rw [tok_eq, ofB_bs]
    have gl : (((toks [⟨0, 0, bs s⟩]).length : Nat) : Int) = 1 := rfl
    have q0 := (eq_tok ⟨0, 0, bs s⟩ ⟨0, 0, bs s⟩).trans (decide_eq_true rfl)
    rw [ofB_bs] at q0
    simp only [go_sem, Nat.reduceAdd, Nat.reduceSub, Nat.reduceMul, Nat.reduceLeDiff, Nat.reduceEqDiff, Nat.reduceBEq, quoteR]
    refine VCall.isoT [] (hA) (pTL_refl _ _ _) (by simp [go_sem, ]) ?_; rw [frzI_nil]; simp only [ite_self]; refine EvK.go 1000 ?_
    simp only [go_sem, Nat.reduceAdd, Nat.reduceSub, Nat.reduceMul, Nat.reduceLeDiff, Nat.reduceEqDiff, Nat.reduceBEq, allA]
    refine VCall.isoT [] (Awake_eq) (pTL_refl _ _ _) (by simp [go_sem, ]) ?_; simp only [flatR, flatA, flatC, if_true]; refine EvK.go 1000 ?_
    simp only [go_sem, Nat.reduceAdd, Nat.reduceSub, Nat.reduceMul, Nat.reduceLeDiff, Nat.reduceEqDiff, Nat.reduceBEq, ofB_size, gl, g0, q0, Int.reduceLT, show Int.toNat 0 = 0 from rfl]
    exact Int.le_refl _
  · have := quote_bad hq he
    subst this
    simp only [go_sem, Nat.reduceAdd, Nat.reduceSub, Nat.reduceMul, Nat.reduceLeDiff, Nat.reduceEqDiff, Nat.reduceBEq, quoteR, he]
    refine VCall.isoT [] (Awake_eq) (pTL_refl _ _ _) (by simp [go_sem, ]) ?_; simp only [flatR, flatA, flatC, if_true]; refine EvK.go 1000 ?_
    simp only [go_sem, Nat.reduceAdd, Nat.reduceSub, Nat.reduceMul, Nat.reduceLeDiff, Nat.reduceEqDiff, Nat.reduceBEq, str_eq, bs_ofB, show bs ⟨#[]⟩ = [] from rfl, decide_true]
    done
end Go.Proofs

/- White put between two tokens changes none: the law LexWhite. -/
set_option linter.unusedSimpArgs false
namespace Go.Proofs
open Go Go.Abs

theorem white_lex {s : By} {L1 L2 : List (Nat × Int × By)} {b : Nat × Int × By} (h : lex s = some (L1 ++ b :: L2)) :
    lex (s.take (s.length - b.1) ++ whiteB ++ s.drop (s.length - b.1)) = some (L1.map (fun a => (a.1 + 13, a.2)) ++ b :: L2) := by
  obtain ⟨P, Q, rfl, g1, g2, g3⟩ := lex_at h
  have hP : (P ++ Q).length - b.1 = P.length := by rw [List.length_append]; omega
  rw [hP, List.take_left, List.drop_left]
  obtain ⟨e1, e2⟩ := lex_cut _ P Q L1 L2 b (Nat.le_refl _) h g1 g2 g3
  have := e2 (whiteB ++ Q) (.inr ⟨_, rfl⟩)
  rw [List.append_assoc, this, lex_skip (skip_whiteB Q), e1]
  simp only [Option.map_some]
  congr 2
  refine List.map_congr_left fun a ha => ?_
  have := g3 a ha
  have hw : (whiteB ++ Q).length = 13 + Q.length := by rw [List.length_append]; rfl
  rw [hw]
  simp only [Prod.mk.injEq, and_true]
  omega

theorem white_get {L : List (Nat × Int × By)} {n N : Nat} (hn : n < L.length) {j : Nat} (hj : j < L.length) :
    tokAt (N + 13) (((L.take n).map (fun (a : Nat × Int × By) => (a.1 + 13, a.2)) ++ L[n] :: L.drop (n + 1))[j]'(by simp; omega)) = tokAt (N + 13) (if j < n then (L[j].1 + 13, L[j].2) else L[j]) := by
  congr 1
  have hl : ((L.take n).map (fun (a : Nat × Int × By) => (a.1 + 13, a.2))).length = n := by simp; omega
  by_cases h : j < n
  · rw [if_pos h, List.getElem_append_left (by omega), List.getElem_map, List.getElem_take]
  · rw [if_neg h, List.getElem_append_right (by omega)]
    simp only [hl, ← List.drop_eq_getElem_cons hn, List.getElem_drop, show n + (j - n) = j by omega]
set_option maxHeartbeats 1600000 in
theorem LexWhite_calls (s : ByteArray) (i : Int) {W : World} {vs : Array Value} (hg : Glob W.heap.size W) (h2 : vs.size = ([.str s, .int .i64 i] : List AVal).length)
    (h3 : ∀ k, k < ([.str s, .int .i64 i] : List AVal).length → Rep W noM noB (vs.getD k undef) (([.str s, .int .i64 i] : List AVal).getD k .undef)) :
    Calls Tryd.prog 6 vs W fun e w' => e = .returned (.bool true) ∧ RowKit.Below W.heap.size W w' := by
  refine calls_true (args := [.str s, .int .i64 i]) (rs := [.tmp 4]) (m := 124) 1000 Tryd.func6 rfl rfl rfl rfl ?_ hg h2 h3
  clear hg h2 h3
  by_cases h : 2000 < (s.size : Int)
  · simp only [go_sem, Nat.reduceAdd, Nat.reduceSub, Nat.reduceMul, Nat.reduceLeDiff, Nat.reduceEqDiff, Nat.reduceBEq, h]
  simp only [go_sem, Nat.reduceAdd, Nat.reduceSub, Nat.reduceMul, Nat.reduceLeDiff, Nat.reduceEqDiff, Nat.reduceBEq, h]
  have hA := AllP_eq s (by omega)
  cases hL : lex (bs s) with
  | none =>
    obtain ⟨p, e, b1, b2, b3, b4⟩ := allB_none (by rw [bs_len]; omega) hL
    rw [b4] at hA
    rw [bs_len] at b3
    refine VCall.isoT [] (hA) (pTL_refl _ _ _) (by simp [go_sem, ]) ?_; rw [frzI_nil]; simp only [ite_self]; refine EvK.go 1000 ?_
    simp only [go_sem, Nat.reduceAdd, Nat.reduceSub, Nat.reduceMul, Nat.reduceLeDiff, Nat.reduceEqDiff, Nat.reduceBEq, allA, b1, toks, List.map_nil, List.length_nil]
    refine VCall.isoT [] (Awake_eq) (pTL_refl _ _ _) (by simp [go_sem, ]) ?_; simp only [flatR, flatA, flatC, if_true]; refine EvK.go 1000 ?_
    simp only [go_sem, Nat.reduceAdd, Nat.reduceSub, Nat.reduceMul, Nat.reduceLeDiff, Nat.reduceEqDiff, Nat.reduceBEq, show ((0 : Nat) : Int) = 0 from rfl, b2, b3]
    done
  | some L =>
    rw [allB_some (by rw [bs_len]; omega) hL, bs_len] at hA
    refine VCall.isoT [] (hA) (pTL_refl _ _ _) (by simp [go_sem, ]) ?_; rw [frzI_nil]; simp only [ite_self]; refine EvK.go 1000 ?_
    obtain ⟨hle, hpw⟩ := lex_le _ _ _ (Nat.le_refl _) hL
    generalize hT : L.map (tokAt s.size) = T at *
    have hTl : T.length = L.length := by rw [← hT, List.length_map]
    have hLl : L.length ≤ 2000 := by
      have h1 := allB_len (bs s)
      rw [allB_some (by rw [bs_len]; omega) hL, bs_len, hT] at h1
      simp only at h1
      omega
    have hTg : ∀ k (hk : k < T.length), (toks T).getD k .undef = .agg [.int .i64 T[k].kind, .int .i64 T[k].at', .str (ofB T[k].text)] := fun k hk => by rw [toks_get hk, tok_eq]
    have hrise : ∀ k (hk : k + 1 < T.length), T[k].at' < T[k + 1].at' := fun k hk => by
      subst hT
      simp only [List.getElem_map, tokAt]
      have := List.pairwise_iff_getElem.1 hpw k (k + 1) (by omega) (by omega) (by omega)
      omega
    simp only [go_sem, Nat.reduceAdd, Nat.reduceSub, Nat.reduceMul, Nat.reduceLeDiff, Nat.reduceEqDiff, Nat.reduceBEq, allA]
    refine EvK.loopI (ι := {k : Nat // 1 ≤ k}) 1000 (fun k => mkT 126 [(0, .str s), (1, .int .i64 i), (4, .bool false), (5, .ps 3 (toks T)), (8, .int .i64 k.1)]) (fun _ => []) (fun k => T.length - k.1) ⟨1, Nat.le_refl _⟩ ?_ (fun _ => Nat.zero_le _) ?_
    · simp only [go_sem, Nat.reduceAdd, Nat.reduceSub, Nat.reduceMul, Nat.reduceLeDiff, Nat.reduceEqDiff, Nat.reduceBEq, show ((1 : Nat) : Int) = 1 from rfl]
      exact toks_low _
    · rintro ⟨k, hk⟩
      by_cases hlt : k < T.length
      · have hlt' : (k : Int) < T.length := by omega
        simp only [go_sem, Nat.reduceAdd, Nat.reduceSub, Nat.reduceMul, Nat.reduceLeDiff, Nat.reduceEqDiff, Nat.reduceBEq, toks_len, hlt']
        refine EvK.draw [] 0 0 mixed rfl rfl (Nat.le_refl _) ?_
        simp only [go_sem, Nat.reduceAdd, Nat.reduceSub, Nat.reduceMul, Nat.reduceLeDiff, Nat.reduceEqDiff, Nat.reduceBEq, padS, toks_len, hlt', Int.toNat_natCast, i64_id (n := (k : Int) - 1) (by omega), show ((k : Int) - 1).toNat = k - 1 by omega, hTg k hlt, hTg (k - 1) (by omega)]
        refine ⟨by omega, by omega, ?_⟩
        have hr : ¬ T[k].at' ≤ T[k - 1].at' := by
          have := hrise (k - 1) (by omega)
          simp only [Nat.sub_add_cancel hk] at this
          omega
        refine EvK.go 1000 ?_
        simp only [go_sem, Nat.reduceAdd, Nat.reduceSub, Nat.reduceMul, Nat.reduceLeDiff, Nat.reduceEqDiff, Nat.reduceBEq, hr]
        refine ⟨⟨k + 1, by omega⟩, ?_, by simp only; omega⟩
        rw [i64_id (by omega)]
        simp [toks_low]
      · have hlt' : ¬ (k : Int) < T.length := by omega
        simp only [go_sem, Nat.reduceAdd, Nat.reduceSub, Nat.reduceMul, Nat.reduceLeDiff, Nat.reduceEqDiff, Nat.reduceBEq, toks_len, hlt']
        refine EvK.go 1000 ?_
        by_cases c1 : i < 0
        · simp only [go_sem, Nat.reduceAdd, Nat.reduceSub, Nat.reduceMul, Nat.reduceLeDiff, Nat.reduceEqDiff, Nat.reduceBEq, c1]
          refine VCall.isoT [] (Awake_eq) (pTL_refl _ _ _) (by simp [go_sem, ]) ?_; simp only [flatR, flatA, flatC, if_true]; refine EvK.go 1000 ?_
          simp only [go_sem, Nat.reduceAdd, Nat.reduceSub, Nat.reduceMul, Nat.reduceLeDiff, Nat.reduceEqDiff, Nat.reduceBEq]
        by_cases c2 : (T.length : Int) ≤ i
        · simp only [go_sem, Nat.reduceAdd, Nat.reduceSub, Nat.reduceMul, Nat.reduceLeDiff, Nat.reduceEqDiff, Nat.reduceBEq, c1, toks_len, c2]
          refine VCall.isoT [] (Awake_eq) (pTL_refl _ _ _) (by simp [go_sem, ]) ?_; simp only [flatR, flatA, flatC, if_true]; refine EvK.go 1000 ?_
          simp only [go_sem, Nat.reduceAdd, Nat.reduceSub, Nat.reduceMul, Nat.reduceLeDiff, Nat.reduceEqDiff, Nat.reduceBEq]
        obtain ⟨n, rfl⟩ : ∃ n : Nat, i = n := ⟨i.toNat, by omega⟩
        have hn : n < T.length := by omega
        have hn' : (n : Int) < T.length := by omega
        have hnL : n < L.length := by omega
        have hsp : L = L.take n ++ L[n] :: L.drop (n + 1) := by rw [← List.drop_eq_getElem_cons hnL, List.take_append_drop]
        have hbl := hle L[n] (List.getElem_mem hnL)
        rw [bs_len] at hbl
        have hat : T[n].at' = ((s.size - L[n].1 : Nat) : Int) := by
          subst hT
          simp only [List.getElem_map, tokAt]
          omega
        rw [hsp] at hL
        have hW := white_lex hL
        rw [bs_len] at hW
        generalize hp : s.size - L[n].1 = p at *
        have hpl : p ≤ s.size := by omega
        simp only [go_sem, Nat.reduceAdd, Nat.reduceSub, Nat.reduceMul, Nat.reduceLeDiff, Nat.reduceEqDiff, Nat.reduceBEq, c1, toks_len, c2]
        refine EvK.draw [] 0 0 mixed rfl rfl (Nat.le_refl _) ?_
        have hws : (⟨#[32, 47, 42, 32, 40, 32, 42, 47, 32, 37, 32, 41, 10]⟩ : ByteArray) = ofB whiteB := rfl
        have hwl : whiteB.length = 13 := rfl
        have htk : ((bs s).take p).length = p := by rw [List.length_take, bs_len]; omega
        have hdk : ((bs s).drop p).length = s.size - p := by rw [List.length_drop, bs_len]
        simp only [go_sem, Nat.reduceAdd, Nat.reduceSub, Nat.reduceMul, Nat.reduceLeDiff, Nat.reduceEqDiff, Nat.reduceBEq, padS, toks_len, hn', Int.toNat_natCast, hTg n hn, hat, hws, ext_take, ext_drop, ofB_append, ofB_size, List.length_append, hwl, htk, hdk]
        refine ⟨by omega, by omega, by omega, by omega, by omega, by omega, ?_⟩
        have hlen : ((bs s).take p ++ whiteB ++ (bs s).drop p).length = s.size + 13 := by
          rw [List.length_append, List.length_append, htk, hdk, hwl]; omega
        have hA2 := AllP_eq (ofB ((bs s).take p ++ whiteB ++ (bs s).drop p)) (by rw [ofB_size, hlen]; omega)
        rw [bs_ofB, allB_some (by rw [hlen]; omega) hW, hlen] at hA2
        generalize hT2 : ((L.take n).map (fun (a : Nat × Int × By) => (a.1 + 13, a.2)) ++ L[n] :: L.drop (n + 1)).map (tokAt (s.size + 13)) = T2 at *
        have hT2l : T2.length = T.length := by
          rw [← hT2, hTl]
          simp only [List.length_map, List.length_append, List.length_cons, List.length_take, List.length_drop]
          omega
        have hTg2 : ∀ j (hj : j < T.length), (toks T2).getD j .undef = .agg [.int .i64 T[j].kind, .int .i64 (if j < n then T[j].at' else T[j].at' + 13), .str (ofB T[j].text)] := fun j hj => by
          rw [toks_get (by omega), tok_eq]
          have hx := white_get (L := L) (n := n) (N := s.size) hnL (j := j) (by omega)
          have h2 : T2[j]'(by omega) = tokAt (s.size + 13) (if j < n then (L[j].1 + 13, L[j].2) else L[j]) := by
            rw [← hx]
            subst hT2
            rw [List.getElem_map]
          have h1 : T[j] = tokAt s.size L[j] := by
            subst hT
            rw [List.getElem_map]
          rw [h2, h1]
          by_cases hjn : j < n
          · rw [if_pos hjn, if_pos hjn]
            simp only [tokAt]
            rw [show ((s.size + 13 : Nat) : Int) - ((L[j].1 + 13 : Nat) : Int) = (s.size : Int) - L[j].1 by omega]
          · rw [if_neg hjn, if_neg hjn]
            simp only [tokAt]
            rw [show ((s.size + 13 : Nat) : Int) - (L[j].1 : Int) = (s.size : Int) - L[j].1 + 13 by omega]
        have hTb : ∀ j (hj : j < T.length), 0 ≤ T[j].at' ∧ T[j].at' ≤ s.size := fun j hj => by
          have hb := hle (L[j]'(by omega)) (List.getElem_mem _)
          rw [bs_len] at hb
          subst hT
          rw [List.getElem_map]
          simp only [tokAt]
          omega
        refine draw_iso hA2 (pTL_refl _ _ _) (by simp [go_sem]) ?_
        simp only [go_sem, Nat.reduceAdd, Nat.reduceSub, Nat.reduceMul, Nat.reduceLeDiff, Nat.reduceEqDiff, Nat.reduceBEq, allA]
        refine EvK.go 1000 ?_
        simp only [go_sem, Nat.reduceAdd, Nat.reduceSub, Nat.reduceMul, Nat.reduceLeDiff, Nat.reduceEqDiff, Nat.reduceBEq, toks_len, hT2l, hwl]
        refine EvK.loopR (ι := {j : Nat // j ≤ T.length}) 1000 (fun j => mkT 126 [(0, .str s), (1, .int .i64 n), (4, .bool false), (5, .ps 3 (toks T)), (9, .str (ofB whiteB)), (10, .ps 3 (toks T2)), (13, .int .i64 j.1)]) (fun _ => []) (fun j => T.length - j.1) ⟨0, Nat.zero_le _⟩ [] ?_ (fun _ => Nat.zero_le _) ?_
        · refine leR_mk rfl ?_
          simp only [go_sem, Nat.reduceAdd, Nat.reduceSub, Nat.reduceMul, Nat.reduceLeDiff, Nat.reduceEqDiff, Nat.reduceBEq]
          rw [renL_low0 (toks_low _), renL_low0 (toks_low _)]
          exact ⟨⟨rfl, rfl, rfl⟩, toks_low _, toks_low _⟩
        · rintro ⟨j, hj⟩
          by_cases hjt : j < T.length
          · have hjt' : (j : Int) < T.length := by omega
            obtain ⟨hb1, hb2⟩ := hTb j hjt
            have ha2 := hTg2 j hjt
            by_cases hjn : j < n
            · rw [if_pos hjn] at ha2
              have hjn' : ¬ (n : Int) ≤ j := by omega
              have qt := (eq_tok T[j] T[j]).trans (decide_eq_true rfl)
              simp only [go_sem, Nat.reduceAdd, Nat.reduceSub, Nat.reduceMul, Nat.reduceLeDiff, Nat.reduceEqDiff, Nat.reduceBEq, toks_len, hjt', Int.toNat_natCast, hTg j hjt, hjn']
              refine ⟨by omega, ?_⟩
              refine EvK.draw [] 1 1 mixed rfl rfl (Nat.le_refl _) ?_
              simp only [go_sem, Nat.reduceAdd, Nat.reduceSub, Nat.reduceMul, Nat.reduceLeDiff, Nat.reduceEqDiff, Nat.reduceBEq, padS, toks_len, hT2l, hjt', Int.toNat_natCast, ha2]
              refine ⟨by omega, ?_⟩
              refine EvK.go 1000 ?_
              simp only [go_sem, Nat.reduceAdd, Nat.reduceSub, Nat.reduceMul, Nat.reduceLeDiff, Nat.reduceEqDiff, Nat.reduceBEq, qt, Bool.not_true]
              refine ⟨⟨j + 1, hjt⟩, [], leR_mk rfl ?_, by simp only; omega⟩
              simp only [go_sem, Nat.reduceAdd, Nat.reduceSub, Nat.reduceMul, Nat.reduceLeDiff, Nat.reduceEqDiff, Nat.reduceBEq]
              rw [renL_low0 (toks_low _), renL_low0 (toks_low _), i64_id (by omega)]
              simp [toks_low]
            · rw [if_neg hjn] at ha2
              have hjn' : (n : Int) ≤ j := by omega
              have qt := (eq_tok ⟨T[j].kind, T[j].at' + 13, T[j].text⟩ ⟨T[j].kind, T[j].at' + 13, T[j].text⟩).trans (decide_eq_true rfl)
              simp only [go_sem, Nat.reduceAdd, Nat.reduceSub, Nat.reduceMul, Nat.reduceLeDiff, Nat.reduceEqDiff, Nat.reduceBEq, toks_len, hjt', Int.toNat_natCast, hTg j hjt, hjn', ofB_size, hwl, show ((13 : Nat) : Int) = 13 from rfl, i64_id (n := T[j].at' + 13) (by omega)]
              refine ⟨by omega, ?_⟩
              refine EvK.draw [] 1 1 mixed rfl rfl (Nat.le_refl _) ?_
              simp only [go_sem, Nat.reduceAdd, Nat.reduceSub, Nat.reduceMul, Nat.reduceLeDiff, Nat.reduceEqDiff, Nat.reduceBEq, padS, toks_len, hT2l, hjt', Int.toNat_natCast, ha2]
              refine ⟨by omega, ?_⟩
              refine EvK.go 1000 ?_
              simp only [go_sem, Nat.reduceAdd, Nat.reduceSub, Nat.reduceMul, Nat.reduceLeDiff, Nat.reduceEqDiff, Nat.reduceBEq, qt, Bool.not_true]
              refine ⟨⟨j + 1, hjt⟩, [], leR_mk rfl ?_, by simp only; omega⟩
              simp only [go_sem, Nat.reduceAdd, Nat.reduceSub, Nat.reduceMul, Nat.reduceLeDiff, Nat.reduceEqDiff, Nat.reduceBEq]
              rw [renL_low0 (toks_low _), renL_low0 (toks_low _), i64_id (by omega)]
              simp [toks_low]
          · have hjt' : ¬ (j : Int) < T.length := by omega
            simp only [go_sem, Nat.reduceAdd, Nat.reduceSub, Nat.reduceMul, Nat.reduceLeDiff, Nat.reduceEqDiff, Nat.reduceBEq, toks_len, hjt']
            refine EvK.go 1000 ?_
            simp only [go_sem, Nat.reduceAdd, Nat.reduceSub, Nat.reduceMul, Nat.reduceLeDiff, Nat.reduceEqDiff, Nat.reduceBEq]
            refine VCall.isoT [] (Awake_eq) (pTL_refl _ _ _) (by simp [go_sem, ]) ?_; simp only [flatR, flatA, flatC, if_true]; refine EvK.go 1000 ?_
            simp only [go_sem, Nat.reduceAdd, Nat.reduceSub, Nat.reduceMul, Nat.reduceLeDiff, Nat.reduceEqDiff, Nat.reduceBEq]
end Go.Proofs

/- A text cut where a token begins has the tokens of both parts: the law LexParts. -/
set_option linter.unusedSimpArgs false
namespace Go.Proofs
open Go Go.Abs

theorem parts_lex {s : By} {L1 L2 : List (Nat × Int × By)} {b : Nat × Int × By} (h : lex s = some (L1 ++ b :: L2)) :
    lex (s.take (s.length - b.1)) = some (L1.map fun a => (a.1 - b.1, a.2)) ∧ lex (s.drop (s.length - b.1)) = some (b :: L2) := by
  obtain ⟨P, Q, rfl, g1, g2, g3⟩ := lex_at h
  have hP : (P ++ Q).length - b.1 = P.length := by rw [List.length_append]; omega
  rw [hP, List.take_left, List.drop_left]
  obtain ⟨e1, e2⟩ := lex_cut _ P Q L1 L2 b (Nat.le_refl _) h g1 g2 g3
  have := e2 [] (.inl rfl)
  rw [List.append_nil, lex_end (l := []) rfl] at this
  refine ⟨?_, e1⟩
  rw [this, g1]
  simp

set_option maxRecDepth 20000 in
set_option maxHeartbeats 12800000 in
theorem LexParts_calls (s : ByteArray) (i : Int) {W : World} {vs : Array Value} (hg : Glob W.heap.size W) (h2 : vs.size = ([.str s, .int .i64 i] : List AVal).length)
    (h3 : ∀ k, k < ([.str s, .int .i64 i] : List AVal).length → Rep W noM noB (vs.getD k undef) (([.str s, .int .i64 i] : List AVal).getD k .undef)) :
    Calls Tryd.prog 7 vs W fun e w' => e = .returned (.bool true) ∧ RowKit.Below W.heap.size W w' := by
  refine calls_true (args := [.str s, .int .i64 i]) (rs := [.tmp 4]) (m := 157) 1000 Tryd.func7 rfl rfl rfl rfl ?_ hg h2 h3
  clear hg h2 h3
  by_cases h : 2000 < (s.size : Int)
  · simp only [go_sem, Nat.reduceAdd, Nat.reduceSub, Nat.reduceMul, Nat.reduceLeDiff, Nat.reduceEqDiff, Nat.reduceBEq, h]
  simp only [go_sem, Nat.reduceAdd, Nat.reduceSub, Nat.reduceMul, Nat.reduceLeDiff, Nat.reduceEqDiff, Nat.reduceBEq, h]
  have hA := AllP_eq s (by omega)
  cases hL : lex (bs s) with
  | none =>
    obtain ⟨p, e, b1, b2, b3, b4⟩ := allB_none (by rw [bs_len]; omega) hL
    rw [b4] at hA
    refine VCall.isoT [] (hA) (pTL_refl _ _ _) (by simp [go_sem, ]) ?_; rw [frzI_nil]; simp only [ite_self]; refine EvK.go 1000 ?_
    simp only [go_sem, Nat.reduceAdd, Nat.reduceSub, Nat.reduceMul, Nat.reduceLeDiff, Nat.reduceEqDiff, Nat.reduceBEq, allA, b1]
    refine VCall.isoT [] (Awake_eq) (pTL_refl _ _ _) (by simp [go_sem, ]) ?_; simp only [flatR, flatA, flatC, if_true]; refine EvK.go 1000 ?_
    simp only [go_sem, Nat.reduceAdd, Nat.reduceSub, Nat.reduceMul, Nat.reduceLeDiff, Nat.reduceEqDiff, Nat.reduceBEq]
  | some L =>
    rw [allB_some (by rw [bs_len]; omega) hL, bs_len] at hA
    refine VCall.isoT [] (hA) (pTL_refl _ _ _) (by simp [go_sem, ]) ?_; rw [frzI_nil]; simp only [ite_self]; refine EvK.go 1000 ?_
    obtain ⟨hle, hpw⟩ := lex_le _ _ _ (Nat.le_refl _) hL
    generalize hT : L.map (tokAt s.size) = T at *
    have hTl : T.length = L.length := by rw [← hT, List.length_map]
    have hLl : L.length ≤ 2000 := by
      have h1 := allB_len (bs s)
      rw [allB_some (by rw [bs_len]; omega) hL, bs_len, hT] at h1
      simp only at h1
      omega
    have hTg : ∀ k (hk : k < T.length), (toks T).getD k .undef = .agg [.int .i64 T[k].kind, .int .i64 T[k].at', .str (ofB T[k].text)] := fun k hk => by rw [toks_get hk, tok_eq]
    by_cases c1 : i < 0
    · simp only [go_sem, Nat.reduceAdd, Nat.reduceSub, Nat.reduceMul, Nat.reduceLeDiff, Nat.reduceEqDiff, Nat.reduceBEq, allA, c1]
      refine VCall.isoT [] (Awake_eq) (pTL_refl _ _ _) (by simp [go_sem, ]) ?_; simp only [flatR, flatA, flatC, if_true]; refine EvK.go 1000 ?_
      simp only [go_sem, Nat.reduceAdd, Nat.reduceSub, Nat.reduceMul, Nat.reduceLeDiff, Nat.reduceEqDiff, Nat.reduceBEq]
    by_cases c2 : (T.length : Int) ≤ i
    · simp only [go_sem, Nat.reduceAdd, Nat.reduceSub, Nat.reduceMul, Nat.reduceLeDiff, Nat.reduceEqDiff, Nat.reduceBEq, allA, c1, toks_len, c2]
      refine VCall.isoT [] (Awake_eq) (pTL_refl _ _ _) (by simp [go_sem, ]) ?_; simp only [flatR, flatA, flatC, if_true]; refine EvK.go 1000 ?_
      simp only [go_sem, Nat.reduceAdd, Nat.reduceSub, Nat.reduceMul, Nat.reduceLeDiff, Nat.reduceEqDiff, Nat.reduceBEq]
    obtain ⟨n, rfl⟩ : ∃ n : Nat, i = n := ⟨i.toNat, by omega⟩
    have hn : n < T.length := by omega
    have hn' : (n : Int) < T.length := by omega
    have hnL : n < L.length := by omega
    have hsp : L = L.take n ++ L[n] :: L.drop (n + 1) := by rw [← List.drop_eq_getElem_cons hnL, List.take_append_drop]
    have hbl := hle L[n] (List.getElem_mem hnL)
    rw [bs_len] at hbl
    have hat : T[n].at' = ((s.size - L[n].1 : Nat) : Int) := by
      subst hT
      simp only [List.getElem_map, tokAt]
      omega
    rw [hsp] at hL
    obtain ⟨hP, hQ⟩ := parts_lex hL
    rw [← List.drop_eq_getElem_cons hnL] at hQ
    rw [bs_len] at hP hQ
    have hbp : L[n].1 = s.size - (s.size - L[n].1) := by omega
    generalize hp : s.size - L[n].1 = p at *
    rw [hbp] at hP
    have hpl : p ≤ s.size := by omega
    have htk : ((bs s).take p).length = p := by rw [List.length_take, bs_len]; omega
    have hdk : ((bs s).drop p).length = s.size - p := by rw [List.length_drop, bs_len]
    have hA1 := AllP_eq (ofB ((bs s).take p)) (by rw [ofB_size, htk]; omega)
    have hA2 := AllP_eq (ofB ((bs s).drop p)) (by rw [ofB_size, hdk]; omega)
    rw [bs_ofB, allB_some (by rw [htk]; omega) hP, htk] at hA1
    rw [bs_ofB, allB_some (by rw [hdk]; omega) hQ, hdk] at hA2
    generalize hT1 : ((L.take n).map fun (a : Nat × Int × By) => (a.1 - (s.size - p), a.2)).map (tokAt p) = T1 at *
    generalize hT2 : (L.drop n).map (tokAt (s.size - p)) = T2 at *
    have hT1l : T1.length = n := by rw [← hT1]; simp only [List.length_map, List.length_take]; omega
    have hT2l : T2.length = T.length - n := by rw [← hT2, hTl]; simp only [List.length_map, List.length_drop]
    simp only [go_sem, Nat.reduceAdd, Nat.reduceSub, Nat.reduceMul, Nat.reduceLeDiff, Nat.reduceEqDiff, Nat.reduceBEq, allA, c1, toks_len, c2, hn', Int.toNat_natCast, hTg n hn, hat, ext_take]
    refine ⟨by omega, by omega, ?_⟩
    refine VCall.isoT [] (hA1) (pTL_refl _ _ _) (by simp [go_sem, ]) ?_; rw [frzI_nil]; simp only [ite_self]; refine EvK.go 1000 ?_
    simp only [go_sem, Nat.reduceAdd, Nat.reduceSub, Nat.reduceMul, Nat.reduceLeDiff, Nat.reduceEqDiff, Nat.reduceBEq, allA, toks_len, hn', Int.toNat_natCast, hTg n hn, hat, ext_drop]
    refine ⟨by omega, by omega, ?_⟩
    refine VCall.isoT [] (hA2) (pTL_refl _ _ _) (by simp [go_sem, ]) ?_; rw [frzI_nil]; simp only [ite_self]; refine EvK.go 1000 ?_
    have hsum : IntKind.i64.wrap ((T1.length : Int) + T2.length) = T.length := by rw [i64_id (by omega)]; omega
    have hTb : ∀ j (hj : j < T.length), 0 ≤ T[j].at' ∧ T[j].at' ≤ s.size := fun j hj => by
      have hb := hle (L[j]'(by omega)) (List.getElem_mem _)
      rw [bs_len] at hb
      subst hT
      rw [List.getElem_map]
      simp only [tokAt]
      omega
    have h1g : ∀ j (hj : j < n), (toks T1).getD j .undef = .agg [.int .i64 (T[j]'(by omega)).kind, .int .i64 (T[j]'(by omega)).at', .str (ofB (T[j]'(by omega)).text)] := fun j hj => by
      rw [toks_get (by omega), tok_eq]
      have hd := List.pairwise_iff_getElem.1 hpw j n (by omega) (by omega) hj
      have hb := hle (L[j]'(by omega)) (List.getElem_mem _)
      rw [bs_len] at hb
      subst hT hT1
      simp only [List.getElem_map, List.getElem_take, tokAt]
      rw [show ((p : Nat) : Int) - ((L[j].1 - (s.size - p) : Nat) : Int) = (s.size : Int) - L[j].1 by omega]
    have h2g : ∀ j (hj : j < T.length), ¬ j < n → (toks T2).getD (j - n) .undef = .agg [.int .i64 T[j].kind, .int .i64 (T[j].at' - p), .str (ofB T[j].text)] := fun j hj hjn => by
      rw [toks_get (by omega), tok_eq]
      subst hT hT2
      simp only [List.getElem_map, List.getElem_drop, tokAt, show n + (j - n) = j by omega]
      rw [show ((s.size - p : Nat) : Int) - (L[j].1 : Int) = (s.size : Int) - L[j].1 - p by omega]
    simp only [go_sem, Nat.reduceAdd, Nat.reduceSub, Nat.reduceMul, Nat.reduceLeDiff, Nat.reduceEqDiff, Nat.reduceBEq, allA, toks_len, hsum]
    refine EvK.loopI (ι := {j : Nat // j ≤ T.length}) 1000 (fun j => mkT 159 [(0, .str s), (1, .int .i64 n), (4, .bool false), (5, .ps 3 (toks T)), (8, .ps 3 (toks T1)), (11, .ps 3 (toks T2)), (14, .int .i64 j.1)]) (fun _ => []) (fun j => T.length - j.1) ⟨0, Nat.zero_le _⟩ ?_ (fun _ => Nat.zero_le _) ?_
    · simp only [go_sem, Nat.reduceAdd, Nat.reduceSub, Nat.reduceMul, Nat.reduceLeDiff, Nat.reduceEqDiff, Nat.reduceBEq, Int.natCast_zero]
      exact ⟨toks_low _, toks_low _, toks_low _⟩
    · rintro ⟨j, hj⟩
      by_cases hjt : j < T.length
      · have hjt' : (j : Int) < T.length := by omega
        obtain ⟨hb1, hb2⟩ := hTb j hjt
        simp only [go_sem, Nat.reduceAdd, Nat.reduceSub, Nat.reduceMul, Nat.reduceLeDiff, Nat.reduceEqDiff, Nat.reduceBEq, toks_len, hjt']
        by_cases hjn : j < n
        · have hjn' : (j : Int) < T1.length := by omega
          have hjn3 : ¬ (T1.length : Int) ≤ j := by omega
          have qt := (eq_tok T[j] T[j]).trans (decide_eq_true rfl)
          refine EvK.draw [] 0 0 mixed rfl rfl (Nat.le_refl _) ?_
          simp (config := { maxSteps := 4000000 }) only [go_sem, Nat.reduceAdd, Nat.reduceSub, Nat.reduceMul, Nat.reduceLeDiff, Nat.reduceEqDiff, Nat.reduceBEq, List.append_eq, List.cons_append, List.nil_append, padS, toks_len, hjt', hjn', Int.toNat_natCast, Bool.not_true, Bool.not_false, decide_true, decide_false, not_true_eq_false, not_false_eq_true, ne_eq, hTg j hjt, h1g j hjn, qt, hjn3]
          (repeat ((with_reducible refine And.intro ?_ ?_); · omega))
          refine EvK.go 1000 ?_
          simp only [go_sem, Nat.reduceAdd, Nat.reduceSub, Nat.reduceMul, Nat.reduceLeDiff, Nat.reduceEqDiff, Nat.reduceBEq]
          refine ⟨⟨j + 1, hjt⟩, ?_, by simp only; omega⟩
          rw [i64_id (by omega)]
          simp [toks_low]
        · have hjn' : ¬ (j : Int) < T1.length := by omega
          have hjn2 : (T1.length : Int) ≤ j := by omega
          have qs := (str_eq (ofB T[j].text) (ofB T[j].text)).trans (decide_eq_true rfl)
          have g2 := h2g j hjt hjn
          refine EvK.draw [] 0 0 mixed rfl rfl (Nat.le_refl _) ?_
          simp (config := { maxSteps := 4000000 }) only [go_sem, Nat.reduceAdd, Nat.reduceSub, Nat.reduceMul, Nat.reduceLeDiff, Nat.reduceEqDiff, Nat.reduceBEq, List.append_eq, List.cons_append, List.nil_append, padS, toks_len, hjt', hjn', hjn2, Int.toNat_natCast, hTg j hjt, hTg n hn, hat, hn', i64_id (n := (j : Int) - T1.length) (by omega), show ((j : Int) - T1.length).toNat = j - n by omega, g2, qs, i64_id (n := T[j].at') (by omega), Int.sub_add_cancel, Bool.not_true, Bool.not_false, decide_true, decide_false, not_true_eq_false, not_false_eq_true, ne_eq]
          (repeat ((with_reducible refine And.intro ?_ ?_); · omega))
          refine EvK.go 1000 ?_
          simp only [go_sem, Nat.reduceAdd, Nat.reduceSub, Nat.reduceMul, Nat.reduceLeDiff, Nat.reduceEqDiff, Nat.reduceBEq]
          refine ⟨⟨j + 1, hjt⟩, ?_, by simp only; omega⟩
          rw [i64_id (by omega)]
          simp [toks_low]
      · have hjt' : ¬ (j : Int) < T.length := by omega
        simp only [go_sem, Nat.reduceAdd, Nat.reduceSub, Nat.reduceMul, Nat.reduceLeDiff, Nat.reduceEqDiff, Nat.reduceBEq, toks_len, hjt']
        refine EvK.go 1000 ?_
        simp only [go_sem, Nat.reduceAdd, Nat.reduceSub, Nat.reduceMul, Nat.reduceLeDiff, Nat.reduceEqDiff, Nat.reduceBEq]
        refine VCall.isoT [] (Awake_eq) (pTL_refl _ _ _) (by simp [go_sem, ]) ?_; simp only [flatR, flatA, flatC, if_true]; refine EvK.go 1000 ?_
        simp only [go_sem, Nat.reduceAdd, Nat.reduceSub, Nat.reduceMul, Nat.reduceLeDiff, Nat.reduceEqDiff, Nat.reduceBEq]
end Go.Proofs
