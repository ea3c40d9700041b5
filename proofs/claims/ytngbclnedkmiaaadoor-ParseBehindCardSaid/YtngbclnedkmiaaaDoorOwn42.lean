/- Part 42 of my own framework and of the walks of functions: La. -/
import Derived.Test.YtngbclnedkmiaaaDoorOwn41
import Derived.Lib.IndexMore
import Derived.Lib.Replace
import Derived.Lib.ReplaceLaws
import Derived.Lib.SlTrimSet
import Derived.Lib.Strings
set_option linter.unusedVariables false
set_option linter.unusedSectionVars false
set_option linter.unusedSimpArgs false

/- Texts cut into tokens, as plain Lean. -/
namespace Go.Proofs
open Go Go.Abs

abbrev By := List UInt8
def bs (s : ByteArray) : By := s.data.toList
def ofB (l : By) : ByteArray := ⟨l.toArray⟩
theorem bs_ofB (l : By) : bs (ofB l) = l := by simp [bs, ofB]
theorem ofB_bs (s : ByteArray) : ofB (bs s) = s := by simp [bs, ofB]
theorem bs_len (s : ByteArray) : (bs s).length = s.size := by simp [bs]
theorem ofB_size (l : By) : (ofB l).size = l.length := by rw [← bs_len, bs_ofB]
theorem bs_inj {a b : ByteArray} (h : bs a = bs b) : a = b := by rw [← ofB_bs a, h, ofB_bs]

def isW (c : UInt8) : Bool := c == 32 || c == 9 || c == 10 || c == 13
def smallB (c : UInt8) : Bool := decide (97 ≤ c.toNat) && decide (c.toNat ≤ 122)
def greatB (c : UInt8) : Bool := decide (65 ≤ c.toNat) && decide (c.toNat ≤ 90)
def digitB (c : UInt8) : Bool := decide (48 ≤ c.toNat) && decide (c.toNat ≤ 57)
def onB (c : UInt8) : Bool := smallB c || greatB c || digitB c || c == 95
def runB (p : UInt8 → Bool) (l : By) : Nat := (l.takeWhile p).length

/-- Behind the first end of a remark. -/
def cutC : By → Option By
  | [] => none
  | c :: r => if c = 42 ∧ r.head? = some 47 then some (r.drop 1) else cutC r
theorem cutC_len : ∀ {l b : By}, cutC l = some b → b.length + 2 ≤ l.length
  | [], b, h => by simp [cutC] at h
  | c :: r, b, h => by
    simp only [cutC] at h
    split at h
    · rename_i hc
      cases h
      cases r with
      | nil => simp at hc
      | cons d r => simp
    · have := cutC_len h; simp; omega

def skipF : Nat → By → By
  | 0, l => l
  | _ + 1, [] => []
  | k + 1, c :: r => if isW c = true then skipF k r else if c = 37 then skipF k (r.dropWhile (· != 10)) else if c = 47 ∧ r.head? = some 42 then (match cutC (r.drop 1) with | none => c :: r | some b => skipF k b) else c :: r
theorem dropW_len {p : UInt8 → Bool} : ∀ l : By, (l.dropWhile p).length ≤ l.length
  | [] => Nat.le_refl _
  | c :: l => by
    simp only [List.dropWhile]
    split
    · have := dropW_len (p := p) l; simp; omega
    · exact Nat.le_refl _
theorem skipF_fuel : ∀ (n : Nat) (l : By) (k k' : Nat), l.length ≤ n → l.length ≤ k → l.length ≤ k' → skipF k l = skipF k' l
  | n, [], k, k', _, _, _ => by cases k <;> cases k' <;> rfl
  | n + 1, c :: r, k + 1, k' + 1, h, h1, h2 => by
    simp only [List.length_cons] at h h1 h2
    simp only [skipF]
    have hd := dropW_len (p := (· != 10)) r
    split
    · exact skipF_fuel n r k k' (by omega) (by omega) (by omega)
    · split
      · exact skipF_fuel n _ k k' (by omega) (by omega) (by omega)
      · split
        · cases hc : cutC (r.drop 1) with
          | none => rfl
          | some b =>
            have := cutC_len hc
            simp only [List.length_drop] at this
            exact skipF_fuel n b k k' (by omega) (by omega) (by omega)
        · rfl
/-- What is left behind the white. -/
def skip (l : By) : By := skipF l.length l
theorem skip_nil : skip [] = [] := rfl
theorem skip_white {c : UInt8} {r : By} (h : isW c = true) : skip (c :: r) = skip r := by
  simp only [skip, List.length_cons, skipF, if_pos h]
theorem skip_pct {r : By} : skip (37 :: r) = skip (r.dropWhile (· != 10)) := by
  have hd := dropW_len (p := (· != 10)) r
  simp only [skip, List.length_cons, skipF]
  rw [if_neg (by decide), if_pos trivial]
  exact skipF_fuel _ _ _ _ (Nat.le_refl _) hd (Nat.le_refl _)
theorem skip_cmt {r b : By} (h : cutC r = some b) : skip (47 :: 42 :: r) = skip b := by
  have hl := cutC_len h
  simp only [skip, List.length_cons, skipF]
  rw [if_neg (by decide), if_neg (by decide), if_pos (by simp)]
  simp only [List.drop_succ_cons, List.drop_zero, h]
  exact skipF_fuel _ _ _ _ (Nat.le_refl _) (by omega) (Nat.le_refl _)
theorem skip_open {r : By} (h : cutC r = none) : skip (47 :: 42 :: r) = 47 :: 42 :: r := by
  simp only [skip, List.length_cons, skipF]
  rw [if_neg (by decide), if_neg (by decide), if_pos (by simp)]
  simp only [List.drop_succ_cons, List.drop_zero, h]
theorem skip_stop {c : UInt8} {r : By} (h1 : isW c = false) (h2 : c ≠ 37) (h3 : ¬ (c = 47 ∧ r.head? = some 42)) : skip (c :: r) = c :: r := by
  simp only [skip, List.length_cons, skipF]
  rw [if_neg (by rw [h1]; decide), if_neg h2, if_neg h3]
theorem skip_dropW (l : By) : skip (l.dropWhile isW) = skip l := by
  induction l with
  | nil => rfl
  | cons c l ih =>
    simp only [List.dropWhile]
    cases h : isW c with
    | true => simp only; rw [ih, skip_white h]
    | false => rfl
theorem skip_suffix : ∀ (n : Nat) (l : By), l.length ≤ n → ∃ p : By, l = p ++ skip l
  | n, [], _ => ⟨[], rfl⟩
  | n + 1, c :: r, h => by
    simp only [List.length_cons] at h
    cases hw : isW c with
    | true =>
      obtain ⟨p, hp⟩ := skip_suffix n r (by omega)
      exact ⟨c :: p, by rw [skip_white hw, List.cons_append, ← hp]⟩
    | false =>
      by_cases h2 : c = 37
      · subst h2
        have hd := dropW_len (p := (· != 10)) r
        obtain ⟨p, hp⟩ := skip_suffix n (r.dropWhile (· != 10)) (by omega)
        refine ⟨37 :: r.takeWhile (· != 10) ++ p, ?_⟩
        rw [skip_pct, List.cons_append, List.cons_append, List.append_assoc, ← hp, List.takeWhile_append_dropWhile]
      · by_cases h3 : c = 47 ∧ r.head? = some 42
        · obtain ⟨rfl, h3⟩ := h3
          cases r with
          | nil => simp at h3
          | cons d r =>
            simp at h3
            subst h3
            cases hc : cutC r with
            | none => exact ⟨[], by rw [skip_open hc]; rfl⟩
            | some b =>
              have hl := cutC_len hc
              simp only [List.length_cons] at h
              obtain ⟨p, hp⟩ := skip_suffix n b (by omega)
              rw [skip_cmt hc]
              obtain ⟨q, hq⟩ : ∃ q : By, r = q ++ b := by
                clear hp hl h
                revert hc
                induction r with
                | nil => intro hc; simp [cutC] at hc
                | cons e r ih =>
                  intro hc
                  simp only [cutC] at hc
                  split at hc
                  · rename_i he
                    cases hc
                    cases r with
                    | nil => simp at he
                    | cons g r => exact ⟨[e, g], rfl⟩
                  · obtain ⟨q, hq⟩ := ih hc
                    exact ⟨e :: q, by rw [hq]; rfl⟩
              exact ⟨47 :: 42 :: q ++ p, by rw [List.append_assoc, ← hp, hq]; rfl⟩
        · exact ⟨[], by rw [skip_stop hw h2 h3]; rfl⟩
theorem skip_len (l : By) : (skip l).length ≤ l.length := by
  obtain ⟨p, hp⟩ := skip_suffix _ l (Nat.le_refl _)
  have := congrArg List.length hp
  rw [List.length_append] at this; omega

/-- What a quote says, and what is behind it. -/
def quoteB : By → By → Option (By × By)
  | _, [] => none
  | acc, c :: r => if c = 39 then (if acc = [] then none else some (acc, r)) else if c.toNat < 32 ∨ 126 < c.toNat then none else
    if c = 92 then (match r with | [] => none | d :: r' => if d = 92 ∨ d = 39 then quoteB (acc ++ [d]) r' else none) else quoteB (acc ++ [c]) r

theorem quoteB_nil (acc : By) : quoteB acc [] = none := rfl
theorem quoteB_39 (acc r : By) : quoteB acc (39 :: r) = if acc = [] then none else some (acc, r) := by cases r <;> rfl
theorem quoteB_bad {acc r : By} {c : UInt8} (h1 : c ≠ 39) (h2 : c.toNat < 32 ∨ 126 < c.toNat) : quoteB acc (c :: r) = none := by
  cases r <;> (unfold quoteB; rw [if_neg h1, if_pos h2])
theorem quoteB_92 (acc : By) : quoteB acc [92] = none := rfl
theorem quoteB_two (acc : By) (d : UInt8) (r : By) : quoteB acc (92 :: d :: r) = if d = 92 ∨ d = 39 then quoteB (acc ++ [d]) r else none := by
  cases r <;> rfl
theorem quoteB_one {acc r : By} {c : UInt8} (h1 : c ≠ 39) (h2 : ¬ (c.toNat < 32 ∨ 126 < c.toNat)) (h3 : c ≠ 92) : quoteB acc (c :: r) = quoteB (acc ++ [c]) r := by
  cases r <;> (conv => lhs; unfold quoteB) <;> rw [if_neg h1, if_neg h2, if_neg h3]

structure Tok where
  kind : Int
  at' : Int
  text : By
def Tok.zero : Tok := ⟨0, 0, []⟩
def Tok.toA (t : Tok) : AVal := .agg [.int .i64 t.kind, .int .i64 t.at', .str (ofB t.text)]

/-- A name that a text begins with: its kind, what it says, and how many bytes it has; 0: there is none. -/
def nameB : By → Int × By × Nat
  | [] => (0, [], 0)
  | c :: r => if c = 39 then (match quoteB [] r with | none => (0, [], 0) | some x => (0, x.1, (c :: r).length - x.2.length))
    else if digitB c = true then (0, (c :: r).take (runB digitB (c :: r)), runB digitB (c :: r))
    else if smallB c = true then (0, (c :: r).take (runB onB (c :: r)), runB onB (c :: r))
    else if greatB c = true then (1, (c :: r).take (runB onB (c :: r)), runB onB (c :: r))
    else if c = 36 ∧ ((r.head?.map smallB).getD false) = true then (2, (c :: r).take (1 + runB onB r), 1 + runB onB r)
    else (0, [], 0)
theorem name_q0 {r : By} (h : quoteB [] r = none) : nameB (39 :: r) = (0, [], 0) := by simp only [nameB, if_true, h]
theorem name_q1 {r : By} {x : By × By} (h : quoteB [] r = some x) : nameB (39 :: r) = (0, x.1, r.length + 1 - x.2.length) := by simp only [nameB, if_true, h, List.length_cons]
theorem name_d {c : UInt8} {r : By} (h1 : c ≠ 39) (h2 : digitB c = true) : nameB (c :: r) = (0, (c :: r).take (runB digitB (c :: r)), runB digitB (c :: r)) := by simp only [nameB, if_neg h1, h2, if_true]
theorem name_s {c : UInt8} {r : By} (h1 : c ≠ 39) (h2 : digitB c = false) (h3 : smallB c = true) : nameB (c :: r) = (0, (c :: r).take (runB onB (c :: r)), runB onB (c :: r)) := by simp only [nameB, if_neg h1, h2, h3, if_true, Bool.false_eq_true, if_false]
theorem name_g {c : UInt8} {r : By} (h1 : c ≠ 39) (h2 : digitB c = false) (h3 : smallB c = false) (h4 : greatB c = true) : nameB (c :: r) = (1, (c :: r).take (runB onB (c :: r)), runB onB (c :: r)) := by simp only [nameB, if_neg h1, h2, h3, h4, if_true, Bool.false_eq_true, if_false]
theorem name_y {d : UInt8} {r : By} (h : smallB d = true) : nameB (36 :: d :: r) = (2, (36 :: d :: r).take (1 + runB onB (d :: r)), 1 + runB onB (d :: r)) := by
  simp only [nameB]
  rw [if_neg (by decide), if_neg (by decide), if_neg (by decide), if_neg (by decide), if_pos (by simpa using h)]
theorem name_y0 {d : UInt8} {r : By} (h : smallB d = false) : nameB (36 :: d :: r) = (0, [], 0) := by
  simp only [nameB]
  rw [if_neg (by decide), if_neg (by decide), if_neg (by decide), if_neg (by decide), if_neg (by simp [h])]
theorem name_n {c : UInt8} {r : By} (h1 : c ≠ 39) (h2 : digitB c = false) (h3 : smallB c = false) (h4 : greatB c = false) (h5 : c ≠ 36) : nameB (c :: r) = (0, [], 0) := by
  simp only [nameB, if_neg h1, h2, h3, h4, Bool.false_eq_true, if_false]
  rw [if_neg (fun h => h5 h.1)]
def signL : List By := [[60, 61, 62], [60, 126, 62], [61, 62], [60, 61], [33, 61], [40], [41], [91], [93], [44], [46], [58], [38], [124], [126], [61], [33], [63]]

def nextB (s : By) (i : Int) : Tok × Int × Int :=
  if i < 0 ∨ (s.length : Int) < i then (Tok.zero, 0, 1) else
  if skip (s.drop i.toNat) = [] then (⟨4, s.length, []⟩, s.length, 0) else
  if 0 < (nameB (skip (s.drop i.toNat))).2.2 then
    (if 64 < (nameB (skip (s.drop i.toNat))).2.1.length then (Tok.zero, (s.length : Int) - (skip (s.drop i.toNat)).length, 8)
     else (⟨(nameB (skip (s.drop i.toNat))).1, (s.length : Int) - (skip (s.drop i.toNat)).length, (nameB (skip (s.drop i.toNat))).2.1⟩, (s.length : Int) - (skip (s.drop i.toNat)).length + (nameB (skip (s.drop i.toNat))).2.2, 0))
  else match signL.find? (·.isPrefixOf (skip (s.drop i.toNat))) with
    | some x => (⟨3, (s.length : Int) - (skip (s.drop i.toNat)).length, x⟩, (s.length : Int) - (skip (s.drop i.toNat)).length + x.length, 0)
    | none => (Tok.zero, (s.length : Int) - (skip (s.drop i.toNat)).length, 4)

def allF (s : By) : Nat → Int → List Tok → List Tok × Int × Int
  | 0, _, _ => ([], 0, 0)
  | k + 1, i, out => if (nextB s i).2.2 ≠ 0 then ([], (nextB s i).2.1, (nextB s i).2.2) else if (nextB s i).1.kind = 4 then (out, s.length, 0) else allF s k (nextB s i).2.1 (out ++ [(nextB s i).1])
def allB (s : By) : List Tok × Int × Int := if 65536 < (s.length : Int) then ([], 0, 2) else allF s (s.length + 1) 0 []

def badQ (c : UInt8) : Bool := decide (c.toNat < 32) || decide (126 < c.toNat)
def escB (l : By) : By := l.flatMap fun c => if c = 39 ∨ c = 92 then [92, c] else [c]
def plainQ : By → Bool
  | [] => false
  | c :: r => (smallB c && (c :: r).all onB) || (digitB c && (c :: r).all digitB)
def quoteS (n : By) : By × Int :=
  if n = [] ∨ 64 < (n.length : Int) then ([], 8) else if n.any badQ = true then ([], 4) else if plainQ n = true then (n, 0) else (39 :: (escB n ++ [39]), 0)

/-! ### replacing -/
theorem index_one_nil (o : UInt8) : Lib.index [] [o] = -1 := rfl
theorem index_one (b o : UInt8) (l : By) : Lib.index (b :: l) [o] = if b = o then 0 else if Lib.index l [o] = -1 then -1 else Lib.index l [o] + 1 := by
  simp only [Lib.index, List.isPrefixOf_cons_cons, List.isPrefixOf_nil_left, Bool.and_true, beq_iff_eq]
  by_cases h : o = b
  · rw [if_pos h, if_pos h.symm]
  · rw [if_neg h, if_neg (Ne.symm h)]
theorem replaceK_one (o : UInt8) (new : By) : ∀ (n : Nat) (k : Nat) (l : By), l.length ≤ n → l.count o ≤ k → Lib.replaceK [o] new k l = l.flatMap fun c => if c = o then new else [c]
  | n, 0, l, _, h => by
    have h0 : ∀ c ∈ l, c ≠ o := fun c hc e => by
      subst e
      have := List.count_pos_iff.2 hc
      omega
    have : ∀ l : By, (∀ c ∈ l, c ≠ o) → l.flatMap (fun c => if c = o then new else [c]) = l := by
      intro l
      induction l with
      | nil => intro _; rfl
      | cons c l ih =>
        intro h
        rw [List.flatMap_cons, if_neg (h c List.mem_cons_self), ih fun x hx => h x (List.mem_cons_of_mem _ hx)]; rfl
    rw [this l h0]; rfl
  | n, k + 1, [], _, _ => by simp [Lib.replaceK, index_one_nil]
  | n + 1, k + 1, b :: l, hn, hk => by
    simp only [List.length_cons] at hn
    by_cases h : b = o
    · have e : Lib.index (b :: l) [o] = (0 : Nat) := by rw [index_one, if_pos h]; rfl
      rw [Lib.replaceK_hit _ _ _ _ _ e]
      simp only [List.take_zero, List.nil_append, List.length_singleton, Nat.zero_add, List.drop_succ_cons, List.drop_zero, List.flatMap_cons, if_pos h]
      rw [replaceK_one o new n k l (by omega) (by rw [h, List.count_cons_self] at hk; omega)]
    · have ih := replaceK_one o new n (k + 1) l (by omega) (by rw [List.count_cons_of_ne h] at hk; exact hk)
      simp only [List.flatMap_cons, if_neg h]
      rw [← ih]
      have hg := Lib.index_ge l [o]
      by_cases hm : Lib.index l [o] = -1
      · have e : Lib.index (b :: l) [o] = -1 := by rw [index_one, if_neg h, if_pos hm]
        simp [Lib.replaceK, e, hm]
      · obtain ⟨i, hi⟩ : ∃ i : Nat, Lib.index l [o] = i := ⟨(Lib.index l [o]).toNat, by omega⟩
        have e : Lib.index (b :: l) [o] = ((i + 1 : Nat) : Int) := by rw [index_one, if_neg h, if_neg hm, hi]; rfl
        rw [Lib.replaceK_hit _ _ _ _ _ e, Lib.replaceK_hit _ _ _ _ _ hi]
        simp only [List.take_succ_cons, List.length_singleton, List.cons_append, List.nil_append, List.drop_succ_cons]
theorem countF_one (o : UInt8) : ∀ (n k : Nat) (l : By), l.length ≤ n → l.length < k → Lib.countFrom [o] k l = l.count o
  | n, k + 1, [], _, _ => by simp [Lib.countFrom, index_one_nil]
  | n + 1, k + 1, b :: l, hn, hk => by
    simp only [List.length_cons] at hn hk
    simp only [Lib.countFrom]
    rw [index_one]
    by_cases h : b = o
    · rw [if_pos h]
      simp only [show ((0 : Int) == -1) = false from rfl, Bool.false_eq_true, if_false, Int.toNat_zero, Nat.zero_add, List.length_singleton, List.drop_succ_cons, List.drop_zero]
      rw [countF_one o n k l (by omega) (by omega), h, List.count_cons_self]; omega
    · rw [if_neg h, List.count_cons_of_ne h]
      have hg := Lib.index_ge l [o]
      have ih := countF_one o n (k + 1) l (by omega) (by omega)
      simp only [Lib.countFrom] at ih
      by_cases hm : Lib.index l [o] = -1
      · rw [if_pos hm]; rw [hm] at ih; exact ih
      · obtain ⟨i, hi⟩ : ∃ i : Nat, Lib.index l [o] = i := ⟨(Lib.index l [o]).toNat, by omega⟩
        rw [if_neg hm]
        rw [hi] at ih ⊢
        rw [if_neg (by simp <;> omega)] at ih
        rw [if_neg (by simp <;> omega), ← ih]
        congr 2
theorem replaceAll_one (o : UInt8) (new l : By) (h : new ≠ [o]) : Lib.replaceAll l [o] new = l.flatMap fun c => if c = o then new else [c] := by
  unfold Lib.replaceAll Lib.replace
  rw [if_neg (by simpa using Ne.symm h)]
  refine replaceK_one o new l.length _ l (Nat.le_refl _) ?_
  unfold Lib.replaceNum
  rw [if_pos (.inl (by decide)), Lib.count, countF_one o l.length _ l (Nat.le_refl _) (by omega)]
  exact Nat.le_refl _
theorem esc_two (l : By) : Lib.replaceAll (Lib.replaceAll l [92] [92, 92]) [39] [92, 39] = escB l := by
  rw [replaceAll_one 92 _ _ (by decide), replaceAll_one 39 _ _ (by decide), List.flatMap_assoc]
  unfold escB
  congr 1
  funext c
  by_cases h1 : c = 92
  · subst h1; rfl
  · by_cases h2 : c = 39
    · subst h2; rfl
    · simp [h1, h2]
end Go.Proofs
