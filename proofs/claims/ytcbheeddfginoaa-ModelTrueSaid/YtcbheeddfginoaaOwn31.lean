/- Part 31 of my own framework and of the walks of functions: Ma, Mb, Mc, Md, Me, Mf, Mg, Ml, Mh, Mi, Mj, Mk, Mm. -/
import Derived.Test.YtcbheeddfginoaaOwn30
set_option linter.unusedVariables false
set_option linter.unusedSimpArgs false

/- Terms, symbols, literals and worlds as Lean data, and the trees that stand for them. No program in sight. -/
namespace Go.Proofs
open Go Go.Abs

inductive Tm where
  | mk (head : Int) (args : List Tm)

def Tm.head : Tm → Int | .mk h _ => h
def Tm.args : Tm → List Tm | .mk _ l => l

mutual
def Tm.toA : Tm → AVal
  | .mk h ts => .agg [.int .i64 h, .ps 2 (Tm.toAL ts)]
def Tm.toAL : List Tm → List AVal
  | [] => []
  | t :: ts => t.toA :: Tm.toAL ts
end

theorem toAL_eq : ∀ ts, Tm.toAL ts = ts.map Tm.toA
  | [] => rfl
  | t :: ts => by simp [Tm.toAL, toAL_eq ts]

theorem toA_eq (t : Tm) : t.toA = .agg [.int .i64 t.head, .ps 2 (t.args.map Tm.toA)] := by cases t; simp [Tm.toA, toAL_eq, Tm.head, Tm.args]
theorem toA_cells (t : Tm) : t.toA.cells = [.int .i64 t.head, .ps 2 (t.args.map Tm.toA)] := by rw [toA_eq]; rfl
theorem toA_mk (h : Int) (ts : List Tm) : AVal.agg [.int .i64 h, .ps 2 (ts.map Tm.toA)] = (Tm.mk h ts).toA := by rw [toA_eq]; rfl

theorem lowL_map {α : Type} {n : Nat} {f : α → AVal} : ∀ {l : List α}, (∀ x ∈ l, (f x).low n) → lowL n (l.map f)
  | [], _ => trivial
  | a :: l, h => ⟨h a (by simp), lowL_map fun x hx => h x (by simp [hx])⟩

mutual
theorem toA_low0 : ∀ t : Tm, t.toA.low 0
  | .mk h ts => by simp only [Tm.toA, AVal.low, lowL, and_true, true_and]; exact toAL_low0 ts
theorem toAL_low0 : ∀ ts : List Tm, lowL 0 (Tm.toAL ts)
  | [] => trivial
  | t :: ts => ⟨toA_low0 t, toAL_low0 ts⟩
end
theorem toA_low {n : Nat} (t : Tm) : t.toA.low n := low_mono (Nat.zero_le n) (toA_low0 t)
theorem tms_low {n : Nat} (ts : List Tm) : lowL n (ts.map Tm.toA) := lowL_map fun x _ => toA_low x

theorem map_getD {α : Type} {f : α → AVal} {l : List α} {i : Nat} (h : i < l.length) : (l.map f).getD i .undef = f l[i] := by simp [List.getD, h]

def ints (l : List Int) : List AVal := l.map (.int .i64)
theorem ints_len (l : List Int) : (ints l).length = l.length := by simp [ints]
theorem ints_low {n : Nat} : ∀ l : List Int, lowL n (ints l)
  | [] => trivial
  | _ :: l => ⟨trivial, ints_low l⟩
theorem ints_get {l : List Int} {i : Nat} (h : i < l.length) : (ints l).getD i .undef = .int .i64 l[i] := by simp [ints, List.getD, h]
theorem ints_nil : ints [] = [] := rfl
theorem ints_snoc (l : List Int) (n : Int) : ints l ++ [.int .i64 n] = ints (l ++ [n]) := by simp [ints]
theorem ints_append (l m : List Int) : ints l ++ ints m = ints (l ++ m) := by simp [ints]

theorem i64_id {n : Int} (h : -9223372036854775808 ≤ n ∧ n ≤ 9223372036854775807) : IntKind.i64.wrap n = n := by rw [IntKind.wrap_i64]; omega

def In64 (n : Int) : Prop := -9223372036854775808 ≤ n ∧ n ≤ 9223372036854775807

/-! ### what is counted of a term -/
mutual
def Tm.size : Tm → Nat
  | .mk _ ts => 1 + Tm.sizes ts
def Tm.sizes : List Tm → Nat
  | [] => 0
  | t :: ts => t.size + Tm.sizes ts
end

mutual
def Tm.depth : Tm → Nat
  | .mk _ ts => Tm.depths ts + 1
def Tm.depths : List Tm → Nat
  | [] => 0
  | t :: ts => max t.depth (Tm.depths ts)
end

theorem sizes_snoc : ∀ (ts : List Tm) (i : Nat) (hi : i < ts.length), Tm.sizes (ts.take (i + 1)) = Tm.sizes (ts.take i) + Tm.size ts[i]
  | t :: ts, 0, _ => by simp [Tm.sizes]
  | t :: ts, i + 1, hi => by
    simp only [List.take_succ_cons, Tm.sizes, List.getElem_cons_succ]
    rw [sizes_snoc ts i (by simpa using hi)]; omega

theorem depths_snoc : ∀ (ts : List Tm) (i : Nat) (hi : i < ts.length), Tm.depths (ts.take (i + 1)) = max (Tm.depths (ts.take i)) (Tm.depth ts[i])
  | t :: ts, 0, _ => by simp [Tm.depths]
  | t :: ts, i + 1, hi => by
    simp only [List.take_succ_cons, Tm.depths, List.getElem_cons_succ]
    rw [depths_snoc ts i (by simpa using hi)]; omega

theorem size_le_sizes : ∀ (ts : List Tm) (i : Nat) (hi : i < ts.length), Tm.size ts[i] ≤ Tm.sizes ts
  | t :: ts, 0, _ => by simp only [List.getElem_cons_zero, Tm.sizes]; omega
  | t :: ts, i + 1, hi => by
    have := size_le_sizes ts i (by simpa using hi)
    simp only [List.getElem_cons_succ, Tm.sizes]; omega

theorem sizes_take_le : ∀ (ts : List Tm) (i : Nat), Tm.sizes (ts.take i) ≤ Tm.sizes ts
  | [], i => by simp
  | t :: ts, 0 => by simp [Tm.sizes]
  | t :: ts, i + 1 => by have := sizes_take_le ts i; simp only [List.take_succ_cons, Tm.sizes]; omega

theorem size_pos (t : Tm) : 1 ≤ t.size := by cases t; simp only [Tm.size]; omega
theorem len_le_sizes : ∀ ts : List Tm, ts.length ≤ Tm.sizes ts
  | [] => by simp [Tm.sizes]
  | t :: ts => by have := len_le_sizes ts; have := size_pos t; simp only [List.length_cons, Tm.sizes]; omega
mutual
theorem depth_le_size : ∀ t : Tm, t.depth ≤ t.size
  | .mk _ ts => by have := depths_le_sizes ts; simp only [Tm.depth, Tm.size]; omega
theorem depths_le_sizes : ∀ ts : List Tm, Tm.depths ts ≤ Tm.sizes ts
  | [] => by simp [Tm.depths, Tm.sizes]
  | t :: ts => by have := depth_le_size t; have := depths_le_sizes ts; simp only [Tm.depths, Tm.sizes]; omega
end

/-- By recursion into the arguments. -/
theorem Tm.rec_args {p : Tm → Prop} (h : ∀ hd ts, (∀ (i : Nat) (hi : i < ts.length), p ts[i]) → p (.mk hd ts)) : ∀ t, p t := by
  have key : ∀ n (t : Tm), t.size = n → p t := by
    intro n
    induction n using Nat.strongRecOn with
    | _ n ih =>
      intro t ht
      match t, ht with
      | .mk hd ts, ht =>
        refine h hd ts fun i hi => ih _ ?_ ts[i] rfl
        have := size_le_sizes ts i hi
        simp only [Tm.size] at ht
        omega
  exact fun t => key _ t rfl

/-! ### parts, as far as one above a bound -/
mutual
def Tm.cnt : Tm → Int → Int
  | .mk _ ts, m => Tm.cntL ts 1 m
def Tm.cntL : List Tm → Int → Int → Int
  | [], n, _ => n
  | t :: ts, n, m => if n ≤ m then Tm.cntL ts (n + t.cnt (m - n)) m else n
end

mutual
theorem cnt_bounds : ∀ (t : Tm) (m : Int), 0 ≤ m → 1 ≤ t.cnt m ∧ t.cnt m ≤ m + 1
  | .mk _ ts, m, h => by simp only [Tm.cnt]; exact cntL_bounds ts 1 m (by omega) (by omega)
theorem cntL_bounds : ∀ (ts : List Tm) (n m : Int), 1 ≤ n → n ≤ m + 1 → n ≤ Tm.cntL ts n m ∧ Tm.cntL ts n m ≤ m + 1
  | [], n, m, h1, h2 => by simp only [Tm.cntL]; omega
  | t :: ts, n, m, h1, h2 => by
    simp only [Tm.cntL]
    split
    · have := cnt_bounds t (m - n) (by omega)
      have := cntL_bounds ts (n + t.cnt (m - n)) m (by omega) (by omega)
      omega
    · omega
end

mutual
theorem cnt_small : ∀ (t : Tm) (m : Int), 0 ≤ m → t.cnt m ≤ m → t.cnt m = t.size
  | .mk _ ts, m, h0, h => by
    simp only [Tm.cnt] at h ⊢
    have := cntL_small ts 1 m (by omega) (by omega) h
    simp only [Tm.size]; omega
theorem cntL_small : ∀ (ts : List Tm) (n m : Int), 1 ≤ n → n ≤ m + 1 → Tm.cntL ts n m ≤ m → Tm.cntL ts n m = n + Tm.sizes ts
  | [], n, m, _, _, _ => by simp [Tm.cntL, Tm.sizes]
  | t :: ts, n, m, h1, h2, h => by
    simp only [Tm.cntL] at h ⊢
    split at h
    · rename_i hn
      rw [if_pos hn]
      have hb := cnt_bounds t (m - n) (by omega)
      have hb2 := cntL_bounds ts (n + t.cnt (m - n)) m (by omega) (by omega)
      have h3 := cntL_small ts (n + t.cnt (m - n)) m (by omega) (by omega) h
      have h4 := cnt_small t (m - n) (by omega) (by omega)
      simp only [Tm.sizes]; omega
    · omega
end

theorem cntL_stop (ts : List Tm) (n m : Int) (h : ¬ n ≤ m) : Tm.cntL ts n m = n := by cases ts <;> simp [Tm.cntL, h]


/-! ### right terms, variables -/
mutual
def Tm.good : Tm → Bool
  | .mk h ts => !(h < 0 && decide (0 < ts.length) || h < -256 || decide (1023 < h) || decide (8 < ts.length)) && Tm.goods ts
def Tm.goods : List Tm → Bool
  | [] => true
  | t :: ts => t.good && Tm.goods ts
end

theorem goods_take : ∀ (ts : List Tm) (i : Nat) (hi : i < ts.length), Tm.goods ts = (Tm.goods (ts.take i) && (ts[i].good && Tm.goods (ts.drop (i + 1))))
  | t :: ts, 0, _ => by simp [Tm.goods]
  | t :: ts, i + 1, hi => by
    simp only [List.take_succ_cons, Tm.goods, List.getElem_cons_succ, List.drop_succ_cons]
    rw [goods_take ts i (by simpa using hi)]; simp [Bool.and_assoc]

theorem goods_snoc (ts : List Tm) (i : Nat) (hi : i < ts.length) : Tm.goods (ts.take (i + 1)) = (Tm.goods (ts.take i) && ts[i].good) := by
  have h := goods_take (ts.take (i + 1)) i (by simp; omega)
  rw [h, List.take_take, Nat.min_eq_left (by omega), List.getElem_take, List.drop_eq_nil_of_le (by rw [List.length_take]; omega)]
  simp [Tm.goods]

def Tm.check (t : Tm) : Int := if 400 < t.size then 2 else if 40 < t.depth then 7 else if t.good then 0 else 1

def add1 (o : List Int) (v : Int) : List Int := if v ∈ o then o else o ++ [v]
def addNew (o l : List Int) : List Int := l.foldl add1 o

mutual
def Tm.vars : Tm → List Int
  | .mk h ts => Tm.varsL ts (if h < 0 then [-1 - h] else [])
def Tm.varsL : List Tm → List Int → List Int
  | [], o => o
  | t :: ts, o => Tm.varsL ts (addNew o t.vars)
end

theorem addNew_snoc (o l : List Int) (i : Nat) (hi : i < l.length) : addNew o (l.take (i + 1)) = add1 (addNew o (l.take i)) l[i] := by
  simp only [addNew, List.take_add_one, List.getElem?_eq_getElem hi, Option.toList_some, List.foldl_append, List.foldl_cons, List.foldl_nil]

theorem add1_len (o : List Int) (v : Int) : (add1 o v).length ≤ o.length + 1 := by unfold add1; split <;> simp

theorem addNew_len : ∀ (l o : List Int), (addNew o l).length ≤ o.length + l.length
  | [], o => by simp [addNew]
  | v :: l, o => by
    have h : addNew o (v :: l) = addNew (add1 o v) l := rfl
    rw [h]
    have := addNew_len l (add1 o v)
    have := add1_len o v
    simp only [List.length_cons]; omega

theorem varsL_snoc : ∀ (ts : List Tm) (i : Nat) (hi : i < ts.length) (o : List Int), Tm.varsL (ts.take (i + 1)) o = addNew (Tm.varsL (ts.take i) o) ts[i].vars
  | t :: ts, 0, _, o => by simp [Tm.varsL]
  | t :: ts, i + 1, hi, o => by
    simp only [List.take_succ_cons, Tm.varsL, List.getElem_cons_succ]
    exact varsL_snoc ts i (by simpa using hi) _

mutual
theorem vars_len : ∀ t : Tm, t.vars.length ≤ t.size
  | .mk h ts => by
    have := varsL_len ts (if h < 0 then [-1 - h] else [])
    have h2 : (if h < 0 then [-1 - h] else ([] : List Int)).length ≤ 1 := by split <;> simp
    simp only [Tm.vars, Tm.size]; omega
theorem varsL_len : ∀ (ts : List Tm) (o : List Int), (Tm.varsL ts o).length ≤ o.length + Tm.sizes ts
  | [], o => by simp [Tm.varsL, Tm.sizes]
  | t :: ts, o => by
    have h1 := varsL_len ts (addNew o t.vars)
    have h2 := addNew_len t.vars o
    have h3 := vars_len t
    simp only [Tm.varsL, Tm.sizes]; omega
end

/-- A slice of one's own that begins as nil. -/
def slA (b : Nat) (sz : Nat) : List AVal → AVal
  | [] => .nils
  | x :: l => .os b 0 (l.length + 1) sz
def slB : List AVal → Option Blk
  | [] => none
  | x :: l => some (.row (x :: l) 0)


/-! ### numbers that fit -/
mutual
def Tm.fit : Tm → Prop
  | .mk h ts => In64 h ∧ Tm.fits ts
def Tm.fits : List Tm → Prop
  | [] => True
  | t :: ts => t.fit ∧ Tm.fits ts
end
theorem fits_get : ∀ {ts : List Tm}, Tm.fits ts → ∀ (i : Nat) (hi : i < ts.length), ts[i].fit
  | t :: ts, h, 0, _ => h.1
  | t :: ts, h, i + 1, hi => fits_get h.2 i (by simpa using hi)

theorem ints_cons (n : Int) (l : List Int) : ints (n :: l) = .int .i64 n :: ints l := rfl
theorem slA_nil (b sz : Nat) : slA b sz [] = .nils := rfl
theorem slA_cons (b sz : Nat) (x : AVal) (l : List AVal) : slA b sz (x :: l) = .os b 0 (l.length + 1) sz := rfl
theorem slB_nil : slB [] = none := rfl
theorem slB_cons (x : AVal) (l : List AVal) : slB (x :: l) = some (.row (x :: l) 0) := rfl
theorem slA_low {b n : Nat} (h : b < n) (sz : Nat) : ∀ l : List AVal, (slA b sz l).low n
  | [] => trivial
  | _ :: _ => h
theorem slB_lowO {n : Nat} : ∀ l : List AVal, lowL n l → lowO n (slB l)
  | [], _ => trivial
  | _ :: _, h => h
theorem slA_ne {b sz : Nat} {l : List AVal} (h : l ≠ []) : slA b sz l = .os b 0 l.length sz := by cases l; exact absurd rfl h; rfl
theorem slB_ne {l : List AVal} (h : l ≠ []) : slB l = some (.row l 0) := by cases l; exact absurd rfl h; rfl
theorem ints_ne {l : List Int} (h : l ≠ []) : ints l ≠ [] := by cases l; exact absurd rfl h; simp [ints]


theorem slA_snoc (b sz : Nat) (l : List AVal) (x : AVal) : slA b sz (l ++ [x]) = .os b 0 (l.length + 1) sz := by
  rw [slA_ne (by simp)]; simp
theorem slB_snoc (l : List AVal) (x : AVal) : slB (l ++ [x]) = some (.row (l ++ [x]) 0) := slB_ne (by simp)
theorem ints_add (l : List Int) (n : Int) : ints (l ++ [n]) = ints l ++ [.int .i64 n] := (ints_snoc l n).symm

theorem pT_slA {F : Nat → Bool} {σ : Store} {b sz : Nat} {l : List AVal} (hF : F b = true) (h : getS σ b = slB l) : pT F σ (.ps sz l) (slA b sz l) = True := by
  cases l with
  | nil => simp [slA, pT]
  | cons x l =>
    simp only [slA, pT_os, h, slB, pTrow_some, hF, List.drop_zero, List.length_cons]
    simp [pTL_refl]

theorem set_none {σ : Store} {b : Nat} (h : getS σ b = none) : σ.set b none = σ := by
  apply List.ext_getElem?
  intro c
  by_cases e : b = c
  · subst e
    rw [List.getElem?_set_self']
    simp only [getS] at h
    cases hc : σ[b]? with
    | none => rfl
    | some x => rw [hc] at h; simp at h; subst h; rfl
  · rw [List.getElem?_set_ne e]

open Classical in
theorem app_slA {σ : Store} {nm b sz bs : Nat} {ag : Bool} {z : List AVal} {key : KA} {l : List AVal} {x : AVal} (h : getS σ b = slB l) : appendA σ nm ⟨sz, ag, bs, z, key⟩ (slA b sz l) [x] = if appOk ⟨sz, ag, bs, z, key⟩ [x] ∧ l.length + 1 ≤ 1000000000 then some (.os nm 0 (l.length + 1) sz, setS (σ.set b none) nm (.row (l ++ [x]) 0)) else none := by
  cases l with
  | nil =>
    have h0 : getS σ b = none := h
    rw [set_none h0]
    simp [slA, app_nils]
  | cons y l =>
    simp only [slA]
    rw [app_os, h]
    simp only [slB, appRow_some, List.length_cons, List.length_nil, List.drop_zero]
    by_cases c : appOk ⟨sz, ag, bs, z, key⟩ [x]
    · simp only [c, if_true, true_and, Nat.zero_add, Nat.le_refl, Nat.zero_le, Nat.sub_self]
      rw [List.take_of_length_le (by simp)]
    · simp [c]


theorem slA_app {b sz : Nat} {l xs : List AVal} (h : xs ≠ []) : slA b sz (l ++ xs) = .os b 0 (l.length + xs.length) sz := by
  rw [slA_ne (by simp [h])]; simp
theorem slB_app {l xs : List AVal} (h : xs ≠ []) : slB (l ++ xs) = some (.row (l ++ xs) 0) := slB_ne (by simp [h])

open Classical in
theorem app_slA2 {σ : Store} {nm b sz bs : Nat} {ag : Bool} {z : List AVal} {key : KA} {l : List AVal} {x y : AVal} (h : getS σ b = slB l) : appendA σ nm ⟨sz, ag, bs, z, key⟩ (slA b sz l) [x, y] = if appOk ⟨sz, ag, bs, z, key⟩ [x, y] ∧ l.length + 2 ≤ 1000000000 then some (.os nm 0 (l.length + 2) sz, setS (σ.set b none) nm (.row (l ++ [x, y]) 0)) else none := by
  cases l with
  | nil =>
    have h0 : getS σ b = none := h
    rw [set_none h0]
    simp [slA, app_nils]
  | cons u l =>
    simp only [slA]
    rw [app_os, h]
    simp only [slB, appRow_some, List.length_cons, List.length_nil, List.drop_zero]
    by_cases c : appOk ⟨sz, ag, bs, z, key⟩ [x, y]
    · simp only [c, if_true, true_and, Nat.zero_add, Nat.le_refl, Nat.zero_le, Nat.sub_self]
      rw [List.take_of_length_le (by simp)]
    · simp [c]

end Go.Proofs

/- Symbols, literals, worlds; counting in them. -/
namespace Go.Proofs
open Go Go.Abs

structure Sy where
  name : ByteArray
  arity : Int
  weight : Int
  truth : Bool

def Sy.toA (s : Sy) : AVal := .agg [.str s.name, .int .i64 s.arity, .int .i64 s.weight, .bool s.truth]
theorem sy_cells (s : Sy) : s.toA.cells = [.str s.name, .int .i64 s.arity, .int .i64 s.weight, .bool s.truth] := rfl
theorem sy_eq (s : Sy) : s.toA = .agg [.str s.name, .int .i64 s.arity, .int .i64 s.weight, .bool s.truth] := rfl
def syms (g : List Sy) : List AVal := g.map Sy.toA
theorem syms_len (g : List Sy) : (syms g).length = g.length := by simp [syms]
theorem syms_low {n : Nat} (g : List Sy) : lowL n (syms g) := lowL_map fun _ _ => ⟨trivial, trivial, trivial, trivial, trivial⟩
theorem syms_get {g : List Sy} {i : Nat} (h : i < g.length) : (syms g).getD i .undef = g[i].toA := map_getD h

structure Li where
  neg : Bool
  l : Tm
  r : Tm

def Li.cs (c : Li) : List AVal := [.bool c.neg, .int .i64 c.l.head, .ps 2 (c.l.args.map Tm.toA), .int .i64 c.r.head, .ps 2 (c.r.args.map Tm.toA)]
def Li.toA (c : Li) : AVal := .agg c.cs
theorem li_cells (c : Li) : c.toA.cells = [.bool c.neg, .int .i64 c.l.head, .ps 2 (c.l.args.map Tm.toA), .int .i64 c.r.head, .ps 2 (c.r.args.map Tm.toA)] := rfl
def lits (c : List Li) : List AVal := c.map Li.toA
theorem lits_len (c : List Li) : (lits c).length = c.length := by simp [lits]
theorem li_low {n : Nat} (c : Li) : c.toA.low n := ⟨trivial, trivial, tms_low _, trivial, tms_low _, trivial⟩
theorem lits_low {n : Nat} (c : List Li) : lowL n (lits c) := lowL_map fun x _ => li_low x
theorem lits_get {c : List Li} {i : Nat} (h : i < c.length) : (lits c).getD i .undef = c[i].toA := map_getD h

structure Wo where
  size : Int
  rows : List (List Int)

def rowsA (l : List (List Int)) : List AVal := l.map fun r => .ps 1 (ints r)
def Wo.toA (w : Wo) : AVal := .agg [.int .i64 w.size, .ps 1 (rowsA w.rows)]
theorem wo_cells (w : Wo) : w.toA.cells = [.int .i64 w.size, .ps 1 (rowsA w.rows)] := rfl
theorem wo_eq (w : Wo) : w.toA = .agg [.int .i64 w.size, .ps 1 (rowsA w.rows)] := rfl
theorem rowsA_len (l : List (List Int)) : (rowsA l).length = l.length := by simp [rowsA]
theorem rowsA_low {n : Nat} (l : List (List Int)) : lowL n (rowsA l) := lowL_map fun _ _ => ints_low _
theorem rowsA_get {l : List (List Int)} {i : Nat} (h : i < l.length) : (rowsA l).getD i .undef = .ps 1 (ints l[i]) := map_getD h
theorem wo_low {n : Nat} (w : Wo) : w.toA.low n := ⟨trivial, rowsA_low _, trivial⟩

/-- Both sides of each literal, in order. -/
def sides (c : List Li) : List Tm := c.flatMap fun l => [l.l, l.r]
theorem sides_snoc (c : List Li) (i : Nat) (h : i < c.length) : sides (c.take (i + 1)) = sides (c.take i) ++ [c[i].l, c[i].r] := by
  simp only [sides, List.take_add_one, List.getElem?_eq_getElem h, Option.toList_some, List.flatMap_append, List.flatMap_cons, List.flatMap_nil, List.append_nil]
theorem sides_len (c : List Li) : (sides c).length = 2 * c.length := by
  induction c with
  | nil => rfl
  | cons a c ih => simp [sides] at ih ⊢; omega

/-- All names short, and not too many symbols. -/
def symsFew (g : List Sy) : Bool := decide (g.length ≤ 300) && g.all fun s => decide (s.name.size ≤ 100)

/-- The lengths of rows, as far as somewhat above a bound, as the number wraps. -/
def rowSum : List (List Int) → Int → Int
  | [], n => n
  | r :: rs, n => if n ≤ 3000 then rowSum rs (IntKind.i64.wrap (n + r.length)) else n
def Wo.few (w : Wo) : Bool := decide (w.rows.length ≤ 300) && decide (rowSum w.rows 0 ≤ 3000)

/-- How many parts some terms have, as far as somewhat above a bound. -/
def cntS : List Tm → Int → Int
  | [], n => n
  | t :: ts, n => if n ≤ 500 then cntS ts (n + t.cnt 500) else n

def litsFew (c : List Li) : Bool := decide (c.length ≤ 40) && decide (cntS (sides c) 0 ≤ 500)

theorem cntS_small : ∀ (ts : List Tm) (n : Int), 0 ≤ n → n ≤ 1001 → 0 ≤ cntS ts n ∧ (cntS ts n ≤ 500 → cntS ts n = n + Tm.sizes ts)
  | [], n, h, _ => ⟨by simp [cntS, h], fun _ => by simp [cntS, Tm.sizes]⟩
  | t :: ts, n, h, h2 => by
    simp only [cntS]
    split
    · rename_i hn
      have hb := cnt_bounds t 500 (by omega)
      obtain ⟨h3, h4⟩ := cntS_small ts (n + t.cnt 500) (by omega) (by omega)
      refine ⟨h3, fun h5 => ?_⟩
      have h6 := h4 h5
      have h7 := cnt_small t 500 (by omega) (by omega)
      simp only [Tm.sizes]; omega
    · rename_i hn
      exact ⟨h, fun h5 => absurd h5 hn⟩

theorem rowSum_stop (rs : List (List Int)) (n : Int) (h : ¬ n ≤ 3000) : rowSum rs n = n := by cases rs <;> simp [rowSum, h]

theorem sizes_append : ∀ a b : List Tm, Tm.sizes (a ++ b) = Tm.sizes a + Tm.sizes b
  | [], b => by simp [Tm.sizes]
  | t :: a, b => by simp only [List.cons_append, Tm.sizes, sizes_append a b]; omega

/-- The rows of a world's things, as the number wraps. -/
def manyL (size : Int) (most : Int) : Nat → Int → Int
  | 0, n => n
  | k + 1, n => if n ≤ most then manyL size most k (IntKind.i64.wrap (n * size)) else n

theorem manyL_stop {size most : Int} (k : Nat) (n : Int) (h : ¬ n ≤ most) : manyL size most k n = n := by cases k <;> simp [manyL, h]

def clauseVars (c : List Li) : List Int := Tm.varsL (sides c) []

def worldMany (w : Wo) (c : List Li) (most : Int) : Int := min (manyL w.size most (clauseVars c).length 1) (most + 1)

end Go.Proofs

/- Right signatures, right terms of a signature, worlds' values. -/
namespace Go.Proofs
open Go Go.Abs

theorem emptyName (s : ByteArray) : (s.toList == ByteArray.toList { data := #[] }) = decide ((s.size : Int) < 1) := by
  by_cases h : (s.size : Int) < 1
  · have e : s = { data := #[] } := by
      obtain ⟨d⟩ := s
      have : d.size = 0 := by have : d.size = (ByteArray.mk d).size := rfl; omega
      rw [Array.size_eq_zero_iff.1 this]
    rw [decide_eq_true h, e]; exact beq_self_eq_true _
  · rw [decide_eq_false h]
    cases c : (s.toList == ByteArray.toList { data := #[] }) with
    | false => rfl
    | true =>
      rw [bytes_eq c] at h
      exact absurd (by decide) h

def Sy.right (x : Sy) : Bool := !(decide ((x.name.size : Int) < 1) || decide (64 < (x.name.size : Int)) || decide (x.arity < 0) || decide (8 < x.arity) || decide (x.weight < 1) || decide (1000 < x.weight))

def Sy.dflt : Sy := ⟨⟨#[]⟩, 0, 0, false⟩
def trueName : ByteArray := ⟨#[36, 116, 114, 117, 101]⟩

/-- No one ahead of it has its name. -/
def fresh (g : List Sy) (i : Nat) : Bool := (g.take i).all fun s => !(s.name.toList == (g.getD i Sy.dflt).name.toList)
def okAt (g : List Sy) (i : Nat) : Bool := (g.getD i Sy.dflt).right && fresh g i
def isTrue (x : Sy) : Bool := x.name.toList == trueName.toList && (x.arity == 0 && (x.weight == 1 && x.truth))
def sigOk (g : List Sy) : Bool := !(decide ((g.length : Int) < 1) || decide (256 < (g.length : Int))) && (List.range g.length).all (okAt g) && isTrue (g.getD 0 Sy.dflt)

theorem getD_at {g : List Sy} {i : Nat} (h : i < g.length) : g.getD i Sy.dflt = g[i] := by simp [List.getD, h]

theorem range_all_snoc (p : Nat → Bool) (n : Nat) : (List.range (n + 1)).all p = ((List.range n).all p && p n) := by
  rw [List.range_succ, List.all_append]; simp

theorem all_false_at {p : Nat → Bool} {n i : Nat} (hi : i < n) (h : p i = false) : (List.range n).all p = false := by
  rw [List.all_eq_false]; exact ⟨i, by simpa using hi, by simp [h]⟩

theorem sym_cases (x : Sy) : (x.name.size : Int) < 1 ∨ 64 < (x.name.size : Int) ∨ x.arity < 0 ∨ 8 < x.arity ∨ x.weight < 1 ∨ 1000 < x.weight ∨
    (¬ (x.name.size : Int) < 1 ∧ ¬ 64 < (x.name.size : Int) ∧ ¬ x.arity < 0 ∧ ¬ 8 < x.arity ∧ ¬ x.weight < 1 ∧ ¬ 1000 < x.weight) := by omega

theorem sym_bad {x : Sy} (h : (x.name.size : Int) < 1 ∨ 64 < (x.name.size : Int) ∨ x.arity < 0 ∨ 8 < x.arity ∨ x.weight < 1 ∨ 1000 < x.weight) : x.right = false := by
  simp only [Sy.right, Bool.not_eq_false', Bool.or_eq_true, decide_eq_true_eq]; omega
theorem sym_good {x : Sy} (h : ¬ (x.name.size : Int) < 1 ∧ ¬ 64 < (x.name.size : Int) ∧ ¬ x.arity < 0 ∧ ¬ 8 < x.arity ∧ ¬ x.weight < 1 ∧ ¬ 1000 < x.weight) : x.right = true := by
  simp only [Sy.right, Bool.not_eq_true', Bool.or_eq_false_iff, decide_eq_false_iff_not]; omega
theorem right_iff {x : Sy} (h : x.right = true) : ¬ (x.name.size : Int) < 1 ∧ ¬ 64 < (x.name.size : Int) ∧ ¬ x.arity < 0 ∧ ¬ 8 < x.arity ∧ ¬ x.weight < 1 ∧ ¬ 1000 < x.weight := by
  simp only [Sy.right, Bool.not_eq_true', Bool.or_eq_false_iff, decide_eq_false_iff_not] at h; omega

/-! ### terms of a signature -/
def symAt (g : List Sy) (h : Int) : Sy := g.getD h.toNat Sy.dflt

mutual
def Tm.known (g : List Sy) : Tm → Bool
  | .mk h ts => decide (h < 0) || (!(decide ((g.length : Int) ≤ h)) && decide ((ts.length : Int) = (symAt g h).arity) && Tm.knowns g ts)
def Tm.knowns (g : List Sy) : List Tm → Bool
  | [] => true
  | t :: ts => t.known g && Tm.knowns g ts
end

def Tm.truth (g : List Sy) (t : Tm) : Bool := decide (0 ≤ t.head) && decide (t.head < (g.length : Int)) && (symAt g t.head).truth

mutual
def Tm.things (g : List Sy) : Tm → Bool
  | .mk _ ts => Tm.thingsL g ts
def Tm.thingsL (g : List Sy) : List Tm → Bool
  | [] => true
  | t :: ts => (!t.truth g && t.things g) && Tm.thingsL g ts
end

def Tm.term (g : List Sy) (t : Tm) : Int := if sigOk g = false then 1 else if t.check ≠ 0 then t.check else if t.known g = false then 1 else if t.things g = false then 10 else 0

theorem knowns_take (g : List Sy) : ∀ (ts : List Tm) (i : Nat) (hi : i < ts.length), Tm.knowns g ts = (Tm.knowns g (ts.take i) && (ts[i].known g && Tm.knowns g (ts.drop (i + 1))))
  | t :: ts, 0, _ => by simp [Tm.knowns]
  | t :: ts, i + 1, hi => by
    simp only [List.take_succ_cons, Tm.knowns, List.getElem_cons_succ, List.drop_succ_cons]
    rw [knowns_take g ts i (by simpa using hi)]; simp [Bool.and_assoc]
theorem knowns_snoc (g : List Sy) (ts : List Tm) (i : Nat) (hi : i < ts.length) : Tm.knowns g (ts.take (i + 1)) = (Tm.knowns g (ts.take i) && ts[i].known g) := by
  have h := knowns_take g (ts.take (i + 1)) i (by simp; omega)
  rw [h, List.take_take, Nat.min_eq_left (by omega), List.getElem_take, List.drop_eq_nil_of_le (by rw [List.length_take]; omega)]
  simp [Tm.knowns]
theorem thingsL_take (g : List Sy) : ∀ (ts : List Tm) (i : Nat) (hi : i < ts.length), Tm.thingsL g ts = (Tm.thingsL g (ts.take i) && ((!ts[i].truth g && ts[i].things g) && Tm.thingsL g (ts.drop (i + 1))))
  | t :: ts, 0, _ => by simp [Tm.thingsL]
  | t :: ts, i + 1, hi => by
    simp only [List.take_succ_cons, Tm.thingsL, List.getElem_cons_succ, List.drop_succ_cons]
    rw [thingsL_take g ts i (by simpa using hi)]; simp [Bool.and_assoc]
theorem thingsL_snoc (g : List Sy) (ts : List Tm) (i : Nat) (hi : i < ts.length) : Tm.thingsL g (ts.take (i + 1)) = (Tm.thingsL g (ts.take i) && (!ts[i].truth g && ts[i].things g)) := by
  have h := thingsL_take g (ts.take (i + 1)) i (by simp; omega)
  rw [h, List.take_take, Nat.min_eq_left (by omega), List.getElem_take, List.drop_eq_nil_of_le (by rw [List.length_take]; omega)]
  simp [Tm.thingsL]


/-! ### literals and clauses of a signature -/
def Li.check (g : List Sy) (l : Li) : Int := if l.l.term g ≠ 0 then l.l.term g else if l.r.term g ≠ 0 then l.r.term g else
  if (l.l.truth g && decide (l.r.head ≠ 0)) || (!l.l.truth g && l.r.truth g) then 10 else 0

/-- The first that is not right, if there is one. -/
def litsCheck (g : List Sy) : List Li → Int
  | [] => 0
  | l :: c => if l.check g ≠ 0 then l.check g else litsCheck g c
def clauseCheck (g : List Sy) (c : List Li) : Int := if sigOk g = false then 1 else if 32 < (c.length : Int) then 2 else litsCheck g c

theorem litsCheck_drop (g : List Sy) (c : List Li) (i : Nat) (h : i < c.length) : litsCheck g (c.drop i) = if c[i].check g ≠ 0 then c[i].check g else litsCheck g (c.drop (i + 1)) := by
  rw [List.drop_eq_getElem_cons h, litsCheck]

/-! ### worlds -/
def powW (size : Int) : Nat → Int → Int
  | 0, n => n
  | k + 1, n => powW size k (IntKind.i64.wrap (n * size))

end Go.Proofs

/- Right worlds, and the values of terms in them. -/
namespace Go.Proofs
open Go Go.Abs

theorem powW_small (s : Int) (h1 : 1 ≤ s) (h2 : s ≤ 4) : ∀ (k : Nat) (n : Int), 1 ≤ n → n * 4 ^ k ≤ 1000000 → powW s k n = n * s ^ k ∧ 1 ≤ n * s ^ k ∧ n * s ^ k ≤ n * 4 ^ k
  | 0, n, h, _ => by simp [powW]; omega
  | k + 1, n, h, hb => by
    have e1 : n * 4 ^ (k + 1) = (n * 4) * 4 ^ k := by rw [Int.pow_succ]; rw [Int.mul_comm (4 ^ k) 4, Int.mul_assoc]
    have hp : (1 : Int) ≤ 4 ^ k := Int.pow_pos (n := 4) (m := k) (by omega)
    have hn4 : n * 4 ≤ n * 4 * 4 ^ k := by
      have := Int.mul_le_mul_of_nonneg_left hp (show 0 ≤ n * 4 by omega)
      omega
    have hns : 1 ≤ n * s ∧ n * s ≤ n * 4 := by
      constructor
      · have := Int.mul_le_mul h h1 (by omega) (by omega : (0 : Int) ≤ n); omega
      · exact Int.mul_le_mul_of_nonneg_left h2 (by omega)
    have hmono : n * s * 4 ^ k ≤ n * 4 * 4 ^ k := Int.mul_le_mul_of_nonneg_right hns.2 (by omega)
    have hw : IntKind.i64.wrap (n * s) = n * s := i64_id (by omega)
    simp only [powW]
    rw [hw]
    obtain ⟨q1, q2, q3⟩ := powW_small s h1 h2 k (n * s) hns.1 (by omega)
    have e2 : n * s ^ (k + 1) = n * s * s ^ k := by rw [Int.pow_succ, Int.mul_comm (s ^ k) s, Int.mul_assoc]
    rw [e2, e1]
    exact ⟨q1, q2, by omega⟩

def rowOk (size : Int) (most : Int) (a : Int) (r : List Int) : Bool := !(decide (4 < a) || !decide ((r.length : Int) = size ^ a.toNat)) && r.all fun x => !(decide (x < 0) || decide (most ≤ x))
def mostOf (w : Wo) (x : Sy) : Int := if x.truth then 2 else w.size
def rowOkAt (g : List Sy) (w : Wo) (i : Nat) : Bool := rowOk w.size (mostOf w (g.getD i Sy.dflt)) (g.getD i Sy.dflt).arity (w.rows.getD i [])

def worldOk (g : List Sy) (w : Wo) : Bool := !(!sigOk g || decide (w.size < 1) || decide (4 < w.size) || !decide ((w.rows.length : Int) = g.length)) && (List.range g.length).all (rowOkAt g w) && decide ((w.rows.getD 0 []).getD 0 0 = 1)


theorem pow_small (s : Int) (h1 : 1 ≤ s) (h2 : s ≤ 4) (k : Nat) (hk : k ≤ 4) : powW s k 1 = s ^ k ∧ 1 ≤ s ^ k ∧ s ^ k ≤ 256 := by
  have hb : (1 : Int) * 4 ^ k ≤ 1000000 ∧ (4 : Int) ^ k ≤ 256 := by
    rcases (by omega : k = 0 ∨ k = 1 ∨ k = 2 ∨ k = 3 ∨ k = 4) with rfl | rfl | rfl | rfl | rfl <;> decide
  obtain ⟨q1, q2, q3⟩ := powW_small s h1 h2 k 1 (by omega) hb.1
  simp only [Int.one_mul] at q1 q2 q3
  exact ⟨q1, q2, by omega⟩

theorem sigOk_at {g : List Sy} (h : sigOk g = true) {i : Nat} (hi : i < g.length) : g[i].right = true := by
  simp only [sigOk, Bool.and_eq_true] at h
  have := List.all_eq_true.1 h.1.2 i (by simpa using hi)
  simp only [okAt, Bool.and_eq_true, getD_at hi] at this
  exact this.1
theorem sigOk_len {g : List Sy} (h : sigOk g = true) : 1 ≤ g.length ∧ g.length ≤ 256 := by
  simp only [sigOk, Bool.and_eq_true, Bool.not_eq_true', Bool.or_eq_false_iff, decide_eq_false_iff_not] at h
  omega
theorem sigOk_true {g : List Sy} (h : sigOk g = true) : isTrue (g.getD 0 Sy.dflt) = true := by
  simp only [sigOk, Bool.and_eq_true] at h; exact h.2

theorem getD_row {w : Wo} {i : Nat} (h : i < w.rows.length) : w.rows.getD i [] = w.rows[i] := by simp [List.getD, h]

theorem row_pos {g : List Sy} {w : Wo} (h : sigOk g = true) (hw : 1 ≤ w.size) (h0 : 0 < g.length) (hr : 0 < w.rows.length) (hok : rowOkAt g w 0 = true) : 0 < w.rows[0].length := by
  simp only [rowOkAt, rowOk, getD_row hr, Bool.and_eq_true, Bool.not_eq_true', Bool.or_eq_false_iff, Bool.not_eq_false', decide_eq_true_eq] at hok
  have h1 := hok.1.2
  have : (0 : Int) < w.size ^ (g.getD 0 Sy.dflt).arity.toNat := Int.pow_pos (by omega)
  omega


theorem getD_at' {l : List Int} {i : Nat} (h : i < l.length) : l.getD i 0 = l[i] := by simp [List.getD, h]
end Go.Proofs

/- The values of terms in a world. -/
namespace Go.Proofs
open Go Go.Abs

mutual
/-- What a term is, of what variables are. -/
def Tm.val (w : Wo) (f : Int → Int) : Tm → Int
  | .mk h ts => if h < 0 then f (-1 - h) else (w.rows.getD h.toNat []).getD (Tm.ats w f ts 0).toNat 0
def Tm.ats (w : Wo) (f : Int → Int) : List Tm → Int → Int
  | [], a => a
  | t :: ts, a => Tm.ats w f ts (a * w.size + t.val w f)
end

/-- Its rows' numbers are things. -/
def Tm.thingW (w : Wo) (t : Tm) : Prop := t.head < 0 ∨ ∀ v ∈ w.rows.getD t.head.toNat [], 0 ≤ v ∧ v < w.size

mutual
def Tm.okW (w : Wo) : Tm → Prop
  | .mk h ts => h < 0 ∨ (h < w.rows.length ∧ ts.length ≤ 4 ∧ ((w.rows.getD h.toNat []).length : Int) = w.size ^ ts.length ∧ Tm.oksW w ts)
def Tm.oksW (w : Wo) : List Tm → Prop
  | [] => True
  | t :: ts => (t.okW w ∧ t.thingW w) ∧ Tm.oksW w ts
end

theorem oksW_get {w : Wo} : ∀ {ts : List Tm}, Tm.oksW w ts → ∀ (i : Nat) (hi : i < ts.length), ts[i].okW w ∧ ts[i].thingW w
  | t :: ts, h, 0, _ => h.1
  | t :: ts, h, i + 1, hi => oksW_get h.2 i (by simpa using hi)

theorem oksW_take {w : Wo} : ∀ {ts : List Tm}, Tm.oksW w ts → ∀ i, Tm.oksW w (ts.take i)
  | [], _, i => by simp [Tm.oksW]
  | t :: ts, h, 0 => trivial
  | t :: ts, h, i + 1 => ⟨h.1, oksW_take h.2 i⟩

theorem val_range {w : Wo} {f : Int → Int} (hw : 1 ≤ w.size) (hf : ∀ v, 0 ≤ f v ∧ f v < w.size) (t : Tm) (h : t.thingW w) : 0 ≤ t.val w f ∧ t.val w f < w.size := by
  obtain ⟨hd, ts⟩ := t
  simp only [Tm.val]
  split
  · exact hf _
  · rename_i hn
    have h2 : ∀ v ∈ w.rows.getD hd.toNat [], 0 ≤ v ∧ v < w.size := h.resolve_left hn
    generalize w.rows.getD hd.toNat [] = r at h2 ⊢
    generalize (Tm.ats w f ts 0).toNat = k
    by_cases hk : k < r.length
    · rw [getD_at' hk]; exact h2 _ (List.getElem_mem hk)
    · rw [List.getD_eq_getElem?_getD, List.getElem?_eq_none (by omega), Option.getD_none]; omega

theorem ats_range {w : Wo} {f : Int → Int} (hw : 1 ≤ w.size) (hf : ∀ v, 0 ≤ f v ∧ f v < w.size) : ∀ (ts : List Tm) (a : Int), Tm.oksW w ts → 0 ≤ a → 0 ≤ Tm.ats w f ts a ∧ Tm.ats w f ts a < (a + 1) * w.size ^ ts.length
  | [], a, _, h => by simp only [Tm.ats, List.length_nil, Int.pow_zero]; omega
  | t :: ts, a, ho, h => by
    obtain ⟨v1, v2⟩ := val_range hw hf t ho.1.2
    have hm : 0 ≤ a * w.size := Int.mul_nonneg h (by omega)
    obtain ⟨p1, p2⟩ := ats_range hw hf ts (a * w.size + t.val w f) ho.2 (by omega)
    refine ⟨p1, Int.lt_of_lt_of_le p2 ?_⟩
    have e1 : (a + 1) * w.size ^ (t :: ts).length = ((a + 1) * w.size) * w.size ^ ts.length := by
      rw [List.length_cons, Int.pow_succ, Int.mul_comm (w.size ^ ts.length), Int.mul_assoc]
    rw [e1]
    refine Int.mul_le_mul_of_nonneg_right ?_ (Int.le_of_lt (Int.pow_pos (by omega)))
    rw [Int.add_mul, Int.one_mul]; omega

theorem ats_snoc {w : Wo} {f : Int → Int} : ∀ (ts : List Tm) (i : Nat) (hi : i < ts.length) (a : Int), Tm.ats w f (ts.take (i + 1)) a = Tm.ats w f (ts.take i) a * w.size + ts[i].val w f
  | t :: ts, 0, _, a => by simp [Tm.ats]
  | t :: ts, i + 1, hi, a => by
    simp only [List.take_succ_cons, Tm.ats, List.getElem_cons_succ]
    exact ats_snoc ts i (by simpa using hi) _

theorem pow_le256 {s : Int} (h1 : 1 ≤ s) (h2 : s ≤ 4) {k : Nat} (hk : k ≤ 4) : 1 ≤ s ^ k ∧ s ^ k ≤ 256 := (pow_small s h1 h2 k hk).2

/-- As far as here. -/
theorem ats_small {w : Wo} {f : Int → Int} (hw : 1 ≤ w.size) (hw4 : w.size ≤ 4) (hf : ∀ v, 0 ≤ f v ∧ f v < w.size) {ts : List Tm} (ho : Tm.oksW w ts) (hl : ts.length ≤ 4) (i : Nat) : 0 ≤ Tm.ats w f (ts.take i) 0 ∧ Tm.ats w f (ts.take i) 0 < 256 := by
  obtain ⟨p1, p2⟩ := ats_range hw hf (ts.take i) 0 (oksW_take ho i) (by omega)
  have hlt : (ts.take i).length ≤ 4 := by rw [List.length_take]; omega
  have := (pow_le256 hw hw4 hlt).2
  omega

mutual
/-- Of all its variables. -/
def Tm.allV (p : Int → Prop) : Tm → Prop
  | .mk h ts => (h < 0 → p (-1 - h)) ∧ Tm.allVs p ts
def Tm.allVs (p : Int → Prop) : List Tm → Prop
  | [] => True
  | t :: ts => t.allV p ∧ Tm.allVs p ts
end
theorem allVs_get {p : Int → Prop} : ∀ {ts : List Tm}, Tm.allVs p ts → ∀ (i : Nat) (hi : i < ts.length), ts[i].allV p
  | t :: ts, h, 0, _ => h.1
  | t :: ts, h, i + 1, hi => allVs_get h.2 i (by simpa using hi)

theorem allVs_of {p : Int → Prop} : ∀ (ts : List Tm), (∀ (i : Nat) (hi : i < ts.length), ts[i].allV p) → Tm.allVs p ts
  | [], _ => trivial
  | t :: ts, h => ⟨h 0 (by simp), allVs_of ts fun i hi => h (i + 1) (by simpa using hi)⟩

theorem mem_add1 {o : List Int} {v x : Int} : x ∈ add1 o v ↔ x ∈ o ∨ x = v := by
  unfold add1; split
  · constructor
    · exact .inl
    · rintro (h | rfl) <;> assumption
  · simp
theorem mem_addNew : ∀ (l o : List Int) (x : Int), x ∈ addNew o l ↔ x ∈ o ∨ x ∈ l
  | [], o, x => by simp [addNew]
  | v :: l, o, x => by
    have h : addNew o (v :: l) = addNew (add1 o v) l := rfl
    rw [h, mem_addNew l, mem_add1, List.mem_cons, or_assoc]

mutual
theorem vars_all {p : Int → Prop} : ∀ t : Tm, (∀ v ∈ t.vars, p v) ↔ t.allV p
  | .mk h ts => by
    simp only [Tm.vars, Tm.allV]
    rw [varsL_all ts]
    refine and_congr_left fun _ => ?_
    split
    · simp_all
    · rename_i hn; simp [hn]
theorem varsL_all {p : Int → Prop} : ∀ (ts : List Tm) (o : List Int), (∀ v ∈ Tm.varsL ts o, p v) ↔ (∀ v ∈ o, p v) ∧ Tm.allVs p ts
  | [], o => by simp [Tm.varsL, Tm.allVs]
  | t :: ts, o => by
    simp only [Tm.varsL, Tm.allVs]
    rw [varsL_all ts, ← and_assoc]
    refine and_congr_left fun _ => ?_
    rw [← vars_all t]
    simp only [mem_addNew]
    constructor
    · exact fun h => ⟨fun v hv => h v (.inl hv), fun v hv => h v (.inr hv)⟩
    · rintro ⟨h1, h2⟩ v (hv | hv)
      · exact h1 v hv
      · exact h2 v hv
end

/-- What the numbers tell of variables, where there is no one for it: 0. -/
def ofL (of : List Int) (v : Int) : Int := if v < of.length then of.getD v.toNat 0 else 0

/-! ### right terms in right worlds -/
theorem worldOk_size {g : List Sy} {w : Wo} (h : worldOk g w = true) : sigOk g = true ∧ 1 ≤ w.size ∧ w.size ≤ 4 ∧ w.rows.length = g.length ∧ (∀ i, i < g.length → rowOkAt g w i = true) ∧ (w.rows.getD 0 []).getD 0 0 = 1 := by
  simp only [worldOk, Bool.and_eq_true, Bool.not_eq_true', Bool.or_eq_false_iff, Bool.not_eq_false', decide_eq_true_eq, decide_eq_false_iff_not] at h
  obtain ⟨⟨⟨⟨⟨h1, h2⟩, h3⟩, h4⟩, h5⟩, h6⟩ := h
  refine ⟨h1, by omega, by omega, by omega, fun i hi => List.all_eq_true.1 h5 i (by simpa using hi), h6⟩

theorem row_facts {g : List Sy} {w : Wo} (h : worldOk g w = true) {hd : Int} (h0 : ¬ hd < 0) (h1 : hd < g.length) :
    (symAt g hd).arity ≤ 4 ∧ 0 ≤ (symAt g hd).arity ∧ ((w.rows.getD hd.toNat []).length : Int) = w.size ^ (symAt g hd).arity.toNat ∧ ((symAt g hd).truth = false → ∀ v ∈ w.rows.getD hd.toNat [], 0 ≤ v ∧ v < w.size) := by
  obtain ⟨q1, q2, q3, q4, q5, q6⟩ := worldOk_size h
  have hi : hd.toNat < g.length := by omega
  have hr := q5 hd.toNat hi
  have hs := right_iff (sigOk_at q1 hi)
  have e : symAt g hd = g[hd.toNat] := getD_at hi
  simp only [rowOkAt, rowOk, Bool.and_eq_true, Bool.not_eq_true', Bool.or_eq_false_iff, Bool.not_eq_false', decide_eq_true_eq, decide_eq_false_iff_not, List.all_eq_true, show g.getD hd.toNat Sy.dflt = symAt g hd from rfl] at hr
  refine ⟨by omega, by rw [e]; omega, hr.1.2, fun ht v hv => ?_⟩
  have := hr.2 v hv
  simp only [mostOf, ht, Bool.false_eq_true, if_false] at this
  omega

theorem thing_of {g : List Sy} {w : Wo} (h : worldOk g w = true) (t : Tm) (hk : t.known g = true) (ht : t.truth g = false) : t.thingW w := by
  obtain ⟨hd, ts⟩ := t
  by_cases c : hd < 0
  · exact .inl c
  · simp only [Tm.known, decide_eq_false c, Bool.false_or, Bool.and_eq_true, Bool.not_eq_true', decide_eq_false_iff_not] at hk
    simp only [Tm.truth, Tm.head, Bool.and_eq_false_iff, decide_eq_false_iff_not] at ht
    refine .inr ((row_facts h c (by omega)).2.2.2 ?_)
    rcases ht with (h' | h') | h'
    · exact absurd (of_decide_eq_false h') (by omega)
    · exact absurd (of_decide_eq_false h') (by omega)
    · exact h'

mutual
theorem okW_of {g : List Sy} {w : Wo} (h : worldOk g w = true) : ∀ t : Tm, t.known g = true → t.things g = true → t.okW w
  | .mk hd ts, hk, ht => by
    by_cases c : hd < 0
    · exact .inl c
    · simp only [Tm.known, decide_eq_false c, Bool.false_or, Bool.and_eq_true, Bool.not_eq_true', decide_eq_false_iff_not, decide_eq_true_eq] at hk
      obtain ⟨⟨k1, k2⟩, k3⟩ := hk
      have hlt : hd < g.length := by omega
      obtain ⟨f1, f2, f3, _⟩ := row_facts h c hlt
      obtain ⟨_, _, _, q4, _, _⟩ := worldOk_size h
      refine .inr ⟨by omega, by omega, ?_, oksW_of h ts k3 (by simpa [Tm.things] using ht)⟩
      rw [f3, ← k2]; simp
theorem oksW_of {g : List Sy} {w : Wo} (h : worldOk g w = true) : ∀ ts : List Tm, Tm.knowns g ts = true → Tm.thingsL g ts = true → Tm.oksW w ts
  | [], _, _ => trivial
  | t :: ts, hk, ht => by
    simp only [Tm.knowns, Tm.thingsL, Bool.and_eq_true, Bool.not_eq_true'] at hk ht
    exact ⟨⟨okW_of h t hk.1 ht.1.2, thing_of h t hk.1 ht.1.1⟩, oksW_of h ts hk.2 ht.2⟩
end

theorem term_zero {g : List Sy} {t : Tm} (h : t.term g = 0) : t.check = 0 ∧ t.known g = true ∧ t.things g = true := by
  unfold Tm.term at h
  split at h
  · omega
  · split at h
    · rename_i h2; exact absurd h h2
    · rename_i h2
      split at h
      · omega
      · split at h
        · omega
        · rename_i h3 h4
          exact ⟨by simpa using h2, by simpa using h3, by simpa using h4⟩

/-- Numbers that tell no thing for a variable. -/
def badV (of : List Int) (s : Int) (v : Int) : Bool := decide ((of.length : Int) ≤ v) || decide (of.getD v.toNat 0 < 0) || decide (s ≤ of.getD v.toNat 0)
def okF (of : List Int) (s : Int) (v : Int) : Int := if badV of s v then 0 else of.getD v.toNat 0
theorem okF_range {of : List Int} {s : Int} (hs : 1 ≤ s) (v : Int) : 0 ≤ okF of s v ∧ okF of s v < s := by
  unfold okF
  cases h : badV of s v
  · simp only [badV, Bool.or_eq_false_iff, decide_eq_false_iff_not] at h
    simp only [Bool.false_eq_true, if_false]; omega
  · simp only [if_true]; omega
theorem okF_ofL {of : List Int} {s : Int} {v : Int} (h : badV of s v = false) : okF of s v = ofL of v := by
  have h2 := h
  simp only [badV, Bool.or_eq_false_iff, decide_eq_false_iff_not] at h2
  simp only [okF, h, Bool.false_eq_true, if_false]
  rw [ofL, if_pos (by omega)]

def valueOf (g : List Sy) (w : Wo) (t : Tm) (of : List Int) : Int × Int :=
  if worldOk g w = false then (0, 1) else if t.term g ≠ 0 then (0, t.term g) else if t.vars.any (badV of w.size) then (0, 1) else (t.val w (okF of w.size), 0)

theorem vars_nonneg (t : Tm) : ∀ v ∈ t.vars, 0 ≤ v := by
  refine (vars_all (p := fun v => 0 ≤ v) t).2 ?_
  have key : ∀ t : Tm, t.allV (fun v => 0 ≤ v) := by
    intro t
    induction t using Tm.rec_args with
    | h h ts ih =>
      exact ⟨fun _ => by omega, allVs_of ts ih⟩
  exact key t

def Li.holds (w : Wo) (f : Int → Int) (l : Li) : Bool := (l.l.val w f == l.r.val w f) != l.neg
def anyHolds (w : Wo) (f : Int → Int) (c : List Li) : Bool := c.any fun l => l.holds w f
end Go.Proofs

/- Rows of things, and where a clause fails. -/
namespace Go.Proofs
open Go Go.Abs

/-- The n-th row of so many things; the last one changes first. -/
def digL (s : Int) : Nat → Int → List Int
  | 0, _ => []
  | j + 1, n => ((n / s ^ j) % s) :: digL s j n
theorem digL_len (s : Int) : ∀ (j : Nat) (n : Int), (digL s j n).length = j
  | 0, _ => rfl
  | j + 1, n => by simp [digL, digL_len s j n]
theorem digL_range {s : Int} (hs : 1 ≤ s) : ∀ (j : Nat) (n : Int), ∀ v ∈ digL s j n, 0 ≤ v ∧ v < s
  | 0, _, v, h => by simp [digL] at h
  | j + 1, n, v, h => by
    simp only [digL, List.mem_cons] at h
    rcases h with rfl | h
    · exact ⟨Int.emod_nonneg _ (by omega), Int.emod_lt_of_pos _ (by omega)⟩
    · exact digL_range hs j n v h

/-- What is told of a variable by a row. -/
def look : List Int → List Int → Int → Int
  | u :: us, r :: rs, v => if v = u then r else look us rs v
  | _, _, _ => 0
theorem look_range {s : Int} (hs : 1 ≤ s) : ∀ (us rs : List Int) (v : Int), (∀ x ∈ rs, 0 ≤ x ∧ x < s) → 0 ≤ look us rs v ∧ look us rs v < s
  | [], rs, v, _ => by simp only [look]; omega
  | u :: us, [], v, _ => by simp only [look]; omega
  | u :: us, r :: rs, v, h => by
    simp only [look]
    split
    · exact h r (by simp)
    · exact look_range hs us rs v fun x hx => h x (by simp [hx])

def ofArr : List Int → List Int → List Int
  | u :: us, r :: rs => (ofArr us rs).set u.toNat r
  | _, _ => List.replicate 256 0
theorem ofArr_len : ∀ (us rs : List Int), (ofArr us rs).length = 256
  | [], rs => by simp only [ofArr, List.length_replicate]
  | u :: us, [] => by simp only [ofArr, List.length_replicate]
  | u :: us, r :: rs => by simp only [ofArr, List.length_set, ofArr_len us rs]
theorem ofArr_get : ∀ (us rs : List Int) (v : Int), (∀ u ∈ us, 0 ≤ u ∧ u < 256) → 0 ≤ v → v < 256 → (ofArr us rs).getD v.toNat 0 = look us rs v
  | [], rs, v, _, h0, h1 => by
    simp only [ofArr, look, List.getD_eq_getElem?_getD, List.getElem?_replicate]; split <;> rfl
  | u :: us, [], v, _, h0, h1 => by
    simp only [ofArr, look, List.getD_eq_getElem?_getD, List.getElem?_replicate]; split <;> rfl
  | u :: us, r :: rs, v, h, h0, h1 => by
    have hu := h u (by simp)
    simp only [ofArr, look, List.getD_eq_getElem?_getD]
    rw [List.getElem?_set]
    by_cases c : v = u
    · subst c
      rw [if_pos rfl, if_pos rfl, if_pos (by rw [ofArr_len]; omega)]; rfl
    · rw [if_neg (by omega), if_neg c, ← List.getD_eq_getElem?_getD]
      exact ofArr_get us rs v (fun x hx => h x (by simp [hx])) h0 h1
theorem ofArr_ofL {us rs : List Int} {v : Int} (h : ∀ u ∈ us, 0 ≤ u ∧ u < 256) (h0 : 0 ≤ v) (h1 : v < 256) : ofL (ofArr us rs) v = look us rs v := by
  rw [ofL, ofArr_len, if_pos (by omega)]; exact ofArr_get us rs v h h0 h1

theorem manyL_pow {s most : Int} (h1 : 1 ≤ s) (h2 : s ≤ 4) (hm : most < 2 ^ 40) : ∀ (k : Nat) (n : Int), 1 ≤ n → manyL s most k n ≤ most → manyL s most k n = n * s ^ k
  | 0, n, _, _ => by simp [manyL]
  | k + 1, n, hn, h => by
    by_cases c : n ≤ most
    · simp only [manyL, if_pos c] at h ⊢
      have b1 : n * 1 ≤ n * s := Int.mul_le_mul_of_nonneg_left h1 (by omega)
      have b2 : n * s ≤ n * 4 := Int.mul_le_mul_of_nonneg_left h2 (by omega)
      rw [i64_id (by omega)] at h ⊢
      rw [manyL_pow h1 h2 hm k (n * s) (by omega) h, Int.pow_succ, Int.mul_comm (s ^ k) s, Int.mul_assoc]
    · rw [manyL_stop _ _ c] at h; omega

def allRows (w : Wo) (c : List Li) : Nat := (w.size ^ (clauseVars c).length).toNat
def failRow (w : Wo) (c : List Li) : Option (List Int) :=
  ((List.range (allRows w c)).find? fun (n : Nat) => !anyHolds w (look (clauseVars c) (digL w.size (clauseVars c).length n)) c).map fun (n : Nat) => digL w.size (clauseVars c).length n

def fails (g : List Sy) (w : Wo) (c : List Li) : List Int × Bool × Int :=
  if worldOk g w = false then ([], false, 1) else if clauseCheck g c ≠ 0 then ([], false, clauseCheck g c) else if 20000 < worldMany w c 20000 then ([], false, 2) else
    match failRow w c with
    | some r => (r, true, 0)
    | none => ([], false, 0)

theorem many_pow {w : Wo} {c : List Li} (h1 : 1 ≤ w.size) (h2 : w.size ≤ 4) (h : ¬ 20000 < worldMany w c 20000) : worldMany w c 20000 = w.size ^ (clauseVars c).length := by
  have hm : manyL w.size 20000 (clauseVars c).length 1 ≤ 20000 := by unfold worldMany at h; omega
  have e := manyL_pow h1 h2 (by decide) _ 1 (by omega) hm
  unfold worldMany
  omega

/-- The first so that not. -/
theorem find_step {p : Nat → Bool} {n : Nat} : ∀ {N : Nat}, n < N → (∀ m, m < n → p m = false) → p n = true → (List.range N).find? p = some n := by
  intro N hN h1 h2
  rw [List.find?_range_eq_some]
  exact ⟨h2, by simpa using hN, fun j hj => by simp [h1 j hj]⟩
theorem find_end {p : Nat → Bool} {N : Nat} (h1 : ∀ m, m < N → p m = false) : (List.range N).find? p = none := by
  rw [List.find?_eq_none]
  intro x hx
  simp only [List.mem_range] at hx
  simp [h1 x hx]

theorem good_vars (t : Tm) : t.good = true → t.allV (fun v => 0 ≤ v ∧ v < 256) := by
  induction t using Tm.rec_args with
  | h h ts ih =>
    intro hg
    have hg2 := hg
    simp only [Tm.good, Bool.and_eq_true, Bool.not_eq_true', Bool.or_eq_false_iff, decide_eq_false_iff_not] at hg
    refine ⟨fun hn => by omega, allVs_of ts fun i hi => ih i hi ?_⟩
    have := hg.2
    rw [goods_take ts i hi, Bool.and_eq_true, Bool.and_eq_true] at this
    exact this.2.1

theorem check_good {t : Tm} (h : t.check = 0) : t.good = true ∧ t.size ≤ 400 ∧ t.depth ≤ 40 := by
  unfold Tm.check at h
  split at h
  · omega
  · split at h
    · omega
    · split at h
      · exact ⟨by assumption, by omega, by omega⟩
      · omega

theorem litsCheck_zero {g : List Sy} : ∀ {c : List Li}, litsCheck g c = 0 → ∀ (i : Nat) (h : i < c.length), c[i].check g = 0
  | l :: c, h, 0, _ => by
    simp only [litsCheck] at h
    split at h
    · assumption
    · rename_i h2; simpa using h2
  | l :: c, h, i + 1, hi => by
    simp only [litsCheck] at h
    split at h
    · rename_i h2; exact absurd h h2
    · exact litsCheck_zero h i (by simpa using hi)

theorem li_check_zero {g : List Sy} {l : Li} (h : l.check g = 0) : l.l.term g = 0 ∧ l.r.term g = 0 := by
  unfold Li.check at h
  split at h
  · rename_i h2; exact absurd h h2
  · split at h
    · rename_i h2; exact absurd h h2
    · rename_i h2 h3; exact ⟨by simpa using h2, by simpa using h3⟩

theorem clauseCheck_zero {g : List Sy} {c : List Li} (h : clauseCheck g c = 0) : c.length ≤ 32 ∧ ∀ (i : Nat) (h : i < c.length), c[i].l.term g = 0 ∧ c[i].r.term g = 0 := by
  unfold clauseCheck at h
  split at h
  · omega
  · split at h
    · omega
    · exact ⟨by omega, fun i hi => li_check_zero (litsCheck_zero h i hi)⟩

theorem sides_all {p : Int → Prop} : ∀ (c : List Li), Tm.allVs p (sides c) ↔ ∀ (i : Nat) (h : i < c.length), c[i].l.allV p ∧ c[i].r.allV p
  | [] => by simp [sides, Tm.allVs]
  | l :: c => by
    have e : sides (l :: c) = l.l :: l.r :: sides c := rfl
    rw [e]
    simp only [Tm.allVs]
    rw [sides_all c]
    constructor
    · rintro ⟨h1, h2, h3⟩ i hi
      cases i with
      | zero => exact ⟨h1, h2⟩
      | succ i => exact h3 i (by simpa using hi)
    · intro h
      have h0 := h 0 (by simp)
      exact ⟨h0.1, h0.2, fun i hi => h (i + 1) (by simpa using hi)⟩

theorem cvars_all {p : Int → Prop} (c : List Li) : (∀ v ∈ clauseVars c, p v) ↔ ∀ (i : Nat) (h : i < c.length), c[i].l.allV p ∧ c[i].r.allV p := by
  rw [clauseVars, varsL_all, ← sides_all]
  simp

theorem fits_sides : ∀ {c : List Li}, Tm.fits (sides c) → ∀ (i : Nat) (h : i < c.length), c[i].l.fit ∧ c[i].r.fit
  | l :: c, h, 0, _ => ⟨h.1, h.2.1⟩
  | l :: c, h, i + 1, hi => fits_sides (c := c) h.2.2 i (by simpa using hi)

theorem sizes_sides : ∀ {c : List Li} (i : Nat) (h : i < c.length), c[i].l.size ≤ Tm.sizes (sides c) ∧ c[i].r.size ≤ Tm.sizes (sides c)
  | l :: c, 0, _ => by
    have e : sides (l :: c) = l.l :: l.r :: sides c := rfl
    rw [e]; simp only [Tm.sizes, List.getElem_cons_zero]; omega
  | l :: c, i + 1, hi => by
    have e : sides (l :: c) = l.l :: l.r :: sides c := rfl
    have := sizes_sides (c := c) i (by simpa using hi)
    rw [e]; simp only [Tm.sizes, List.getElem_cons_succ]; omega

theorem lits_okW {g : List Sy} {w : Wo} {c : List Li} (hw : worldOk g w = true) (h : clauseCheck g c = 0) (hf : Tm.fits (sides c)) (i : Nat) (hi : i < c.length) : c[i].l.okW w ∧ c[i].r.okW w := by
  obtain ⟨h1, h2⟩ := (clauseCheck_zero h).2 i hi
  obtain ⟨_, k1, t1⟩ := term_zero h1
  obtain ⟨_, k2, t2⟩ := term_zero h2
  exact ⟨okW_of hw _ k1 t1, okW_of hw _ k2 t2⟩

theorem cvars_range {g : List Sy} {c : List Li} (h : clauseCheck g c = 0) : ∀ v ∈ clauseVars c, 0 ≤ v ∧ v < 256 := by
  rw [cvars_all (p := fun v => 0 ≤ v ∧ v < 256)]
  intro i hi
  obtain ⟨h1, h2⟩ := (clauseCheck_zero h).2 i hi
  exact ⟨good_vars _ (check_good (term_zero h1).1).1, good_vars _ (check_good (term_zero h2).1).1⟩

theorem ints_set (l : List Int) (i : Nat) (n : Int) : (ints l).set i (.int .i64 n) = ints (l.set i n) := by simp [ints, List.map_set]
theorem ints_rep (n : Nat) : List.replicate n (AVal.int .i64 0) = ints (List.replicate n 0) := by simp [ints]

theorem manyL_small (s : Int) (h1 : 1 ≤ s) (h2 : s ≤ 4) : ∀ (k : Nat) (n : Int), 1 ≤ n → n * 4 ^ k ≤ 20000 → manyL s 20000 k n = n * s ^ k
  | 0, n, _, _ => by simp [manyL]
  | k + 1, n, h, hb => by
    have e1 : n * 4 ^ (k + 1) = (n * 4) * 4 ^ k := by rw [Int.pow_succ]; rw [Int.mul_comm (4 ^ k) 4, Int.mul_assoc]
    have hp : (1 : Int) ≤ 4 ^ k := Int.pow_pos (n := 4) (m := k) (by omega)
    have hn4 : n * 4 ≤ n * 4 * 4 ^ k := by
      have := Int.mul_le_mul_of_nonneg_left hp (show 0 ≤ n * 4 by omega)
      omega
    have hns : 1 ≤ n * s ∧ n * s ≤ n * 4 := by
      constructor
      · have := Int.mul_le_mul h h1 (by omega) (by omega : (0 : Int) ≤ n); omega
      · exact Int.mul_le_mul_of_nonneg_left h2 (by omega)
    have hmono : n * s * 4 ^ k ≤ n * 4 * 4 ^ k := Int.mul_le_mul_of_nonneg_right hns.2 (by omega)
    rw [manyL, if_pos (by omega), i64_id (by omega), manyL_small s h1 h2 k (n * s) hns.1 (by omega)]
    rw [Int.pow_succ, Int.mul_comm (s ^ k) s, Int.mul_assoc]
theorem manyL_arity {s : Int} (h1 : 1 ≤ s) (h2 : s ≤ 4) {k : Nat} (hk : k ≤ 4) : manyL s 20000 k 1 = s ^ k := by
  rw [manyL_small s h1 h2 k 1 (by omega), Int.one_mul]
  rcases (by omega : k = 0 ∨ k = 1 ∨ k = 2 ∨ k = 3 ∨ k = 4) with rfl | rfl | rfl | rfl | rfl <;> decide

/-! ### the next row -/
theorem digL_split (s : Int) (hs : 1 ≤ s) (j : Nat) (n : Int) : ∀ a : Nat, digL s (a + j) n = digL s a (n / s ^ j) ++ digL s j n
  | 0 => by simp [digL]
  | a + 1 => by
    rw [show a + 1 + j = (a + j) + 1 by omega, digL, digL_split s hs j n a, digL, Int.ediv_ediv_of_nonneg (Int.le_of_lt (Int.pow_pos (by omega))), ← Int.pow_add, Nat.add_comm j a]
    rfl
theorem digL_zero (s : Int) (hs : 1 ≤ s) : ∀ (j : Nat) (m : Int), digL s j (s ^ j * m) = List.replicate j 0
  | 0, m => rfl
  | j + 1, m => by
    have hp : s ^ j ≠ 0 := by have := Int.pow_pos (n := s) (m := j) (by omega); omega
    have e : s ^ (j + 1) * m = s ^ j * (s * m) := by rw [Int.pow_succ, Int.mul_assoc]
    rw [e, digL, digL_zero s hs j (s * m), Int.mul_ediv_cancel_left _ hp, Int.mul_emod_right]
    rfl
theorem digL_init (s : Int) (hs : 1 ≤ s) (k : Nat) : digL s k 0 = List.replicate k 0 := by
  have := digL_zero s hs k 0; rwa [Int.mul_zero] at this
theorem carry_step {s n : Int} {j : Nat} (hs : 1 ≤ s) (h : n + 1 = s ^ j * (n / s ^ j + 1)) (hd : (n / s ^ j) % s = s - 1) : n + 1 = s ^ (j + 1) * (n / s ^ (j + 1) + 1) := by
  have e1 : n / s ^ (j + 1) = (n / s ^ j) / s := by rw [Int.pow_succ, Int.ediv_ediv_of_nonneg (Int.le_of_lt (Int.pow_pos (by omega)))]
  have e2 : n / s ^ j + 1 = s * ((n / s ^ j) / s + 1) := by
    have := Int.mul_ediv_add_emod (n / s ^ j) s
    rw [Int.mul_add, Int.mul_one]; omega
  rw [e1, Int.pow_succ, Int.mul_assoc, ← e2]; exact h
theorem carry_end {s n : Int} {a j : Nat} (hs : 1 ≤ s) (hn : 0 ≤ n) (h : n + 1 = s ^ j * (n / s ^ j + 1)) (hd : (n / s ^ j) % s ≠ s - 1) :
    digL s (a + 1 + j) (n + 1) = digL s a (n / s ^ j / s) ++ ((n / s ^ j) % s + 1) :: List.replicate j 0 := by
  have hp : s ^ j ≠ 0 := by have := Int.pow_pos (n := s) (m := j) (by omega); omega
  have e1 : (n + 1) / s ^ j = n / s ^ j + 1 := by
    conv => lhs; rw [h]
    exact Int.mul_ediv_cancel_left _ hp
  have e2 : digL s j (n + 1) = List.replicate j 0 := by rw [h]; exact digL_zero s hs j _
  have hq := Int.mul_ediv_add_emod (n / s ^ j) s
  have hm0 := Int.emod_nonneg (n / s ^ j) (show s ≠ 0 by omega)
  have hm1 := Int.emod_lt_of_pos (n / s ^ j) (show 0 < s by omega)
  have e3 : (n / s ^ j + 1) / s = n / s ^ j / s := by
    have : n / s ^ j + 1 = (n / s ^ j % s + 1) + s * (n / s ^ j / s) := by omega
    rw [this, Int.add_mul_ediv_left _ _ (by omega), Int.ediv_eq_zero_of_lt (by omega) (by omega)]; omega
  have e4 : (n / s ^ j + 1) % s = n / s ^ j % s + 1 := by
    have := Int.mul_ediv_add_emod (n / s ^ j + 1) s
    rw [e3] at this; omega
  rw [digL_split s hs j (n + 1) (a + 1), e2, e1, digL_split s hs 1 _ a]
  simp only [digL, Int.pow_one, Int.pow_zero, Int.ediv_one, e3, e4, List.append_assoc]
  rfl
theorem carry_all {s n : Int} {k : Nat} (hs : 1 ≤ s) (h0 : 0 ≤ n) (hn : n < s ^ k) (h : n + 1 = s ^ k * (n / s ^ k + 1)) : n + 1 = s ^ k := by
  rw [Int.ediv_eq_zero_of_lt h0 hn, Int.zero_add, Int.mul_one] at h; exact h
theorem digL_head (s : Int) (hs : 1 ≤ s) (a : Nat) (q : Int) : digL s (a + 1) q = digL s a (q / s) ++ [q % s] := by
  rw [digL_split s hs 1 q a, show s ^ 1 = s by rw [Int.pow_succ, Int.pow_zero, Int.one_mul]]; simp [digL]
theorem carry_lt {s n : Int} {a j : Nat} (hs : 1 ≤ s) (hn : n < s ^ (a + 1 + j)) (h : n + 1 = s ^ j * (n / s ^ j + 1)) (hd : (n / s ^ j) % s ≠ s - 1) : n + 1 < s ^ (a + 1 + j) := by
  refine Int.lt_of_not_ge fun hge => hd ?_
  have e : n + 1 = s ^ (a + 1 + j) := by omega
  have hp : s ^ j ≠ 0 := by have := Int.pow_pos (n := s) (m := j) (by omega); omega
  have e2 : n / s ^ j + 1 = s ^ (a + 1) := by
    rw [h, Int.pow_add, Int.mul_comm (s ^ (a + 1))] at e
    exact Int.eq_of_mul_eq_mul_left hp e
  have e3 : n / s ^ j = (s - 1) + s * (s ^ a - 1) := by
    rw [Int.pow_succ, Int.mul_comm] at e2
    rw [Int.mul_sub, Int.mul_one]; omega
  rw [e3, Int.add_mul_emod_self_left, Int.emod_eq_of_lt (by omega) (by omega)]

theorem many_iff (w : Wo) (c : List Li) : 20000 < worldMany w c 20000 ↔ 20000 < manyL w.size 20000 (clauseVars c).length 1 := by unfold worldMany; omega
theorem find_none (vs : List Int) (v : Int) : ∀ (i : Nat), v ∉ vs → findK (.int .i64 v) (ints vs) i = none := by
  induction vs with
  | nil => intro i _; rfl
  | cons u vs ih =>
    intro i h
    simp only [ints_cons, findK]
    have hne : eqCell (.int .i64 v) (.int .i64 u) = false := by
      simp only [eqCell]; simp; intro e; exact h (by simp [e])
    rw [hne]; exact ih (i + 1) (fun hm => h (by simp [hm]))
theorem mapSet_new (us rs : List Int) (u r : Int) (h : u ∉ us) : mapSet (ints us) (ints rs) (.int .i64 u) (.int .i64 r) = (ints (us ++ [u]), ints (rs ++ [r])) := by
  simp only [mapSet, find_none us u 0 h, ints_snoc]
theorem nodup_take {vs : List Int} (h : vs.Nodup) {i : Nat} (hi : i < vs.length) : vs[i] ∉ vs.take i := by
  intro hm
  obtain ⟨j, hj, e⟩ := List.mem_take_iff_getElem.1 hm
  have := (List.getElem_inj h (h₀ := by omega) (h₁ := hi)).1 e
  omega
theorem anyHolds_snoc (w : Wo) (f : Int → Int) (c : List Li) (i : Nat) (h : i < c.length) : anyHolds w f (c.take (i + 1)) = (anyHolds w f (c.take i) || c[i].holds w f) := by
  simp only [anyHolds]
  rw [List.take_add_one, List.any_append, List.getElem?_eq_getElem h]; simp
end Go.Proofs

/- A term's parts in their order, and how a stack goes through them. -/
namespace Go.Proofs
open Go Go.Abs

mutual
/-- The parts, each with how deep it stands; a term ahead of its arguments. -/
def Tm.pre : Tm → Int → List (Int × Tm)
  | .mk h ts, d => (d, .mk h ts) :: Tm.pres ts (d + 1)
def Tm.pres : List Tm → Int → List (Int × Tm)
  | [], _ => []
  | t :: ts, d => t.pre d ++ Tm.pres ts d
end
mutual
theorem pre_len : ∀ (t : Tm) (d : Int), (t.pre d).length = t.size
  | .mk h ts, d => by simp only [Tm.pre, List.length_cons, Tm.size]; rw [pres_len ts]; omega
theorem pres_len : ∀ (ts : List Tm) (d : Int), (Tm.pres ts d).length = Tm.sizes ts
  | [], _ => rfl
  | t :: ts, d => by simp only [Tm.pres, List.length_append, Tm.sizes]; rw [pre_len t, pres_len ts]
end

/-- What a stack still brings; its top stands first. -/
def rem (stk : List (Int × Tm)) : List (Int × Tm) := stk.flatMap fun x => x.2.pre x.1
theorem rem_nil : rem [] = [] := rfl
theorem rem_cons (x : Int × Tm) (r : List (Int × Tm)) : rem (x :: r) = x.2.pre x.1 ++ rem r := rfl
theorem rem_one (t : Tm) (d : Int) : rem [(d, t)] = t.pre d := by rw [rem_cons, rem_nil, List.append_nil]
theorem rem_push (d : Int) (ts : List Tm) (r : List (Int × Tm)) : rem (ts.map (fun t => (d, t)) ++ r) = Tm.pres ts d ++ rem r := by
  induction ts with
  | nil => rfl
  | cons t ts ih =>
    rw [List.map_cons, List.cons_append, rem_cons, ih, ← List.append_assoc]; rfl
theorem rem_len (stk : List (Int × Tm)) : stk.length ≤ (rem stk).length := by
  induction stk with
  | nil => exact Nat.le_refl _
  | cons x r ih => rw [rem_cons, List.length_append, pre_len, List.length_cons]; have := size_pos x.2; omega

/-- A part on the stack. -/
def plA (x : Int × Tm) : AVal := .agg [.int .i64 x.2.head, .ps 2 (x.2.args.map Tm.toA), .int .i64 x.1]
theorem plA_cells (x : Int × Tm) : (plA x).cells = [.int .i64 x.2.head, .ps 2 (x.2.args.map Tm.toA), .int .i64 x.1] := rfl
theorem plA_eq (x : Int × Tm) : plA x = .agg [.int .i64 x.2.head, .ps 2 (x.2.args.map Tm.toA), .int .i64 x.1] := rfl
theorem plA_low {n : Nat} (x : Int × Tm) : (plA x).low n := ⟨trivial, tms_low _, trivial, trivial⟩
theorem pls_low {n : Nat} (l : List (Int × Tm)) : lowL n (l.map plA) := lowL_map fun x _ => plA_low x

theorem lowL_app {n : Nat} {b : List AVal} : ∀ {a : List AVal}, lowL n a → lowL n b → lowL n (a ++ b)
  | [], _, h => h
  | _ :: _, ha, h => ⟨ha.1, lowL_app ha.2 h⟩

/-- As deep as they can stand. -/
def deepOk (T : Int) (x : Int × Tm) : Prop := 1 ≤ x.1 ∧ x.1 + x.2.size ≤ T

/-- Right at its top. -/
def topGood (t : Tm) : Bool := !(t.head < 0 && decide (0 < t.args.length) || t.head < -256 || decide (1023 < t.head) || decide (8 < t.args.length))
def maxDeep (l : List (Int × Tm)) (a : Int) : Int := l.foldl (fun m x => max m x.1) a
theorem maxDeep_app (l m : List (Int × Tm)) (a : Int) : maxDeep (l ++ m) a = maxDeep m (maxDeep l a) := List.foldl_append
mutual
theorem pre_deep : ∀ (t : Tm) (d a : Int), maxDeep (t.pre d) a = max a (d + t.depth - 1)
  | .mk h ts, d, a => by
    have e : maxDeep ((Tm.mk h ts).pre d) a = maxDeep (Tm.pres ts (d + 1)) (max a d) := rfl
    rw [e, pres_deep ts (d + 1) (max a d) (by omega)]
    simp only [Tm.depth]; omega
theorem pres_deep : ∀ (ts : List Tm) (d a : Int), d - 1 ≤ a → maxDeep (Tm.pres ts d) a = max a (d + Tm.depths ts - 1)
  | [], d, a, h => by simp only [Tm.pres, maxDeep, List.foldl_nil, Tm.depths]; omega
  | t :: ts, d, a, h => by
    simp only [Tm.pres, maxDeep_app, Tm.depths]
    rw [pre_deep t d a, pres_deep ts d _ (by omega)]; omega
end
mutual
theorem pre_good : ∀ (t : Tm) (d : Int), (t.pre d).any (fun x => !topGood x.2) = !t.good
  | .mk h ts, d => by
    simp only [Tm.pre, List.any_cons, Tm.good]
    rw [pres_good ts]
    simp only [topGood, Tm.head, Tm.args, Bool.not_and, Bool.not_not]
    rfl
theorem pres_good : ∀ (ts : List Tm) (d : Int), (Tm.pres ts d).any (fun x => !topGood x.2) = !Tm.goods ts
  | [], d => rfl
  | t :: ts, d => by
    simp only [Tm.pres, List.any_append, Tm.goods]
    rw [pre_good t, pres_good ts, Bool.not_and]
end
theorem maxDeep_bound : ∀ (l : List (Int × Tm)) (a : Int), 0 ≤ a → a < 2 ^ 62 → (∀ x ∈ l, x.1 < 2 ^ 62) → 0 ≤ maxDeep l a ∧ maxDeep l a < 2 ^ 62
  | [], a, h0, h1, _ => ⟨h0, h1⟩
  | x :: l, a, h0, h1, h => by
    have hx := h x (by simp)
    exact maxDeep_bound l (max a x.1) (by omega) (by omega) fun z hz => h z (by simp [hz])
theorem take_snoc {α : Type} {l : List α} {k : Nat} (h : k < l.length) : l.take (k + 1) = l.take k ++ [l[k]] := by
  rw [List.take_add_one, List.getElem?_eq_getElem h]; rfl
theorem pre_bound (t : Tm) (d : Int) : ∀ x ∈ t.pre d, d ≤ x.1 ∧ x.1 ≤ d + t.size := by
  have key : ∀ (t : Tm) (d : Int), ∀ x ∈ t.pre d, d ≤ x.1 ∧ x.1 ≤ d + t.depth - 1 := by
    intro t
    induction t using Tm.rec_args with
    | h h ts ih =>
      intro d x hx
      simp only [Tm.pre, List.mem_cons] at hx
      rcases hx with rfl | hx
      · simp only [Tm.depth]; omega
      · have hs : ∀ (us : List Tm) (e : Int), (∀ (i : Nat) (hi : i < us.length) (d : Int) (x : Int × Tm), x ∈ us[i].pre d → d ≤ x.1 ∧ x.1 ≤ d + us[i].depth - 1) → ∀ x ∈ Tm.pres us e, e ≤ x.1 ∧ x.1 ≤ e + Tm.depths us - 1 := by
          intro us
          induction us with
          | nil => intro e _ x hx; simp [Tm.pres] at hx
          | cons u us ih2 =>
            intro e hh x hx
            simp only [Tm.pres, List.mem_append] at hx
            simp only [Tm.depths]
            rcases hx with hx | hx
            · have := hh 0 (by simp) e x hx; simp only [List.getElem_cons_zero] at this; omega
            · have := ih2 e (fun i hi => hh (i + 1) (by simpa using hi)) x hx; omega
        have := hs ts (d + 1) (fun i hi d x hx => ih i hi d x hx) x hx
        simp only [Tm.depth]; omega
  intro x hx
  have := key t d x hx
  have := depth_le_size t
  omega

/-! ### variables in the order of the parts -/
def addV (o : List Int) (x : Int × Tm) : List Int := if x.2.head < 0 then add1 o (-1 - x.2.head) else o
def foldV (l : List (Int × Tm)) (o : List Int) : List Int := l.foldl addV o
theorem foldV_app (l m : List (Int × Tm)) (o : List Int) : foldV (l ++ m) o = foldV m (foldV l o) := List.foldl_append
theorem add1_add1 (o l : List Int) (v : Int) : addNew o (add1 l v) = add1 (addNew o l) v := by
  unfold add1
  by_cases h : v ∈ l
  · rw [if_pos h, if_pos ((mem_addNew l o v).2 (.inr h))]
  · rw [if_neg h]
    simp only [addNew, List.foldl_append, List.foldl_cons, List.foldl_nil]; rfl
theorem addNew_addNew : ∀ (l2 o l1 : List Int), addNew o (addNew l1 l2) = addNew (addNew o l1) l2
  | [], _, _ => rfl
  | v :: l2, o, l1 => by
    have h : ∀ o, addNew o (v :: l2) = addNew (add1 o v) l2 := fun _ => rfl
    rw [h, addNew_addNew l2, add1_add1, h]
theorem addNew_nil (o : List Int) : addNew o [] = o := rfl
mutual
theorem pre_vars : ∀ (t : Tm) (d : Int) (o : List Int), foldV (t.pre d) o = addNew o t.vars
  | .mk h ts, d, o => by
    have e : foldV ((Tm.mk h ts).pre d) o = foldV (Tm.pres ts (d + 1)) (if h < 0 then add1 o (-1 - h) else o) := rfl
    rw [e, pres_vars ts (d + 1) _ (if h < 0 then [-1 - h] else []) o ?_]
    · rfl
    · split <;> rfl
theorem pres_vars : ∀ (ts : List Tm) (d : Int) (o l o0 : List Int), addNew o0 l = o → foldV (Tm.pres ts d) o = addNew o0 (Tm.varsL ts l)
  | [], d, o, l, o0, h => h.symm
  | t :: ts, d, o, l, o0, h => by
    simp only [Tm.pres, foldV_app, Tm.varsL]
    rw [pre_vars t d o]
    exact pres_vars ts d _ _ o0 (by rw [addNew_addNew, h])
end
theorem nodup_add1 {o : List Int} {v : Int} (h : o.Nodup) : (add1 o v).Nodup := by
  unfold add1; split
  · exact h
  · rename_i hn; rw [List.nodup_append]; exact ⟨h, by simp, by simp; intro a ha hav; exact hn (hav ▸ ha)⟩
theorem nodup_addNew : ∀ (l o : List Int), o.Nodup → (addNew o l).Nodup
  | [], _, h => h
  | v :: l, o, h => nodup_addNew l (add1 o v) (nodup_add1 h)
theorem addNew_nodup : ∀ (l o : List Int), l.Nodup → (∀ v ∈ l, v ∉ o) → addNew o l = o ++ l
  | [], o, _, _ => by simp [addNew]
  | v :: l, o, h, hd => by
    have h' : addNew o (v :: l) = addNew (add1 o v) l := rfl
    have hv : add1 o v = o ++ [v] := if_neg (hd v (by simp))
    rw [h', hv, addNew_nodup l _ (List.nodup_cons.1 h).2]
    · simp
    · intro x hx hm
      rcases List.mem_append.1 hm with hm | hm
      · exact hd x (by simp [hx]) hm
      · rw [List.mem_singleton.1 hm] at hx; exact (List.nodup_cons.1 h).1 hx
mutual
theorem vars_nodup : ∀ t : Tm, t.vars.Nodup
  | .mk h ts => varsL_nodup ts _ (by split <;> simp)
theorem varsL_nodup : ∀ (ts : List Tm) (o : List Int), o.Nodup → (Tm.varsL ts o).Nodup
  | [], _, h => h
  | t :: ts, o, h => varsL_nodup ts _ (nodup_addNew _ _ h)
end
theorem pre_vars0 (t : Tm) (d : Int) : foldV (t.pre d) [] = t.vars := by
  rw [pre_vars, addNew_nodup _ _ (vars_nodup t) (by simp), List.nil_append]
theorem foldV_len (l : List (Int × Tm)) : ∀ o : List Int, (foldV l o).length ≤ o.length + l.length := by
  induction l with
  | nil => intro o; simp [foldV]
  | cons x l ih =>
    intro o
    have := ih (addV o x)
    have h2 : (addV o x).length ≤ o.length + 1 := by
      unfold addV; split
      · exact add1_len _ _
      · omega
    have e : foldV (x :: l) o = foldV l (addV o x) := rfl
    rw [e]; simp only [List.length_cons]; omega

mutual
theorem pre_fit : ∀ (t : Tm), t.fit → ∀ (d : Int), ∀ x ∈ t.pre d, x.2.fit
  | .mk h ts, hf, d, x, hx => by
    simp only [Tm.pre, List.mem_cons] at hx
    rcases hx with rfl | hx
    · exact hf
    · exact pres_fit ts hf.2 _ x hx
theorem pres_fit : ∀ (ts : List Tm), Tm.fits ts → ∀ (d : Int), ∀ x ∈ Tm.pres ts d, x.2.fit
  | [], _, d, x, hx => by simp [Tm.pres] at hx
  | t :: ts, hf, d, x, hx => by
    simp only [Tm.pres, List.mem_append] at hx
    rcases hx with hx | hx
    · exact pre_fit t hf.1 d x hx
    · exact pres_fit ts hf.2 d x hx
end
theorem cvars_nodup (c : List Li) : (clauseVars c).Nodup := varsL_nodup _ _ (by simp)
end Go.Proofs

/- Where a clause fails: what is told there. -/
namespace Go.Proofs
open Go Go.Abs

mutual
theorem val_congr {w : Wo} {f f' : Int → Int} : ∀ t : Tm, t.allV (fun v => f v = f' v) → t.val w f = t.val w f'
  | .mk h ts => fun ha => by
    simp only [Tm.allV] at ha
    simp only [Tm.val]
    by_cases c : h < 0
    · rw [if_pos c, if_pos c]; exact ha.1 c
    · rw [if_neg c, if_neg c, ats_congr ts ha.2]
theorem ats_congr {w : Wo} {f f' : Int → Int} : ∀ (ts : List Tm), Tm.allVs (fun v => f v = f' v) ts → ∀ {a : Int}, Tm.ats w f ts a = Tm.ats w f' ts a
  | [], _, a => rfl
  | t :: ts, ha, a => by
    simp only [Tm.allVs] at ha
    simp only [Tm.ats]
    rw [val_congr t ha.1, ats_congr ts ha.2]
end

theorem look_mem : ∀ (us rs : List Int) (i : Nat) (h1 : i < us.length) (h2 : i < rs.length), us.Nodup → look us rs us[i] = rs[i]
  | u :: us, r :: rs, 0, _, _, _ => by simp [look]
  | u :: us, r :: rs, i + 1, h1, h2, hn => by
    simp only [List.nodup_cons] at hn
    simp only [look, List.getElem_cons_succ]
    rw [if_neg (fun (e : us[i]'(by simpa using h1) = u) => hn.1 (by rw [← e]; exact List.getElem_mem _))]
    exact look_mem us rs i (by simpa using h1) (by simpa using h2) hn.2
theorem look_rev {us rs : List Int} (hl : us.length = rs.length) (hn : us.Nodup) {v : Int} (hv : v ∈ us) : look us.reverse rs.reverse v = look us rs v := by
  obtain ⟨i, hi, rfl⟩ := List.mem_iff_getElem.1 hv
  rw [look_mem us rs i hi (by omega) hn]
  have h1 : us.length - 1 - i < us.reverse.length := by rw [List.length_reverse]; omega
  have e1 : us.reverse[us.length - 1 - i]'h1 = us[i] := by rw [List.getElem_reverse]; congr 1; omega
  have h2 : us.length - 1 - i < rs.reverse.length := by rw [List.length_reverse]; omega
  have := look_mem us.reverse rs.reverse (us.length - 1 - i) h1 h2 ((List.reverse_perm us).nodup_iff.2 hn)
  rw [e1] at this
  rw [this, List.getElem_reverse]
  congr 1; omega

theorem rev_take {l : List Int} {i : Nat} (h : i < l.length) : (l.take (i + 1)).reverse = l[i] :: (l.take i).reverse := by
  rw [List.take_add_one, List.getElem?_eq_getElem h, List.reverse_append]; rfl
theorem ofArr_step {us rs : List Int} {i : Nat} (h1 : i < us.length) (h2 : i < rs.length) : ofArr (us.take (i + 1)).reverse (rs.take (i + 1)).reverse = (ofArr (us.take i).reverse (rs.take i).reverse).set us[i].toNat rs[i] := by
  rw [rev_take h1, rev_take h2]; rfl

/-- What fails: nothing, or a row at which no literal holds. -/
theorem fails_cases (g : List Sy) (w : Wo) (c : List Li) : ((fails g w c).1 = [] ∧ (fails g w c).2.1 = false) ∨
    ∃ row, fails g w c = (row, true, 0) ∧ worldOk g w = true ∧ clauseCheck g c = 0 ∧ row.length = (clauseVars c).length ∧ (∀ v ∈ row, 0 ≤ v ∧ v < w.size) ∧ anyHolds w (look (clauseVars c) row) c = false := by
  unfold fails
  by_cases c1 : worldOk g w = false
  · rw [if_pos c1]; exact .inl ⟨rfl, rfl⟩
  rw [if_neg c1]
  by_cases c2 : clauseCheck g c ≠ 0
  · rw [if_pos c2]; exact .inl ⟨rfl, rfl⟩
  rw [if_neg c2]
  by_cases c3 : 20000 < worldMany w c 20000
  · rw [if_pos c3]; exact .inl ⟨rfl, rfl⟩
  rw [if_neg c3]
  have c1' : worldOk g w = true := by simpa using c1
  obtain ⟨q1, q2, q3, _⟩ := worldOk_size c1'
  unfold failRow
  cases hf : (List.range (allRows w c)).find? fun (n : Nat) => !anyHolds w (look (clauseVars c) (digL w.size (clauseVars c).length n)) c with
  | none => exact .inl ⟨rfl, rfl⟩
  | some n =>
    have := List.find?_some hf
    refine .inr ⟨digL w.size (clauseVars c).length n, rfl, c1', by simpa using c2, digL_len _ _ _, digL_range q2 _ _, by simpa using this⟩

theorem cvars_len (c : List Li) : (clauseVars c).length ≤ Tm.sizes (sides c) := by
  have := varsL_len (sides c) []
  simpa [clauseVars] using this
theorem fails_len (g : List Sy) (w : Wo) (c : List Li) : (fails g w c).1.length ≤ Tm.sizes (sides c) := by
  rcases fails_cases g w c with ⟨h, _⟩ | ⟨row, h, _, _, hl, _⟩
  · rw [h]; exact Nat.zero_le _
  · rw [h]; have := cvars_len c; simp only; omega

theorem value_there {g : List Sy} {w : Wo} {c : List Li} {row : List Int} (hw : worldOk g w = true) (hc : clauseCheck g c = 0) (hl : row.length = (clauseVars c).length) (hr : ∀ v ∈ row, 0 ≤ v ∧ v < w.size) {t : Tm} (ht : t.allV (· ∈ clauseVars c)) (hok : t.term g = 0) :
    valueOf g w t (ofArr (clauseVars c).reverse row.reverse) = (t.val w (look (clauseVars c) row), 0) := by
  obtain ⟨q1, q2, q3, _⟩ := worldOk_size hw
  have hrange := cvars_range hc
  have hnd := cvars_nodup c
  have hget : ∀ v ∈ clauseVars c, (ofArr (clauseVars c).reverse row.reverse).getD v.toNat 0 = look (clauseVars c) row v := fun v hv => by
    rw [ofArr_get _ _ v (fun u hu => hrange u (List.mem_reverse.1 hu)) (hrange v hv).1 (hrange v hv).2, look_rev hl.symm hnd hv]
  have hbad : ∀ v ∈ clauseVars c, badV (ofArr (clauseVars c).reverse row.reverse) w.size v = false := fun v hv => by
    have := look_range q2 (clauseVars c) row v hr
    have := hrange v hv
    simp only [badV, hget v hv, ofArr_len, Bool.or_eq_false_iff, decide_eq_false_iff_not]
    omega
  have hvars := (vars_all (p := (· ∈ clauseVars c)) t).2 ht
  have hany : t.vars.any (badV (ofArr (clauseVars c).reverse row.reverse) w.size) = false := List.any_eq_false.2 fun v hv => by rw [hbad v (hvars v hv)]; decide
  have hok' : ∀ v ∈ t.vars, okF (ofArr (clauseVars c).reverse row.reverse) w.size v = look (clauseVars c) row v := fun v hv => by
    rw [okF, if_neg (by rw [hbad v (hvars v hv)]; decide), hget v (hvars v hv)]
  rw [valueOf, if_neg (by rw [hw]; decide), if_neg (by simp [hok]), if_neg (by rw [hany]; decide), val_congr t ((vars_all t).1 hok')]
end Go.Proofs

/- Going through a term's parts with a state; terms of a signature by it. -/
namespace Go.Proofs
open Go Go.Abs

mutual
def Tm.walk {ι : Type} (step : ι → Tm → Bool → ι) : Tm → Bool → ι → ι
  | .mk h ts, top, x => Tm.walks step ts (step x (.mk h ts) top)
def Tm.walks {ι : Type} (step : ι → Tm → Bool → ι) : List Tm → ι → ι
  | [], x => x
  | t :: ts, x => Tm.walks step ts (t.walk step false x)
end
theorem walks_snoc {ι : Type} (step : ι → Tm → Bool → ι) : ∀ (ts : List Tm) (i : Nat) (hi : i < ts.length) (x : ι), Tm.walks step (ts.take (i + 1)) x = ts[i].walk step false (Tm.walks step (ts.take i) x)
  | t :: ts, 0, _, x => by simp [Tm.walks]
  | t :: ts, i + 1, hi, x => by
    simp only [List.take_succ_cons, Tm.walks, List.getElem_cons_succ]
    exact walks_snoc step ts i (by simpa using hi) _

/-- What is unknown, and what is mixed. -/
def seeT (g : List Sy) (x : Bool × Bool) (t : Tm) (top : Bool) : Bool × Bool :=
  if t.head < 0 then x else if (g.length : Int) ≤ t.head ∨ ¬ (t.args.length : Int) = (symAt g t.head).arity then (true, x.2) else if (symAt g t.head).truth = true ∧ top = false then (x.1, true) else x

def hereKnown (g : List Sy) (t : Tm) : Bool := decide (t.head < 0) || (!(decide ((g.length : Int) ≤ t.head)) && decide ((t.args.length : Int) = (symAt g t.head).arity))

theorem hereKnown_mk (g : List Sy) (h : Int) (ts : List Tm) : hereKnown g (.mk h ts) = (decide (h < 0) || (!(decide ((g.length : Int) ≤ h)) && decide ((ts.length : Int) = (symAt g h).arity))) := rfl

theorem seeT_1 (g : List Sy) (x : Bool × Bool) (t : Tm) (top : Bool) : (seeT g x t top).1 = (x.1 || !hereKnown g t) := by
  unfold seeT hereKnown
  by_cases c1 : t.head < 0
  · simp [c1]
  · by_cases c2 : (g.length : Int) ≤ t.head
    · simp [c1, c2]
    · by_cases c3 : (t.args.length : Int) = (symAt g t.head).arity
      · rw [if_neg c1, if_neg (by simp [c2, c3])]
        split <;> simp [c1, c2, c3]
      · simp [c1, c2, c3]
theorem good_var {h : Int} {ts : List Tm} (hg : (Tm.mk h ts).good = true) (c : h < 0) : ts = [] := by
  simp only [Tm.good, Bool.and_eq_true, Bool.not_eq_true', Bool.or_eq_false_iff, Bool.and_eq_false_iff, decide_eq_false_iff_not] at hg
  rcases hg.1.1.1.1 with h' | h'
  · exact absurd c h'
  · exact List.length_eq_zero_iff.1 (by omega)
theorem good_args {h : Int} {ts : List Tm} (hg : (Tm.mk h ts).good = true) : Tm.goods ts = true := by
  simp only [Tm.good, Bool.and_eq_true] at hg; exact hg.2

mutual
theorem walk_1 (g : List Sy) : ∀ (t : Tm) (top : Bool) (x : Bool × Bool), t.good = true → (t.walk (seeT g) top x).1 = (x.1 || !t.known g)
  | .mk h ts, top, x, hg => by
    simp only [Tm.walk, Tm.known]
    rw [walks_1 g ts _ (good_args hg), seeT_1, hereKnown_mk]
    by_cases c1 : h < 0
    · have := good_var hg c1
      subst this
      simp [c1, Tm.knowns]
    · have e1 : decide (h < 0) = false := decide_eq_false c1
      rw [e1]
      simp only [Bool.false_or, Bool.not_and, Bool.or_assoc]
theorem walks_1 (g : List Sy) : ∀ (ts : List Tm) (x : Bool × Bool), Tm.goods ts = true → (Tm.walks (seeT g) ts x).1 = (x.1 || !Tm.knowns g ts)
  | [], x, _ => by simp [Tm.walks, Tm.knowns]
  | t :: ts, x, hg => by
    simp only [Tm.goods, Bool.and_eq_true] at hg
    simp only [Tm.walks, Tm.knowns]
    rw [walks_1 g ts _ hg.2, walk_1 g t _ _ hg.1, Bool.not_and, Bool.or_assoc]
end

theorem seeT_2 (g : List Sy) (x : Bool × Bool) (t : Tm) (top : Bool) (hk : hereKnown g t = true) : (seeT g x t top).2 = (x.2 || (!top && t.truth g)) := by
  unfold seeT
  unfold hereKnown at hk
  by_cases c1 : t.head < 0
  · simp [c1, Tm.truth, show ¬ 0 ≤ t.head by omega]
  · simp only [decide_eq_false c1, Bool.false_or, Bool.and_eq_true, Bool.not_eq_true', decide_eq_false_iff_not, decide_eq_true_eq] at hk
    rw [if_neg c1, if_neg (by simp only [hk.2, not_true_eq_false, or_false]; exact hk.1)]
    have h0 : 0 ≤ t.head := by omega
    have h1 : t.head < (g.length : Int) := by omega
    cases ht : (symAt g t.head).truth <;> cases top <;> simp [Tm.truth, h0, h1, ht]
mutual
theorem walk_2 (g : List Sy) : ∀ (t : Tm) (top : Bool) (x : Bool × Bool), t.good = true → t.known g = true → (t.walk (seeT g) top x).2 = (x.2 || ((!top && t.truth g) || !t.things g))
  | .mk h ts, top, x, hg, hk => by
    have hh : hereKnown g (.mk h ts) = true := by
      simp only [Tm.known, Bool.or_eq_true, Bool.and_eq_true] at hk
      simp only [hereKnown, Tm.head, Tm.args, Bool.or_eq_true, Bool.and_eq_true]
      exact hk.imp id And.left
    have hks : Tm.knowns g ts = true := by
      by_cases c1 : h < 0
      · rw [good_var hg c1]; rfl
      · simp only [Tm.known, decide_eq_false c1, Bool.false_or, Bool.and_eq_true] at hk; exact hk.2
    simp only [Tm.walk, Tm.things]
    rw [walks_2 g ts _ (good_args hg) hks, seeT_2 g x _ top hh, Bool.or_assoc]
theorem walks_2 (g : List Sy) : ∀ (ts : List Tm) (x : Bool × Bool), Tm.goods ts = true → Tm.knowns g ts = true → (Tm.walks (seeT g) ts x).2 = (x.2 || !Tm.thingsL g ts)
  | [], x, _, _ => by simp [Tm.walks, Tm.thingsL]
  | t :: ts, x, hg, hk => by
    simp only [Tm.goods, Tm.knowns, Bool.and_eq_true] at hg hk
    simp only [Tm.walks, Tm.thingsL]
    rw [walks_2 g ts _ hg.2 hk.2, walk_2 g t _ _ hg.1 hk.1]
    cases t.truth g <;> cases t.things g <;> cases x.2 <;> simp
end

/-! ### the variables that are read in a world -/
mutual
def Tm.visit {ι : Type} (step : ι → Int → ι) : Tm → ι → ι
  | .mk h ts, x => if h < 0 then step x (-1 - h) else Tm.visits step ts x
def Tm.visits {ι : Type} (step : ι → Int → ι) : List Tm → ι → ι
  | [], x => x
  | t :: ts, x => Tm.visits step ts (t.visit step x)
end
theorem visits_snoc {ι : Type} (step : ι → Int → ι) : ∀ (ts : List Tm) (i : Nat) (hi : i < ts.length) (x : ι), Tm.visits step (ts.take (i + 1)) x = ts[i].visit step (Tm.visits step (ts.take i) x)
  | t :: ts, 0, _, x => by simp [Tm.visits]
  | t :: ts, i + 1, hi, x => by
    simp only [List.take_succ_cons, Tm.visits, List.getElem_cons_succ]
    exact visits_snoc step ts i (by simpa using hi) _
mutual
theorem visit_iff (p : Int → Bool) : ∀ (t : Tm) (x : Bool), t.good = true → (t.visit (fun b v => b || p v) x = true ↔ x = true ∨ ¬ t.allV (fun v => p v = false))
  | .mk h ts, x, hg => by
    by_cases c : h < 0
    · have := good_var hg c
      subst this
      simp [Tm.visit, c, Tm.allV, Tm.allVs]
    · simp only [Tm.visit, if_neg c, Tm.allV, c, false_imp_iff, true_and]
      exact visits_iff p ts x (good_args hg)
theorem visits_iff (p : Int → Bool) : ∀ (ts : List Tm) (x : Bool), Tm.goods ts = true → (Tm.visits (fun b v => b || p v) ts x = true ↔ x = true ∨ ¬ Tm.allVs (fun v => p v = false) ts)
  | [], x, _ => by simp [Tm.visits, Tm.allVs]
  | t :: ts, x, hg => by
    simp only [Tm.goods, Bool.and_eq_true] at hg
    simp only [Tm.visits, Tm.allVs]
    rw [visits_iff p ts _ hg.2, visit_iff p t x hg.1, Classical.not_and_iff_not_or_not, or_assoc]
end
theorem visit_any (p : Int → Bool) (t : Tm) (hg : t.good = true) : t.visit (fun b v => b || p v) false = t.vars.any p := by
  rw [Bool.eq_iff_iff, visit_iff p t false hg, ← vars_all]
  simp
end Go.Proofs

/- Words and formulas as Lean data, and the trees that stand for them. -/
namespace Go.Proofs
open Go Go.Abs

inductive Wd where
  | mk (var : Bool) (name : ByteArray) (args : List Wd)
def Wd.var : Wd → Bool | .mk v _ _ => v
def Wd.name : Wd → ByteArray | .mk _ n _ => n
def Wd.args : Wd → List Wd | .mk _ _ l => l

mutual
def Wd.toA : Wd → AVal
  | .mk v n l => .agg [.bool v, .str n, .ps 3 (Wd.toAL l)]
def Wd.toAL : List Wd → List AVal
  | [] => []
  | w :: l => w.toA :: Wd.toAL l
end
theorem wdAL_eq : ∀ l, Wd.toAL l = l.map Wd.toA
  | [] => rfl
  | w :: l => by simp [Wd.toAL, wdAL_eq l]
theorem wd_eq (w : Wd) : w.toA = .agg [.bool w.var, .str w.name, .ps 3 (w.args.map Wd.toA)] := by cases w; simp [Wd.toA, wdAL_eq, Wd.var, Wd.name, Wd.args]
theorem wd_cells (w : Wd) : w.toA.cells = [.bool w.var, .str w.name, .ps 3 (w.args.map Wd.toA)] := by rw [wd_eq]; rfl
theorem wd_mk (v : Bool) (n : ByteArray) (l : List Wd) : AVal.agg [.bool v, .str n, .ps 3 (l.map Wd.toA)] = (Wd.mk v n l).toA := by rw [wd_eq]; rfl
mutual
theorem wd_low0 : ∀ w : Wd, w.toA.low 0
  | .mk v n l => by simp only [Wd.toA, AVal.low, lowL, and_true, true_and]; exact wdL_low0 l
theorem wdL_low0 : ∀ l : List Wd, lowL 0 (Wd.toAL l)
  | [] => trivial
  | w :: l => ⟨wd_low0 w, wdL_low0 l⟩
end
theorem wd_low {n : Nat} (w : Wd) : w.toA.low n := low_mono (Nat.zero_le n) (wd_low0 w)
theorem wds_low {n : Nat} (l : List Wd) : lowL n (l.map Wd.toA) := lowL_map fun x _ => wd_low x
mutual
def Wd.size : Wd → Nat
  | .mk _ _ l => 1 + Wd.sizes l
def Wd.sizes : List Wd → Nat
  | [] => 0
  | w :: l => w.size + Wd.sizes l
end
theorem wsize_le : ∀ (l : List Wd) (i : Nat) (hi : i < l.length), Wd.size l[i] ≤ Wd.sizes l
  | w :: l, 0, _ => by simp only [List.getElem_cons_zero, Wd.sizes]; omega
  | w :: l, i + 1, hi => by
    have := wsize_le l i (by simpa using hi)
    simp only [List.getElem_cons_succ, Wd.sizes]; omega
theorem wsize_pos (w : Wd) : 1 ≤ w.size := by cases w; simp only [Wd.size]; omega
theorem wlen_le : ∀ l : List Wd, l.length ≤ Wd.sizes l
  | [] => by simp [Wd.sizes]
  | w :: l => by have := wlen_le l; have := wsize_pos w; simp only [List.length_cons, Wd.sizes]; omega
theorem Wd.rec_args {p : Wd → Prop} (h : ∀ v n l, (∀ (i : Nat) (hi : i < l.length), p l[i]) → p (.mk v n l)) : ∀ w, p w := by
  have key : ∀ n (w : Wd), w.size = n → p w := by
    intro n
    induction n using Nat.strongRecOn with
    | _ n ih =>
      intro w hw
      match w, hw with
      | .mk v nm l, hw =>
        refine h v nm l fun i hi => ih _ ?_ l[i] rfl
        have := wsize_le l i hi
        simp only [Wd.size] at hw
        omega
  exact fun w => key _ w rfl

inductive Fo where
  | mk (kind : Int) (l r : Wd) (names : List ByteArray) (parts : List Fo)
def Fo.kind : Fo → Int | .mk k _ _ _ _ => k
def Fo.l : Fo → Wd | .mk _ l _ _ _ => l
def Fo.r : Fo → Wd | .mk _ _ r _ _ => r
def Fo.names : Fo → List ByteArray | .mk _ _ _ n _ => n
def Fo.parts : Fo → List Fo | .mk _ _ _ _ p => p

def strs (l : List ByteArray) : List AVal := l.map .str
theorem strs_len (l : List ByteArray) : (strs l).length = l.length := by simp [strs]
theorem strs_low {n : Nat} (l : List ByteArray) : lowL n (strs l) := lowL_map fun _ _ => trivial
theorem strs_get {l : List ByteArray} {i : Nat} (h : i < l.length) : (strs l).getD i .undef = .str l[i] := map_getD h

mutual
def Fo.toA : Fo → AVal
  | .mk k l r n p => .agg [.int .i64 k, .bool l.var, .str l.name, .ps 3 (l.args.map Wd.toA), .bool r.var, .str r.name, .ps 3 (r.args.map Wd.toA), .ps 1 (strs n), .ps 9 (Fo.toAL p)]
def Fo.toAL : List Fo → List AVal
  | [] => []
  | f :: l => f.toA :: Fo.toAL l
end
theorem foAL_eq : ∀ l, Fo.toAL l = l.map Fo.toA
  | [] => rfl
  | w :: l => by simp [Fo.toAL, foAL_eq l]
def Fo.cs (f : Fo) : List AVal := [.int .i64 f.kind, .bool f.l.var, .str f.l.name, .ps 3 (f.l.args.map Wd.toA), .bool f.r.var, .str f.r.name, .ps 3 (f.r.args.map Wd.toA), .ps 1 (strs f.names), .ps 9 (f.parts.map Fo.toA)]
theorem fo_eq (f : Fo) : f.toA = .agg [.int .i64 f.kind, .bool f.l.var, .str f.l.name, .ps 3 (f.l.args.map Wd.toA), .bool f.r.var, .str f.r.name, .ps 3 (f.r.args.map Wd.toA), .ps 1 (strs f.names), .ps 9 (f.parts.map Fo.toA)] := by
  cases f; simp [Fo.toA, foAL_eq, Fo.kind, Fo.l, Fo.r, Fo.names, Fo.parts]
theorem fo_cells (f : Fo) : f.toA.cells = [.int .i64 f.kind, .bool f.l.var, .str f.l.name, .ps 3 (f.l.args.map Wd.toA), .bool f.r.var, .str f.r.name, .ps 3 (f.r.args.map Wd.toA), .ps 1 (strs f.names), .ps 9 (f.parts.map Fo.toA)] := by rw [fo_eq]; rfl
mutual
theorem fo_low0 : ∀ f : Fo, f.toA.low 0
  | .mk k l r n p => by
    simp only [Fo.toA, AVal.low, lowL, and_true, true_and]
    exact ⟨wds_low _, wds_low _, strs_low _, foL_low0 p⟩
theorem foL_low0 : ∀ l : List Fo, lowL 0 (Fo.toAL l)
  | [] => trivial
  | f :: l => ⟨fo_low0 f, foL_low0 l⟩
end
theorem fo_low {n : Nat} (f : Fo) : f.toA.low n := low_mono (Nat.zero_le n) (fo_low0 f)
theorem fos_low {n : Nat} (l : List Fo) : lowL n (l.map Fo.toA) := lowL_map fun x _ => fo_low x
mutual
def Fo.size : Fo → Nat
  | .mk _ l r n p => 1 + l.size + r.size + n.length + Fo.sizes p
def Fo.sizes : List Fo → Nat
  | [] => 0
  | f :: l => f.size + Fo.sizes l
end
theorem fsize_le : ∀ (l : List Fo) (i : Nat) (hi : i < l.length), Fo.size l[i] ≤ Fo.sizes l
  | w :: l, 0, _ => by simp only [List.getElem_cons_zero, Fo.sizes]; omega
  | w :: l, i + 1, hi => by
    have := fsize_le l i (by simpa using hi)
    simp only [List.getElem_cons_succ, Fo.sizes]; omega
theorem fsize_pos (f : Fo) : 1 ≤ f.size := by cases f; simp only [Fo.size]; omega
theorem flen_le : ∀ l : List Fo, l.length ≤ Fo.sizes l
  | [] => by simp [Fo.sizes]
  | w :: l => by have := flen_le l; have := fsize_pos w; simp only [List.length_cons, Fo.sizes]; omega
theorem Fo.rec_parts {p : Fo → Prop} (h : ∀ k l r n ps, (∀ (i : Nat) (hi : i < ps.length), p ps[i]) → p (.mk k l r n ps)) : ∀ f, p f := by
  have key : ∀ n (f : Fo), f.size = n → p f := by
    intro n
    induction n using Nat.strongRecOn with
    | _ n ih =>
      intro f hf
      match f, hf with
      | .mk k l r nm ps, hf =>
        refine h k l r nm ps fun i hi => ih _ ?_ ps[i] rfl
        have := fsize_le ps i hi
        simp only [Fo.size] at hf
        omega
  exact fun f => key _ f rfl
def Fo.wds : Fo → Nat | .mk _ l r _ _ => l.size + r.size
theorem fsize_eq (f : Fo) : f.size = 1 + f.l.size + f.r.size + f.names.length + Fo.sizes f.parts := by cases f; rfl

/-- The words that a formula has a use for. -/
def Fo.own (f : Fo) : List Wd := if f.kind = 0 then [f.l] else if f.kind = 1 then [f.l, f.r] else []

/-! ### going through a word with a state -/
mutual
def Wd.each {ι : Type} (go : ι → Wd → Bool) (stp : ι → Wd → ι) : Wd → ι → Bool × ι
  | .mk v n l, x => if go x (.mk v n l) = true then Wd.eachL go stp l (stp x (.mk v n l)) else (false, stp x (.mk v n l))
def Wd.eachL {ι : Type} (go : ι → Wd → Bool) (stp : ι → Wd → ι) : List Wd → ι → Bool × ι
  | [], x => (true, x)
  | w :: l, x => if (w.each go stp x).1 = true then Wd.eachL go stp l (w.each go stp x).2 else w.each go stp x
end

/-! ### with a state, the first so that it is so -/
def idxS {α ι : Type} (p : ι → α → Bool) (stp : ι → α → ι) : List α → ι → Int → Int × ι
  | [], x, _ => (-1, x)
  | a :: l, x, i => if p x a = true then (i, stp x a) else idxS p stp l (stp x a) (i + 1)
theorem idxS_nonneg {α ι : Type} (p : ι → α → Bool) (stp : ι → α → ι) : ∀ (l : List α) (x : ι) (i : Int), (idxS p stp l x i).1 = -1 ∨ i ≤ (idxS p stp l x i).1
  | [], x, i => .inl rfl
  | a :: l, x, i => by
    simp only [idxS]
    split
    · exact .inr (Int.le_refl _)
    · rcases idxS_nonneg p stp l (stp x a) (i + 1) with h | h
      · exact .inl h
      · exact .inr (by omega)
theorem eachL_idx {ι : Type} (go : ι → Wd → Bool) (stp : ι → Wd → ι) : ∀ (l : List Wd) (x : ι) (i : Int), 0 ≤ i →
    Wd.eachL go stp l x = (!decide (0 ≤ (idxS (fun x a => !(a.each go stp x).1) (fun x a => (a.each go stp x).2) l x i).1), (idxS (fun x a => !(a.each go stp x).1) (fun x a => (a.each go stp x).2) l x i).2)
  | [], x, i, h => by simp [Wd.eachL, idxS]
  | w :: l, x, i, h => by
    simp only [Wd.eachL, idxS]
    cases hw : (w.each go stp x).1 with
    | true =>
      simp only [if_true, Bool.not_true, Bool.false_eq_true, if_false]
      exact eachL_idx go stp l _ (i + 1) (by omega)
    | false =>
      simp only [Bool.false_eq_true, if_false, Bool.not_false, if_true, decide_eq_true h, Bool.not_true]
      rw [← hw]

/-! ### how great a formula is, as far as somewhat above a bound -/
def wordN (n : Int) (w : Wd) : Int := (w.each (fun n _ => decide (IntKind.i64.wrap (n + 1) ≤ 5000)) (fun n _ => IntKind.i64.wrap (n + 1)) n).2
def wordsN (l : List Wd) (n : Int) : Int := l.foldl wordN n
mutual
def Fo.cnt : Fo → Int → Int
  | .mk k l r nm ps, n => Fo.cntL ps (wordsN (Fo.mk k l r nm ps).own (IntKind.i64.wrap (n + IntKind.i64.wrap (1 + nm.length))))
def Fo.cntL : List Fo → Int → Int
  | [], n => n
  | p :: ps, n => Fo.cntL ps (if n ≤ 5000 then p.cnt n else n)
end
theorem fcntL_snoc : ∀ (ps : List Fo) (i : Nat) (hi : i < ps.length) (n : Int), Fo.cntL (ps.take (i + 1)) n = if Fo.cntL (ps.take i) n ≤ 5000 then ps[i].cnt (Fo.cntL (ps.take i) n) else Fo.cntL (ps.take i) n
  | p :: ps, 0, _, n => by simp [Fo.cntL]
  | p :: ps, i + 1, hi, n => by
    simp only [List.take_succ_cons, Fo.cntL, List.getElem_cons_succ]
    exact fcntL_snoc ps i (by simpa using hi) _
theorem wordsN_snoc (l : List Wd) (i : Nat) (hi : i < l.length) (n : Int) : wordsN (l.take (i + 1)) n = wordN (wordsN (l.take i) n) l[i] := by
  simp only [wordsN, List.take_add_one, List.getElem?_eq_getElem hi, Option.toList_some, List.foldl_append, List.foldl_cons, List.foldl_nil]

/-! ### right formulas -/
def Wd.ok1 (w : Wd) : Bool := !w.var || decide (w.args.length = 0)
mutual
def Wd.ok : Wd → Bool
  | .mk v n l => (Wd.mk v n l).ok1 && Wd.oks l
def Wd.oks : List Wd → Bool
  | [] => true
  | w :: l => w.ok && Wd.oks l
end
mutual
theorem each_ok : ∀ w : Wd, (w.each (ι := Unit) (fun _ w => w.ok1) (fun _ _ => ()) ()).1 = w.ok
  | .mk v n l => by
    simp only [Wd.each, Wd.ok]
    cases (Wd.mk v n l).ok1 with
    | true => simp only [if_true, Bool.true_and]; exact eachL_ok l
    | false => simp
theorem eachL_ok : ∀ l : List Wd, (Wd.eachL (ι := Unit) (fun _ w => w.ok1) (fun _ _ => ()) l ()).1 = Wd.oks l
  | [] => rfl
  | w :: l => by
    have h := each_ok w
    simp only [Wd.eachL, Wd.oks]
    cases hw : w.ok with
    | true => rw [h, hw, if_pos rfl]; exact eachL_ok l
    | false => rw [h, hw, if_neg (by decide), h, hw]; rfl
end
/-- So many parts as its kind wants. -/
def Fo.shape (f : Fo) : Bool :=
  if f.kind = 0 then decide (f.parts.length = 0) && !f.l.var
  else if f.kind = 1 ∨ f.kind = 9 ∨ f.kind = 10 then decide (f.parts.length = 0)
  else if f.kind = 2 ∨ f.kind = 7 ∨ f.kind = 8 then decide (f.parts.length = 1)
  else if f.kind = 5 ∨ f.kind = 6 then decide (f.parts.length = 2)
  else decide (f.kind = 3 ∨ f.kind = 4)
mutual
def Fo.right : Fo → Bool
  | .mk k l r nm ps => ((Fo.mk k l r nm ps).shape && (Fo.mk k l r nm ps).own.all Wd.ok) && Fo.rights ps
def Fo.rights : List Fo → Bool
  | [] => true
  | p :: ps => p.right && Fo.rights ps
end
theorem rights_all : ∀ ps : List Fo, Fo.rights ps = ps.all Fo.right
  | [] => rfl
  | p :: ps => by simp only [Fo.rights, List.all_cons, rights_all ps]
theorem idxS_pure {α : Type} (p : α → Bool) : ∀ (l : List α) (i : Int), 0 ≤ i → decide (0 ≤ (idxS (ι := Unit) (fun _ a => p a) (fun _ _ => ()) l () i).1) = l.any p
  | [], i, _ => by simp [idxS]
  | a :: l, i, h => by
    simp only [idxS, List.any_cons]
    cases hp : p a with
    | true => simp [h]
    | false => simp only [Bool.false_eq_true, if_false, Bool.false_or]; exact idxS_pure p l (i + 1) (by omega)
def Fo.check (f : Fo) : Int := if 5000 < f.cnt 0 then 2 else if f.right then 0 else 4

/-! ### how many names are bound around one formula -/
mutual
def Fo.bound : Fo → Int
  | .mk k _ _ nm ps => if k = 7 ∨ k = 8 then IntKind.i64.wrap (Fo.bounds ps 0 + nm.length) else Fo.bounds ps 0
def Fo.bounds : List Fo → Int → Int
  | [], n => n
  | p :: ps, n => Fo.bounds ps (max n p.bound)
end
theorem bounds_snoc : ∀ (ps : List Fo) (i : Nat) (hi : i < ps.length) (n : Int), Fo.bounds (ps.take (i + 1)) n = max (Fo.bounds (ps.take i) n) ps[i].bound
  | p :: ps, 0, _, n => by simp [Fo.bounds]
  | p :: ps, i + 1, hi, n => by
    simp only [List.take_succ_cons, Fo.bounds, List.getElem_cons_succ]
    exact bounds_snoc ps i (by simpa using hi) _
theorem own_len (f : Fo) : f.own.length ≤ 2 := by
  unfold Fo.own
  by_cases c0 : f.kind = 0
  · rw [if_pos c0]; simp
  · rw [if_neg c0]
    by_cases c1 : f.kind = 1
    · rw [if_pos c1]; simp
    · rw [if_neg c1]; simp
theorem own_size (f : Fo) : ∀ (i : Nat) (h : i < f.own.length), f.own[i].size ≤ f.size := by
  have hs := fsize_eq f
  have key : ∀ w ∈ f.own, w.size ≤ f.size := by
    intro w hw
    unfold Fo.own at hw
    by_cases c0 : f.kind = 0
    · rw [if_pos c0] at hw; simp at hw; subst hw; omega
    · rw [if_neg c0] at hw
      by_cases c1 : f.kind = 1
      · rw [if_pos c1] at hw; simp at hw; rcases hw with rfl | rfl <;> omega
      · rw [if_neg c1] at hw; simp at hw
  exact fun i h => key _ (List.getElem_mem h)
end Go.Proofs

/- Formulas in worlds: words, and what is so. -/
namespace Go.Proofs
open Go Go.Abs

/-- Where a name stands. -/
def posS (ns : List ByteArray) (x : ByteArray) : Option Nat := findK (.str x) (strs ns) 0
/-- What stands beside it. -/
def lookS (ns : List ByteArray) (vs : List Int) (x : ByteArray) : Int := match posS ns x with
  | some i => vs.getD i 0
  | none => 0

theorem findK_range (k : AVal) : ∀ (l : List AVal) (i j : Nat), findK k l i = some j → i ≤ j ∧ j < i + l.length
  | [], i, j, h => by simp [findK] at h
  | x :: xs, i, j, h => by
    simp only [findK] at h
    split at h
    · cases h; simp
    · have := findK_range k xs (i + 1) j h
      simp only [List.length_cons]; omega
theorem posS_lt {ns : List ByteArray} {x : ByteArray} {i : Nat} (h : posS ns x = some i) : i < ns.length := by
  have := findK_range _ _ _ _ h
  simp only [strs_len] at this; omega
theorem strs_same (ns : List ByteArray) (x : ByteArray) : (strs ns).all (sameKind (.str x)) = true := by
  simp [strs, sameKind]
theorem strs_append (a b : List ByteArray) : strs (a ++ b) = strs a ++ strs b := by simp [strs]
theorem lookupIn_S (ns : List ByteArray) (vs : List Int) (x : ByteArray) (h : vs.length = ns.length) : lookupIn (strs ns) (ints vs) (.int .i64 0) (.str x) true = .tup [.int .i64 (lookS ns vs x), .bool (posS ns x).isSome] := by
  simp only [lookupIn, lookS]
  cases hp : posS ns x with
  | none => simp only [posS] at hp; rw [hp]; rfl
  | some i =>
    have hi := posS_lt hp
    simp only [posS] at hp; rw [hp]
    simp only [if_true, Option.isSome_some]
    rw [ints_get (by omega), getD_at' (by omega)]
theorem lookS_range {s : Int} (hs : 1 ≤ s) {ns : List ByteArray} {vs : List Int} {x : ByteArray} (h : ∀ v ∈ vs, 0 ≤ v ∧ v < s) : 0 ≤ lookS ns vs x ∧ lookS ns vs x < s := by
  unfold lookS
  split
  · rename_i i _
    by_cases hi : i < vs.length
    · rw [getD_at' hi]; exact h _ (List.getElem_mem hi)
    · simp only [List.getD, List.getElem?_eq_none (Nat.le_of_not_lt hi), Option.getD_none]; omega
  · omega

def names (g : List Sy) : List ByteArray := g.map Sy.name
theorem names_len (g : List Sy) : (names g).length = g.length := by simp [names]

mutual
/-- What a word is, and whether something is wrong with it. -/
def Wd.rd (g : List Sy) (w : Wo) (ns : List ByteArray) (vs : List Int) : Wd → Bool → Int × Bool
  | .mk v x l, truth => if v = true then (lookS ns vs x, !(posS ns x).isSome || truth) else match posS (names g) x with
    | none => (0, true)
    | some k => if (g.getD k Sy.dflt).arity ≠ (l.length : Int) ∨ (g.getD k Sy.dflt).truth ≠ truth then (0, true) else
      ((w.rows.getD k []).getD (Wd.rds g w ns vs l (0, false)).1.toNat 0, (Wd.rds g w ns vs l (0, false)).2)
def Wd.rds (g : List Sy) (w : Wo) (ns : List ByteArray) (vs : List Int) : List Wd → Int × Bool → Int × Bool
  | [], a => a
  | y :: l, a => Wd.rds g w ns vs l (a.1 * w.size + (y.rd g w ns vs false).1, a.2 || (y.rd g w ns vs false).2)
end

/-- The symbols' numbers. -/
def idxs (n : Nat) : List Int := (List.range n).map fun (i : Nat) => (i : Int)
theorem idxs_len (n : Nat) : (idxs n).length = n := by simp [idxs]
theorem idxs_get {n i : Nat} (h : i < n) : (idxs n).getD i 0 = i := by simp [idxs, List.getD, h]
theorem look_idx {g : List Sy} {x : ByteArray} {k : Nat} (h : posS (names g) x = some k) : lookS (names g) (idxs g.length) x = k := by
  simp only [lookS, h]
  exact idxs_get (by have := posS_lt h; rwa [names_len] at this)

section
variable {g : List Sy} {w : Wo} {ns : List ByteArray} {vs : List Int}
theorem rds_snoc : ∀ (l : List Wd) (i : Nat) (hi : i < l.length) (a : Int × Bool), Wd.rds g w ns vs (l.take (i + 1)) a = ((Wd.rds g w ns vs (l.take i) a).1 * w.size + (l[i].rd g w ns vs false).1, (Wd.rds g w ns vs (l.take i) a).2 || (l[i].rd g w ns vs false).2)
  | y :: l, 0, _, a => by simp [Wd.rds]
  | y :: l, i + 1, hi, a => by
    simp only [List.take_succ_cons, Wd.rds, List.getElem_cons_succ]
    exact rds_snoc l i (by simpa using hi) _

theorem row_of (hw : worldOk g w = true) {k : Nat} (hk : k < g.length) :
    g[k].arity ≤ 4 ∧ 0 ≤ g[k].arity ∧ k < w.rows.length ∧ ((w.rows.getD k []).length : Int) = w.size ^ g[k].arity.toNat ∧ (g[k].truth = false → ∀ v ∈ w.rows.getD k [], 0 ≤ v ∧ v < w.size) := by
  have h := row_facts hw (hd := (k : Int)) (by omega) (by omega)
  have e : symAt g (k : Int) = g[k] := by simp only [symAt, Int.toNat_natCast]; exact getD_at hk
  rw [e, Int.toNat_natCast] at h
  exact ⟨h.1, h.2.1, by have := (worldOk_size hw).2.2.2.1; omega, h.2.2⟩

theorem rd_range (hw : worldOk g w = true) (hv : ∀ v ∈ vs, 0 ≤ v ∧ v < w.size) (x : Wd) : 0 ≤ (x.rd g w ns vs false).1 ∧ (x.rd g w ns vs false).1 < w.size := by
  have h1 := (worldOk_size hw).2.1
  cases x with
  | mk v x l =>
    simp only [Wd.rd]
    split
    · exact lookS_range h1 hv
    · split
      · simp only; omega
      · rename_i k hk
        have hkl := posS_lt hk
        rw [names_len] at hkl
        obtain ⟨_, _, _, _, r4⟩ := row_of hw hkl
        rw [getD_at hkl]
        split
        · simp only; omega
        · rename_i hc
          have ht : g[k].truth = false := by
            cases h : g[k].truth with
            | false => rfl
            | true => exact absurd (.inr (by rw [h]; decide)) hc
          simp only
          by_cases hi : (Wd.rds g w ns vs l (0, false)).1.toNat < (w.rows.getD k []).length
          · rw [getD_at' hi]; exact r4 ht _ (List.getElem_mem hi)
          · simp only [List.getD, List.getElem?_eq_none (Nat.le_of_not_lt hi), Option.getD_none]
            simp only [List.getD] at *
            rw [List.getElem?_eq_none (by omega)]; simp only [Option.getD_none]; omega

theorem rds_range (hw : worldOk g w = true) (hv : ∀ v ∈ vs, 0 ≤ v ∧ v < w.size) : ∀ (l : List Wd) (a : Int × Bool), 0 ≤ a.1 → 0 ≤ (Wd.rds g w ns vs l a).1 ∧ (Wd.rds g w ns vs l a).1 < (a.1 + 1) * w.size ^ l.length
  | [], a, h => by simp [Wd.rds]; omega
  | y :: l, a, h => by
    have h1 := (worldOk_size hw).2.1
    obtain ⟨v1, v2⟩ := rd_range (ns := ns) hw hv y
    have m1 : 0 ≤ a.1 * w.size := Int.mul_nonneg h (by omega)
    obtain ⟨i1, i2⟩ := rds_range hw hv l (a.1 * w.size + (y.rd g w ns vs false).1, a.2 || (y.rd g w ns vs false).2) (by simp only; omega)
    simp only [Wd.rds, List.length_cons]
    refine ⟨i1, Int.lt_of_lt_of_le i2 ?_⟩
    simp only
    rw [Int.pow_succ, Int.mul_comm (w.size ^ l.length) w.size, ← Int.mul_assoc]
    refine Int.mul_le_mul_of_nonneg_right ?_ (Int.le_of_lt (Int.pow_pos (by omega)))
    rw [Int.add_mul]; omega

theorem rds_small (hw : worldOk g w = true) (hv : ∀ v ∈ vs, 0 ≤ v ∧ v < w.size) {l : List Wd} (hl : l.length ≤ 4) (i : Nat) : 0 ≤ (Wd.rds g w ns vs (l.take i) (0, false)).1 ∧ (Wd.rds g w ns vs (l.take i) (0, false)).1 < 256 := by
  obtain ⟨q1, q2, q3, _⟩ := worldOk_size hw
  obtain ⟨r1, r2⟩ := rds_range (ns := ns) hw hv (l.take i) (0, false) (Int.le_refl 0)
  have := pow_le256 q2 q3 (k := (l.take i).length) (by rw [List.length_take]; omega)
  simp only [Int.zero_add, Int.one_mul] at r2
  omega
end
end Go.Proofs

/- Formulas in worlds: what is so. -/
namespace Go.Proofs
open Go Go.Abs

/-- Names and the things that stand for them. -/
abbrev Nms := List ByteArray × List Int
def putN (E : Nms) (n : ByteArray) (v : Int) : Nms := match posS E.1 n with
  | some i => (E.1, E.2.set i v)
  | none => (E.1 ++ [n], E.2 ++ [v])
theorem mapSet_S (E : Nms) (n : ByteArray) (v : Int) : mapSet (strs E.1) (ints E.2) (.str n) (.int .i64 v) = (strs (putN E n v).1, ints (putN E n v).2) := by
  simp only [mapSet, putN]
  cases hp : posS E.1 n with
  | none => simp only [posS] at hp; rw [hp]; simp [strs, ints]
  | some i => simp only [posS] at hp; rw [hp]; simp only [ints_set]
def putsN : Nms → List ByteArray → List Int → Nms
  | E, n :: ns, v :: vs => putsN (putN E n v) ns vs
  | E, _, _ => E
theorem putsN_nil (E : Nms) (vs : List Int) : putsN E [] vs = E := by cases vs <;> rfl
theorem putsN_snoc : ∀ (ns : List ByteArray) (vs : List Int) (i : Nat) (h1 : i < ns.length) (h2 : i < vs.length) (E : Nms), putsN E (ns.take (i + 1)) (vs.take (i + 1)) = putN (putsN E (ns.take i) (vs.take i)) ns[i] vs[i]
  | n :: ns, v :: vs, 0, _, _, E => by simp [putsN]
  | n :: ns, v :: vs, i + 1, h1, h2, E => by
    simp only [List.take_succ_cons, putsN, List.getElem_cons_succ]
    exact putsN_snoc ns vs i (by simpa using h1) (by simpa using h2) _

def okN (s : Int) (E : Nms) : Prop := E.2.length = E.1.length ∧ ∀ v ∈ E.2, 0 ≤ v ∧ v < s
theorem okN_nil (s : Int) : okN s ([], []) := ⟨rfl, fun v h => by cases h⟩
theorem okN_put {s : Int} {E : Nms} (h : okN s E) (n : ByteArray) {v : Int} (hv : 0 ≤ v ∧ v < s) : okN s (putN E n v) := by
  unfold putN
  split
  · refine ⟨by simpa using h.1, fun x hx => ?_⟩
    rcases List.mem_or_eq_of_mem_set hx with hx | rfl
    · exact h.2 x hx
    · exact hv
  · refine ⟨by simp [h.1], fun x hx => ?_⟩
    rcases List.mem_append.1 hx with hx | hx
    · exact h.2 x hx
    · rw [List.mem_singleton.1 hx]; exact hv
theorem okN_puts {s : Int} : ∀ (ns : List ByteArray) (vs : List Int) {E : Nms}, okN s E → (∀ v ∈ vs, 0 ≤ v ∧ v < s) → okN s (putsN E ns vs)
  | [], vs, E, h, _ => by rw [putsN_nil]; exact h
  | n :: ns, [], E, h, _ => h
  | n :: ns, v :: vs, E, h, hv => okN_puts ns vs (okN_put h n (hv v List.mem_cons_self)) fun x hx => hv x (List.mem_cons_of_mem _ hx)

def soStep (k : Int) (o x : Bool × Bool) : Bool × Bool := (if k = 7 then o.1 && x.1 else o.1 || x.1, o.2 || x.2)
/-- The rows up to n. -/
def soRows (k : Int) (s : Int) (nm : List ByteArray) (so : Nms → Bool × Bool) (E : Nms) (n : Nat) : Bool × Bool :=
  (List.range n).foldl (fun o (i : Nat) => soStep k o (so (putsN E nm (digL s nm.length i)))) (decide (k = 7), false)
theorem soRows_zero (k s : Int) (nm : List ByteArray) (so : Nms → Bool × Bool) (E : Nms) : soRows k s nm so E 0 = (decide (k = 7), false) := rfl
theorem soRows_succ (k s : Int) (nm : List ByteArray) (so : Nms → Bool × Bool) (E : Nms) (n : Nat) : soRows k s nm so E (n + 1) = soStep k (soRows k s nm so E n) (so (putsN E nm (digL s nm.length n))) := by
  simp only [soRows, List.range_succ, List.foldl_append, List.foldl_cons, List.foldl_nil]

/-- Of a formula without bound names, by its parts. -/
def soKind (k : Int) (a b : Int × Bool) (t : Int × Bool) (l : List (Bool × Bool)) : Bool × Bool :=
  let bad := l.any (·.2)
  if k = 0 then (decide (t.1 = 1), bad || t.2)
  else if k = 1 then (decide (a.1 = b.1), (bad || a.2) || b.2)
  else if k = 2 then (!(l.getD 0 (false, false)).1, bad)
  else if k = 5 then (!(l.getD 0 (false, false)).1 || (l.getD 1 (false, false)).1, bad)
  else if k = 6 then ((l.getD 0 (false, false)).1 == (l.getD 1 (false, false)).1, bad)
  else if k = 9 then (true, bad)
  else if k = 10 then (false, bad)
  else if k = 3 then (l.all (·.1), bad) else (l.any (·.1), bad)

mutual
def Fo.so (g : List Sy) (w : Wo) : Fo → Nms → Bool × Bool
  | .mk k l r nm ps, E => if k = 7 ∨ k = 8 then soRows k w.size nm (fun E' => (Fo.soL g w ps E').headD (false, false)) E (w.size ^ nm.length).toNat
    else soKind k (l.rd g w E.1 E.2 false) (r.rd g w E.1 E.2 false) (l.rd g w E.1 E.2 true) (Fo.soL g w ps E)
def Fo.soL (g : List Sy) (w : Wo) : List Fo → Nms → List (Bool × Bool)
  | [], _ => []
  | p :: ps, E => p.so g w E :: Fo.soL g w ps E
end
theorem soL_map (g : List Sy) (w : Wo) (E : Nms) : ∀ ps : List Fo, Fo.soL g w ps E = ps.map fun p => p.so g w E
  | [] => rfl
  | p :: ps => by simp only [Fo.soL, List.map_cons, soL_map g w E ps]

mutual
theorem bound_le : ∀ f : Fo, f.size < 2 ^ 62 → 0 ≤ f.bound ∧ f.bound ≤ f.size
  | .mk k l r nm ps => fun h => by
    simp only [Fo.size] at h
    obtain ⟨h1, h2⟩ := bounds_le ps 0 (by omega) (Int.le_refl 0)
    simp only [Fo.bound, Fo.size]
    split
    · rw [i64_id (by omega)]; omega
    · omega
theorem bounds_le : ∀ (ps : List Fo) (n : Int), Fo.sizes ps < 2 ^ 62 → 0 ≤ n → 0 ≤ Fo.bounds ps n ∧ Fo.bounds ps n ≤ max n (Fo.sizes ps)
  | [], n => fun _ hn => by simp only [Fo.bounds]; omega
  | p :: ps, n => fun h hn => by
    simp only [Fo.sizes] at h
    obtain ⟨h1, h2⟩ := bound_le p (by omega)
    obtain ⟨h3, h4⟩ := bounds_le ps (max n p.bound) (by omega) (by omega)
    simp only [Fo.bounds, Fo.sizes]
    omega
end

theorem posS_none {ns : List ByteArray} {x : ByteArray} (h : ∀ n ∈ ns, (x.toList == n.toList) = false) : posS ns x = none := by
  have key : ∀ (l : List ByteArray) (i : Nat), (∀ n ∈ l, (x.toList == n.toList) = false) → findK (.str x) (strs l) i = none := by
    intro l
    induction l with
    | nil => intro i _; rfl
    | cons n l ih =>
      intro i hl
      have : strs (n :: l) = .str n :: strs l := rfl
      simp only [this, findK]
      rw [show eqCell (.str x) (.str n) = false from hl n List.mem_cons_self]
      exact ih _ fun m hm => hl m (List.mem_cons_of_mem _ hm)
  exact key ns 0 h
theorem posS_fresh {g : List Sy} (h : sigOk g = true) {i : Nat} (hi : i < g.length) : posS (names (g.take i)) g[i].name = none := by
  simp only [sigOk, Bool.and_eq_true] at h
  have h1 := List.all_eq_true.1 h.1.2 i (by simpa using hi)
  simp only [okAt, Bool.and_eq_true, getD_at hi, fresh, List.all_eq_true, Bool.not_eq_true'] at h1
  refine posS_none fun n hn => ?_
  obtain ⟨s, hs, rfl⟩ := List.mem_map.1 hn
  have := h1.2 s hs
  rw [Bool.eq_false_iff] at this ⊢
  intro e
  exact this (by rw [beq_iff_eq] at e ⊢; exact e.symm)
theorem names_take {g : List Sy} {i : Nat} (hi : i < g.length) : names (g.take (i + 1)) = names (g.take i) ++ [g[i].name] := by
  rw [take_snoc hi, names, List.map_append]; rfl
theorem idxs_succ (n : Nat) : idxs (n + 1) = idxs n ++ [(n : Int)] := by simp [idxs, List.range_succ]
theorem place_step {g : List Sy} (h : sigOk g = true) {i : Nat} (hi : i < g.length) : mapSet (strs (names (g.take i))) (ints (idxs i)) (.str g[i].name) (.int .i64 i) = (strs (names (g.take (i + 1))), ints (idxs (i + 1))) := by
  have := mapSet_S (names (g.take i), idxs i) g[i].name i
  simp only at this
  rw [this]
  simp only [putN, posS_fresh h hi, names_take hi, idxs_succ]

/-- Is a formula true? -/
def trueM (g : List Sy) (w : Wo) (f : Fo) : Bool × Int :=
  if worldOk g w = false then (false, 1) else if f.check ≠ 0 then (false, f.check)
  else if 20000 < manyL w.size 20000 f.bound.toNat 1 ∨ (1 < w.size ∧ 20 < f.bound) then (false, 2)
  else if (f.so g w ([], [])).2 = true then (false, 8) else ((f.so g w ([], [])).1, 0)
theorem check_right {f : Fo} (h : f.check = 0) : f.right = true := by
  unfold Fo.check at h
  split at h
  · cases h
  · split at h
    · assumption
    · cases h
end Go.Proofs

/- What the document says of formulas in worlds, and that it is what the program says. -/
namespace Go.Proofs
open Go Go.Abs

/-- The last one of a name, among the first so many. -/
def lastS (ns : List ByteArray) (vs : List Int) (x : ByteArray) : Nat → Option Int
  | 0 => none
  | i + 1 => if (ns.getD i ByteArray.empty).toList == x.toList then some (vs.getD i 0) else lastS ns vs x i
theorem lastS_left {ns : List ByteArray} {vs : List Int} (n : ByteArray) (v : Int) (x : ByteArray) (hl : vs.length = ns.length) : ∀ i, i ≤ ns.length → lastS (ns ++ [n]) (vs ++ [v]) x i = lastS ns vs x i
  | 0, _ => rfl
  | i + 1, h => by
    simp only [lastS, List.getD_eq_getElem?_getD, List.getElem?_append_left (show i < ns.length by omega), List.getElem?_append_left (show i < vs.length by omega), lastS_left n v x hl i (by omega)]
theorem lastS_snoc {ns : List ByteArray} {vs : List Int} (n : ByteArray) (v : Int) (x : ByteArray) (hl : vs.length = ns.length) : lastS (ns ++ [n]) (vs ++ [v]) x (ns ++ [n]).length = if n.toList == x.toList then some v else lastS ns vs x ns.length := by
  rw [List.length_append, List.length_singleton]
  simp only [lastS]
  rw [lastS_left n v x hl _ (Nat.le_refl _)]
  have e1 : (ns ++ [n]).getD ns.length ByteArray.empty = n := by simp [List.getD]
  have e2 : (vs ++ [v]).getD ns.length 0 = v := by rw [← hl]; simp [List.getD]
  rw [e1, e2]

/-- Is a word one of a thing, or of a truth? -/
def Wd.sort (g : List Sy) (truth : Bool) : Wd → Bool
  | .mk v x _ => if v = true then !truth else match posS (names g) x with
    | some k => (g.getD k Sy.dflt).truth == truth
    | none => false
mutual
def Wd.iw (g : List Sy) (w : Wo) (ns : List ByteArray) (vs : List Int) : Wd → Int × Bool
  | .mk v x l => if v = true then (match lastS ns vs x ns.length with | some a => (a, true) | none => (0, false)) else match posS (names g) x with
    | none => (0, false)
    | some k => if (g.getD k Sy.dflt).arity ≠ (l.length : Int) then (0, false) else match Wd.iws g w ns vs l 0 with
      | none => (0, false)
      | some n => ((w.rows.getD k []).getD n.toNat 0, true)
def Wd.iws (g : List Sy) (w : Wo) (ns : List ByteArray) (vs : List Int) : List Wd → Int → Option Int
  | [], n => some n
  | y :: l, n => if ((y.iw g w ns vs).2 && y.sort g false) = true then Wd.iws g w ns vs l (n * w.size + (y.iw g w ns vs).1) else none
end

/-- Two ways to keep what names are. -/
def sameN (E : Nms) (ns : List ByteArray) (vs : List Int) : Prop := vs.length = ns.length ∧ ∀ x, lastS ns vs x ns.length = (posS E.1 x).map fun i => E.2.getD i 0
theorem sameN_nil : sameN ([], []) [] [] := ⟨rfl, fun x => rfl⟩

theorem findK_append (k : AVal) : ∀ (l : List AVal) (y : AVal) (i : Nat), findK k (l ++ [y]) i = match findK k l i with
    | some j => some j
    | none => if eqCell k y = true then some (i + l.length) else none
  | [], y, i => by simp only [List.nil_append, findK, List.length_nil, Nat.add_zero]
  | x :: xs, y, i => by
    simp only [List.cons_append, findK]
    by_cases h : eqCell k x = true
    · rw [if_pos h, if_pos h]
    · rw [if_neg h, if_neg h, findK_append k xs y (i + 1), List.length_cons, show i + 1 + xs.length = i + (xs.length + 1) by omega]
theorem posS_snoc (ns : List ByteArray) (n x : ByteArray) : posS (ns ++ [n]) x = match posS ns x with
    | some j => some j
    | none => if (x.toList == n.toList) = true then some ns.length else none := by
  simp only [posS, strs_append]
  rw [show strs [n] = [.str n] from rfl, findK_append]
  simp only [strs_len, Nat.zero_add]; rfl
theorem findK_eq (x : ByteArray) : ∀ (l : List ByteArray) (i j : Nat), findK (.str x) (strs l) i = some j → (x.toList == (l.getD (j - i) ByteArray.empty).toList) = true
  | [], i, j, h => by simp [strs, findK] at h
  | n :: l, i, j, h => by
    have e : strs (n :: l) = .str n :: strs l := rfl
    rw [e] at h
    simp only [findK] at h
    split at h
    · rename_i hc
      cases h
      simp only [Nat.sub_self, List.getD_cons_zero]; exact hc
    · have hr := findK_range _ _ _ _ h
      have := findK_eq x l (i + 1) j h
      rw [show j - i = (j - (i + 1)) + 1 by omega, List.getD_cons_succ]; exact this
theorem posS_eq {ns : List ByteArray} {x : ByteArray} {j : Nat} (h : posS ns x = some j) : x.toList = (ns.getD j ByteArray.empty).toList := by
  have := findK_eq x ns 0 j h
  simpa using this
theorem posS_congr {ns : List ByteArray} {x y : ByteArray} (h : x.toList = y.toList) : posS ns x = posS ns y := by
  have key : ∀ (l : List ByteArray) (i : Nat), findK (.str x) (strs l) i = findK (.str y) (strs l) i := by
    intro l
    induction l with
    | nil => intro i; rfl
    | cons n l ih =>
      intro i
      have e : strs (n :: l) = .str n :: strs l := rfl
      rw [e]
      simp only [findK]
      rw [show eqCell (.str x) (.str n) = (x.toList == n.toList) from rfl, show eqCell (.str y) (.str n) = (y.toList == n.toList) from rfl, h, ih]
  exact key ns 0

theorem sameN_put {E : Nms} {ns : List ByteArray} {vs : List Int} (hE : E.2.length = E.1.length) (h : sameN E ns vs) (n : ByteArray) (v : Int) : sameN (putN E n v) (ns ++ [n]) (vs ++ [v]) := by
  refine ⟨by simp [h.1], fun x => ?_⟩
  rw [lastS_snoc n v x h.1, h.2 x]
  unfold putN
  by_cases c : n.toList = x.toList
  · rw [if_pos (by simpa using c)]
    cases hp : posS E.1 n with
    | none =>
      simp only
      rw [posS_snoc, posS_congr c.symm, hp]
      simp [c, List.getD, ← hE]
    | some j =>
      simp only
      have hj := posS_lt hp
      rw [posS_congr c.symm, hp]
      simp [List.getD, hE, hj]
  · rw [if_neg (by simpa using c)]
    cases hp : posS E.1 n with
    | none =>
      simp only
      rw [posS_snoc]
      cases hq : posS E.1 x with
      | none => simp [Ne.symm c]
      | some i =>
        have hi := posS_lt hq
        simp [List.getD, List.getElem?_append_left (show i < E.2.length by omega)]
    | some j =>
      simp only
      cases hq : posS E.1 x with
      | none => rfl
      | some i =>
        have hij : j ≠ i := by
          rintro rfl
          exact c ((posS_eq hp).trans (posS_eq hq).symm)
        simp only [Option.map_some, List.getD_eq_getElem?_getD, List.getElem?_set_ne hij]

section
variable {g : List Sy} {w : Wo} {E : Nms} {ns : List ByteArray} {vs : List Int}
mutual
theorem iw_rd (h : sameN E ns vs) : ∀ (y : Wd) (truth : Bool), (y.rd g w E.1 E.2 truth).2 = !((y.iw g w ns vs).2 && y.sort g truth) ∧ ((y.rd g w E.1 E.2 truth).2 = false → (y.iw g w ns vs).1 = (y.rd g w E.1 E.2 truth).1)
  | .mk v x l, truth => by
    simp only [Wd.rd, Wd.iw, Wd.sort]
    cases v with
    | true =>
      simp only [if_true]
      rw [h.2 x]
      unfold lookS
      cases posS E.1 x with
      | none => cases truth <;> simp
      | some i => cases truth <;> simp
    | false =>
      simp only [Bool.false_eq_true, if_false]
      cases hk : posS (names g) x with
      | none => simp
      | some k =>
        simp only
        by_cases ca : (g.getD k Sy.dflt).arity = (l.length : Int)
        · by_cases ct : (g.getD k Sy.dflt).truth = truth
          · rw [if_neg (fun h => h.elim (fun h => h ca) (fun h => h ct)), if_neg (fun h => h ca)]
            obtain ⟨h1, h2⟩ := iws_rds h l 0 false
            simp only
            rw [h1]
            cases hs : Wd.iws g w ns vs l 0 with
            | none => simp
            | some n =>
              rw [h2 n hs, ct]
              simp
          · rw [if_pos (.inr ct), if_neg (fun h => h ca), beq_eq_false_iff_ne.2 ct]
            simp
        · rw [if_pos (.inl ca), if_pos ca]
          simp
theorem iws_rds (h : sameN E ns vs) : ∀ (l : List Wd) (n : Int) (b : Bool), (Wd.rds g w E.1 E.2 l (n, b)).2 = (b || (Wd.iws g w ns vs l n).isNone) ∧ ∀ m, Wd.iws g w ns vs l n = some m → (Wd.rds g w E.1 E.2 l (n, b)).1 = m
  | [], n, b => by simp [Wd.rds, Wd.iws]
  | y :: l, n, b => by
    obtain ⟨h1, h2⟩ := iw_rd h y false
    simp only [Wd.rds, Wd.iws]
    rw [h1]
    cases hc : ((y.iw g w ns vs).2 && y.sort g false) with
    | true =>
      rw [h1, hc] at h2
      simp only [if_true, Bool.not_true, Bool.or_false]
      rw [h2 rfl]
      exact iws_rds h l _ b
    | false =>
      simp only [Bool.false_eq_true, if_false, Bool.not_false, Bool.or_true, Option.isNone_none]
      refine ⟨?_, fun m hm => by cases hm⟩
      obtain ⟨h3, _⟩ := iws_rds h l (n * w.size + (y.rd g w E.1 E.2 false).1) true
      rw [h3, Bool.true_or]
end
end

/-- For each, or for one, thing in place of some names. -/
def eachF (k s : Int) (body : List ByteArray → List Int → Bool × Bool) : List ByteArray → List ByteArray → List Int → Bool × Bool
  | [], ns, vs => body ns vs
  | n :: l, ns, vs => if ((List.range s.toNat).all fun (v : Nat) => (eachF k s body l (ns ++ [n]) (vs ++ [(v : Int)])).2) = true then
      (if k = 7 then (List.range s.toNat).all fun (v : Nat) => (eachF k s body l (ns ++ [n]) (vs ++ [(v : Int)])).1 else (List.range s.toNat).any fun (v : Nat) => (eachF k s body l (ns ++ [n]) (vs ++ [(v : Int)])).1, true) else (false, false)

def rfKind (k : Int) (a b : Int × Bool) (st sa sb : Bool) (l : List (Bool × Bool)) : Bool × Bool :=
  if l.all (·.2) = false then (false, false)
  else if k = 0 then (decide (a.1 = 1), a.2 && st)
  else if k = 1 then (decide (a.1 = b.1), ((a.2 && b.2) && sa) && sb)
  else if k = 2 then (!(l.getD 0 (false, false)).1, true)
  else if k = 3 then (l.all (·.1), true)
  else if k = 4 then (l.any (·.1), true)
  else if k = 5 then (!(l.getD 0 (false, false)).1 || (l.getD 1 (false, false)).1, true)
  else if k = 6 then ((l.getD 0 (false, false)).1 == (l.getD 1 (false, false)).1, true)
  else if k = 9 then (true, true)
  else (false, true)
mutual
def Fo.rf (g : List Sy) (w : Wo) : Fo → List ByteArray → List Int → Bool × Bool
  | .mk k l r nm ps, ns, vs => if k = 7 ∨ k = 8 then eachF k w.size (fun ns vs => (Fo.rfL g w ps ns vs).headD (false, false)) nm ns vs
    else rfKind k (l.iw g w ns vs) (r.iw g w ns vs) (l.sort g true) (l.sort g false) (r.sort g false) (Fo.rfL g w ps ns vs)
def Fo.rfL (g : List Sy) (w : Wo) : List Fo → List ByteArray → List Int → List (Bool × Bool)
  | [], _, _ => []
  | p :: ps, ns, vs => p.rf g w ns vs :: Fo.rfL g w ps ns vs
end
theorem rfL_map (g : List Sy) (w : Wo) (ns : List ByteArray) (vs : List Int) : ∀ ps : List Fo, Fo.rfL g w ps ns vs = ps.map fun p => p.rf g w ns vs
  | [] => rfl
  | p :: ps => by simp only [Fo.rfL, List.map_cons, rfL_map g w ns vs ps]

/-- The document's answer stands for the program's. -/
def rel (a b : Bool × Bool) : Prop := a.2 = !b.2 ∧ (b.2 = false → a.1 = b.1)

/-! ### rows, and things one by one -/
theorem digL_all {s : Int} (hs : 1 ≤ s) : ∀ (l : List Int), (∀ v ∈ l, 0 ≤ v ∧ v < s) → ∃ i : Nat, (i : Int) < s ^ l.length ∧ ∀ b : Int, digL s l.length (b * s ^ l.length + i) = l
  | [], _ => ⟨0, by simp, fun b => rfl⟩
  | v :: l, h => by
    obtain ⟨i, h1, h2⟩ := digL_all hs l fun x hx => h x (List.mem_cons_of_mem _ hx)
    have hv := h v List.mem_cons_self
    have hp : 0 < s ^ l.length := Int.pow_pos (by omega)
    have hvp : 0 ≤ v * s ^ l.length := Int.mul_nonneg hv.1 (by omega)
    refine ⟨(v * s ^ l.length + i).toNat, ?_, fun b => ?_⟩
    · rw [Int.toNat_of_nonneg (by omega), List.length_cons, Int.pow_succ, Int.mul_comm (s ^ l.length) s]
      have : (v + 1) * s ^ l.length ≤ s * s ^ l.length := Int.mul_le_mul_of_nonneg_right (by omega) (by omega)
      rw [Int.add_mul] at this
      omega
    · rw [Int.toNat_of_nonneg (by omega)]
      simp only [List.length_cons, digL]
      have e : b * s ^ (l.length + 1) + (v * s ^ l.length + i) = (b * s + v) * s ^ l.length + i := by
        rw [Int.pow_succ, Int.add_mul, ← Int.mul_assoc, Int.mul_right_comm b (s ^ l.length) s]; omega
      rw [e, h2, Int.add_comm ((b * s + v) * s ^ l.length), Int.add_mul_ediv_right _ _ (by omega), Int.ediv_eq_zero_of_lt (by omega) h1, Int.zero_add, Int.add_comm (b * s), Int.add_mul_emod_self_right, Int.emod_eq_of_lt hv.1 hv.2]

/-- Rows of things. -/
def isRow (s : Int) (j : Nat) (l : List Int) : Prop := l.length = j ∧ ∀ v ∈ l, 0 ≤ v ∧ v < s
theorem exists_row {s : Int} (hs : 1 ≤ s) (j : Nat) (p : List Int → Prop) : (∃ i, i < (s ^ j).toNat ∧ p (digL s j (i : Nat))) ↔ ∃ l, isRow s j l ∧ p l := by
  constructor
  · rintro ⟨i, _, h⟩
    exact ⟨_, ⟨digL_len _ _ _, digL_range hs _ _⟩, h⟩
  · rintro ⟨l, ⟨rfl, hl⟩, h⟩
    obtain ⟨i, h1, h2⟩ := digL_all hs l hl
    refine ⟨i, by omega, ?_⟩
    have := h2 0
    rw [Int.zero_mul, Int.zero_add] at this
    rw [this]; exact h
theorem soRows_bad (k s : Int) (nm : List ByteArray) (so : Nms → Bool × Bool) (E : Nms) : ∀ n, (soRows k s nm so E n).2 = true ↔ ∃ i, i < n ∧ (so (putsN E nm (digL s nm.length (i : Nat)))).2 = true
  | 0 => by simp [soRows_zero]
  | n + 1 => by
    rw [soRows_succ]
    simp only [soStep, Bool.or_eq_true, soRows_bad k s nm so E n]
    constructor
    · rintro (⟨i, h1, h2⟩ | h)
      · exact ⟨i, by omega, h2⟩
      · exact ⟨n, by omega, h⟩
    · rintro ⟨i, h1, h2⟩
      rcases Nat.lt_succ_iff_lt_or_eq.1 h1 with h | rfl
      · exact .inl ⟨i, h, h2⟩
      · exact .inr h2
theorem soRows_all (s : Int) (nm : List ByteArray) (so : Nms → Bool × Bool) (E : Nms) : ∀ n, (soRows 7 s nm so E n).1 = false ↔ ∃ i, i < n ∧ (so (putsN E nm (digL s nm.length (i : Nat)))).1 = false
  | 0 => by simp [soRows_zero]
  | n + 1 => by
    rw [soRows_succ]
    simp only [soStep, if_true, Bool.and_eq_false_iff, soRows_all s nm so E n]
    constructor
    · rintro (⟨i, h1, h2⟩ | h)
      · exact ⟨i, by omega, h2⟩
      · exact ⟨n, by omega, h⟩
    · rintro ⟨i, h1, h2⟩
      rcases Nat.lt_succ_iff_lt_or_eq.1 h1 with h | rfl
      · exact .inl ⟨i, h, h2⟩
      · exact .inr h2
theorem soRows_any {k : Int} (hk : k ≠ 7) (s : Int) (nm : List ByteArray) (so : Nms → Bool × Bool) (E : Nms) : ∀ n, (soRows k s nm so E n).1 = true ↔ ∃ i, i < n ∧ (so (putsN E nm (digL s nm.length (i : Nat)))).1 = true
  | 0 => by simp [soRows_zero, hk]
  | n + 1 => by
    rw [soRows_succ]
    simp only [soStep, if_neg hk, Bool.or_eq_true, soRows_any hk s nm so E n]
    constructor
    · rintro (⟨i, h1, h2⟩ | h)
      · exact ⟨i, by omega, h2⟩
      · exact ⟨n, by omega, h⟩
    · rintro ⟨i, h1, h2⟩
      rcases Nat.lt_succ_iff_lt_or_eq.1 h1 with h | rfl
      · exact .inl ⟨i, h, h2⟩
      · exact .inr h2

/-- What is asked of each row: one of the document's, at the names in their order. -/
theorem eachF_ok {k s : Int} (hs : 1 ≤ s) (body : List ByteArray → List Int → Bool × Bool) : ∀ (l ns : List ByteArray) (vs : List Int), (eachF k s body l ns vs).2 = false ↔ ∃ r, isRow s l.length r ∧ (body (ns ++ l) (vs ++ r)).2 = false
  | [], ns, vs => by
    simp only [eachF, List.append_nil, List.length_nil]
    constructor
    · intro h; exact ⟨[], ⟨rfl, fun v hv => by cases hv⟩, by simpa using h⟩
    · rintro ⟨r, ⟨h1, _⟩, h⟩
      have : r = [] := List.eq_nil_of_length_eq_zero h1
      subst this; simpa using h
  | n :: l, ns, vs => by
    have key : (¬ ((List.range s.toNat).all fun (v : Nat) => (eachF k s body l (ns ++ [n]) (vs ++ [(v : Int)])).2) = true) ↔ ∃ r, isRow s (n :: l).length r ∧ (body (ns ++ n :: l) (vs ++ r)).2 = false := by
      rw [List.all_eq_true]
      constructor
      · intro h
        by_cases hh : ∃ v : Nat, v ∈ List.range s.toNat ∧ (eachF k s body l (ns ++ [n]) (vs ++ [(v : Int)])).2 = false
        · obtain ⟨v, h1, h2⟩ := hh
          obtain ⟨r, ⟨h3, h4⟩, h5⟩ := (eachF_ok hs body l _ _).1 h2
          have hv : v < s.toNat := by simpa using h1
          refine ⟨(v : Int) :: r, ⟨by simp [h3], fun x hx => ?_⟩, by simpa using h5⟩
          rcases List.mem_cons.1 hx with rfl | hx
          · omega
          · exact h4 x hx
        · exact absurd (fun v hv => by
            cases hb : (eachF k s body l (ns ++ [n]) (vs ++ [(v : Int)])).2 with
            | true => rfl
            | false => exact absurd ⟨v, hv, hb⟩ hh) h
      · rintro ⟨r, ⟨h1, h2⟩, h3⟩ h
        match r, h1 with
        | v :: r, h1 =>
          have hv := h2 v List.mem_cons_self
          have := h v.toNat (by simp; omega)
          rw [Int.toNat_of_nonneg hv.1] at this
          have h4 : (eachF k s body l (ns ++ [n]) (vs ++ [v])).2 = false := (eachF_ok hs body l _ _).2 ⟨r, ⟨by simpa using h1, fun x hx => h2 x (List.mem_cons_of_mem _ hx)⟩, by simpa using h3⟩
          rw [h4] at this; cases this
    simp only [eachF]
    rw [← key]
    split
    · rename_i h; simp [h]
    · rename_i h; simp [h]
theorem eachF_all {s : Int} (hs : 1 ≤ s) (body : List ByteArray → List Int → Bool × Bool) : ∀ (l ns : List ByteArray) (vs : List Int), (eachF 7 s body l ns vs).2 = true → ((eachF 7 s body l ns vs).1 = false ↔ ∃ r, isRow s l.length r ∧ (body (ns ++ l) (vs ++ r)).1 = false)
  | [], ns, vs => by
    intro _
    simp only [eachF, List.append_nil, List.length_nil]
    constructor
    · intro h; exact ⟨[], ⟨rfl, fun v hv => by cases hv⟩, by simpa using h⟩
    · rintro ⟨r, ⟨h1, _⟩, h⟩
      have : r = [] := List.eq_nil_of_length_eq_zero h1
      subst this; simpa using h
  | n :: l, ns, vs => by
    intro hok
    simp only [eachF] at hok ⊢
    split at hok
    · rename_i hall
      rw [if_pos hall]
      rw [List.all_eq_true] at hall
      simp only [if_true]
      constructor
      · intro h
        obtain ⟨v, h1, h2⟩ := List.all_eq_false.1 h
        have h2' : (eachF 7 s body l (ns ++ [n]) (vs ++ [(v : Int)])).1 = false := by simpa using h2
        obtain ⟨r, ⟨h3, h4⟩, h5⟩ := (eachF_all hs body l _ _ (hall v h1)).1 h2'
        have hv : v < s.toNat := by simpa using h1
        refine ⟨(v : Int) :: r, ⟨by simp [h3], fun x hx => ?_⟩, by simpa using h5⟩
        rcases List.mem_cons.1 hx with rfl | hx
        · omega
        · exact h4 x hx
      · rintro ⟨r, ⟨h1, h2⟩, h3⟩
        match r, h1 with
        | v :: r, h1 =>
          have hv := h2 v List.mem_cons_self
          have hm : v.toNat ∈ List.range s.toNat := by simp; omega
          have hk := hall v.toNat hm
          refine List.all_eq_false.2 ⟨v.toNat, hm, ?_⟩
          rw [Int.toNat_of_nonneg hv.1] at hk ⊢
          have h4 := (eachF_all hs body l _ _ hk).2 ⟨r, ⟨by simpa using h1, fun x hx => h2 x (List.mem_cons_of_mem _ hx)⟩, by simpa using h3⟩
          rw [h4]; decide
    · cases hok
theorem eachF_any {k s : Int} (hk7 : k ≠ 7) (hs : 1 ≤ s) (body : List ByteArray → List Int → Bool × Bool) : ∀ (l ns : List ByteArray) (vs : List Int), (eachF k s body l ns vs).2 = true → ((eachF k s body l ns vs).1 = true ↔ ∃ r, isRow s l.length r ∧ (body (ns ++ l) (vs ++ r)).1 = true)
  | [], ns, vs => by
    intro _
    simp only [eachF, List.append_nil, List.length_nil]
    constructor
    · intro h; exact ⟨[], ⟨rfl, fun v hv => by cases hv⟩, by simpa using h⟩
    · rintro ⟨r, ⟨h1, _⟩, h⟩
      have : r = [] := List.eq_nil_of_length_eq_zero h1
      subst this; simpa using h
  | n :: l, ns, vs => by
    intro hok
    simp only [eachF] at hok ⊢
    split at hok
    · rename_i hall
      rw [if_pos hall]
      rw [List.all_eq_true] at hall
      simp only [if_neg hk7]
      constructor
      · intro h
        obtain ⟨v, h1, h2⟩ := List.any_eq_true.1 h
        obtain ⟨r, ⟨h3, h4⟩, h5⟩ := (eachF_any hk7 hs body l _ _ (hall v h1)).1 h2
        have hv : v < s.toNat := by simpa using h1
        refine ⟨(v : Int) :: r, ⟨by simp [h3], fun x hx => ?_⟩, by simpa using h5⟩
        rcases List.mem_cons.1 hx with rfl | hx
        · omega
        · exact h4 x hx
      · rintro ⟨r, ⟨h1, h2⟩, h3⟩
        match r, h1 with
        | v :: r, h1 =>
          have hv := h2 v List.mem_cons_self
          have hm : v.toNat ∈ List.range s.toNat := by simp; omega
          have hk := hall v.toNat hm
          refine List.any_eq_true.2 ⟨v.toNat, hm, ?_⟩
          rw [Int.toNat_of_nonneg hv.1] at hk ⊢
          exact (eachF_any hk7 hs body l _ _ hk).2 ⟨r, ⟨by simpa using h1, fun x hx => h2 x (List.mem_cons_of_mem _ hx)⟩, by simpa using h3⟩
    · cases hok

theorem puts_len : ∀ (nm : List ByteArray) (r : List Int) (E : Nms), E.2.length = E.1.length → (putsN E nm r).2.length = (putsN E nm r).1.length
  | [], r, E, h => by rw [putsN_nil]; exact h
  | n :: nm, [], E, h => h
  | n :: nm, v :: r, E, h => by
    simp only [putsN]
    refine puts_len nm r _ ?_
    unfold putN; split <;> simp [h]
theorem sameN_puts : ∀ (nm : List ByteArray) (r : List Int) (E : Nms) (ns : List ByteArray) (vs : List Int), r.length = nm.length → E.2.length = E.1.length → sameN E ns vs → sameN (putsN E nm r) (ns ++ nm) (vs ++ r)
  | [], r, E, ns, vs, h, _, hs => by
    have : r = [] := List.eq_nil_of_length_eq_zero h
    subst this
    rw [putsN_nil, List.append_nil, List.append_nil]; exact hs
  | n :: nm, v :: r, E, ns, vs, h, hE, hs => by
    have := sameN_puts nm r (putN E n v) (ns ++ [n]) (vs ++ [v]) (by simpa using h) (by unfold putN; split <;> simp [hE]) (sameN_put hE hs n v)
    simp only [putsN]
    rw [List.append_assoc, List.append_assoc] at this
    exact this

theorem rel_rows {k s : Int} (hs : 1 ≤ s) (nm : List ByteArray) (so : Nms → Bool × Bool) (body : List ByteArray → List Int → Bool × Bool) (E : Nms) (ns : List ByteArray) (vs : List Int) (hE : E.2.length = E.1.length) (h : sameN E ns vs)
    (hb : ∀ E ns vs, E.2.length = E.1.length → sameN E ns vs → rel (body ns vs) (so E)) : rel (eachF k s body nm ns vs) (soRows k s nm so E (s ^ nm.length).toNat) := by
  have hrow : ∀ r, isRow s nm.length r → rel (body (ns ++ nm) (vs ++ r)) (so (putsN E nm r)) := fun r hr => hb _ _ _ (puts_len nm r E hE) (sameN_puts nm r E ns vs hr.1 hE h)
  have h1 : (eachF k s body nm ns vs).2 = !(soRows k s nm so E (s ^ nm.length).toNat).2 := by
    have a := eachF_ok (k := k) hs body nm ns vs
    have b := soRows_bad k s nm so E (s ^ nm.length).toNat
    rw [exists_row hs nm.length fun l => (so (putsN E nm l)).2 = true] at b
    have : (eachF k s body nm ns vs).2 = false ↔ (soRows k s nm so E (s ^ nm.length).toNat).2 = true := by
      rw [a, b]
      constructor
      · rintro ⟨r, h1, h2⟩; exact ⟨r, h1, by have := (hrow r h1).1; rw [h2] at this; simpa using this.symm⟩
      · rintro ⟨r, h1, h2⟩; exact ⟨r, h1, by have := (hrow r h1).1; rw [h2] at this; simpa using this⟩
    cases h3 : (eachF k s body nm ns vs).2 <;> cases h4 : (soRows k s nm so E (s ^ nm.length).toNat).2 <;> simp_all
  refine ⟨h1, fun h2 => ?_⟩
  have hok : (eachF k s body nm ns vs).2 = true := by rw [h1, h2]; rfl
  have hgood : ∀ r, isRow s nm.length r → (body (ns ++ nm) (vs ++ r)).1 = (so (putsN E nm r)).1 := by
    intro r hr
    refine (hrow r hr).2 ?_
    cases hq : (so (putsN E nm r)).2 with
    | false => rfl
    | true =>
      have := (soRows_bad k s nm so E (s ^ nm.length).toNat).2 ((exists_row hs nm.length fun l => (so (putsN E nm l)).2 = true).2 ⟨r, hr, hq⟩)
      rw [h2] at this; cases this
  by_cases k7 : k = 7
  · subst k7
    have a := eachF_all hs body nm ns vs hok
    have b := soRows_all s nm so E (s ^ nm.length).toNat
    rw [exists_row hs nm.length fun l => (so (putsN E nm l)).1 = false] at b
    have : (eachF 7 s body nm ns vs).1 = false ↔ (soRows 7 s nm so E (s ^ nm.length).toNat).1 = false := by
      rw [a, b]
      constructor
      · rintro ⟨r, h1, h2⟩; exact ⟨r, h1, by rw [← hgood r h1]; exact h2⟩
      · rintro ⟨r, h1, h2⟩; exact ⟨r, h1, by rw [hgood r h1]; exact h2⟩
    cases h3 : (eachF 7 s body nm ns vs).1 <;> cases h4 : (soRows 7 s nm so E (s ^ nm.length).toNat).1 <;> simp_all
  · have a := eachF_any k7 hs body nm ns vs hok
    have b := soRows_any k7 s nm so E (s ^ nm.length).toNat
    rw [exists_row hs nm.length fun l => (so (putsN E nm l)).1 = true] at b
    have : (eachF k s body nm ns vs).1 = true ↔ (soRows k s nm so E (s ^ nm.length).toNat).1 = true := by
      rw [a, b]
      constructor
      · rintro ⟨r, h1, h2⟩; exact ⟨r, h1, by rw [← hgood r h1]; exact h2⟩
      · rintro ⟨r, h1, h2⟩; exact ⟨r, h1, by rw [hgood r h1]; exact h2⟩
    cases h3 : (eachF k s body nm ns vs).1 <;> cases h4 : (soRows k s nm so E (s ^ nm.length).toNat).1 <;> simp_all

theorem rel_parts {g : List Sy} {w : Wo} {E : Nms} {ns : List ByteArray} {vs : List Int} : ∀ ps : List Fo, (∀ (i : Nat) (h : i < ps.length), rel (ps[i].rf g w ns vs) (ps[i].so g w E)) →
    ((Fo.soL g w ps E).any (·.2) = true → (Fo.rfL g w ps ns vs).all (·.2) = false) ∧ ((Fo.soL g w ps E).any (·.2) = false → Fo.rfL g w ps ns vs = (Fo.soL g w ps E).map fun b => (b.1, true))
  | [], _ => by simp [Fo.soL, Fo.rfL]
  | p :: ps, h => by
    have h0 := h 0 (by simp)
    simp only [List.getElem_cons_zero] at h0
    obtain ⟨h1, h2⟩ := rel_parts ps fun i hi => by have := h (i + 1) (by simpa using hi); simpa using this
    simp only [Fo.soL, Fo.rfL, List.any_cons, List.all_cons, List.map_cons]
    refine ⟨fun hb => ?_, fun hb => ?_⟩
    · rcases Bool.or_eq_true_iff.1 hb with hb | hb
      · rw [h0.1, hb]; rfl
      · rw [h1 hb, Bool.and_false]
    · obtain ⟨b1, b2⟩ := Bool.or_eq_false_iff.1 hb
      rw [h2 b2]
      have e := h0.2 b1
      have e2 : (p.rf g w ns vs).2 = true := by rw [h0.1, b1]; rfl
      rw [show p.rf g w ns vs = ((p.so g w E).1, true) from Prod.ext e e2]
theorem right_kind {k : Int} {l r : Wd} {nm : List ByteArray} {ps : List Fo} (h : (Fo.mk k l r nm ps).right = true) :
    (k = 0 ∨ k = 1 ∨ k = 2 ∨ k = 3 ∨ k = 4 ∨ k = 5 ∨ k = 6 ∨ k = 7 ∨ k = 8 ∨ k = 9 ∨ k = 10) ∧ ((k = 2 ∨ k = 7 ∨ k = 8) → ps.length = 1) ∧ ((k = 5 ∨ k = 6) → ps.length = 2) ∧ ∀ (i : Nat) (hi : i < ps.length), ps[i].right = true := by
  simp only [Fo.right, Bool.and_eq_true, rights_all, List.all_eq_true] at h
  obtain ⟨⟨h1, _⟩, h3⟩ := h
  change (if k = 0 then decide (ps.length = 0) && !l.var else if k = 1 ∨ k = 9 ∨ k = 10 then decide (ps.length = 0) else if k = 2 ∨ k = 7 ∨ k = 8 then decide (ps.length = 1) else if k = 5 ∨ k = 6 then decide (ps.length = 2) else decide (k = 3 ∨ k = 4)) = true at h1
  refine ⟨?_, ?_, ?_, fun i hi => h3 _ (List.getElem_mem hi)⟩
  · by_cases c0 : k = 0
    · omega
    by_cases c1 : k = 1 ∨ k = 9 ∨ k = 10
    · omega
    by_cases c2 : k = 2 ∨ k = 7 ∨ k = 8
    · omega
    by_cases c3 : k = 5 ∨ k = 6
    · omega
    rw [if_neg c0, if_neg c1, if_neg c2, if_neg c3] at h1
    have := of_decide_eq_true h1
    omega
  · intro hk
    rw [if_neg (by omega), if_neg (by omega), if_pos hk] at h1
    exact of_decide_eq_true h1
  · intro hk
    rw [if_neg (by omega), if_neg (by omega), if_neg (by omega), if_pos hk] at h1
    exact of_decide_eq_true h1
theorem right_atom {l r : Wd} {nm : List ByteArray} {ps : List Fo} (h : (Fo.mk 0 l r nm ps).right = true) : l.var = false := by
  simp only [Fo.right, Bool.and_eq_true] at h
  have h1 : (decide (ps.length = 0) && !l.var) = true := h.1.1
  simpa using (Bool.and_eq_true_iff.1 h1).2
theorem map_getD1 (l : List (Bool × Bool)) (i : Nat) : ((l.map fun b => (b.1, true)).getD i (false, false)).1 = (l.getD i (false, false)).1 := by
  simp only [List.getD_eq_getElem?_getD, List.getElem?_map]
  cases l[i]? <;> rfl
theorem rf_so {g : List Sy} {w : Wo} (hs : 1 ≤ w.size) (f : Fo) : f.right = true → ∀ (E : Nms) (ns : List ByteArray) (vs : List Int), E.2.length = E.1.length → sameN E ns vs → rel (f.rf g w ns vs) (f.so g w E) := by
  induction f using Fo.rec_parts with
  | h k l r nm ps ih =>
  intro hr E ns vs hE h
  obtain ⟨hk, hl1, hl2, hps⟩ := right_kind hr
  simp only [Fo.rf, Fo.so]
  by_cases c : k = 7 ∨ k = 8
  · rw [if_pos c, if_pos c]
    have hlen := hl1 (.inr c)
    refine rel_rows hs nm _ _ E ns vs hE h fun E ns vs hE h => ?_
    match ps, hlen with
    | [p], _ =>
      simp only [Fo.rfL, Fo.soL, List.headD_cons]
      exact ih 0 (by simp) (hps 0 (by simp)) E ns vs hE h
  · rw [if_neg c, if_neg c]
    obtain ⟨p1, p2⟩ := rel_parts (g := g) (w := w) (E := E) (ns := ns) (vs := vs) ps fun i hi => ih i hi (hps i hi) E ns vs hE h
    cases hb : (Fo.soL g w ps E).any (·.2) with
    | true =>
      have hbad : (soKind k (l.rd g w E.1 E.2 false) (r.rd g w E.1 E.2 false) (l.rd g w E.1 E.2 true) (Fo.soL g w ps E)).2 = true := by
        simp only [soKind, hb, Bool.true_or]
        repeat' split
        all_goals rfl
      rw [rfKind, p1 hb, if_pos rfl]
      exact ⟨by rw [hbad]; rfl, fun h => by rw [hbad] at h; cases h⟩
    | false =>
      have e := p2 hb
      have hall : (Fo.rfL g w ps ns vs).all (·.2) = true := by rw [e]; simp
      have ha : (Fo.rfL g w ps ns vs).all (·.1) = (Fo.soL g w ps E).all (·.1) := by rw [e, List.all_map]; rfl
      have hn : (Fo.rfL g w ps ns vs).any (·.1) = (Fo.soL g w ps E).any (·.1) := by rw [e, List.any_map]; rfl
      have hg : ∀ i, ((Fo.rfL g w ps ns vs).getD i (false, false)).1 = ((Fo.soL g w ps E).getD i (false, false)).1 := fun i => by rw [e, map_getD1]
      obtain ⟨l1, l2⟩ := iw_rd (g := g) (w := w) h l false
      obtain ⟨r1, r2⟩ := iw_rd (g := g) (w := w) h r false
      obtain ⟨t1, t2⟩ := iw_rd (g := g) (w := w) h l true
      simp only [rfKind, soKind, hall, hb, ha, hn, hg, Bool.false_or, Bool.true_eq_false, if_false]
      rcases hk with rfl | rfl | rfl | rfl | rfl | rfl | rfl | rfl | rfl | rfl | rfl
      · refine ⟨by simp only [if_true]; rw [t1]; simp, fun h => ?_⟩
        simp only [if_true] at h ⊢
        rw [t2 h]
      · refine ⟨by simp only [Int.reduceEq, if_false, if_true]; rw [l1, r1]; cases (l.iw g w ns vs).2 <;> cases (r.iw g w ns vs).2 <;> cases l.sort g false <;> cases r.sort g false <;> rfl, fun h => ?_⟩
        simp only [Int.reduceEq, if_false, if_true, Bool.or_eq_false_iff] at h ⊢
        rw [l2 h.1, r2 h.2]
      all_goals first
        | exact absurd (by omega) c
        | exact ⟨by simp, fun _ => by simp⟩

/-! ### how great a formula is -/
mutual
def Wd.cnt : Wd → Int → Int
  | .mk _ _ l, m => Wd.cntL l 1 m
def Wd.cntL : List Wd → Int → Int → Int
  | [], n, _ => n
  | w :: l, n, m => if n ≤ m then Wd.cntL l (n + w.cnt (m - n)) m else n
end
theorem wcntL_stop (l : List Wd) {n m : Int} (h : ¬ n ≤ m) : Wd.cntL l n m = n := by
  cases l with
  | nil => rfl
  | cons w l => simp only [Wd.cntL, if_neg h]
mutual
theorem wcnt_bounds : ∀ (w : Wd) (m : Int), 0 ≤ m → 1 ≤ w.cnt m ∧ w.cnt m ≤ m + 1 ∧ (w.cnt m ≤ m → w.cnt m = w.size) ∧ ((w.size : Int) ≤ m → w.cnt m = w.size)
  | .mk _ _ l, m => fun h => by
    obtain ⟨h1, h2, h3, h4⟩ := wcntL_bounds l 1 m (by omega) (by omega)
    simp only [Wd.cnt, Wd.size]
    exact ⟨h1, h2, fun h => by rw [h3 h]; omega, fun h => by rw [h4 (by omega)]; omega⟩
theorem wcntL_bounds : ∀ (l : List Wd) (n m : Int), 1 ≤ n → n ≤ m + 1 → n ≤ Wd.cntL l n m ∧ Wd.cntL l n m ≤ m + 1 ∧ (Wd.cntL l n m ≤ m → Wd.cntL l n m = n + Wd.sizes l) ∧ (n + Wd.sizes l ≤ m → Wd.cntL l n m = n + Wd.sizes l)
  | [], n, m => fun h1 h2 => by simp only [Wd.cntL, Wd.sizes]; omega
  | w :: l, n, m => fun h1 h2 => by
    simp only [Wd.cntL, Wd.sizes]
    by_cases c : n ≤ m
    · rw [if_pos c]
      obtain ⟨a1, a2, a3, a4⟩ := wcnt_bounds w (m - n) (by omega)
      obtain ⟨b1, b2, b3, b4⟩ := wcntL_bounds l (n + w.cnt (m - n)) m (by omega) (by omega)
      refine ⟨by omega, b2, fun h => ?_, fun h => ?_⟩
      · have := a3 (by omega); have := b3 h; omega
      · have := a4 (by omega); have := b4 (by omega); omega
    · rw [if_neg c]
      have := Nat.zero_le (w.size + Wd.sizes l)
      exact ⟨by omega, by omega, fun h => by omega, fun h => by omega⟩
end
mutual
/-- No list of names is longer than what lies in a memory. -/
def Fo.fit : Fo → Prop
  | .mk _ _ _ nm ps => (nm.length : Int) < 2 ^ 50 ∧ Fo.fits ps
def Fo.fits : List Fo → Prop
  | [] => True
  | p :: ps => p.fit ∧ Fo.fits ps
end
theorem ffits_get : ∀ {ps : List Fo}, Fo.fits ps → ∀ (i : Nat) (hi : i < ps.length), ps[i].fit
  | p :: ps, h, 0, _ => h.1
  | p :: ps, h, i + 1, hi => by simpa using ffits_get h.2 i (by simpa using hi)
mutual
def Fo.count : Fo → Int → Int
  | .mk _ l r nm ps, m => Fo.countL ps (1 + nm.length + l.cnt m + r.cnt m) m
def Fo.countL : List Fo → Int → Int → Int
  | [], n, _ => n
  | p :: ps, n, m => if n ≤ m then Fo.countL ps (n + p.count (m - n)) m else n
end
theorem countL_stop (l : List Fo) {n m : Int} (h : ¬ n ≤ m) : Fo.countL l n m = n := by
  cases l with
  | nil => rfl
  | cons w l => simp only [Fo.countL, if_neg h]
mutual
theorem count_bounds : ∀ (f : Fo) (m : Int), f.fit → 0 ≤ m → 1 ≤ f.count m ∧ f.count m ≤ 2 ^ 51 + 2 * m ∧ (f.count m ≤ m → f.count m = f.size)
  | .mk k l r nm ps, m => fun hf h => by
    obtain ⟨l1, l2, l3, _⟩ := wcnt_bounds l m h
    obtain ⟨r1, r2, r3, _⟩ := wcnt_bounds r m h
    have hn := hf.1
    obtain ⟨h1, h2, h3⟩ := countL_bounds ps (1 + nm.length + l.cnt m + r.cnt m) m hf.2 h (by omega) (by omega)
    simp only [Fo.count, Fo.size]
    refine ⟨by omega, h2, fun h => ?_⟩
    have := h3 h
    have := l3 (by omega); have := r3 (by omega)
    omega
theorem countL_bounds : ∀ (ps : List Fo) (n m : Int), Fo.fits ps → 0 ≤ m → 1 ≤ n → n ≤ 2 ^ 51 + 2 * m → n ≤ Fo.countL ps n m ∧ Fo.countL ps n m ≤ 2 ^ 51 + 2 * m ∧ (Fo.countL ps n m ≤ m → Fo.countL ps n m = n + Fo.sizes ps)
  | [], n, m => fun _ h0 h1 h2 => by simp only [Fo.countL, Fo.sizes]; omega
  | p :: ps, n, m => fun hf h0 h1 h2 => by
    simp only [Fo.countL, Fo.sizes]
    by_cases c : n ≤ m
    · rw [if_pos c]
      obtain ⟨a1, a2, a3⟩ := count_bounds p (m - n) hf.1 (by omega)
      obtain ⟨b1, b2, b3⟩ := countL_bounds ps (n + p.count (m - n)) m hf.2 h0 (by omega) (by omega)
      refine ⟨by omega, b2, fun h => ?_⟩
      have := a3 (by omega); have := b3 h; omega
    · rw [if_neg c]
      exact ⟨by omega, by omega, fun h => by omega⟩
end

/-! ### how often formulas are asked -/
def costN (s m : Int) : Nat → Int → Int
  | 0, n => n
  | k + 1, n => if n ≤ m then costN s m k (IntKind.i64.wrap (n * s)) else n
theorem costN_stop (s : Int) (k : Nat) {n m : Int} (h : ¬ n ≤ m) : costN s m k n = n := by
  cases k with
  | zero => rfl
  | succ k => simp only [costN, if_neg h]
mutual
def Fo.cost (s m : Int) : Fo → Int
  | .mk _ _ _ nm ps => costN s m nm.length (Fo.costL s m ps 1)
def Fo.costL (s m : Int) : List Fo → Int → Int
  | [], n => n
  | p :: ps, n => if n ≤ m then Fo.costL s m ps (IntKind.i64.wrap (n + p.cost s m)) else n
end
theorem costL_stop (s : Int) (l : List Fo) {n m : Int} (h : ¬ n ≤ m) : Fo.costL s m l n = n := by
  cases l with
  | nil => rfl
  | cons w l => simp only [Fo.costL, if_neg h]

/-! ### how great it is, of what counts -/
mutual
def Fo.sz : Fo → Int
  | .mk k l r nm ps => 1 + nm.length + (if k = 0 ∨ k = 1 then (l.size : Int) else 0) + (if k = 1 then (r.size : Int) else 0) + Fo.szs ps
def Fo.szs : List Fo → Int
  | [] => 0
  | p :: ps => p.sz + Fo.szs ps
end
mutual
theorem sz_le : ∀ f : Fo, 1 ≤ f.sz ∧ f.sz ≤ f.size
  | .mk k l r nm ps => by
    have := szs_le ps
    simp only [Fo.sz, Fo.size]
    split <;> split <;> omega
theorem szs_le : ∀ ps : List Fo, 0 ≤ Fo.szs ps ∧ Fo.szs ps ≤ Fo.sizes ps
  | [] => by simp [Fo.szs, Fo.sizes]
  | p :: ps => by
    have := sz_le p; have := szs_le ps
    simp only [Fo.szs, Fo.sizes]; omega
end
theorem szs_drop : ∀ (ps : List Fo) (i : Nat) (hi : i < ps.length), Fo.szs (ps.drop i) = ps[i].sz + Fo.szs (ps.drop (i + 1)) := by
  intro ps i hi
  rw [List.drop_eq_getElem_cons hi]; rfl

/-- A small formula is not too great for the program. -/
theorem each_small : (∀ w : Wd, ∀ n : Int, 0 ≤ n → n + w.size ≤ 5000 → w.each (fun n _ => decide (IntKind.i64.wrap (n + 1) ≤ 5000)) (fun n _ => IntKind.i64.wrap (n + 1)) n = (true, n + w.size)) := by
  intro w
  induction w using Wd.rec_args with
  | h v nm l ih =>
  intro n h0 h
  simp only [Wd.size] at h
  have key : ∀ (ws : List Wd), (∀ x ∈ ws, x ∈ l) → ∀ k : Int, 0 ≤ k → k + Wd.sizes ws ≤ 5000 → Wd.eachL (fun n _ => decide (IntKind.i64.wrap (n + 1) ≤ 5000)) (fun n _ => IntKind.i64.wrap (n + 1)) ws k = (true, k + Wd.sizes ws) := by
    intro ws
    induction ws with
    | nil => intro _ k _ _; simp [Wd.eachL, Wd.sizes]
    | cons x ws ihw =>
      intro hm k hk hk2
      obtain ⟨i, hi, e⟩ := List.getElem_of_mem (hm x List.mem_cons_self)
      simp only [Wd.sizes] at hk2
      have hx := ih i hi k hk (by rw [e]; omega)
      rw [e] at hx
      simp only [Wd.eachL, hx, if_true, Wd.sizes]
      rw [ihw (fun y hy => hm y (List.mem_cons_of_mem _ hy)) _ (by omega) (by omega)]
      simp; omega
  simp only [Wd.each, Wd.size]
  rw [i64_id (by omega), if_pos (by simp; omega), key l (fun _ h => h) _ (by omega) (by omega)]
  simp; omega
theorem wordN_small {n : Int} {w : Wd} (h0 : 0 ≤ n) (h : n + w.size ≤ 5000) : wordN n w = n + w.size := by
  rw [wordN, each_small w n h0 h]
theorem fcnt_small (f : Fo) : ∀ n : Int, 0 ≤ n → n + f.size ≤ 5000 → n ≤ f.cnt n ∧ f.cnt n ≤ n + f.size := by
  induction f using Fo.rec_parts with
  | h k l r nm ps ih =>
  intro n h0 h
  simp only [Fo.size] at h
  have hw : n + (1 + nm.length) ≤ wordsN (Fo.mk k l r nm ps).own (n + (1 + nm.length)) ∧ wordsN (Fo.mk k l r nm ps).own (n + (1 + nm.length)) ≤ n + (1 + nm.length) + l.size + r.size := by
    rw [show (Fo.mk k l r nm ps).own = if k = 0 then [l] else if k = 1 then [l, r] else [] from rfl]
    by_cases k0 : k = 0
    · rw [if_pos k0]; simp only [wordsN, List.foldl_cons, List.foldl_nil]; rw [wordN_small (by omega) (by omega)]; omega
    · rw [if_neg k0]
      by_cases k1 : k = 1
      · rw [if_pos k1]; simp only [wordsN, List.foldl_cons, List.foldl_nil]; rw [wordN_small (n := n + (1 + nm.length)) (w := l) (by omega) (by omega), wordN_small (by omega) (by omega)]; omega
      · rw [if_neg k1]; simp only [wordsN, List.foldl_nil]; omega
  have key : ∀ (qs : List Fo), (∀ x ∈ qs, x ∈ ps) → ∀ j : Int, 0 ≤ j → j + Fo.sizes qs ≤ 5000 → j ≤ Fo.cntL qs j ∧ Fo.cntL qs j ≤ j + Fo.sizes qs := by
    intro qs
    induction qs with
    | nil => intro _ j _ _; simp [Fo.cntL, Fo.sizes]
    | cons x qs ihq =>
      intro hm j hj hj2
      obtain ⟨i, hi, e⟩ := List.getElem_of_mem (hm x List.mem_cons_self)
      simp only [Fo.sizes] at hj2
      have hx := ih i hi j hj (by rw [e]; omega)
      rw [e] at hx
      simp only [Fo.cntL, Fo.sizes]
      rw [if_pos (by omega)]
      have := ihq (fun y hy => hm y (List.mem_cons_of_mem _ hy)) (x.cnt j) (by omega) (by omega)
      omega
  simp only [Fo.cnt, Fo.size]
  rw [i64_id (n := 1 + (nm.length : Int)) (by omega), i64_id (by omega)]
  have := key ps (fun _ h => h) (wordsN (Fo.mk k l r nm ps).own (n + (1 + nm.length))) (by omega) (by omega)
  omega
theorem check_small {f : Fo} (h : f.size ≤ 5000) : f.check = if f.right then 0 else 4 := by
  have := fcnt_small f 0 (Int.le_refl 0) (by omega)
  rw [Fo.check, if_neg (by omega)]

/-- The document's answer. -/
def trueR (g : List Sy) (w : Wo) (f : Fo) : Bool × Int :=
  if worldOk g w = false then (false, 1) else if (if f.right then (0 : Int) else 4) ≠ 0 then (false, 4) else
  if 20000 < manyL w.size 20000 f.bound.toNat 1 ∨ (1 < w.size ∧ 20 < f.bound) then (false, 2)
  else if (f.rf g w [] []).2 = false then (false, 8) else ((f.rf g w [] []).1, 0)
theorem true_same {g : List Sy} {w : Wo} {f : Fo} (h : f.size ≤ 5000) : trueR g w f = trueM g w f := by
  unfold trueR trueM
  rw [check_small h]
  cases hw : worldOk g w with
  | false => rfl
  | true =>
    simp only [Bool.true_eq_false, if_false]
    cases hr : f.right with
    | false => simp
    | true =>
      simp only [if_true, ne_eq, not_true_eq_false, if_false]
      obtain ⟨a, b⟩ := rf_so (g := g) (w := w) (worldOk_size hw).2.1 f hr ([], []) [] [] rfl sameN_nil
      split
      · rfl
      · rw [a]
        cases hb : (f.so g w ([], [])).2 with
        | true => rfl
        | false => rw [b hb]; rfl
end Go.Proofs
