/- Part 32 of my own framework and of the walks of functions: Ma, Mi0. -/
import Derived.Test.YtngbclnedkmiaaaDoorOwn31
set_option linter.unusedVariables false
set_option linter.unusedSectionVars false
set_option linter.unusedSimpArgs false

/- Terms, symbols, literals and worlds as Lean data, and the trees that stand for them. No program in sight. -/
namespace Go.Proofs
open Go Go.Abs

inductive Tm where
  | mk (head : Int) (args : List Tm)

def Tm.head : Tm → Int | .mk h _ => h
def Tm.args : Tm → List Tm | .mk _ l => l

mutual
def Tm.toA : Tm → AVal
  | .mk h ts => .agg [.int .i64 h, .ps 2 (Tm.toAL ts)]
def Tm.toAL : List Tm → List AVal
  | [] => []
  | t :: ts => t.toA :: Tm.toAL ts
end

theorem toAL_eq : ∀ ts, Tm.toAL ts = ts.map Tm.toA
  | [] => rfl
  | t :: ts => by simp [Tm.toAL, toAL_eq ts]

theorem toA_eq (t : Tm) : t.toA = .agg [.int .i64 t.head, .ps 2 (t.args.map Tm.toA)] := by cases t; simp [Tm.toA, toAL_eq, Tm.head, Tm.args]
theorem toA_cells (t : Tm) : t.toA.cells = [.int .i64 t.head, .ps 2 (t.args.map Tm.toA)] := by rw [toA_eq]; rfl
theorem toA_mk (h : Int) (ts : List Tm) : AVal.agg [.int .i64 h, .ps 2 (ts.map Tm.toA)] = (Tm.mk h ts).toA := by rw [toA_eq]; rfl

theorem lowL_map {α : Type} {n : Nat} {f : α → AVal} : ∀ {l : List α}, (∀ x ∈ l, (f x).low n) → lowL n (l.map f)
  | [], _ => trivial
  | a :: l, h => ⟨h a (by simp), lowL_map fun x hx => h x (by simp [hx])⟩

mutual
theorem toA_low0 : ∀ t : Tm, t.toA.low 0
  | .mk h ts => by simp only [Tm.toA, AVal.low, lowL, and_true, true_and]; exact toAL_low0 ts
theorem toAL_low0 : ∀ ts : List Tm, lowL 0 (Tm.toAL ts)
  | [] => trivial
  | t :: ts => ⟨toA_low0 t, toAL_low0 ts⟩
end
theorem toA_low {n : Nat} (t : Tm) : t.toA.low n := low_mono (Nat.zero_le n) (toA_low0 t)
theorem tms_low {n : Nat} (ts : List Tm) : lowL n (ts.map Tm.toA) := lowL_map fun x _ => toA_low x

theorem map_getD {α : Type} {f : α → AVal} {l : List α} {i : Nat} (h : i < l.length) : (l.map f).getD i .undef = f l[i] := by simp [List.getD, h]

def ints (l : List Int) : List AVal := l.map (.int .i64)
theorem ints_len (l : List Int) : (ints l).length = l.length := by simp [ints]
theorem ints_low {n : Nat} : ∀ l : List Int, lowL n (ints l)
  | [] => trivial
  | _ :: l => ⟨trivial, ints_low l⟩
theorem ints_get {l : List Int} {i : Nat} (h : i < l.length) : (ints l).getD i .undef = .int .i64 l[i] := by simp [ints, List.getD, h]
theorem ints_nil : ints [] = [] := rfl
theorem ints_snoc (l : List Int) (n : Int) : ints l ++ [.int .i64 n] = ints (l ++ [n]) := by simp [ints]
theorem ints_append (l m : List Int) : ints l ++ ints m = ints (l ++ m) := by simp [ints]

theorem i64_id {n : Int} (h : -9223372036854775808 ≤ n ∧ n ≤ 9223372036854775807) : IntKind.i64.wrap n = n := by rw [IntKind.wrap_i64]; omega

def In64 (n : Int) : Prop := -9223372036854775808 ≤ n ∧ n ≤ 9223372036854775807

/-! ### what is counted of a term -/
mutual
def Tm.size : Tm → Nat
  | .mk _ ts => 1 + Tm.sizes ts
def Tm.sizes : List Tm → Nat
  | [] => 0
  | t :: ts => t.size + Tm.sizes ts
end

mutual
def Tm.depth : Tm → Nat
  | .mk _ ts => Tm.depths ts + 1
def Tm.depths : List Tm → Nat
  | [] => 0
  | t :: ts => max t.depth (Tm.depths ts)
end

theorem sizes_snoc : ∀ (ts : List Tm) (i : Nat) (hi : i < ts.length), Tm.sizes (ts.take (i + 1)) = Tm.sizes (ts.take i) + Tm.size ts[i]
  | t :: ts, 0, _ => by simp [Tm.sizes]
  | t :: ts, i + 1, hi => by
    simp only [List.take_succ_cons, Tm.sizes, List.getElem_cons_succ]
    rw [sizes_snoc ts i (by simpa using hi)]; omega

theorem depths_snoc : ∀ (ts : List Tm) (i : Nat) (hi : i < ts.length), Tm.depths (ts.take (i + 1)) = max (Tm.depths (ts.take i)) (Tm.depth ts[i])
  | t :: ts, 0, _ => by simp [Tm.depths]
  | t :: ts, i + 1, hi => by
    simp only [List.take_succ_cons, Tm.depths, List.getElem_cons_succ]
    rw [depths_snoc ts i (by simpa using hi)]; omega

theorem size_le_sizes : ∀ (ts : List Tm) (i : Nat) (hi : i < ts.length), Tm.size ts[i] ≤ Tm.sizes ts
  | t :: ts, 0, _ => by simp only [List.getElem_cons_zero, Tm.sizes]; omega
  | t :: ts, i + 1, hi => by
    have := size_le_sizes ts i (by simpa using hi)
    simp only [List.getElem_cons_succ, Tm.sizes]; omega

theorem sizes_take_le : ∀ (ts : List Tm) (i : Nat), Tm.sizes (ts.take i) ≤ Tm.sizes ts
  | [], i => by simp
  | t :: ts, 0 => by simp [Tm.sizes]
  | t :: ts, i + 1 => by have := sizes_take_le ts i; simp only [List.take_succ_cons, Tm.sizes]; omega

theorem size_pos (t : Tm) : 1 ≤ t.size := by cases t; simp only [Tm.size]; omega
theorem len_le_sizes : ∀ ts : List Tm, ts.length ≤ Tm.sizes ts
  | [] => by simp [Tm.sizes]
  | t :: ts => by have := len_le_sizes ts; have := size_pos t; simp only [List.length_cons, Tm.sizes]; omega
mutual
theorem depth_le_size : ∀ t : Tm, t.depth ≤ t.size
  | .mk _ ts => by have := depths_le_sizes ts; simp only [Tm.depth, Tm.size]; omega
theorem depths_le_sizes : ∀ ts : List Tm, Tm.depths ts ≤ Tm.sizes ts
  | [] => by simp [Tm.depths, Tm.sizes]
  | t :: ts => by have := depth_le_size t; have := depths_le_sizes ts; simp only [Tm.depths, Tm.sizes]; omega
end

/-- By recursion into the arguments. -/
theorem Tm.rec_args {p : Tm → Prop} (h : ∀ hd ts, (∀ (i : Nat) (hi : i < ts.length), p ts[i]) → p (.mk hd ts)) : ∀ t, p t := by
  have key : ∀ n (t : Tm), t.size = n → p t := by
    intro n
    induction n using Nat.strongRecOn with
    | _ n ih =>
      intro t ht
      match t, ht with
      | .mk hd ts, ht =>
        refine h hd ts fun i hi => ih _ ?_ ts[i] rfl
        have := size_le_sizes ts i hi
        simp only [Tm.size] at ht
        omega
  exact fun t => key _ t rfl

/-! ### parts, as far as one above a bound -/
mutual
def Tm.cnt : Tm → Int → Int
  | .mk _ ts, m => Tm.cntL ts 1 m
def Tm.cntL : List Tm → Int → Int → Int
  | [], n, _ => n
  | t :: ts, n, m => if n ≤ m then Tm.cntL ts (n + t.cnt (m - n)) m else n
end

mutual
theorem cnt_bounds : ∀ (t : Tm) (m : Int), 0 ≤ m → 1 ≤ t.cnt m ∧ t.cnt m ≤ m + 1
  | .mk _ ts, m, h => by simp only [Tm.cnt]; exact cntL_bounds ts 1 m (by omega) (by omega)
theorem cntL_bounds : ∀ (ts : List Tm) (n m : Int), 1 ≤ n → n ≤ m + 1 → n ≤ Tm.cntL ts n m ∧ Tm.cntL ts n m ≤ m + 1
  | [], n, m, h1, h2 => by simp only [Tm.cntL]; omega
  | t :: ts, n, m, h1, h2 => by
    simp only [Tm.cntL]
    split
    · have := cnt_bounds t (m - n) (by omega)
      have := cntL_bounds ts (n + t.cnt (m - n)) m (by omega) (by omega)
      omega
    · omega
end

mutual
theorem cnt_small : ∀ (t : Tm) (m : Int), 0 ≤ m → t.cnt m ≤ m → t.cnt m = t.size
  | .mk _ ts, m, h0, h => by
    simp only [Tm.cnt] at h ⊢
    have := cntL_small ts 1 m (by omega) (by omega) h
    simp only [Tm.size]; omega
theorem cntL_small : ∀ (ts : List Tm) (n m : Int), 1 ≤ n → n ≤ m + 1 → Tm.cntL ts n m ≤ m → Tm.cntL ts n m = n + Tm.sizes ts
  | [], n, m, _, _, _ => by simp [Tm.cntL, Tm.sizes]
  | t :: ts, n, m, h1, h2, h => by
    simp only [Tm.cntL] at h ⊢
    split at h
    · rename_i hn
      rw [if_pos hn]
      have hb := cnt_bounds t (m - n) (by omega)
      have hb2 := cntL_bounds ts (n + t.cnt (m - n)) m (by omega) (by omega)
      have h3 := cntL_small ts (n + t.cnt (m - n)) m (by omega) (by omega) h
      have h4 := cnt_small t (m - n) (by omega) (by omega)
      simp only [Tm.sizes]; omega
    · omega
end

theorem cntL_stop (ts : List Tm) (n m : Int) (h : ¬ n ≤ m) : Tm.cntL ts n m = n := by cases ts <;> simp [Tm.cntL, h]


/-! ### right terms, variables -/
mutual
def Tm.good : Tm → Bool
  | .mk h ts => !(h < 0 && decide (0 < ts.length) || h < -256 || decide (1023 < h) || decide (8 < ts.length)) && Tm.goods ts
def Tm.goods : List Tm → Bool
  | [] => true
  | t :: ts => t.good && Tm.goods ts
end

theorem goods_take : ∀ (ts : List Tm) (i : Nat) (hi : i < ts.length), Tm.goods ts = (Tm.goods (ts.take i) && (ts[i].good && Tm.goods (ts.drop (i + 1))))
  | t :: ts, 0, _ => by simp [Tm.goods]
  | t :: ts, i + 1, hi => by
    simp only [List.take_succ_cons, Tm.goods, List.getElem_cons_succ, List.drop_succ_cons]
    rw [goods_take ts i (by simpa using hi)]; simp [Bool.and_assoc]

theorem goods_snoc (ts : List Tm) (i : Nat) (hi : i < ts.length) : Tm.goods (ts.take (i + 1)) = (Tm.goods (ts.take i) && ts[i].good) := by
  have h := goods_take (ts.take (i + 1)) i (by simp; omega)
  rw [h, List.take_take, Nat.min_eq_left (by omega), List.getElem_take, List.drop_eq_nil_of_le (by rw [List.length_take]; omega)]
  simp [Tm.goods]

def Tm.check (t : Tm) : Int := if 400 < t.size then 2 else if 40 < t.depth then 7 else if t.good then 0 else 1

def add1 (o : List Int) (v : Int) : List Int := if v ∈ o then o else o ++ [v]
def addNew (o l : List Int) : List Int := l.foldl add1 o

mutual
def Tm.vars : Tm → List Int
  | .mk h ts => Tm.varsL ts (if h < 0 then [-1 - h] else [])
def Tm.varsL : List Tm → List Int → List Int
  | [], o => o
  | t :: ts, o => Tm.varsL ts (addNew o t.vars)
end

theorem addNew_snoc (o l : List Int) (i : Nat) (hi : i < l.length) : addNew o (l.take (i + 1)) = add1 (addNew o (l.take i)) l[i] := by
  simp only [addNew, List.take_add_one, List.getElem?_eq_getElem hi, Option.toList_some, List.foldl_append, List.foldl_cons, List.foldl_nil]

theorem add1_len (o : List Int) (v : Int) : (add1 o v).length ≤ o.length + 1 := by unfold add1; split <;> simp

theorem addNew_len : ∀ (l o : List Int), (addNew o l).length ≤ o.length + l.length
  | [], o => by simp [addNew]
  | v :: l, o => by
    have h : addNew o (v :: l) = addNew (add1 o v) l := rfl
    rw [h]
    have := addNew_len l (add1 o v)
    have := add1_len o v
    simp only [List.length_cons]; omega

theorem varsL_snoc : ∀ (ts : List Tm) (i : Nat) (hi : i < ts.length) (o : List Int), Tm.varsL (ts.take (i + 1)) o = addNew (Tm.varsL (ts.take i) o) ts[i].vars
  | t :: ts, 0, _, o => by simp [Tm.varsL]
  | t :: ts, i + 1, hi, o => by
    simp only [List.take_succ_cons, Tm.varsL, List.getElem_cons_succ]
    exact varsL_snoc ts i (by simpa using hi) _

mutual
theorem vars_len : ∀ t : Tm, t.vars.length ≤ t.size
  | .mk h ts => by
    have := varsL_len ts (if h < 0 then [-1 - h] else [])
    have h2 : (if h < 0 then [-1 - h] else ([] : List Int)).length ≤ 1 := by split <;> simp
    simp only [Tm.vars, Tm.size]; omega
theorem varsL_len : ∀ (ts : List Tm) (o : List Int), (Tm.varsL ts o).length ≤ o.length + Tm.sizes ts
  | [], o => by simp [Tm.varsL, Tm.sizes]
  | t :: ts, o => by
    have h1 := varsL_len ts (addNew o t.vars)
    have h2 := addNew_len t.vars o
    have h3 := vars_len t
    simp only [Tm.varsL, Tm.sizes]; omega
end

/-- A slice of one's own that begins as nil. -/
def slA (b : Nat) (sz : Nat) : List AVal → AVal
  | [] => .nils
  | x :: l => .os b 0 (l.length + 1) sz
def slB : List AVal → Option Blk
  | [] => none
  | x :: l => some (.row (x :: l) 0)


/-! ### numbers that fit -/
mutual
def Tm.fit : Tm → Prop
  | .mk h ts => In64 h ∧ Tm.fits ts
def Tm.fits : List Tm → Prop
  | [] => True
  | t :: ts => t.fit ∧ Tm.fits ts
end
theorem fits_get : ∀ {ts : List Tm}, Tm.fits ts → ∀ (i : Nat) (hi : i < ts.length), ts[i].fit
  | t :: ts, h, 0, _ => h.1
  | t :: ts, h, i + 1, hi => fits_get h.2 i (by simpa using hi)

theorem ints_cons (n : Int) (l : List Int) : ints (n :: l) = .int .i64 n :: ints l := rfl
theorem slA_nil (b sz : Nat) : slA b sz [] = .nils := rfl
theorem slA_cons (b sz : Nat) (x : AVal) (l : List AVal) : slA b sz (x :: l) = .os b 0 (l.length + 1) sz := rfl
theorem slB_nil : slB [] = none := rfl
theorem slB_cons (x : AVal) (l : List AVal) : slB (x :: l) = some (.row (x :: l) 0) := rfl
theorem slA_low {b n : Nat} (h : b < n) (sz : Nat) : ∀ l : List AVal, (slA b sz l).low n
  | [] => trivial
  | _ :: _ => h
theorem slB_lowO {n : Nat} : ∀ l : List AVal, lowL n l → lowO n (slB l)
  | [], _ => trivial
  | _ :: _, h => h
theorem slA_ne {b sz : Nat} {l : List AVal} (h : l ≠ []) : slA b sz l = .os b 0 l.length sz := by cases l; exact absurd rfl h; rfl
theorem slB_ne {l : List AVal} (h : l ≠ []) : slB l = some (.row l 0) := by cases l; exact absurd rfl h; rfl
theorem ints_ne {l : List Int} (h : l ≠ []) : ints l ≠ [] := by cases l; exact absurd rfl h; simp [ints]


theorem slA_snoc (b sz : Nat) (l : List AVal) (x : AVal) : slA b sz (l ++ [x]) = .os b 0 (l.length + 1) sz := by
  rw [slA_ne (by simp)]; simp
theorem slB_snoc (l : List AVal) (x : AVal) : slB (l ++ [x]) = some (.row (l ++ [x]) 0) := slB_ne (by simp)
theorem ints_add (l : List Int) (n : Int) : ints (l ++ [n]) = ints l ++ [.int .i64 n] := (ints_snoc l n).symm

theorem pT_slA {F : Nat → Bool} {σ : Store} {b sz : Nat} {l : List AVal} (hF : F b = true) (h : getS σ b = slB l) : pT F σ (.ps sz l) (slA b sz l) = True := by
  cases l with
  | nil => simp [slA, pT]
  | cons x l =>
    simp only [slA, pT_os, h, slB, pTrow_some, hF, List.drop_zero, List.length_cons]
    simp [pTL_refl]

theorem set_none {σ : Store} {b : Nat} (h : getS σ b = none) : σ.set b none = σ := by
  apply List.ext_getElem?
  intro c
  by_cases e : b = c
  · subst e
    rw [List.getElem?_set_self']
    simp only [getS] at h
    cases hc : σ[b]? with
    | none => rfl
    | some x => rw [hc] at h; simp at h; subst h; rfl
  · rw [List.getElem?_set_ne e]

open Classical in
theorem app_slA {σ : Store} {nm b sz bs : Nat} {ag : Bool} {z : List AVal} {key : KA} {l : List AVal} {x : AVal} (h : getS σ b = slB l) : appendA σ nm ⟨sz, ag, bs, z, key⟩ (slA b sz l) [x] = if appOk ⟨sz, ag, bs, z, key⟩ [x] ∧ l.length + 1 ≤ 1000000000 then some (.os nm 0 (l.length + 1) sz, setS (σ.set b none) nm (.row (l ++ [x]) 0)) else none := by
  cases l with
  | nil =>
    have h0 : getS σ b = none := h
    rw [set_none h0]
    simp [slA, app_nils]
  | cons y l =>
    simp only [slA]
    rw [app_os, h]
    simp only [slB, appRow_some, List.length_cons, List.length_nil, List.drop_zero]
    by_cases c : appOk ⟨sz, ag, bs, z, key⟩ [x]
    · simp only [c, if_true, true_and, Nat.zero_add, Nat.le_refl, Nat.zero_le, Nat.sub_self]
      rw [List.take_of_length_le (by simp)]
    · simp [c]


theorem slA_app {b sz : Nat} {l xs : List AVal} (h : xs ≠ []) : slA b sz (l ++ xs) = .os b 0 (l.length + xs.length) sz := by
  rw [slA_ne (by simp [h])]; simp
theorem slB_app {l xs : List AVal} (h : xs ≠ []) : slB (l ++ xs) = some (.row (l ++ xs) 0) := slB_ne (by simp [h])

open Classical in
theorem app_slA2 {σ : Store} {nm b sz bs : Nat} {ag : Bool} {z : List AVal} {key : KA} {l : List AVal} {x y : AVal} (h : getS σ b = slB l) : appendA σ nm ⟨sz, ag, bs, z, key⟩ (slA b sz l) [x, y] = if appOk ⟨sz, ag, bs, z, key⟩ [x, y] ∧ l.length + 2 ≤ 1000000000 then some (.os nm 0 (l.length + 2) sz, setS (σ.set b none) nm (.row (l ++ [x, y]) 0)) else none := by
  cases l with
  | nil =>
    have h0 : getS σ b = none := h
    rw [set_none h0]
    simp [slA, app_nils]
  | cons u l =>
    simp only [slA]
    rw [app_os, h]
    simp only [slB, appRow_some, List.length_cons, List.length_nil, List.drop_zero]
    by_cases c : appOk ⟨sz, ag, bs, z, key⟩ [x, y]
    · simp only [c, if_true, true_and, Nat.zero_add, Nat.le_refl, Nat.zero_le, Nat.sub_self]
      rw [List.take_of_length_le (by simp)]
    · simp [c]

end Go.Proofs

/- Words and formulas as Lean data, and the trees that stand for them. -/
namespace Go.Proofs
open Go Go.Abs

inductive Wd where
  | mk (var : Bool) (name : ByteArray) (args : List Wd)
def Wd.var : Wd → Bool | .mk v _ _ => v
def Wd.name : Wd → ByteArray | .mk _ n _ => n
def Wd.args : Wd → List Wd | .mk _ _ l => l

mutual
def Wd.toA : Wd → AVal
  | .mk v n l => .agg [.bool v, .str n, .ps 3 (Wd.toAL l)]
def Wd.toAL : List Wd → List AVal
  | [] => []
  | w :: l => w.toA :: Wd.toAL l
end
theorem wdAL_eq : ∀ l, Wd.toAL l = l.map Wd.toA
  | [] => rfl
  | w :: l => by simp [Wd.toAL, wdAL_eq l]
theorem wd_eq (w : Wd) : w.toA = .agg [.bool w.var, .str w.name, .ps 3 (w.args.map Wd.toA)] := by cases w; simp [Wd.toA, wdAL_eq, Wd.var, Wd.name, Wd.args]
theorem wd_cells (w : Wd) : w.toA.cells = [.bool w.var, .str w.name, .ps 3 (w.args.map Wd.toA)] := by rw [wd_eq]; rfl
theorem wd_mk (v : Bool) (n : ByteArray) (l : List Wd) : AVal.agg [.bool v, .str n, .ps 3 (l.map Wd.toA)] = (Wd.mk v n l).toA := by rw [wd_eq]; rfl
mutual
theorem wd_low0 : ∀ w : Wd, w.toA.low 0
  | .mk v n l => by simp only [Wd.toA, AVal.low, lowL, and_true, true_and]; exact wdL_low0 l
theorem wdL_low0 : ∀ l : List Wd, lowL 0 (Wd.toAL l)
  | [] => trivial
  | w :: l => ⟨wd_low0 w, wdL_low0 l⟩
end
theorem wd_low {n : Nat} (w : Wd) : w.toA.low n := low_mono (Nat.zero_le n) (wd_low0 w)
theorem wds_low {n : Nat} (l : List Wd) : lowL n (l.map Wd.toA) := lowL_map fun x _ => wd_low x
mutual
def Wd.size : Wd → Nat
  | .mk _ _ l => 1 + Wd.sizes l
def Wd.sizes : List Wd → Nat
  | [] => 0
  | w :: l => w.size + Wd.sizes l
end
theorem wsize_le : ∀ (l : List Wd) (i : Nat) (hi : i < l.length), Wd.size l[i] ≤ Wd.sizes l
  | w :: l, 0, _ => by simp only [List.getElem_cons_zero, Wd.sizes]; omega
  | w :: l, i + 1, hi => by
    have := wsize_le l i (by simpa using hi)
    simp only [List.getElem_cons_succ, Wd.sizes]; omega
theorem wsize_pos (w : Wd) : 1 ≤ w.size := by cases w; simp only [Wd.size]; omega
theorem wlen_le : ∀ l : List Wd, l.length ≤ Wd.sizes l
  | [] => by simp [Wd.sizes]
  | w :: l => by have := wlen_le l; have := wsize_pos w; simp only [List.length_cons, Wd.sizes]; omega
theorem Wd.rec_args {p : Wd → Prop} (h : ∀ v n l, (∀ (i : Nat) (hi : i < l.length), p l[i]) → p (.mk v n l)) : ∀ w, p w := by
  have key : ∀ n (w : Wd), w.size = n → p w := by
    intro n
    induction n using Nat.strongRecOn with
    | _ n ih =>
      intro w hw
      match w, hw with
      | .mk v nm l, hw =>
        refine h v nm l fun i hi => ih _ ?_ l[i] rfl
        have := wsize_le l i hi
        simp only [Wd.size] at hw
        omega
  exact fun w => key _ w rfl

inductive Fo where
  | mk (kind : Int) (l r : Wd) (names : List ByteArray) (parts : List Fo)
def Fo.kind : Fo → Int | .mk k _ _ _ _ => k
def Fo.l : Fo → Wd | .mk _ l _ _ _ => l
def Fo.r : Fo → Wd | .mk _ _ r _ _ => r
def Fo.names : Fo → List ByteArray | .mk _ _ _ n _ => n
def Fo.parts : Fo → List Fo | .mk _ _ _ _ p => p

def strs (l : List ByteArray) : List AVal := l.map .str
theorem strs_len (l : List ByteArray) : (strs l).length = l.length := by simp [strs]
theorem strs_low {n : Nat} (l : List ByteArray) : lowL n (strs l) := lowL_map fun _ _ => trivial
theorem strs_get {l : List ByteArray} {i : Nat} (h : i < l.length) : (strs l).getD i .undef = .str l[i] := map_getD h

mutual
def Fo.toA : Fo → AVal
  | .mk k l r n p => .agg [.int .i64 k, .bool l.var, .str l.name, .ps 3 (l.args.map Wd.toA), .bool r.var, .str r.name, .ps 3 (r.args.map Wd.toA), .ps 1 (strs n), .ps 9 (Fo.toAL p)]
def Fo.toAL : List Fo → List AVal
  | [] => []
  | f :: l => f.toA :: Fo.toAL l
end
theorem foAL_eq : ∀ l, Fo.toAL l = l.map Fo.toA
  | [] => rfl
  | w :: l => by simp [Fo.toAL, foAL_eq l]
def Fo.cs (f : Fo) : List AVal := [.int .i64 f.kind, .bool f.l.var, .str f.l.name, .ps 3 (f.l.args.map Wd.toA), .bool f.r.var, .str f.r.name, .ps 3 (f.r.args.map Wd.toA), .ps 1 (strs f.names), .ps 9 (f.parts.map Fo.toA)]
theorem fo_eq (f : Fo) : f.toA = .agg [.int .i64 f.kind, .bool f.l.var, .str f.l.name, .ps 3 (f.l.args.map Wd.toA), .bool f.r.var, .str f.r.name, .ps 3 (f.r.args.map Wd.toA), .ps 1 (strs f.names), .ps 9 (f.parts.map Fo.toA)] := by
  cases f; simp [Fo.toA, foAL_eq, Fo.kind, Fo.l, Fo.r, Fo.names, Fo.parts]
theorem fo_cells (f : Fo) : f.toA.cells = [.int .i64 f.kind, .bool f.l.var, .str f.l.name, .ps 3 (f.l.args.map Wd.toA), .bool f.r.var, .str f.r.name, .ps 3 (f.r.args.map Wd.toA), .ps 1 (strs f.names), .ps 9 (f.parts.map Fo.toA)] := by rw [fo_eq]; rfl
mutual
theorem fo_low0 : ∀ f : Fo, f.toA.low 0
  | .mk k l r n p => by
    simp only [Fo.toA, AVal.low, lowL, and_true, true_and]
    exact ⟨wds_low _, wds_low _, strs_low _, foL_low0 p⟩
theorem foL_low0 : ∀ l : List Fo, lowL 0 (Fo.toAL l)
  | [] => trivial
  | f :: l => ⟨fo_low0 f, foL_low0 l⟩
end
theorem fo_low {n : Nat} (f : Fo) : f.toA.low n := low_mono (Nat.zero_le n) (fo_low0 f)
theorem fos_low {n : Nat} (l : List Fo) : lowL n (l.map Fo.toA) := lowL_map fun x _ => fo_low x
mutual
def Fo.size : Fo → Nat
  | .mk _ l r n p => 1 + l.size + r.size + n.length + Fo.sizes p
def Fo.sizes : List Fo → Nat
  | [] => 0
  | f :: l => f.size + Fo.sizes l
end
theorem fsize_le : ∀ (l : List Fo) (i : Nat) (hi : i < l.length), Fo.size l[i] ≤ Fo.sizes l
  | w :: l, 0, _ => by simp only [List.getElem_cons_zero, Fo.sizes]; omega
  | w :: l, i + 1, hi => by
    have := fsize_le l i (by simpa using hi)
    simp only [List.getElem_cons_succ, Fo.sizes]; omega
theorem fsize_pos (f : Fo) : 1 ≤ f.size := by cases f; simp only [Fo.size]; omega
theorem flen_le : ∀ l : List Fo, l.length ≤ Fo.sizes l
  | [] => by simp [Fo.sizes]
  | w :: l => by have := flen_le l; have := fsize_pos w; simp only [List.length_cons, Fo.sizes]; omega
theorem Fo.rec_parts {p : Fo → Prop} (h : ∀ k l r n ps, (∀ (i : Nat) (hi : i < ps.length), p ps[i]) → p (.mk k l r n ps)) : ∀ f, p f := by
  have key : ∀ n (f : Fo), f.size = n → p f := by
    intro n
    induction n using Nat.strongRecOn with
    | _ n ih =>
      intro f hf
      match f, hf with
      | .mk k l r nm ps, hf =>
        refine h k l r nm ps fun i hi => ih _ ?_ ps[i] rfl
        have := fsize_le ps i hi
        simp only [Fo.size] at hf
        omega
  exact fun f => key _ f rfl
end Go.Proofs
