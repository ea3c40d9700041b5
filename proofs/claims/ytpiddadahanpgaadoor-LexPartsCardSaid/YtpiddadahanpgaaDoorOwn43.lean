/- Part 43 of my own framework and of the walks of functions: Lb, Ma. -/
import Derived.Test.YtpiddadahanpgaaDoorOwn42
import Derived.WalkKit
import Derived.BigCall
set_option linter.unusedVariables false
set_option linter.unusedSimpArgs false

/- The library's functions on texts. -/
namespace Go.Proofs
open Go Go.Abs Go.RowKit

theorem maxLen_of {w : World} (h : Glob w.heap.size w) : ∃ m : Int, w.cell? ⟨0, 0, none⟩ = some (.int .i64 m) := by
  obtain ⟨_, v, h1, m, h2⟩ := h _ (List.mem_singleton.2 rfl)
  rw [h2] at h1
  exact ⟨m, h1⟩
theorem below_drewM (B : Nat) (w : World) : ∀ n, Below B w (w.drewN n) := fun n => ⟨rfl, rfl, rfl, Nat.le_refl _, fun _ _ => rfl⟩

theorem HasPre_eq (s p : ByteArray) : CallEq Tryd.prog 19 [.str s, .str p] (.bool (Lib.hasPrefix (bs s) (bs p))) :=
  CallEq.ofCalls Tryd.func19 rfl rfl (us := [.string s, .string p]) rfl rfl fun w _ => (Tryd.strings_HasPrefix s p w).mono fun e w' ⟨h1, h2⟩ => ⟨h1, h2 ▸ Below.refl _ _⟩
theorem IndexByte_eq (s : ByteArray) (c : Int) : CallEq Tryd.prog 36 [.str s, .int .u8 c] (.int .i64 (Lib.indexByte (bs s) c.toNat.toUInt8)) :=
  CallEq.ofCalls Tryd.func36 rfl rfl (us := [.string s, .int .u8 c]) rfl rfl fun w _ => (Tryd.strings_IndexByte s c w).mono fun e w' ⟨h1, h2⟩ => ⟨h1, h2 ▸ Below.refl _ _⟩
theorem TrimW_eq (s : ByteArray) : CallEq Tryd.prog 35 [.str s, .str ⟨#[32, 9, 10, 13]⟩] (.str (ofB ((bs s).dropWhile isW))) := by
  refine CallEq.ofCalls Tryd.func35 rfl rfl (us := [.string s, .string ⟨#[32, 9, 10, 13]⟩]) (u := .string (ofB ((bs s).dropWhile isW))) rfl rfl fun w _ => (Any.strings_TrimLeft_laid Tryd.lays161 (by kernel_rfl) s ⟨#[32, 9, 10, 13]⟩ w (by decide) (ascii_of_all (by decide))).mono ?_
  rintro e w' ⟨h1, h2⟩
  refine ⟨?_, h2⟩
  rw [h1]
  simp only [Lib.trimLeftS, ofB, bs]
  have : (fun x : UInt8 => [32, 9, 10, 13].contains x) = isW := by
    funext c
    simp only [isW, List.contains_cons, List.contains_nil, Bool.or_false, Bool.or_assoc]
  rw [this]
theorem Cut_eq (s p : ByteArray) (hs : s.size < 4294967281) : CallEq Tryd.prog 37 [.str s, .str p] (.tup [.str (ofB (Lib.cut (bs s) (bs p)).1), .str (ofB (Lib.cut (bs s) (bs p)).2.1), .bool (Lib.cut (bs s) (bs p)).2.2]) := by
  refine CallEq.ofCalls Tryd.func37 rfl rfl (us := [.string s, .string p]) (u := .tuple #[.string (ofB (Lib.cut (bs s) (bs p)).1), .string (ofB (Lib.cut (bs s) (bs p)).2.1), .bool (Lib.cut (bs s) (bs p)).2.2]) rfl rfl fun w hg => ?_
  obtain ⟨m, hm⟩ := maxLen_of hg
  refine (Tryd.strings_Cut s p m w hs hm).mono ?_
  rintro e w' ⟨h1, n, rfl⟩
  exact ⟨h1, below_drewM _ _ n⟩
theorem Replace_eq (s old new : ByteArray) (hs : s.size < 1000000) (h1 : old.size = 1) (h2 : new.size ≤ 2) : CallEq Tryd.prog 34 [.str s, .str old, .str new] (.str (ofB (Lib.replaceAll (bs s) (bs old) (bs new)))) := by
  refine CallEq.ofCalls Tryd.func34 rfl rfl (us := [.string s, .string old, .string new]) (u := .string (ofB (Lib.replaceAll (bs s) (bs old) (bs new)))) rfl rfl fun w hg => ?_
  obtain ⟨m, hm⟩ := maxLen_of hg
  have hc := Lib.countB_mul_le old (by omega) s.size s (Nat.le_refl _)
  rw [h1, Nat.mul_one] at hc
  have hc2 : Lib.countB s old * new.size ≤ Lib.countB s old * 2 := Nat.mul_le_mul_left _ h2
  exact (Tryd.strings_ReplaceAll s old new m w (by omega) hm (by omega) (by omega)).mono fun e w' h => h

def quoteV (s : ByteArray) : Value := match quoteB [] ((bs s).drop 1) with
  | none => .tuple #[.string ⟨#[]⟩, .int .i64 0]
  | some x => .tuple #[.string (ofB x.1), .int .i64 (s.size - x.2.length)]
theorem quoteV_none {s : ByteArray} (h : quoteB [] ((bs s).drop 1) = none) : quoteV s = .tuple #[.string ⟨#[]⟩, .int .i64 0] := by rw [quoteV, h]
theorem quoteV_some {s : ByteArray} {x : By × By} (h : quoteB [] ((bs s).drop 1) = some x) : quoteV s = .tuple #[.string (ofB x.1), .int .i64 (s.size - x.2.length)] := by rw [quoteV, h]
theorem drop_at {s : ByteArray} {k : Nat} (h : k < s.size) : (bs s).drop k = s[k] :: (bs s).drop (k + 1) := by
  rw [List.drop_eq_getElem_cons (by rw [bs_len]; exact h)]
  rfl
theorem u8_eq {c : UInt8} {n : Nat} (hn : n < 256) : c = UInt8.ofNat n ↔ c.toNat = n := by
  constructor
  · rintro rfl; rw [UInt8.toNat_ofNat']; omega
  · intro h; rw [← h, UInt8.ofNat_toNat]

set_option maxHeartbeats 4000000 in
set_option maxRecDepth 1000000 in
theorem quoted_walk (s : ByteArray) (w : World) (hs : s.size ≤ 1000000) :
    Calls Tryd.prog 38 #[.string s] w fun e w' => e = .returned (quoteV s) ∧ Below w.heap.size w w' := by
  go_enter Tryd.func38, Tryd.ntmps38
  go_wp2
  go_loopw [5] (fun i wr => ∃ (k : Nat) (acc : List UInt8), i = .int .i64 k ∧ 1 ≤ k ∧ k ≤ s.size + 1 ∧ acc.length ≤ k ∧ Lib.IsBuilder 69 5 w.heap.size w.heap.size (Lib.byteCells acc) wr ∧ Below w.heap.size w wr ∧ quoteB acc ((bs s).drop k) = quoteB [] ((bs s).drop 1)) (fun i _ => s.size + 1 - (RowKit.intOf i).toNat)
  case atStart =>
    refine ⟨1, [], rfl, by omega, by omega, by simp, Lib.fresh_isBuilder 69 5 w, (Below.refl _ w).alloc (Nat.le_refl _) _, rfl⟩
  case round =>
    obtain ⟨k, acc, rfl, hk1, hk2, hal, hI, hbw, hq⟩ := hrel
    have hsz : w.heap.size ≤ wr.heap.size := hbw.size
    have hlen : (Lib.byteCells acc).length + 1 ≤ 140737488355328 := by rw [Lib.byteCells_length]; omega
    by_cases hp : k < s.size
    · rw [drop_at hp] at hq
      have e39 : s[k] = 39 ↔ s[k].toNat = 39 := u8_eq (by decide)
      have e92 : s[k] = 92 ↔ s[k].toNat = 92 := u8_eq (by decide)
      by_cases c39 : s[k].toNat = 39
      · rw [e39.2 c39, quoteB_39] at hq
        by_cases ha : acc = []
        · rw [if_pos ha] at hq
          have hv := quoteV_none hq.symm
          subst ha
          go_wp2_with (first
            | (go_at_call 49; refine (Tryd.Builder_Len w.heap.size w.heap.size _ wr hI).mono ?_; rintro e w1 ⟨rfl, rfl⟩))
          all_goals first
            | (exfalso; simp [Lib.byteCells] at *; done)
            | (exfalso; omega)
            | skip
          all_goals go_ret2
          all_goals exact ⟨by first | (rw [hv]; rfl) | rfl, hbw⟩
        · rw [if_neg ha] at hq
          have hv : quoteV s = .tuple #[.string (ofB acc), .int .i64 ((s.size : Int) - ((bs s).drop (k + 1)).length)] := quoteV_some hq.symm
          have hal2 : 0 < acc.length := List.length_pos_iff.2 ha
          have hl2 : ((bs s).drop (k + 1)).length = s.size - (k + 1) := by rw [List.length_drop, bs_len]
          go_wp2_with (first
            | (go_at_call 49; refine (Tryd.Builder_Len w.heap.size w.heap.size _ wr hI).mono ?_; rintro e w1 ⟨rfl, rfl⟩)
            | (go_at_call 50; refine (Tryd.Builder_String_any w.heap.size w.heap.size acc _ hI hsz).mono ?_; rintro e w1 ⟨rfl, hb1⟩))
          all_goals first
            | (exfalso; rw [Lib.byteCells_length] at *; omega)
            | (exfalso; omega)
            | skip
          all_goals go_ret2
          all_goals
            refine ⟨?_, hbw.trans hb1⟩
            rw [hv, hl2]
            simp [ofB]
            omega
      · have n39 := fun h => c39 (e39.1 h)
        by_cases cb : s[k].toNat < 32 ∨ 126 < s[k].toNat
        · rw [quoteB_bad n39 cb] at hq
          have hv := quoteV_none hq.symm
          go_wp2
          all_goals first
            | (exfalso; omega)
            | skip
          all_goals go_ret2
          all_goals exact ⟨by first | (rw [hv]; rfl) | rfl, hbw⟩
        · by_cases c92 : s[k].toNat = 92
          · rw [e92.2 c92] at hq
            by_cases hp2 : k + 1 < s.size
            · rw [drop_at hp2, quoteB_two] at hq
              have f39 : s[k + 1] = 39 ↔ s[k + 1].toNat = 39 := u8_eq (by decide)
              have f92 : s[k + 1] = 92 ↔ s[k + 1].toNat = 92 := u8_eq (by decide)
              by_cases cd : s[k + 1].toNat = 92 ∨ s[k + 1].toNat = 39
              · rw [if_pos (cd.imp f92.2 f39.2)] at hq
                go_wp2_with (first
                  | (go_at_call 51; refine (Any.Builder_WriteByte Tryd.lays167 Tryd.Builder_Extra_167 w.heap.size w.heap.size _ _ wr hI hlen hsz).mono ?_; rintro e w1 ⟨rfl, hb1, hb2⟩))
                all_goals first
                  | (exfalso; omega)
                  | (exfalso; simp at *; omega)
                  | skip
                all_goals
                  refine ⟨⟨k + 2, acc ++ [s[k + 1]], by simp; omega, by omega, by omega, by simp; omega, ?_, hbw.trans hb2, hq⟩, by simp [RowKit.intOf]; omega⟩
                  rw [Lib.byteCells_append]
                  refine Or.inr ?_
                  first | exact hb1 | (simp only [Lib.byteCells, List.map_cons, List.map_nil] at *; simp_all; exact hb1)
              · rw [if_neg (fun h => cd (h.imp f92.1 f39.1))] at hq
                have hv := quoteV_none hq.symm
                go_wp2_with (first
                  | (go_at_call 51; refine (Any.Builder_WriteByte Tryd.lays167 Tryd.Builder_Extra_167 w.heap.size w.heap.size _ _ wr hI hlen hsz).mono ?_; rintro e w1 ⟨rfl, hb1, hb2⟩))
                all_goals first
                  | (exfalso; omega)
                  | (exfalso; simp at *; omega)
                  | skip
                all_goals go_ret2
                all_goals exact ⟨by first | (rw [hv]; rfl) | rfl, hbw⟩
            · have hd : (bs s).drop (k + 1) = [] := List.drop_eq_nil_of_le (by rw [bs_len]; omega)
              rw [hd, quoteB_92] at hq
              have hv := quoteV_none hq.symm
              go_wp2
              all_goals first
                | (exfalso; omega)
                | skip
              all_goals go_ret2
              all_goals exact ⟨by first | (rw [hv]; rfl) | rfl, hbw⟩
          · rw [quoteB_one n39 cb (fun h => c92 (e92.1 h))] at hq
            go_wp2_with (first
              | (go_at_call 51; refine (Any.Builder_WriteByte Tryd.lays167 Tryd.Builder_Extra_167 w.heap.size w.heap.size _ _ wr hI hlen hsz).mono ?_; rintro e w1 ⟨rfl, hb1, hb2⟩))
            all_goals first
              | (exfalso; omega)
              | (exfalso; simp at *; omega)
              | skip
            all_goals
              refine ⟨⟨k + 1, acc ++ [s[k]], by simp, by omega, by omega, by simp; omega, ?_, hbw.trans hb2, hq⟩, by simp [RowKit.intOf]; omega⟩
              rw [Lib.byteCells_append]
              exact Or.inr hb1
    · have hd : (bs s).drop k = [] := List.drop_eq_nil_of_le (by rw [bs_len]; omega)
      rw [hd, quoteB_nil] at hq
      have hv := quoteV_none hq.symm
      go_wp2
      all_goals first
        | (exfalso; omega)
        | skip
      all_goals go_ret2
      all_goals exact ⟨by first | (rw [hv]; rfl) | rfl, hbw⟩

def quoteA (s : ByteArray) : AVal := match quoteB [] ((bs s).drop 1) with
  | none => .tup [.str ⟨#[]⟩, .int .i64 0]
  | some x => .tup [.str (ofB x.1), .int .i64 (s.size - x.2.length)]
theorem Quoted_eq (s : ByteArray) (hs : s.size ≤ 1000000) : CallEq Tryd.prog 38 [.str s] (quoteA s) := by
  refine CallEq.ofCalls Tryd.func38 rfl rfl (us := [.string s]) (u := quoteV s) rfl ?_ fun w _ => quoted_walk s w hs
  unfold quoteA quoteV
  cases quoteB [] ((bs s).drop 1) <;> rfl
end Go.Proofs

/- Terms, symbols, literals and worlds as Lean data, and the trees that stand for them. No program in sight. -/
namespace Go.Proofs
open Go Go.Abs

inductive Tm where
  | mk (head : Int) (args : List Tm)

def Tm.head : Tm → Int | .mk h _ => h
def Tm.args : Tm → List Tm | .mk _ l => l

mutual
def Tm.toA : Tm → AVal
  | .mk h ts => .agg [.int .i64 h, .ps 2 (Tm.toAL ts)]
def Tm.toAL : List Tm → List AVal
  | [] => []
  | t :: ts => t.toA :: Tm.toAL ts
end

theorem toAL_eq : ∀ ts, Tm.toAL ts = ts.map Tm.toA
  | [] => rfl
  | t :: ts => by simp [Tm.toAL, toAL_eq ts]

theorem toA_eq (t : Tm) : t.toA = .agg [.int .i64 t.head, .ps 2 (t.args.map Tm.toA)] := by cases t; simp [Tm.toA, toAL_eq, Tm.head, Tm.args]
theorem toA_cells (t : Tm) : t.toA.cells = [.int .i64 t.head, .ps 2 (t.args.map Tm.toA)] := by rw [toA_eq]; rfl
theorem toA_mk (h : Int) (ts : List Tm) : AVal.agg [.int .i64 h, .ps 2 (ts.map Tm.toA)] = (Tm.mk h ts).toA := by rw [toA_eq]; rfl

theorem lowL_map {α : Type} {n : Nat} {f : α → AVal} : ∀ {l : List α}, (∀ x ∈ l, (f x).low n) → lowL n (l.map f)
  | [], _ => trivial
  | a :: l, h => ⟨h a (by simp), lowL_map fun x hx => h x (by simp [hx])⟩

mutual
theorem toA_low0 : ∀ t : Tm, t.toA.low 0
  | .mk h ts => by simp only [Tm.toA, AVal.low, lowL, and_true, true_and]; exact toAL_low0 ts
theorem toAL_low0 : ∀ ts : List Tm, lowL 0 (Tm.toAL ts)
  | [] => trivial
  | t :: ts => ⟨toA_low0 t, toAL_low0 ts⟩
end
theorem toA_low {n : Nat} (t : Tm) : t.toA.low n := low_mono (Nat.zero_le n) (toA_low0 t)
theorem tms_low {n : Nat} (ts : List Tm) : lowL n (ts.map Tm.toA) := lowL_map fun x _ => toA_low x

theorem map_getD {α : Type} {f : α → AVal} {l : List α} {i : Nat} (h : i < l.length) : (l.map f).getD i .undef = f l[i] := by simp [List.getD, h]

def ints (l : List Int) : List AVal := l.map (.int .i64)
theorem ints_len (l : List Int) : (ints l).length = l.length := by simp [ints]
theorem ints_low {n : Nat} : ∀ l : List Int, lowL n (ints l)
  | [] => trivial
  | _ :: l => ⟨trivial, ints_low l⟩
theorem ints_get {l : List Int} {i : Nat} (h : i < l.length) : (ints l).getD i .undef = .int .i64 l[i] := by simp [ints, List.getD, h]
theorem ints_nil : ints [] = [] := rfl
theorem ints_snoc (l : List Int) (n : Int) : ints l ++ [.int .i64 n] = ints (l ++ [n]) := by simp [ints]
theorem ints_append (l m : List Int) : ints l ++ ints m = ints (l ++ m) := by simp [ints]

theorem i64_id {n : Int} (h : -9223372036854775808 ≤ n ∧ n ≤ 9223372036854775807) : IntKind.i64.wrap n = n := by rw [IntKind.wrap_i64]; omega

def In64 (n : Int) : Prop := -9223372036854775808 ≤ n ∧ n ≤ 9223372036854775807

/-! ### what is counted of a term -/
mutual
def Tm.size : Tm → Nat
  | .mk _ ts => 1 + Tm.sizes ts
def Tm.sizes : List Tm → Nat
  | [] => 0
  | t :: ts => t.size + Tm.sizes ts
end

mutual
def Tm.depth : Tm → Nat
  | .mk _ ts => Tm.depths ts + 1
def Tm.depths : List Tm → Nat
  | [] => 0
  | t :: ts => max t.depth (Tm.depths ts)
end

theorem sizes_snoc : ∀ (ts : List Tm) (i : Nat) (hi : i < ts.length), Tm.sizes (ts.take (i + 1)) = Tm.sizes (ts.take i) + Tm.size ts[i]
  | t :: ts, 0, _ => by simp [Tm.sizes]
  | t :: ts, i + 1, hi => by
    simp only [List.take_succ_cons, Tm.sizes, List.getElem_cons_succ]
    rw [sizes_snoc ts i (by simpa using hi)]; omega

theorem depths_snoc : ∀ (ts : List Tm) (i : Nat) (hi : i < ts.length), Tm.depths (ts.take (i + 1)) = max (Tm.depths (ts.take i)) (Tm.depth ts[i])
  | t :: ts, 0, _ => by simp [Tm.depths]
  | t :: ts, i + 1, hi => by
    simp only [List.take_succ_cons, Tm.depths, List.getElem_cons_succ]
    rw [depths_snoc ts i (by simpa using hi)]; omega

theorem size_le_sizes : ∀ (ts : List Tm) (i : Nat) (hi : i < ts.length), Tm.size ts[i] ≤ Tm.sizes ts
  | t :: ts, 0, _ => by simp only [List.getElem_cons_zero, Tm.sizes]; omega
  | t :: ts, i + 1, hi => by
    have := size_le_sizes ts i (by simpa using hi)
    simp only [List.getElem_cons_succ, Tm.sizes]; omega

theorem sizes_take_le : ∀ (ts : List Tm) (i : Nat), Tm.sizes (ts.take i) ≤ Tm.sizes ts
  | [], i => by simp
  | t :: ts, 0 => by simp [Tm.sizes]
  | t :: ts, i + 1 => by have := sizes_take_le ts i; simp only [List.take_succ_cons, Tm.sizes]; omega

theorem size_pos (t : Tm) : 1 ≤ t.size := by cases t; simp only [Tm.size]; omega
theorem len_le_sizes : ∀ ts : List Tm, ts.length ≤ Tm.sizes ts
  | [] => by simp [Tm.sizes]
  | t :: ts => by have := len_le_sizes ts; have := size_pos t; simp only [List.length_cons, Tm.sizes]; omega
mutual
theorem depth_le_size : ∀ t : Tm, t.depth ≤ t.size
  | .mk _ ts => by have := depths_le_sizes ts; simp only [Tm.depth, Tm.size]; omega
theorem depths_le_sizes : ∀ ts : List Tm, Tm.depths ts ≤ Tm.sizes ts
  | [] => by simp [Tm.depths, Tm.sizes]
  | t :: ts => by have := depth_le_size t; have := depths_le_sizes ts; simp only [Tm.depths, Tm.sizes]; omega
end

/-- By recursion into the arguments. -/
theorem Tm.rec_args {p : Tm → Prop} (h : ∀ hd ts, (∀ (i : Nat) (hi : i < ts.length), p ts[i]) → p (.mk hd ts)) : ∀ t, p t := by
  have key : ∀ n (t : Tm), t.size = n → p t := by
    intro n
    induction n using Nat.strongRecOn with
    | _ n ih =>
      intro t ht
      match t, ht with
      | .mk hd ts, ht =>
        refine h hd ts fun i hi => ih _ ?_ ts[i] rfl
        have := size_le_sizes ts i hi
        simp only [Tm.size] at ht
        omega
  exact fun t => key _ t rfl

/-! ### parts, as far as one above a bound -/
mutual
def Tm.cnt : Tm → Int → Int
  | .mk _ ts, m => Tm.cntL ts 1 m
def Tm.cntL : List Tm → Int → Int → Int
  | [], n, _ => n
  | t :: ts, n, m => if n ≤ m then Tm.cntL ts (n + t.cnt (m - n)) m else n
end

mutual
theorem cnt_bounds : ∀ (t : Tm) (m : Int), 0 ≤ m → 1 ≤ t.cnt m ∧ t.cnt m ≤ m + 1
  | .mk _ ts, m, h => by simp only [Tm.cnt]; exact cntL_bounds ts 1 m (by omega) (by omega)
theorem cntL_bounds : ∀ (ts : List Tm) (n m : Int), 1 ≤ n → n ≤ m + 1 → n ≤ Tm.cntL ts n m ∧ Tm.cntL ts n m ≤ m + 1
  | [], n, m, h1, h2 => by simp only [Tm.cntL]; omega
  | t :: ts, n, m, h1, h2 => by
    simp only [Tm.cntL]
    split
    · have := cnt_bounds t (m - n) (by omega)
      have := cntL_bounds ts (n + t.cnt (m - n)) m (by omega) (by omega)
      omega
    · omega
end

mutual
theorem cnt_small : ∀ (t : Tm) (m : Int), 0 ≤ m → t.cnt m ≤ m → t.cnt m = t.size
  | .mk _ ts, m, h0, h => by
    simp only [Tm.cnt] at h ⊢
    have := cntL_small ts 1 m (by omega) (by omega) h
    simp only [Tm.size]; omega
theorem cntL_small : ∀ (ts : List Tm) (n m : Int), 1 ≤ n → n ≤ m + 1 → Tm.cntL ts n m ≤ m → Tm.cntL ts n m = n + Tm.sizes ts
  | [], n, m, _, _, _ => by simp [Tm.cntL, Tm.sizes]
  | t :: ts, n, m, h1, h2, h => by
    simp only [Tm.cntL] at h ⊢
    split at h
    · rename_i hn
      rw [if_pos hn]
      have hb := cnt_bounds t (m - n) (by omega)
      have hb2 := cntL_bounds ts (n + t.cnt (m - n)) m (by omega) (by omega)
      have h3 := cntL_small ts (n + t.cnt (m - n)) m (by omega) (by omega) h
      have h4 := cnt_small t (m - n) (by omega) (by omega)
      simp only [Tm.sizes]; omega
    · omega
end

theorem cntL_stop (ts : List Tm) (n m : Int) (h : ¬ n ≤ m) : Tm.cntL ts n m = n := by cases ts <;> simp [Tm.cntL, h]


/-! ### right terms, variables -/
mutual
def Tm.good : Tm → Bool
  | .mk h ts => !(h < 0 && decide (0 < ts.length) || h < -256 || decide (1023 < h) || decide (8 < ts.length)) && Tm.goods ts
def Tm.goods : List Tm → Bool
  | [] => true
  | t :: ts => t.good && Tm.goods ts
end

theorem goods_take : ∀ (ts : List Tm) (i : Nat) (hi : i < ts.length), Tm.goods ts = (Tm.goods (ts.take i) && (ts[i].good && Tm.goods (ts.drop (i + 1))))
  | t :: ts, 0, _ => by simp [Tm.goods]
  | t :: ts, i + 1, hi => by
    simp only [List.take_succ_cons, Tm.goods, List.getElem_cons_succ, List.drop_succ_cons]
    rw [goods_take ts i (by simpa using hi)]; simp [Bool.and_assoc]

theorem goods_snoc (ts : List Tm) (i : Nat) (hi : i < ts.length) : Tm.goods (ts.take (i + 1)) = (Tm.goods (ts.take i) && ts[i].good) := by
  have h := goods_take (ts.take (i + 1)) i (by simp; omega)
  rw [h, List.take_take, Nat.min_eq_left (by omega), List.getElem_take, List.drop_eq_nil_of_le (by rw [List.length_take]; omega)]
  simp [Tm.goods]

def Tm.check (t : Tm) : Int := if 400 < t.size then 2 else if 40 < t.depth then 7 else if t.good then 0 else 1

def add1 (o : List Int) (v : Int) : List Int := if v ∈ o then o else o ++ [v]
def addNew (o l : List Int) : List Int := l.foldl add1 o

mutual
def Tm.vars : Tm → List Int
  | .mk h ts => Tm.varsL ts (if h < 0 then [-1 - h] else [])
def Tm.varsL : List Tm → List Int → List Int
  | [], o => o
  | t :: ts, o => Tm.varsL ts (addNew o t.vars)
end

theorem addNew_snoc (o l : List Int) (i : Nat) (hi : i < l.length) : addNew o (l.take (i + 1)) = add1 (addNew o (l.take i)) l[i] := by
  simp only [addNew, List.take_add_one, List.getElem?_eq_getElem hi, Option.toList_some, List.foldl_append, List.foldl_cons, List.foldl_nil]

theorem add1_len (o : List Int) (v : Int) : (add1 o v).length ≤ o.length + 1 := by unfold add1; split <;> simp

theorem addNew_len : ∀ (l o : List Int), (addNew o l).length ≤ o.length + l.length
  | [], o => by simp [addNew]
  | v :: l, o => by
    have h : addNew o (v :: l) = addNew (add1 o v) l := rfl
    rw [h]
    have := addNew_len l (add1 o v)
    have := add1_len o v
    simp only [List.length_cons]; omega

theorem varsL_snoc : ∀ (ts : List Tm) (i : Nat) (hi : i < ts.length) (o : List Int), Tm.varsL (ts.take (i + 1)) o = addNew (Tm.varsL (ts.take i) o) ts[i].vars
  | t :: ts, 0, _, o => by simp [Tm.varsL]
  | t :: ts, i + 1, hi, o => by
    simp only [List.take_succ_cons, Tm.varsL, List.getElem_cons_succ]
    exact varsL_snoc ts i (by simpa using hi) _

mutual
theorem vars_len : ∀ t : Tm, t.vars.length ≤ t.size
  | .mk h ts => by
    have := varsL_len ts (if h < 0 then [-1 - h] else [])
    have h2 : (if h < 0 then [-1 - h] else ([] : List Int)).length ≤ 1 := by split <;> simp
    simp only [Tm.vars, Tm.size]; omega
theorem varsL_len : ∀ (ts : List Tm) (o : List Int), (Tm.varsL ts o).length ≤ o.length + Tm.sizes ts
  | [], o => by simp [Tm.varsL, Tm.sizes]
  | t :: ts, o => by
    have h1 := varsL_len ts (addNew o t.vars)
    have h2 := addNew_len t.vars o
    have h3 := vars_len t
    simp only [Tm.varsL, Tm.sizes]; omega
end

/-- A slice of one's own that begins as nil. -/
def slA (b : Nat) (sz : Nat) : List AVal → AVal
  | [] => .nils
  | x :: l => .os b 0 (l.length + 1) sz
def slB : List AVal → Option Blk
  | [] => none
  | x :: l => some (.row (x :: l) 0)


/-! ### numbers that fit -/
mutual
def Tm.fit : Tm → Prop
  | .mk h ts => In64 h ∧ Tm.fits ts
def Tm.fits : List Tm → Prop
  | [] => True
  | t :: ts => t.fit ∧ Tm.fits ts
end
theorem fits_get : ∀ {ts : List Tm}, Tm.fits ts → ∀ (i : Nat) (hi : i < ts.length), ts[i].fit
  | t :: ts, h, 0, _ => h.1
  | t :: ts, h, i + 1, hi => fits_get h.2 i (by simpa using hi)

theorem ints_cons (n : Int) (l : List Int) : ints (n :: l) = .int .i64 n :: ints l := rfl
theorem slA_nil (b sz : Nat) : slA b sz [] = .nils := rfl
theorem slA_cons (b sz : Nat) (x : AVal) (l : List AVal) : slA b sz (x :: l) = .os b 0 (l.length + 1) sz := rfl
theorem slB_nil : slB [] = none := rfl
theorem slB_cons (x : AVal) (l : List AVal) : slB (x :: l) = some (.row (x :: l) 0) := rfl
theorem slA_low {b n : Nat} (h : b < n) (sz : Nat) : ∀ l : List AVal, (slA b sz l).low n
  | [] => trivial
  | _ :: _ => h
theorem slB_lowO {n : Nat} : ∀ l : List AVal, lowL n l → lowO n (slB l)
  | [], _ => trivial
  | _ :: _, h => h
theorem slA_ne {b sz : Nat} {l : List AVal} (h : l ≠ []) : slA b sz l = .os b 0 l.length sz := by cases l; exact absurd rfl h; rfl
theorem slB_ne {l : List AVal} (h : l ≠ []) : slB l = some (.row l 0) := by cases l; exact absurd rfl h; rfl
theorem ints_ne {l : List Int} (h : l ≠ []) : ints l ≠ [] := by cases l; exact absurd rfl h; simp [ints]


theorem slA_snoc (b sz : Nat) (l : List AVal) (x : AVal) : slA b sz (l ++ [x]) = .os b 0 (l.length + 1) sz := by
  rw [slA_ne (by simp)]; simp
theorem slB_snoc (l : List AVal) (x : AVal) : slB (l ++ [x]) = some (.row (l ++ [x]) 0) := slB_ne (by simp)
theorem ints_add (l : List Int) (n : Int) : ints (l ++ [n]) = ints l ++ [.int .i64 n] := (ints_snoc l n).symm

theorem pT_slA {F : Nat → Bool} {σ : Store} {b sz : Nat} {l : List AVal} (hF : F b = true) (h : getS σ b = slB l) : pT F σ (.ps sz l) (slA b sz l) = True := by
  cases l with
  | nil => simp [slA, pT]
  | cons x l =>
    simp only [slA, pT_os, h, slB, pTrow_some, hF, List.drop_zero, List.length_cons]
    simp [pTL_refl]

theorem set_none {σ : Store} {b : Nat} (h : getS σ b = none) : σ.set b none = σ := by
  apply List.ext_getElem?
  intro c
  by_cases e : b = c
  · subst e
    rw [List.getElem?_set_self']
    simp only [getS] at h
    cases hc : σ[b]? with
    | none => rfl
    | some x => rw [hc] at h; simp at h; subst h; rfl
  · rw [List.getElem?_set_ne e]

open Classical in
theorem app_slA {σ : Store} {nm b sz bs : Nat} {ag : Bool} {z : List AVal} {key : KA} {l : List AVal} {x : AVal} (h : getS σ b = slB l) : appendA σ nm ⟨sz, ag, bs, z, key⟩ (slA b sz l) [x] = if appOk ⟨sz, ag, bs, z, key⟩ [x] ∧ l.length + 1 ≤ 1000000000 then some (.os nm 0 (l.length + 1) sz, setS (σ.set b none) nm (.row (l ++ [x]) 0)) else none := by
  cases l with
  | nil =>
    have h0 : getS σ b = none := h
    rw [set_none h0]
    simp [slA, app_nils]
  | cons y l =>
    simp only [slA]
    rw [app_os, h]
    simp only [slB, appRow_some, List.length_cons, List.length_nil, List.drop_zero]
    by_cases c : appOk ⟨sz, ag, bs, z, key⟩ [x]
    · simp only [c, if_true, true_and, Nat.zero_add, Nat.le_refl, Nat.zero_le, Nat.sub_self]
      rw [List.take_of_length_le (by simp)]
    · simp [c]


theorem slA_app {b sz : Nat} {l xs : List AVal} (h : xs ≠ []) : slA b sz (l ++ xs) = .os b 0 (l.length + xs.length) sz := by
  rw [slA_ne (by simp [h])]; simp
theorem slB_app {l xs : List AVal} (h : xs ≠ []) : slB (l ++ xs) = some (.row (l ++ xs) 0) := slB_ne (by simp [h])

open Classical in
theorem app_slA2 {σ : Store} {nm b sz bs : Nat} {ag : Bool} {z : List AVal} {key : KA} {l : List AVal} {x y : AVal} (h : getS σ b = slB l) : appendA σ nm ⟨sz, ag, bs, z, key⟩ (slA b sz l) [x, y] = if appOk ⟨sz, ag, bs, z, key⟩ [x, y] ∧ l.length + 2 ≤ 1000000000 then some (.os nm 0 (l.length + 2) sz, setS (σ.set b none) nm (.row (l ++ [x, y]) 0)) else none := by
  cases l with
  | nil =>
    have h0 : getS σ b = none := h
    rw [set_none h0]
    simp [slA, app_nils]
  | cons u l =>
    simp only [slA]
    rw [app_os, h]
    simp only [slB, appRow_some, List.length_cons, List.length_nil, List.drop_zero]
    by_cases c : appOk ⟨sz, ag, bs, z, key⟩ [x, y]
    · simp only [c, if_true, true_and, Nat.zero_add, Nat.le_refl, Nat.zero_le, Nat.sub_self]
      rw [List.take_of_length_le (by simp)]
    · simp [c]

end Go.Proofs
