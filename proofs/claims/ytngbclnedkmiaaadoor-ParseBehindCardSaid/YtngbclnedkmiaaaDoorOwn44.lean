/- Part 44 of my own framework and of the walks of functions: Lb. -/
import Derived.Test.YtngbclnedkmiaaaDoorOwn43
import Derived.WalkKit
import Derived.BigCall
set_option linter.unusedVariables false
set_option linter.unusedSectionVars false
set_option linter.unusedSimpArgs false

/- The library's functions on texts. -/
namespace Go.Proofs
open Go Go.Abs Go.RowKit

theorem maxLen_of {w : World} (h : Glob w.heap.size w) : ∃ m : Int, w.cell? ⟨0, 0, none⟩ = some (.int .i64 m) := by
  obtain ⟨_, v, h1, m, h2⟩ := h _ (List.mem_singleton.2 rfl)
  rw [h2] at h1
  exact ⟨m, h1⟩
theorem below_drewM (B : Nat) (w : World) : ∀ n, Below B w (w.drewN n) := fun n => ⟨rfl, rfl, rfl, Nat.le_refl _, fun _ _ => rfl⟩

theorem HasPre_eq (s p : ByteArray) : CallEq Tryd.prog 41 [.str s, .str p] (.bool (Lib.hasPrefix (bs s) (bs p))) :=
  CallEq.ofCalls Tryd.func41 rfl rfl (us := [.string s, .string p]) rfl rfl fun w _ => (Tryd.strings_HasPrefix s p w).mono fun e w' ⟨h1, h2⟩ => ⟨h1, h2 ▸ Below.refl _ _⟩
theorem IndexByte_eq (s : ByteArray) (c : Int) : CallEq Tryd.prog 52 [.str s, .int .u8 c] (.int .i64 (Lib.indexByte (bs s) c.toNat.toUInt8)) :=
  CallEq.ofCalls Tryd.func52 rfl rfl (us := [.string s, .int .u8 c]) rfl rfl fun w _ => (Tryd.strings_IndexByte s c w).mono fun e w' ⟨h1, h2⟩ => ⟨h1, h2 ▸ Below.refl _ _⟩
theorem TrimW_eq (s : ByteArray) : CallEq Tryd.prog 51 [.str s, .str ⟨#[32, 9, 10, 13]⟩] (.str (ofB ((bs s).dropWhile isW))) := by
  refine CallEq.ofCalls Tryd.func51 rfl rfl (us := [.string s, .string ⟨#[32, 9, 10, 13]⟩]) (u := .string (ofB ((bs s).dropWhile isW))) rfl rfl fun w _ => (Any.strings_TrimLeft_laid Tryd.lays161 (by kernel_rfl) s ⟨#[32, 9, 10, 13]⟩ w (by decide) (ascii_of_all (by decide))).mono ?_
  rintro e w' ⟨h1, h2⟩
  refine ⟨?_, h2⟩
  rw [h1]
  simp only [Lib.trimLeftS, ofB, bs]
  have : (fun x : UInt8 => [32, 9, 10, 13].contains x) = isW := by
    funext c
    simp only [isW, List.contains_cons, List.contains_nil, Bool.or_false, Bool.or_assoc]
  rw [this]
theorem Cut_eq (s p : ByteArray) (hs : s.size < 4294967281) : CallEq Tryd.prog 53 [.str s, .str p] (.tup [.str (ofB (Lib.cut (bs s) (bs p)).1), .str (ofB (Lib.cut (bs s) (bs p)).2.1), .bool (Lib.cut (bs s) (bs p)).2.2]) := by
  refine CallEq.ofCalls Tryd.func53 rfl rfl (us := [.string s, .string p]) (u := .tuple #[.string (ofB (Lib.cut (bs s) (bs p)).1), .string (ofB (Lib.cut (bs s) (bs p)).2.1), .bool (Lib.cut (bs s) (bs p)).2.2]) rfl rfl fun w hg => ?_
  obtain ⟨m, hm⟩ := maxLen_of hg
  refine (Tryd.strings_Cut s p m w hs hm).mono ?_
  rintro e w' ⟨h1, n, rfl⟩
  exact ⟨h1, below_drewM _ _ n⟩
def quoteV (s : ByteArray) : Value := match quoteB [] ((bs s).drop 1) with
  | none => .tuple #[.string ⟨#[]⟩, .int .i64 0]
  | some x => .tuple #[.string (ofB x.1), .int .i64 (s.size - x.2.length)]
theorem quoteV_none {s : ByteArray} (h : quoteB [] ((bs s).drop 1) = none) : quoteV s = .tuple #[.string ⟨#[]⟩, .int .i64 0] := by rw [quoteV, h]
theorem quoteV_some {s : ByteArray} {x : By × By} (h : quoteB [] ((bs s).drop 1) = some x) : quoteV s = .tuple #[.string (ofB x.1), .int .i64 (s.size - x.2.length)] := by rw [quoteV, h]
theorem drop_at {s : ByteArray} {k : Nat} (h : k < s.size) : (bs s).drop k = s[k] :: (bs s).drop (k + 1) := by
  rw [List.drop_eq_getElem_cons (by rw [bs_len]; exact h)]
  rfl
theorem u8_eq {c : UInt8} {n : Nat} (hn : n < 256) : c = UInt8.ofNat n ↔ c.toNat = n := by
  constructor
  · rintro rfl; rw [UInt8.toNat_ofNat']; omega
  · intro h; rw [← h, UInt8.ofNat_toNat]

set_option maxHeartbeats 4000000 in
set_option maxRecDepth 1000000 in
theorem quoted_walk (s : ByteArray) (w : World) (hs : s.size ≤ 1000000) :
    Calls Tryd.prog 54 #[.string s] w fun e w' => e = .returned (quoteV s) ∧ Below w.heap.size w w' := by
  go_enter Tryd.func54, Tryd.ntmps54
  go_wp2
  go_loopw [5] (fun i wr => ∃ (k : Nat) (acc : List UInt8), i = .int .i64 k ∧ 1 ≤ k ∧ k ≤ s.size + 1 ∧ acc.length ≤ k ∧ Lib.IsBuilder 104 5 w.heap.size w.heap.size (Lib.byteCells acc) wr ∧ Below w.heap.size w wr ∧ quoteB acc ((bs s).drop k) = quoteB [] ((bs s).drop 1)) (fun i _ => s.size + 1 - (RowKit.intOf i).toNat)
  case atStart =>
    refine ⟨1, [], rfl, by omega, by omega, by simp, Lib.fresh_isBuilder 104 5 w, (Below.refl _ w).alloc (Nat.le_refl _) _, rfl⟩
  case round =>
    obtain ⟨k, acc, rfl, hk1, hk2, hal, hI, hbw, hq⟩ := hrel
    have hsz : w.heap.size ≤ wr.heap.size := hbw.size
    have hlen : (Lib.byteCells acc).length + 1 ≤ 140737488355328 := by rw [Lib.byteCells_length]; omega
    by_cases hp : k < s.size
    · rw [drop_at hp] at hq
      have e39 : s[k] = 39 ↔ s[k].toNat = 39 := u8_eq (by decide)
      have e92 : s[k] = 92 ↔ s[k].toNat = 92 := u8_eq (by decide)
      by_cases c39 : s[k].toNat = 39
      · rw [e39.2 c39, quoteB_39] at hq
        by_cases ha : acc = []
        · rw [if_pos ha] at hq
          have hv := quoteV_none hq.symm
          subst ha
          go_wp2_with (first
            | (go_at_call 73; refine (Tryd.Builder_Len w.heap.size w.heap.size _ wr hI).mono ?_; rintro e w1 ⟨rfl, rfl⟩))
          all_goals first
            | (exfalso; simp [Lib.byteCells] at *; done)
            | (exfalso; omega)
            | skip
          all_goals go_ret2
          all_goals exact ⟨by first | (rw [hv]; rfl) | rfl, hbw⟩
        · rw [if_neg ha] at hq
          have hv : quoteV s = .tuple #[.string (ofB acc), .int .i64 ((s.size : Int) - ((bs s).drop (k + 1)).length)] := quoteV_some hq.symm
          have hal2 : 0 < acc.length := List.length_pos_iff.2 ha
          have hl2 : ((bs s).drop (k + 1)).length = s.size - (k + 1) := by rw [List.length_drop, bs_len]
          go_wp2_with (first
            | (go_at_call 73; refine (Tryd.Builder_Len w.heap.size w.heap.size _ wr hI).mono ?_; rintro e w1 ⟨rfl, rfl⟩)
            | (go_at_call 74; refine (Tryd.Builder_String_any w.heap.size w.heap.size acc _ hI hsz).mono ?_; rintro e w1 ⟨rfl, hb1⟩))
          all_goals first
            | (exfalso; rw [Lib.byteCells_length] at *; omega)
            | (exfalso; omega)
            | skip
          all_goals go_ret2
          all_goals
            refine ⟨?_, hbw.trans hb1⟩
            rw [hv, hl2]
            simp [ofB]
            omega
      · have n39 := fun h => c39 (e39.1 h)
        by_cases cb : s[k].toNat < 32 ∨ 126 < s[k].toNat
        · rw [quoteB_bad n39 cb] at hq
          have hv := quoteV_none hq.symm
          go_wp2
          all_goals first
            | (exfalso; omega)
            | skip
          all_goals go_ret2
          all_goals exact ⟨by first | (rw [hv]; rfl) | rfl, hbw⟩
        · by_cases c92 : s[k].toNat = 92
          · rw [e92.2 c92] at hq
            by_cases hp2 : k + 1 < s.size
            · rw [drop_at hp2, quoteB_two] at hq
              have f39 : s[k + 1] = 39 ↔ s[k + 1].toNat = 39 := u8_eq (by decide)
              have f92 : s[k + 1] = 92 ↔ s[k + 1].toNat = 92 := u8_eq (by decide)
              by_cases cd : s[k + 1].toNat = 92 ∨ s[k + 1].toNat = 39
              · rw [if_pos (cd.imp f92.2 f39.2)] at hq
                go_wp2_with (first
                  | (go_at_call 75; refine (Any.Builder_WriteByte Tryd.lays167 Tryd.Builder_Extra_167 w.heap.size w.heap.size _ _ wr hI hlen hsz).mono ?_; rintro e w1 ⟨rfl, hb1, hb2⟩))
                all_goals first
                  | (exfalso; omega)
                  | (exfalso; simp at *; omega)
                  | skip
                all_goals
                  refine ⟨⟨k + 2, acc ++ [s[k + 1]], by simp; omega, by omega, by omega, by simp; omega, ?_, hbw.trans hb2, hq⟩, by simp [RowKit.intOf]; omega⟩
                  rw [Lib.byteCells_append]
                  refine Or.inr ?_
                  first | exact hb1 | (simp only [Lib.byteCells, List.map_cons, List.map_nil] at *; simp_all; exact hb1)
              · rw [if_neg (fun h => cd (h.imp f92.1 f39.1))] at hq
                have hv := quoteV_none hq.symm
                go_wp2_with (first
                  | (go_at_call 75; refine (Any.Builder_WriteByte Tryd.lays167 Tryd.Builder_Extra_167 w.heap.size w.heap.size _ _ wr hI hlen hsz).mono ?_; rintro e w1 ⟨rfl, hb1, hb2⟩))
                all_goals first
                  | (exfalso; omega)
                  | (exfalso; simp at *; omega)
                  | skip
                all_goals go_ret2
                all_goals exact ⟨by first | (rw [hv]; rfl) | rfl, hbw⟩
            · have hd : (bs s).drop (k + 1) = [] := List.drop_eq_nil_of_le (by rw [bs_len]; omega)
              rw [hd, quoteB_92] at hq
              have hv := quoteV_none hq.symm
              go_wp2
              all_goals first
                | (exfalso; omega)
                | skip
              all_goals go_ret2
              all_goals exact ⟨by first | (rw [hv]; rfl) | rfl, hbw⟩
          · rw [quoteB_one n39 cb (fun h => c92 (e92.1 h))] at hq
            go_wp2_with (first
              | (go_at_call 75; refine (Any.Builder_WriteByte Tryd.lays167 Tryd.Builder_Extra_167 w.heap.size w.heap.size _ _ wr hI hlen hsz).mono ?_; rintro e w1 ⟨rfl, hb1, hb2⟩))
            all_goals first
              | (exfalso; omega)
              | (exfalso; simp at *; omega)
              | skip
            all_goals
              refine ⟨⟨k + 1, acc ++ [s[k]], by simp, by omega, by omega, by simp; omega, ?_, hbw.trans hb2, hq⟩, by simp [RowKit.intOf]; omega⟩
              rw [Lib.byteCells_append]
              exact Or.inr hb1
    · have hd : (bs s).drop k = [] := List.drop_eq_nil_of_le (by rw [bs_len]; omega)
      rw [hd, quoteB_nil] at hq
      have hv := quoteV_none hq.symm
      go_wp2
      all_goals first
        | (exfalso; omega)
        | skip
      all_goals go_ret2
      all_goals exact ⟨by first | (rw [hv]; rfl) | rfl, hbw⟩

def quoteA (s : ByteArray) : AVal := match quoteB [] ((bs s).drop 1) with
  | none => .tup [.str ⟨#[]⟩, .int .i64 0]
  | some x => .tup [.str (ofB x.1), .int .i64 (s.size - x.2.length)]
theorem Quoted_eq (s : ByteArray) (hs : s.size ≤ 1000000) : CallEq Tryd.prog 54 [.str s] (quoteA s) := by
  refine CallEq.ofCalls Tryd.func54 rfl rfl (us := [.string s]) (u := quoteV s) rfl ?_ fun w _ => quoted_walk s w hs
  unfold quoteA quoteV
  cases quoteB [] ((bs s).drop 1) <;> rfl
end Go.Proofs
