/- Part 46 of my own framework and of the walks of functions: Qd, Qk. -/
import Derived.Test.YtcbheeddfginoaaOwn45
set_option linter.unusedVariables false
set_option linter.unusedSimpArgs false

/- What is handed to a law, read as trees. -/
set_option linter.unusedSimpArgs false
namespace Go.Proofs
open Go Go.Abs

theorem len2 {l : List AVal} (h : l.length = 2) : ∃ a b, l = [a, b] := by
  rcases l with _ | ⟨a, _ | ⟨b, _ | ⟨c, l⟩⟩⟩ <;> first | exact ⟨_, _, rfl⟩ | simp at h
theorem len3 {l : List AVal} (h : l.length = 3) : ∃ a b c, l = [a, b, c] := by
  rcases l with _ | ⟨a, l⟩
  · simp at h
  · obtain ⟨b, c, rfl⟩ := len2 (l := l) (by simpa using h); exact ⟨_, _, _, rfl⟩
theorem len4 {l : List AVal} (h : l.length = 4) : ∃ a b c d, l = [a, b, c, d] := by
  rcases l with _ | ⟨a, l⟩
  · simp at h
  · obtain ⟨b, c, d, rfl⟩ := len3 (l := l) (by simpa using h); exact ⟨_, _, _, _, rfl⟩
theorem len5 {l : List AVal} (h : l.length = 5) : ∃ a b c d e, l = [a, b, c, d, e] := by
  rcases l with _ | ⟨a, l⟩
  · simp at h
  · obtain ⟨b, c, d, e, rfl⟩ := len4 (l := l) (by simpa using h); exact ⟨_, _, _, _, _, rfl⟩

theorem fits_of : ∀ {ts : List Tm}, (∀ t ∈ ts, t.fit) → Tm.fits ts
  | [], _ => trivial
  | t :: ts, h => ⟨h t List.mem_cons_self, fits_of fun x hx => h x (List.mem_cons_of_mem _ hx)⟩
theorem toA_agg (t : Tm) : isAggA t.toA = true := by rw [toA_eq]; rfl
theorem wd_agg (t : Wd) : isAggA t.toA = true := by rw [wd_eq]; rfl
theorem fo_agg (t : Fo) : isAggA t.toA = true := by rw [fo_eq]; rfl

theorem tm_tree : ∀ (n : Nat) (cs : List AVal), TyT Try.prog n 28 cs → ∃ t : Tm, cs = t.toA.cells ∧ t.fit := by
  intro n
  induction n using Nat.strongRecOn with
  | _ n ih =>
  intro cs h
  obtain ⟨m, rfl, h1, h2⟩ := TyT_flds (L := [(3, 0, 1), (26, 1, 1)]) (N := 2) (by kernel_rfl) (by kernel_rfl) h
  obtain ⟨i, e1, hi⟩ := TyT_int (by kernel_rfl) (h2 (3, 0, 1) (by simp))
  obtain ⟨m', rfl, es, e2, _, h4⟩ := TyT_elem (e := 28) (sz := 2) (ag := true) (by kernel_rfl) (h2 (26, 1, 1) (by simp))
  obtain ⟨ts, rfl, h5⟩ := list_map_of (f := Tm.toA) (p := Tm.fit) es fun x hx => by
    obtain ⟨g1, g2⟩ := h4 x hx
    obtain ⟨t, g3, g4⟩ := ih m' (by omega) _ g2
    exact ⟨t, agg_cells g1 (toA_agg t) g3, g4⟩
  obtain ⟨a, b, rfl⟩ := len2 h1
  simp at e1 e2
  subst e1 e2
  exact ⟨.mk i ts, by rw [toA_cells]; rfl, hi, fits_of h5⟩
theorem tm_arg {a : AVal} (h : TyV Try.prog 28 a) : ∃ t : Tm, a = t.toA ∧ t.fit := by
  obtain ⟨h1, n, h2⟩ := h
  obtain ⟨t, h3, h4⟩ := tm_tree n _ h2
  exact ⟨t, agg_cells (h1.trans (by kernel_rfl)) (toA_agg t) h3, h4⟩

theorem slice_arg {a : AVal} {t e : TypeId} {sz : Nat} {ag : Bool} (hs : sliceElem Try.prog t = some (e, sz, ag)) (ha : aggOf Try.prog t = false) (h : TyV Try.prog t a) : ∃ m es, a = .ps sz es ∧ es.length ≤ maxLen ∧ ∀ x ∈ es, isAggA x = ag ∧ TyT Try.prog m e x.cells := by
  obtain ⟨h1, n, h2⟩ := h
  obtain ⟨m, _, es, h3, h4, h5⟩ := TyT_elem hs h2
  exact ⟨m, es, lone_cells (h1.trans ha) h3, h4, h5⟩

theorem sy_tree (n : Nat) (cs : List AVal) (h : TyT Try.prog n 83 cs) : ∃ s : Sy, cs = s.toA.cells ∧ True := by
  obtain ⟨m, rfl, h1, h2⟩ := TyT_flds (L := [(9, 0, 1), (3, 1, 1), (3, 2, 1), (4, 3, 1)]) (N := 4) (by kernel_rfl) (by kernel_rfl) h
  obtain ⟨s, e1, _⟩ := TyT_str (by kernel_rfl) (h2 (9, 0, 1) (by simp))
  obtain ⟨i, e2, _⟩ := TyT_int (by kernel_rfl) (h2 (3, 1, 1) (by simp))
  obtain ⟨j, e3, _⟩ := TyT_int (by kernel_rfl) (h2 (3, 2, 1) (by simp))
  obtain ⟨b, e4⟩ := TyT_bool (by kernel_rfl) (h2 (4, 3, 1) (by simp))
  obtain ⟨x1, x2, x3, x4, rfl⟩ := len4 h1
  simp at e1 e2 e3 e4
  subst e1 e2 e3 e4
  exact ⟨⟨s, i, j, b⟩, rfl, trivial⟩
theorem syms_arg {a : AVal} (h : TyV Try.prog 22 a) : ∃ g : List Sy, a = .ps 4 (syms g) := by
  obtain ⟨m, es, rfl, _, h5⟩ := slice_arg (e := 83) (sz := 4) (ag := true) (by kernel_rfl) (by kernel_rfl) h
  obtain ⟨g, rfl, _⟩ := list_map_of (f := Sy.toA) (p := fun _ => True) es fun x hx => by
    obtain ⟨g1, g2⟩ := h5 x hx
    obtain ⟨s, g3, _⟩ := sy_tree m _ g2
    exact ⟨s, agg_cells g1 rfl g3, trivial⟩
  exact ⟨g, rfl⟩

theorem ints_tree {n : Nat} {cs : List AVal} (h : TyT Try.prog n 29 cs) : ∃ l : List Int, cs = [.ps 1 (ints l)] ∧ l.length ≤ maxLen ∧ ∀ i ∈ l, In64 i := by
  obtain ⟨m, _, es, h3, h4, h5⟩ := TyT_elem (e := 3) (sz := 1) (ag := false) (by kernel_rfl) h
  obtain ⟨l, rfl, hl⟩ := list_map_of (f := fun i => .int .i64 i) (p := In64) es fun x hx => by
    obtain ⟨g1, g2⟩ := h5 x hx
    obtain ⟨i, g3, g4⟩ := TyT_int (by kernel_rfl) g2
    exact ⟨i, lone_cells g1 g3, g4⟩
  exact ⟨l, h3, by simpa using h4, hl⟩
theorem ints_arg {a : AVal} (h : TyV Try.prog 29 a) : ∃ l : List Int, a = .ps 1 (ints l) ∧ l.length ≤ maxLen ∧ ∀ i ∈ l, In64 i := by
  obtain ⟨h1, n, h2⟩ := h
  obtain ⟨l, h3, h4⟩ := ints_tree h2
  exact ⟨l, lone_cells (h1.trans (by kernel_rfl)) h3, h4⟩

theorem wo_arg {a : AVal} (h : TyV Try.prog 25 a) : ∃ w : Wo, a = w.toA := by
  obtain ⟨h0, n, h⟩ := h
  obtain ⟨m, rfl, h1, h2⟩ := TyT_flds (L := [(3, 0, 1), (23, 1, 1)]) (N := 2) (by kernel_rfl) (by kernel_rfl) h
  obtain ⟨i, e1, hi⟩ := TyT_int (by kernel_rfl) (h2 (3, 0, 1) (by simp))
  obtain ⟨m', rfl, es, e2, _, h4⟩ := TyT_elem (e := 29) (sz := 1) (ag := false) (by kernel_rfl) (h2 (23, 1, 1) (by simp))
  obtain ⟨rs, rfl, _⟩ := list_map_of (f := fun r => .ps 1 (ints r)) (p := fun _ => True) es fun x hx => by
    obtain ⟨g1, g2⟩ := h4 x hx
    obtain ⟨l, g3, _⟩ := ints_tree g2
    exact ⟨l, lone_cells g1 g3, trivial⟩
  refine ⟨⟨i, rs⟩, agg_cells (h0.trans (by kernel_rfl)) rfl ?_⟩
  generalize a.cells = cs at *
  obtain ⟨x, y, rfl⟩ := len2 h1
  simp at e1 e2
  subst e1 e2
  rfl

theorem li_tree (n : Nat) (cs : List AVal) (h : TyT Try.prog n 57 cs) : ∃ l : Li, cs = l.toA.cells ∧ l.l.fit ∧ l.r.fit := by
  obtain ⟨m, rfl, h1, h2⟩ := TyT_flds (L := [(4, 0, 1), (28, 1, 2), (28, 3, 2)]) (N := 5) (by kernel_rfl) (by kernel_rfl) h
  obtain ⟨b, e1⟩ := TyT_bool (by kernel_rfl) (h2 (4, 0, 1) (by simp))
  obtain ⟨l, e2, f2⟩ := tm_tree m _ (h2 (28, 1, 2) (by simp))
  obtain ⟨r, e3, f3⟩ := tm_tree m _ (h2 (28, 3, 2) (by simp))
  obtain ⟨x1, x2, x3, x4, x5, rfl⟩ := len5 h1
  rw [toA_cells] at e2 e3
  simp at e1 e2 e3
  obtain ⟨rfl, rfl⟩ := e2
  obtain ⟨rfl, rfl⟩ := e3
  subst e1
  exact ⟨⟨b, l, r⟩, rfl, f2, f3⟩
theorem lits_arg {a : AVal} (h : TyV Try.prog 30 a) : ∃ c : List Li, a = .ps 5 (lits c) ∧ c.length ≤ maxLen ∧ Tm.fits (sides c) := by
  obtain ⟨m, es, rfl, h4, h5⟩ := slice_arg (e := 57) (sz := 5) (ag := true) (by kernel_rfl) (by kernel_rfl) h
  obtain ⟨c, rfl, hc⟩ := list_map_of (f := Li.toA) (p := fun l => l.l.fit ∧ l.r.fit) es fun x hx => by
    obtain ⟨g1, g2⟩ := h5 x hx
    obtain ⟨s, g3, g4⟩ := li_tree m _ g2
    exact ⟨s, agg_cells g1 rfl g3, g4⟩
  refine ⟨c, rfl, by simpa using h4, fits_of fun t ht => ?_⟩
  simp only [sides, List.mem_flatMap] at ht
  obtain ⟨l, hl, ht⟩ := ht
  simp only [List.mem_cons, List.not_mem_nil, or_false] at ht
  rcases ht with rfl | rfl
  · exact (hc l hl).1
  · exact (hc l hl).2
end Go.Proofs

/- Words and formulas that are handed to a law, read as trees. -/
set_option linter.unusedSimpArgs false
namespace Go.Proofs
open Go Go.Abs

theorem wd_tree : ∀ (n : Nat) (cs : List AVal), TyT Try.prog n 45 cs → ∃ y : Wd, cs = y.toA.cells ∧ True := by
  intro n
  induction n using Nat.strongRecOn with
  | _ n ih =>
  intro cs h
  obtain ⟨m, rfl, h1, h2⟩ := TyT_flds (L := [(4, 0, 1), (9, 1, 1), (43, 2, 1)]) (N := 3) (by kernel_rfl) (by kernel_rfl) h
  obtain ⟨b, e1⟩ := TyT_bool (by kernel_rfl) (h2 (4, 0, 1) (by simp))
  obtain ⟨x, e2, _⟩ := TyT_str (by kernel_rfl) (h2 (9, 1, 1) (by simp))
  obtain ⟨m', rfl, es, e3, _, h4⟩ := TyT_elem (e := 45) (sz := 3) (ag := true) (by kernel_rfl) (h2 (43, 2, 1) (by simp))
  obtain ⟨ts, rfl, h5⟩ := list_map_of (f := Wd.toA) (p := fun _ => True) es fun x hx => by
    obtain ⟨g1, g2⟩ := h4 x hx
    obtain ⟨t, g3, g4⟩ := ih m' (by omega) _ g2
    exact ⟨t, agg_cells g1 (wd_agg t) g3, g4⟩
  obtain ⟨a, b, c, rfl⟩ := len3 h1
  simp at e1 e2 e3
  subst e1 e2 e3
  exact ⟨.mk _ _ ts, by rw [wd_cells]; rfl, trivial⟩

theorem ffits_of : ∀ {ps : List Fo}, (∀ p ∈ ps, p.fit) → Fo.fits ps
  | [], _ => trivial
  | p :: ps, h => ⟨h p List.mem_cons_self, ffits_of fun x hx => h x (List.mem_cons_of_mem _ hx)⟩
theorem len9 {l : List AVal} (h : l.length = 9) : ∃ a b c d e f g i j, l = [a, b, c, d, e, f, g, i, j] := by
  rcases l with _ | ⟨a, _ | ⟨b, _ | ⟨c, _ | ⟨d, l⟩⟩⟩⟩ <;> try (simp at h; done)
  obtain ⟨e, f, g, i, j, rfl⟩ := len5 (l := l) (by simpa using h)
  exact ⟨_, _, _, _, _, _, _, _, _, rfl⟩
theorem strBytes : Try.prog.bytesOf 9 = 16 := by kernel_rfl

theorem fo_tree : ∀ (n : Nat) (cs : List AVal), TyT Try.prog n 49 cs → ∃ f : Fo, cs = f.toA.cells ∧ f.fit := by
  intro n
  induction n using Nat.strongRecOn with
  | _ n ih =>
  intro cs h
  obtain ⟨m, rfl, h1, h2⟩ := TyT_flds (L := [(3, 0, 1), (45, 1, 3), (45, 4, 3), (46, 7, 1), (47, 8, 1)]) (N := 9) (by kernel_rfl) (by kernel_rfl) h
  obtain ⟨k, e1, _⟩ := TyT_int (by kernel_rfl) (h2 (3, 0, 1) (by simp))
  obtain ⟨l, e2, _⟩ := wd_tree m _ (h2 (45, 1, 3) (by simp))
  obtain ⟨r, e3, _⟩ := wd_tree m _ (h2 (45, 4, 3) (by simp))
  obtain ⟨m1, e0, ns, e4, hns, h4⟩ := TyT_elemB (e := 9) (sz := 1) (ag := false) (by kernel_rfl) (h2 (46, 7, 1) (by simp))
  obtain ⟨m', rfl, es, e5, _, h5⟩ := TyT_elem (e := 49) (sz := 9) (ag := true) (by kernel_rfl) (h2 (47, 8, 1) (by simp))
  obtain ⟨nm, rfl, _⟩ := list_map_of (f := fun x => .str x) (p := fun _ => True) ns fun x hx => by
    obtain ⟨g1, g2⟩ := h4 x hx
    obtain ⟨i, g3, g4⟩ := TyT_str (by kernel_rfl) g2
    exact ⟨i, lone_cells g1 g3, trivial⟩
  obtain ⟨ps, rfl, h6⟩ := list_map_of (f := Fo.toA) (p := Fo.fit) es fun x hx => by
    obtain ⟨g1, g2⟩ := h5 x hx
    obtain ⟨t, g3, g4⟩ := ih m' (by omega) _ g2
    exact ⟨t, agg_cells g1 (fo_agg t) g3, g4⟩
  have hnl : (nm.length : Int) < 2 ^ 50 := by
    have := hns.2
    rw [strBytes, List.length_map] at this
    have := reachBytes_lt
    omega
  obtain ⟨x0, x1, x2, x3, x4, x5, x6, x7, x8, rfl⟩ := len9 h1
  rw [wd_cells] at e2 e3
  simp at e1 e2 e3 e4 e5
  obtain ⟨rfl, rfl, rfl⟩ := e2
  obtain ⟨rfl, rfl, rfl⟩ := e3
  subst e1 e4 e5
  exact ⟨.mk k l r nm ps, by rw [fo_cells]; rfl, hnl, ffits_of h6⟩
theorem fo_arg {a : AVal} (h : TyV Try.prog 49 a) : ∃ f : Fo, a = f.toA ∧ f.fit := by
  obtain ⟨h1, n, h2⟩ := h
  obtain ⟨f, h3, h4⟩ := fo_tree n _ h2
  exact ⟨f, agg_cells (h1.trans (by kernel_rfl)) (fo_agg f) h3, h4⟩
end Go.Proofs
