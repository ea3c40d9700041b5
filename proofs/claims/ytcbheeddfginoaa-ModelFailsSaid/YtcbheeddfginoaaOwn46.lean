/- Part 46 of my own framework and of the walks of functions: Qd, Ml, Qe, Qf. -/
import Derived.Test.YtcbheeddfginoaaOwn45
set_option linter.unusedVariables false
set_option linter.unusedSimpArgs false

/- What is handed to a law, read as trees. -/
set_option linter.unusedSimpArgs false
namespace Go.Proofs
open Go Go.Abs

theorem len2 {l : List AVal} (h : l.length = 2) : ∃ a b, l = [a, b] := by
  rcases l with _ | ⟨a, _ | ⟨b, _ | ⟨c, l⟩⟩⟩ <;> first | exact ⟨_, _, rfl⟩ | simp at h
theorem len3 {l : List AVal} (h : l.length = 3) : ∃ a b c, l = [a, b, c] := by
  rcases l with _ | ⟨a, l⟩
  · simp at h
  · obtain ⟨b, c, rfl⟩ := len2 (l := l) (by simpa using h); exact ⟨_, _, _, rfl⟩
theorem len4 {l : List AVal} (h : l.length = 4) : ∃ a b c d, l = [a, b, c, d] := by
  rcases l with _ | ⟨a, l⟩
  · simp at h
  · obtain ⟨b, c, d, rfl⟩ := len3 (l := l) (by simpa using h); exact ⟨_, _, _, _, rfl⟩
theorem len5 {l : List AVal} (h : l.length = 5) : ∃ a b c d e, l = [a, b, c, d, e] := by
  rcases l with _ | ⟨a, l⟩
  · simp at h
  · obtain ⟨b, c, d, e, rfl⟩ := len4 (l := l) (by simpa using h); exact ⟨_, _, _, _, _, rfl⟩

theorem fits_of : ∀ {ts : List Tm}, (∀ t ∈ ts, t.fit) → Tm.fits ts
  | [], _ => trivial
  | t :: ts, h => ⟨h t List.mem_cons_self, fits_of fun x hx => h x (List.mem_cons_of_mem _ hx)⟩
theorem toA_agg (t : Tm) : isAggA t.toA = true := by rw [toA_eq]; rfl
theorem wd_agg (t : Wd) : isAggA t.toA = true := by rw [wd_eq]; rfl
theorem fo_agg (t : Fo) : isAggA t.toA = true := by rw [fo_eq]; rfl

theorem tm_tree : ∀ (n : Nat) (cs : List AVal), TyT Try.prog n 28 cs → ∃ t : Tm, cs = t.toA.cells ∧ t.fit := by
  intro n
  induction n using Nat.strongRecOn with
  | _ n ih =>
  intro cs h
  obtain ⟨m, rfl, h1, h2⟩ := TyT_flds (L := [(3, 0, 1), (26, 1, 1)]) (N := 2) (by kernel_rfl) (by kernel_rfl) h
  obtain ⟨i, e1, hi⟩ := TyT_int (by kernel_rfl) (h2 (3, 0, 1) (by simp))
  obtain ⟨m', rfl, es, e2, _, h4⟩ := TyT_elem (e := 28) (sz := 2) (ag := true) (by kernel_rfl) (h2 (26, 1, 1) (by simp))
  obtain ⟨ts, rfl, h5⟩ := list_map_of (f := Tm.toA) (p := Tm.fit) es fun x hx => by
    obtain ⟨g1, g2⟩ := h4 x hx
    obtain ⟨t, g3, g4⟩ := ih m' (by omega) _ g2
    exact ⟨t, agg_cells g1 (toA_agg t) g3, g4⟩
  obtain ⟨a, b, rfl⟩ := len2 h1
  simp at e1 e2
  subst e1 e2
  exact ⟨.mk i ts, by rw [toA_cells]; rfl, hi, fits_of h5⟩
theorem tm_arg {a : AVal} (h : TyV Try.prog 28 a) : ∃ t : Tm, a = t.toA ∧ t.fit := by
  obtain ⟨h1, n, h2⟩ := h
  obtain ⟨t, h3, h4⟩ := tm_tree n _ h2
  exact ⟨t, agg_cells (h1.trans (by kernel_rfl)) (toA_agg t) h3, h4⟩

theorem slice_arg {a : AVal} {t e : TypeId} {sz : Nat} {ag : Bool} (hs : sliceElem Try.prog t = some (e, sz, ag)) (ha : aggOf Try.prog t = false) (h : TyV Try.prog t a) : ∃ m es, a = .ps sz es ∧ es.length ≤ maxLen ∧ ∀ x ∈ es, isAggA x = ag ∧ TyT Try.prog m e x.cells := by
  obtain ⟨h1, n, h2⟩ := h
  obtain ⟨m, _, es, h3, h4, h5⟩ := TyT_elem hs h2
  exact ⟨m, es, lone_cells (h1.trans ha) h3, h4, h5⟩

theorem sy_tree (n : Nat) (cs : List AVal) (h : TyT Try.prog n 83 cs) : ∃ s : Sy, cs = s.toA.cells ∧ True := by
  obtain ⟨m, rfl, h1, h2⟩ := TyT_flds (L := [(9, 0, 1), (3, 1, 1), (3, 2, 1), (4, 3, 1)]) (N := 4) (by kernel_rfl) (by kernel_rfl) h
  obtain ⟨s, e1, _⟩ := TyT_str (by kernel_rfl) (h2 (9, 0, 1) (by simp))
  obtain ⟨i, e2, _⟩ := TyT_int (by kernel_rfl) (h2 (3, 1, 1) (by simp))
  obtain ⟨j, e3, _⟩ := TyT_int (by kernel_rfl) (h2 (3, 2, 1) (by simp))
  obtain ⟨b, e4⟩ := TyT_bool (by kernel_rfl) (h2 (4, 3, 1) (by simp))
  obtain ⟨x1, x2, x3, x4, rfl⟩ := len4 h1
  simp at e1 e2 e3 e4
  subst e1 e2 e3 e4
  exact ⟨⟨s, i, j, b⟩, rfl, trivial⟩
theorem syms_arg {a : AVal} (h : TyV Try.prog 22 a) : ∃ g : List Sy, a = .ps 4 (syms g) := by
  obtain ⟨m, es, rfl, _, h5⟩ := slice_arg (e := 83) (sz := 4) (ag := true) (by kernel_rfl) (by kernel_rfl) h
  obtain ⟨g, rfl, _⟩ := list_map_of (f := Sy.toA) (p := fun _ => True) es fun x hx => by
    obtain ⟨g1, g2⟩ := h5 x hx
    obtain ⟨s, g3, _⟩ := sy_tree m _ g2
    exact ⟨s, agg_cells g1 rfl g3, trivial⟩
  exact ⟨g, rfl⟩

theorem ints_tree {n : Nat} {cs : List AVal} (h : TyT Try.prog n 29 cs) : ∃ l : List Int, cs = [.ps 1 (ints l)] ∧ l.length ≤ maxLen ∧ ∀ i ∈ l, In64 i := by
  obtain ⟨m, _, es, h3, h4, h5⟩ := TyT_elem (e := 3) (sz := 1) (ag := false) (by kernel_rfl) h
  obtain ⟨l, rfl, hl⟩ := list_map_of (f := fun i => .int .i64 i) (p := In64) es fun x hx => by
    obtain ⟨g1, g2⟩ := h5 x hx
    obtain ⟨i, g3, g4⟩ := TyT_int (by kernel_rfl) g2
    exact ⟨i, lone_cells g1 g3, g4⟩
  exact ⟨l, h3, by simpa using h4, hl⟩
theorem ints_arg {a : AVal} (h : TyV Try.prog 29 a) : ∃ l : List Int, a = .ps 1 (ints l) ∧ l.length ≤ maxLen ∧ ∀ i ∈ l, In64 i := by
  obtain ⟨h1, n, h2⟩ := h
  obtain ⟨l, h3, h4⟩ := ints_tree h2
  exact ⟨l, lone_cells (h1.trans (by kernel_rfl)) h3, h4⟩

theorem wo_arg {a : AVal} (h : TyV Try.prog 25 a) : ∃ w : Wo, a = w.toA := by
  obtain ⟨h0, n, h⟩ := h
  obtain ⟨m, rfl, h1, h2⟩ := TyT_flds (L := [(3, 0, 1), (23, 1, 1)]) (N := 2) (by kernel_rfl) (by kernel_rfl) h
  obtain ⟨i, e1, hi⟩ := TyT_int (by kernel_rfl) (h2 (3, 0, 1) (by simp))
  obtain ⟨m', rfl, es, e2, _, h4⟩ := TyT_elem (e := 29) (sz := 1) (ag := false) (by kernel_rfl) (h2 (23, 1, 1) (by simp))
  obtain ⟨rs, rfl, _⟩ := list_map_of (f := fun r => .ps 1 (ints r)) (p := fun _ => True) es fun x hx => by
    obtain ⟨g1, g2⟩ := h4 x hx
    obtain ⟨l, g3, _⟩ := ints_tree g2
    exact ⟨l, lone_cells g1 g3, trivial⟩
  refine ⟨⟨i, rs⟩, agg_cells (h0.trans (by kernel_rfl)) rfl ?_⟩
  generalize a.cells = cs at *
  obtain ⟨x, y, rfl⟩ := len2 h1
  simp at e1 e2
  subst e1 e2
  rfl

theorem li_tree (n : Nat) (cs : List AVal) (h : TyT Try.prog n 57 cs) : ∃ l : Li, cs = l.toA.cells ∧ l.l.fit ∧ l.r.fit := by
  obtain ⟨m, rfl, h1, h2⟩ := TyT_flds (L := [(4, 0, 1), (28, 1, 2), (28, 3, 2)]) (N := 5) (by kernel_rfl) (by kernel_rfl) h
  obtain ⟨b, e1⟩ := TyT_bool (by kernel_rfl) (h2 (4, 0, 1) (by simp))
  obtain ⟨l, e2, f2⟩ := tm_tree m _ (h2 (28, 1, 2) (by simp))
  obtain ⟨r, e3, f3⟩ := tm_tree m _ (h2 (28, 3, 2) (by simp))
  obtain ⟨x1, x2, x3, x4, x5, rfl⟩ := len5 h1
  rw [toA_cells] at e2 e3
  simp at e1 e2 e3
  obtain ⟨rfl, rfl⟩ := e2
  obtain ⟨rfl, rfl⟩ := e3
  subst e1
  exact ⟨⟨b, l, r⟩, rfl, f2, f3⟩
theorem lits_arg {a : AVal} (h : TyV Try.prog 30 a) : ∃ c : List Li, a = .ps 5 (lits c) ∧ c.length ≤ maxLen ∧ Tm.fits (sides c) := by
  obtain ⟨m, es, rfl, h4, h5⟩ := slice_arg (e := 57) (sz := 5) (ag := true) (by kernel_rfl) (by kernel_rfl) h
  obtain ⟨c, rfl, hc⟩ := list_map_of (f := Li.toA) (p := fun l => l.l.fit ∧ l.r.fit) es fun x hx => by
    obtain ⟨g1, g2⟩ := h5 x hx
    obtain ⟨s, g3, g4⟩ := li_tree m _ g2
    exact ⟨s, agg_cells g1 rfl g3, g4⟩
  refine ⟨c, rfl, by simpa using h4, fits_of fun t ht => ?_⟩
  simp only [sides, List.mem_flatMap] at ht
  obtain ⟨l, hl, ht⟩ := ht
  simp only [List.mem_cons, List.not_mem_nil, or_false] at ht
  rcases ht with rfl | rfl
  · exact (hc l hl).1
  · exact (hc l hl).2
end Go.Proofs

/- Where a clause fails: what is told there. -/
namespace Go.Proofs
open Go Go.Abs

mutual
theorem val_congr {w : Wo} {f f' : Int → Int} : ∀ t : Tm, t.allV (fun v => f v = f' v) → t.val w f = t.val w f'
  | .mk h ts => fun ha => by
    simp only [Tm.allV] at ha
    simp only [Tm.val]
    by_cases c : h < 0
    · rw [if_pos c, if_pos c]; exact ha.1 c
    · rw [if_neg c, if_neg c, ats_congr ts ha.2]
theorem ats_congr {w : Wo} {f f' : Int → Int} : ∀ (ts : List Tm), Tm.allVs (fun v => f v = f' v) ts → ∀ {a : Int}, Tm.ats w f ts a = Tm.ats w f' ts a
  | [], _, a => rfl
  | t :: ts, ha, a => by
    simp only [Tm.allVs] at ha
    simp only [Tm.ats]
    rw [val_congr t ha.1, ats_congr ts ha.2]
end

theorem look_mem : ∀ (us rs : List Int) (i : Nat) (h1 : i < us.length) (h2 : i < rs.length), us.Nodup → look us rs us[i] = rs[i]
  | u :: us, r :: rs, 0, _, _, _ => by simp [look]
  | u :: us, r :: rs, i + 1, h1, h2, hn => by
    simp only [List.nodup_cons] at hn
    simp only [look, List.getElem_cons_succ]
    rw [if_neg (fun (e : us[i]'(by simpa using h1) = u) => hn.1 (by rw [← e]; exact List.getElem_mem _))]
    exact look_mem us rs i (by simpa using h1) (by simpa using h2) hn.2
theorem look_rev {us rs : List Int} (hl : us.length = rs.length) (hn : us.Nodup) {v : Int} (hv : v ∈ us) : look us.reverse rs.reverse v = look us rs v := by
  obtain ⟨i, hi, rfl⟩ := List.mem_iff_getElem.1 hv
  rw [look_mem us rs i hi (by omega) hn]
  have h1 : us.length - 1 - i < us.reverse.length := by rw [List.length_reverse]; omega
  have e1 : us.reverse[us.length - 1 - i]'h1 = us[i] := by rw [List.getElem_reverse]; congr 1; omega
  have h2 : us.length - 1 - i < rs.reverse.length := by rw [List.length_reverse]; omega
  have := look_mem us.reverse rs.reverse (us.length - 1 - i) h1 h2 ((List.reverse_perm us).nodup_iff.2 hn)
  rw [e1] at this
  rw [this, List.getElem_reverse]
  congr 1; omega

theorem rev_take {l : List Int} {i : Nat} (h : i < l.length) : (l.take (i + 1)).reverse = l[i] :: (l.take i).reverse := by
  rw [List.take_add_one, List.getElem?_eq_getElem h, List.reverse_append]; rfl
theorem ofArr_step {us rs : List Int} {i : Nat} (h1 : i < us.length) (h2 : i < rs.length) : ofArr (us.take (i + 1)).reverse (rs.take (i + 1)).reverse = (ofArr (us.take i).reverse (rs.take i).reverse).set us[i].toNat rs[i] := by
  rw [rev_take h1, rev_take h2]; rfl

/-- What fails: nothing, or a row at which no literal holds. -/
theorem fails_cases (g : List Sy) (w : Wo) (c : List Li) : ((fails g w c).1 = [] ∧ (fails g w c).2.1 = false) ∨
    ∃ row, fails g w c = (row, true, 0) ∧ worldOk g w = true ∧ clauseCheck g c = 0 ∧ row.length = (clauseVars c).length ∧ (∀ v ∈ row, 0 ≤ v ∧ v < w.size) ∧ anyHolds w (look (clauseVars c) row) c = false := by
  unfold fails
  by_cases c1 : worldOk g w = false
  · rw [if_pos c1]; exact .inl ⟨rfl, rfl⟩
  rw [if_neg c1]
  by_cases c2 : clauseCheck g c ≠ 0
  · rw [if_pos c2]; exact .inl ⟨rfl, rfl⟩
  rw [if_neg c2]
  by_cases c3 : 20000 < worldMany w c 20000
  · rw [if_pos c3]; exact .inl ⟨rfl, rfl⟩
  rw [if_neg c3]
  have c1' : worldOk g w = true := by simpa using c1
  obtain ⟨q1, q2, q3, _⟩ := worldOk_size c1'
  unfold failRow
  cases hf : (List.range (allRows w c)).find? fun (n : Nat) => !anyHolds w (look (clauseVars c) (digL w.size (clauseVars c).length n)) c with
  | none => exact .inl ⟨rfl, rfl⟩
  | some n =>
    have := List.find?_some hf
    refine .inr ⟨digL w.size (clauseVars c).length n, rfl, c1', by simpa using c2, digL_len _ _ _, digL_range q2 _ _, by simpa using this⟩

theorem cvars_len (c : List Li) : (clauseVars c).length ≤ Tm.sizes (sides c) := by
  have := varsL_len (sides c) []
  simpa [clauseVars] using this
theorem fails_len (g : List Sy) (w : Wo) (c : List Li) : (fails g w c).1.length ≤ Tm.sizes (sides c) := by
  rcases fails_cases g w c with ⟨h, _⟩ | ⟨row, h, _, _, hl, _⟩
  · rw [h]; exact Nat.zero_le _
  · rw [h]; have := cvars_len c; simp only; omega

theorem value_there {g : List Sy} {w : Wo} {c : List Li} {row : List Int} (hw : worldOk g w = true) (hc : clauseCheck g c = 0) (hl : row.length = (clauseVars c).length) (hr : ∀ v ∈ row, 0 ≤ v ∧ v < w.size) {t : Tm} (ht : t.allV (· ∈ clauseVars c)) (hok : t.term g = 0) :
    valueOf g w t (ofArr (clauseVars c).reverse row.reverse) = (t.val w (look (clauseVars c) row), 0) := by
  obtain ⟨q1, q2, q3, _⟩ := worldOk_size hw
  have hrange := cvars_range hc
  have hnd := cvars_nodup c
  have hget : ∀ v ∈ clauseVars c, (ofArr (clauseVars c).reverse row.reverse).getD v.toNat 0 = look (clauseVars c) row v := fun v hv => by
    rw [ofArr_get _ _ v (fun u hu => hrange u (List.mem_reverse.1 hu)) (hrange v hv).1 (hrange v hv).2, look_rev hl.symm hnd hv]
  have hbad : ∀ v ∈ clauseVars c, badV (ofArr (clauseVars c).reverse row.reverse) w.size v = false := fun v hv => by
    have := look_range q2 (clauseVars c) row v hr
    have := hrange v hv
    simp only [badV, hget v hv, ofArr_len, Bool.or_eq_false_iff, decide_eq_false_iff_not]
    omega
  have hvars := (vars_all (p := (· ∈ clauseVars c)) t).2 ht
  have hany : t.vars.any (badV (ofArr (clauseVars c).reverse row.reverse) w.size) = false := List.any_eq_false.2 fun v hv => by rw [hbad v (hvars v hv)]; decide
  have hok' : ∀ v ∈ t.vars, okF (ofArr (clauseVars c).reverse row.reverse) w.size v = look (clauseVars c) row v := fun v hv => by
    rw [okF, if_neg (by rw [hbad v (hvars v hv)]; decide), hget v (hvars v hv)]
  rw [valueOf, if_neg (by rw [hw]; decide), if_neg (by simp [hok]), if_neg (by rw [hany]; decide), val_congr t ((vars_all t).1 hok')]
end Go.Proofs

/- ModelTells: the walk. -/
set_option linter.unusedSimpArgs false
namespace Go.Proofs
open Go Go.Abs

theorem litsFew_facts {c : List Li} (h : litsFew c = true) : c.length ≤ 40 ∧ Tm.sizes (sides c) ≤ 500 := by
  simp only [litsFew, Bool.and_eq_true, decide_eq_true_eq] at h
  have := (cntS_small (sides c) 0 (by omega) (by omega)).2 h.2
  omega
theorem fewT_size {t : Tm} (h : t.cnt 500 ≤ 500) : t.size ≤ 500 := by
  have := cnt_small t 500 (by omega) h
  omega

set_option maxHeartbeats 1000000 in
theorem Tells_calls (g : List Sy) (w : Wo) (t : Tm) (of : List Int) (c : List Li) (hfit : t.fit) (hof : of.length ≤ maxLen) (hfc : Tm.fits (sides c)) {W : World} {vs : Array Value}
    (h2 : vs.size = ([.ps 4 (syms g), w.toA, t.toA, .ps 1 (ints of), .ps 5 (lits c)] : List AVal).length)
    (h3 : ∀ k, k < ([.ps 4 (syms g), w.toA, t.toA, .ps 1 (ints of), .ps 5 (lits c)] : List AVal).length → Rep W noM noB (vs.getD k undef) (([.ps 4 (syms g), w.toA, t.toA, .ps 1 (ints of), .ps 5 (lits c)] : List AVal).getD k .undef)) :
    Calls Try.prog 3 vs W fun e w' => e = .returned (.bool true) ∧ RowKit.Below W.heap.size W w' := by
  refine calls_true (args := [.ps 4 (syms g), w.toA, t.toA, .ps 1 (ints of), .ps 5 (lits c)]) (rs := [.tmp 10]) (m := 115) 1000 Try.func3 rfl rfl rfl rfl ?_ h2 h3
  clear h2 h3
  simp only [go_sem, Nat.reduceAdd, Nat.reduceSub, Nat.reduceMul, Nat.reduceLeDiff, Nat.reduceEqDiff, Nat.reduceBEq, Int.toNat_zero, decide_eq_true_eq, decide_eq_false_iff_not, Bool.not_eq_true, Bool.not_eq_false, Decidable.not_not, List.contains_cons, List.contains_nil, wo_eq, toA_eq, Nat.le_refl]
  rw [← wo_eq]
  refine VCall.isoT [] (Few28_eq g w c) (pTL_refl _ _ _) (by simp [go_sem, syms_low, wo_low, lits_low]) ?_; simp only [flatR, flatA, flatC, if_true]; refine EvK.go 1000 ?_
  cases hfew : (symsFew g && (w.few && litsFew c)) with
  | false => simp only [go_sem, Nat.reduceAdd, Nat.reduceSub, Nat.reduceMul, Nat.reduceLeDiff, Nat.reduceEqDiff, Nat.reduceBEq, Int.toNat_zero, decide_eq_true_eq, decide_eq_false_iff_not, Bool.not_eq_true, Bool.not_eq_false, Decidable.not_not, List.contains_cons, List.contains_nil]
  | true =>
  simp only [Bool.and_eq_true] at hfew
  obtain ⟨hc1, hc2⟩ := litsFew_facts hfew.2.2
  simp only [go_sem, Nat.reduceAdd, Nat.reduceSub, Nat.reduceMul, Nat.reduceLeDiff, Nat.reduceEqDiff, Nat.reduceBEq, Int.toNat_zero, decide_eq_true_eq, decide_eq_false_iff_not, Bool.not_eq_true, Bool.not_eq_false, Decidable.not_not, List.contains_cons, List.contains_nil, Nat.le_refl]
  rw [← toA_eq]
  refine VCall.isoT [] (FewT_eq t) (pTL_refl _ _ _) (by simp [go_sem, toA_low]) ?_; simp only [flatR, flatA, flatC, if_true]; refine EvK.go 1000 ?_
  by_cases c2 : t.cnt 500 ≤ 500
  case neg => simp only [go_sem, Nat.reduceAdd, Nat.reduceSub, Nat.reduceMul, Nat.reduceLeDiff, Nat.reduceEqDiff, Nat.reduceBEq, Int.toNat_zero, decide_eq_true_eq, decide_eq_false_iff_not, Bool.not_eq_true, Bool.not_eq_false, Decidable.not_not, List.contains_cons, List.contains_nil, c2]
  have hts := fewT_size c2
  by_cases c3 : 300 < (of.length : Int)
  case pos => simp only [go_sem, Nat.reduceAdd, Nat.reduceSub, Nat.reduceMul, Nat.reduceLeDiff, Nat.reduceEqDiff, Nat.reduceBEq, Int.toNat_zero, decide_eq_true_eq, decide_eq_false_iff_not, Bool.not_eq_true, Bool.not_eq_false, Decidable.not_not, List.contains_cons, List.contains_nil, c2, c3, ints_len]
  simp only [go_sem, Nat.reduceAdd, Nat.reduceSub, Nat.reduceMul, Nat.reduceLeDiff, Nat.reduceEqDiff, Nat.reduceBEq, Int.toNat_zero, decide_eq_true_eq, decide_eq_false_iff_not, Bool.not_eq_true, Bool.not_eq_false, Decidable.not_not, List.contains_cons, List.contains_nil, c2, c3, ints_len, Nat.le_refl]
  rw [← wo_eq]
  refine VCall.isoT [] (WorldMany_eq w c 700 (by decide) (by omega) hfc (by omega)) (pTL_refl _ _ _) (by simp [go_sem, wo_low, lits_low]) ?_; simp only [flatR, flatA, flatC, if_true]; refine EvK.go 1000 ?_
  by_cases c4 : 700 < worldMany w c 700
  case' neg => simp only [go_sem, Nat.reduceAdd, Nat.reduceSub, Nat.reduceMul, Nat.reduceLeDiff, Nat.reduceEqDiff, Nat.reduceBEq, Int.toNat_zero, decide_eq_true_eq, decide_eq_false_iff_not, Bool.not_eq_true, Bool.not_eq_false, Decidable.not_not, List.contains_cons, List.contains_nil, c4]
  case' pos =>
    by_cases c5 : w.size ≤ 4
    case' neg => simp only [go_sem, Nat.reduceAdd, Nat.reduceSub, Nat.reduceMul, Nat.reduceLeDiff, Nat.reduceEqDiff, Nat.reduceBEq, Int.toNat_zero, decide_eq_true_eq, decide_eq_false_iff_not, Bool.not_eq_true, Bool.not_eq_false, Decidable.not_not, List.contains_cons, List.contains_nil, c4, c5]
    case' pos =>
      simp only [go_sem, Nat.reduceAdd, Nat.reduceSub, Nat.reduceMul, Nat.reduceLeDiff, Nat.reduceEqDiff, Nat.reduceBEq, Int.toNat_zero, decide_eq_true_eq, decide_eq_false_iff_not, Bool.not_eq_true, Bool.not_eq_false, Decidable.not_not, List.contains_cons, List.contains_nil, c4, c5, Nat.le_refl]
      rw [← wo_eq]
      refine VCall.isoT [] (WorldMany_eq w c 30000 (by decide) (by omega) hfc (by omega)) (pTL_refl _ _ _) (by simp [go_sem, wo_low, lits_low]) ?_; simp only [flatR, flatA, flatC, if_true]; refine EvK.go 1000 ?_
      by_cases c6 : worldMany w c 30000 ≤ 30000
      case pos => simp only [go_sem, Nat.reduceAdd, Nat.reduceSub, Nat.reduceMul, Nat.reduceLeDiff, Nat.reduceEqDiff, Nat.reduceBEq, Int.toNat_zero, decide_eq_true_eq, decide_eq_false_iff_not, Bool.not_eq_true, Bool.not_eq_false, Decidable.not_not, List.contains_cons, List.contains_nil, c6]
      simp only [go_sem, Nat.reduceAdd, Nat.reduceSub, Nat.reduceMul, Nat.reduceLeDiff, Nat.reduceEqDiff, Nat.reduceBEq, Int.toNat_zero, decide_eq_true_eq, decide_eq_false_iff_not, Bool.not_eq_true, Bool.not_eq_false, Decidable.not_not, List.contains_cons, List.contains_nil, c6]
  all_goals
    rw [← wo_eq, ← toA_eq]
    refine VCall.isoT [] (ValueM_eq g w t of hfit (by omega)) (pTL_refl _ _ _) (by simp [go_sem, syms_low, wo_low, toA_low, ints_low]) ?_; rw [frzI_nil]; simp only [ite_self]; refine EvK.go 1000 ?_
    simp only [go_sem, Nat.reduceAdd, Nat.reduceSub, Nat.reduceMul, Nat.reduceLeDiff, Nat.reduceEqDiff, Nat.reduceBEq, Int.toNat_zero, decide_eq_true_eq, decide_eq_false_iff_not, Bool.not_eq_true, Bool.not_eq_false, Decidable.not_not, List.contains_cons, List.contains_nil, Nat.le_refl]
    rw [← wo_eq, ← toA_eq]
    refine VCall.isoT [] (ValueOf_eq g w t of hfit (by omega)) (pTL_refl _ _ _) (by simp [go_sem, syms_low, wo_low, toA_low, ints_low]) ?_; rw [frzI_nil]; simp only [ite_self]; refine EvK.go 1000 ?_
    simp only [go_sem, Nat.reduceAdd, Nat.reduceSub, Nat.reduceMul, Nat.reduceLeDiff, Nat.reduceEqDiff, Nat.reduceBEq, Int.toNat_zero, decide_eq_true_eq, decide_eq_false_iff_not, Bool.not_eq_true, Bool.not_eq_false, Decidable.not_not, List.contains_cons, List.contains_nil, Nat.le_refl]
    rw [← wo_eq]
    refine VCall.isoT [] (FailsM_eq g w c (by omega) hfc (by omega)) (pTL_refl _ _ _) (by simp [go_sem, syms_low, wo_low, lits_low]) ?_; rw [frzI_nil]; simp only [ite_self]; refine EvK.go 1000 ?_
    simp only [go_sem, Nat.reduceAdd, Nat.reduceSub, Nat.reduceMul, Nat.reduceLeDiff, Nat.reduceEqDiff, Nat.reduceBEq, Int.toNat_zero, decide_eq_true_eq, decide_eq_false_iff_not, Bool.not_eq_true, Bool.not_eq_false, Decidable.not_not, List.contains_cons, List.contains_nil, failsA_eq, Nat.le_refl]
    rw [← wo_eq]
    refine VCall.isoT [] (Fails28_eq g w c (by omega) hfc (by omega)) (pTL_refl _ _ _) (by simp [go_sem, syms_low, wo_low, lits_low]) ?_; rw [frzI_nil]; simp only [ite_self]; refine EvK.go 1000 ?_
    simp only [go_sem, Nat.reduceAdd, Nat.reduceSub, Nat.reduceMul, Nat.reduceLeDiff, Nat.reduceEqDiff, Nat.reduceBEq, Int.toNat_zero, decide_eq_true_eq, decide_eq_false_iff_not, Bool.not_eq_true, Bool.not_eq_false, Decidable.not_not, List.contains_cons, List.contains_nil, failsA_eq, Nat.le_refl]
    refine EvK.draw [] 2 2 mixed rfl rfl (Nat.le_refl _) ?_
    simp only [go_sem, Nat.reduceAdd, Nat.reduceSub, Nat.reduceMul, Nat.reduceLeDiff, Nat.reduceEqDiff, Nat.reduceBEq, Int.toNat_zero, decide_eq_true_eq, decide_eq_false_iff_not, Bool.not_eq_true, Bool.not_eq_false, Decidable.not_not, List.contains_cons, List.contains_nil, padS]
    refine draw_iso (Awake_eq) (pTL_refl _ _ _) (by simp [go_sem, ]) ?_
    simp only [go_sem, Nat.reduceAdd, Nat.reduceSub, Nat.reduceMul, Nat.reduceLeDiff, Nat.reduceEqDiff, Nat.reduceBEq, Int.toNat_zero, decide_eq_true_eq, decide_eq_false_iff_not, Bool.not_eq_true, Bool.not_eq_false, Decidable.not_not, List.contains_cons, List.contains_nil, Nat.le_refl]
    rw [← wo_eq]
    refine draw_iso (CheckM_eq g w) (pTL_refl _ _ _) (by simp [go_sem, syms_low, wo_low]) ?_
    simp only [go_sem, Nat.reduceAdd, Nat.reduceSub, Nat.reduceMul, Nat.reduceLeDiff, Nat.reduceEqDiff, Nat.reduceBEq, Int.toNat_zero, decide_eq_true_eq, decide_eq_false_iff_not, Bool.not_eq_true, Bool.not_eq_false, Decidable.not_not, List.contains_cons, List.contains_nil, Nat.le_refl]
    rw [← wo_eq]
    refine draw_iso (Check28_eq g w) (pTL_refl _ _ _) (by simp [go_sem, syms_low, wo_low]) ?_
    simp only [go_sem, Nat.reduceAdd, Nat.reduceSub, Nat.reduceMul, Nat.reduceLeDiff, Nat.reduceEqDiff, Nat.reduceBEq, Int.toNat_zero, decide_eq_true_eq, decide_eq_false_iff_not, Bool.not_eq_true, Bool.not_eq_false, Decidable.not_not, List.contains_cons, List.contains_nil, decide_true]
    have hfl := fails_len g w c
    refine draw_iso (Ints_eq _ _ (by omega)) (pTL_refl _ _ _) (by simp [go_sem, ints_low]) ?_
    simp only [go_sem, Nat.reduceAdd, Nat.reduceSub, Nat.reduceMul, Nat.reduceLeDiff, Nat.reduceEqDiff, Nat.reduceBEq, Int.toNat_zero, decide_eq_true_eq, decide_eq_false_iff_not, Bool.not_eq_true, Bool.not_eq_false, Decidable.not_not, List.contains_cons, List.contains_nil, decide_true, beq_self_eq_true]
    refine EvK.go 1000 ?_
    simp only [go_sem, Nat.reduceAdd, Nat.reduceSub, Nat.reduceMul, Nat.reduceLeDiff, Nat.reduceEqDiff, Nat.reduceBEq, Int.toNat_zero, decide_eq_true_eq, decide_eq_false_iff_not, Bool.not_eq_true, Bool.not_eq_false, Decidable.not_not, List.contains_cons, List.contains_nil]
end Go.Proofs

/- ModelFails: the walk. -/
set_option linter.unusedSimpArgs false
namespace Go.Proofs
open Go Go.Abs

set_option maxRecDepth 10000 in
set_option maxHeartbeats 1000000 in
theorem FailsLaw_calls (g : List Sy) (w : Wo) (c : List Li) (hfc : Tm.fits (sides c)) {W : World} {vs : Array Value}
    (h2 : vs.size = ([.ps 4 (syms g), w.toA, .ps 5 (lits c)] : List AVal).length)
    (h3 : ∀ k, k < ([.ps 4 (syms g), w.toA, .ps 5 (lits c)] : List AVal).length → Rep W noM noB (vs.getD k undef) (([.ps 4 (syms g), w.toA, .ps 5 (lits c)] : List AVal).getD k .undef)) :
    Calls Try.prog 5 vs W fun e w' => e = .returned (.bool true) ∧ RowKit.Below W.heap.size W w' := by
  refine calls_true (args := [.ps 4 (syms g), w.toA, .ps 5 (lits c)]) (rs := [.tmp 6]) (m := 130) 1000 Try.func5 rfl rfl rfl rfl ?_ h2 h3
  clear h2 h3
  simp only [go_sem, Nat.reduceAdd, Nat.reduceSub, Nat.reduceMul, Nat.reduceLeDiff, Nat.reduceEqDiff, Nat.reduceBEq, Int.toNat_zero, decide_eq_true_eq, decide_eq_false_iff_not, Bool.not_eq_true, Bool.not_eq_false, Decidable.not_not, List.contains_cons, List.contains_nil, wo_eq, Nat.le_refl]
  rw [← wo_eq]
  refine VCall.isoT [] (Few28_eq g w c) (pTL_refl _ _ _) (by simp [go_sem, syms_low, wo_low, lits_low]) ?_; simp only [flatR, flatA, flatC, if_true]; refine EvK.go 1000 ?_
  cases hfew : (symsFew g && (w.few && litsFew c)) with
  | false => simp only [go_sem, Nat.reduceAdd, Nat.reduceSub, Nat.reduceMul, Nat.reduceLeDiff, Nat.reduceEqDiff, Nat.reduceBEq, Int.toNat_zero, decide_eq_true_eq, decide_eq_false_iff_not, Bool.not_eq_true, Bool.not_eq_false, Decidable.not_not, List.contains_cons, List.contains_nil]
  | true =>
  simp only [Bool.and_eq_true] at hfew
  obtain ⟨hc1, hc2⟩ := litsFew_facts hfew.2.2
  simp only [go_sem, Nat.reduceAdd, Nat.reduceSub, Nat.reduceMul, Nat.reduceLeDiff, Nat.reduceEqDiff, Nat.reduceBEq, Int.toNat_zero, decide_eq_true_eq, decide_eq_false_iff_not, Bool.not_eq_true, Bool.not_eq_false, Decidable.not_not, List.contains_cons, List.contains_nil, Nat.le_refl]
  rw [← wo_eq]
  refine VCall.isoT [] (WorldMany_eq w c 700 (by decide) (by omega) hfc (by omega)) (pTL_refl _ _ _) (by simp [go_sem, wo_low, lits_low]) ?_; simp only [flatR, flatA, flatC, if_true]; refine EvK.go 1000 ?_
  by_cases c4 : 700 < worldMany w c 700
  case pos => simp only [go_sem, Nat.reduceAdd, Nat.reduceSub, Nat.reduceMul, Nat.reduceLeDiff, Nat.reduceEqDiff, Nat.reduceBEq, Int.toNat_zero, decide_eq_true_eq, decide_eq_false_iff_not, Bool.not_eq_true, Bool.not_eq_false, Decidable.not_not, List.contains_cons, List.contains_nil, c4]
  simp only [go_sem, Nat.reduceAdd, Nat.reduceSub, Nat.reduceMul, Nat.reduceLeDiff, Nat.reduceEqDiff, Nat.reduceBEq, Int.toNat_zero, decide_eq_true_eq, decide_eq_false_iff_not, Bool.not_eq_true, Bool.not_eq_false, Decidable.not_not, List.contains_cons, List.contains_nil, c4, Nat.le_refl]
  rw [← wo_eq]
  refine VCall.isoT [] (FailsM_eq g w c (by omega) hfc (by omega)) (pTL_refl _ _ _) (by simp [go_sem, syms_low, wo_low, lits_low]) ?_; rw [frzI_nil]; simp only [ite_self]; refine EvK.go 1000 ?_
  simp only [go_sem, Nat.reduceAdd, Nat.reduceSub, Nat.reduceMul, Nat.reduceLeDiff, Nat.reduceEqDiff, Nat.reduceBEq, Int.toNat_zero, decide_eq_true_eq, decide_eq_false_iff_not, Bool.not_eq_true, Bool.not_eq_false, Decidable.not_not, List.contains_cons, List.contains_nil, failsA_eq]
  refine VCall.isoT [] (VarsC_eq c (by omega) hfc (by omega)) (pTL_refl _ _ _) (by simp [go_sem, lits_low]) ?_; rw [frzI_nil]; simp only [ite_self]; refine EvK.go 1000 ?_
  rcases fails_cases g w c with ⟨hF1, hF2⟩ | ⟨row, hF, hw, hck, hrl, hrr, hany⟩
  · generalize fails g w c = F at *
    obtain ⟨l, is, e⟩ := F
    simp only at hF1 hF2
    subst hF1 hF2
    by_cases he : e = 0
    all_goals
      simp only [go_sem, Nat.reduceAdd, Nat.reduceSub, Nat.reduceMul, Nat.reduceLeDiff, Nat.reduceEqDiff, Nat.reduceBEq, Int.toNat_zero, decide_eq_true_eq, decide_eq_false_iff_not, Bool.not_eq_true, Bool.not_eq_false, Decidable.not_not, List.contains_cons, List.contains_nil, he, ints_nil]
      refine VCall.isoT [] (Awake_eq) (pTL_refl _ _ _) (by simp [go_sem, ]) ?_; simp only [flatR, flatA, flatC, if_true]; refine EvK.go 1000 ?_
      simp only [go_sem, Nat.reduceAdd, Nat.reduceSub, Nat.reduceMul, Nat.reduceLeDiff, Nat.reduceEqDiff, Nat.reduceBEq, Int.toNat_zero, decide_eq_true_eq, decide_eq_false_iff_not, Bool.not_eq_true, Bool.not_eq_false, Decidable.not_not, List.contains_cons, List.contains_nil, List.length_nil, Int.natCast_zero]
  rw [hF]
  have hrange := cvars_range hck
  have hval := fun (t : Tm) (h1 : t.allV (· ∈ clauseVars c)) (h2 : t.term g = 0) => value_there hw hck hrl hrr h1 h2
  have hall := (cvars_all (p := (· ∈ clauseVars c)) c).1 (fun v hv => hv)
  have hterm := (clauseCheck_zero hck).2
  have hfits := fits_sides hfc
  have hsz := fun (i : Nat) (h : i < c.length) => sizes_sides i h
  have hvn := cvars_len c
  generalize clauseVars c = vars at *
  have hvl : (row.length : Int) = vars.length := by omega
  simp only [go_sem, Nat.reduceAdd, Nat.reduceSub, Nat.reduceMul, Nat.reduceLeDiff, Nat.reduceEqDiff, Nat.reduceBEq, Int.toNat_zero, decide_eq_true_eq, decide_eq_false_iff_not, Bool.not_eq_true, Bool.not_eq_false, Decidable.not_not, List.contains_cons, List.contains_nil, Nat.le_refl, ints_len, hvl, -List.reduceReplicate, ints_rep]
  refine ⟨by decide, ?_⟩
  have hof0 : ofArr (vars.take 0).reverse (row.take 0).reverse = List.replicate 256 0 := rfl
  refine EvK.loopI (ι := {i : Nat // i ≤ vars.length}) 1000 (fun i => mkT 133 [(0, .ps 4 (syms g)), (2, .ps 5 (lits c)), (4, .ptr 0 0), (7, .ps 1 (ints row)), (10, .ps 1 (ints vars)), (11, .os 1 0 256 1), (12, .int .i64 i.1)]) (fun i => [some (.var [.int .i64 w.size, .ps 1 (rowsA w.rows)]), some (.row (ints (ofArr (vars.take i.1).reverse (row.take i.1).reverse)) 0)]) (fun i => vars.length - i.1) ⟨0, by omega⟩ ?_ (fun _ => Nat.zero_le _) ?_
  · simp only [go_sem, Nat.reduceAdd, Nat.reduceSub, Nat.reduceMul, Nat.reduceLeDiff, Nat.reduceEqDiff, Nat.reduceBEq, Int.toNat_zero, decide_eq_true_eq, decide_eq_false_iff_not, Bool.not_eq_true, Bool.not_eq_false, Decidable.not_not, List.contains_cons, List.contains_nil, syms_low, lits_low, ints_low, rowsA_low, hof0, Int.natCast_zero, -List.reduceReplicate]
    exact ⟨rfl, rfl, by decide⟩
  · rintro ⟨i, hi⟩
    by_cases hlt : (i : Int) < vars.length
    · have hlt' : i < vars.length := by omega
      have hlr : i < row.length := by omega
      have hst := ofArr_step hlt' hlr
      have hri := hrange _ (List.getElem_mem hlt')
      have n0 : ¬ vars[i] < 0 := by omega
      have n1 : ¬ 255 < vars[i] := by omega
      have hlen := ofArr_len (vars.take i).reverse (row.take i).reverse
      generalize ofArr (vars.take i).reverse (row.take i).reverse = A at *
      have hcell : ∃ u, (ints A).getD vars[i].toNat .undef = .int .i64 u := ⟨_, ints_get (by omega)⟩
      obtain ⟨u, hcell⟩ := hcell
      simp only [go_sem, Nat.reduceAdd, Nat.reduceSub, Nat.reduceMul, Nat.reduceLeDiff, Nat.reduceEqDiff, Nat.reduceBEq, Int.toNat_zero, decide_eq_true_eq, decide_eq_false_iff_not, Bool.not_eq_true, Bool.not_eq_false, Decidable.not_not, List.contains_cons, List.contains_nil, hlt, hvl, ints_len, Int.toNat_natCast, ints_get hlt', n0, n1]
      (repeat ((with_reducible refine And.intro ?_ ?_); · omega))
      refine EvK.draw [.no, .no, .no, .no, .no, .no, .no, .no, .no, .no, ⟨none, [1], []⟩] 2 2 mixed rfl rfl (Nat.le_refl _) ?_
      simp only [go_sem, Nat.reduceAdd, Nat.reduceSub, Nat.reduceMul, Nat.reduceLeDiff, Nat.reduceEqDiff, Nat.reduceBEq, Int.toNat_zero, decide_eq_true_eq, decide_eq_false_iff_not, Bool.not_eq_true, Bool.not_eq_false, Decidable.not_not, List.contains_cons, List.contains_nil, padS, ints_len, Int.toNat_natCast, ints_get hlt', ints_get hlr, hlen, hcell, ints_set]
      (repeat ((with_reducible refine And.intro ?_ ?_); · omega))
      refine EvK.go 1000 ?_
      simp only [go_sem, Nat.reduceAdd, Nat.reduceSub, Nat.reduceMul, Nat.reduceLeDiff, Nat.reduceEqDiff, Nat.reduceBEq, Int.toNat_zero, decide_eq_true_eq, decide_eq_false_iff_not, Bool.not_eq_true, Bool.not_eq_false, Decidable.not_not, List.contains_cons, List.contains_nil]
      refine ⟨⟨i + 1, hlt'⟩, ?_, by simp only; omega⟩
      simp only [go_sem, Nat.reduceAdd, Nat.reduceSub, Nat.reduceMul, Nat.reduceLeDiff, Nat.reduceEqDiff, Nat.reduceBEq, Int.toNat_zero, decide_eq_true_eq, decide_eq_false_iff_not, Bool.not_eq_true, Bool.not_eq_false, Decidable.not_not, List.contains_cons, List.contains_nil, syms_low, lits_low, ints_low, rowsA_low, hst]
      rw [i64_id (by omega)]
      exact ⟨rfl, by decide⟩
    · have hie : i = vars.length := by omega
      subst hie
      have e1 : vars.take vars.length = vars := List.take_length
      have e2 : row.take vars.length = row := by rw [← hrl, List.take_length]
      rw [e1, e2]
      simp only [go_sem, Nat.reduceAdd, Nat.reduceSub, Nat.reduceMul, Nat.reduceLeDiff, Nat.reduceEqDiff, Nat.reduceBEq, Int.toNat_zero, decide_eq_true_eq, decide_eq_false_iff_not, Bool.not_eq_true, Bool.not_eq_false, Decidable.not_not, List.contains_cons, List.contains_nil, hlt, hvl, ints_len]
      refine EvK.go 1000 ?_
      have hlen := ofArr_len vars.reverse row.reverse
      generalize ofArr vars.reverse row.reverse = A at *
      simp only [go_sem, Nat.reduceAdd, Nat.reduceSub, Nat.reduceMul, Nat.reduceLeDiff, Nat.reduceEqDiff, Nat.reduceBEq, Int.toNat_zero, decide_eq_true_eq, decide_eq_false_iff_not, Bool.not_eq_true, Bool.not_eq_false, Decidable.not_not, List.contains_cons, List.contains_nil]
      refine EvK.loopI (ι := {j : Nat // j ≤ c.length}) 1000 (fun j => mkT 133 [(0, .ps 4 (syms g)), (2, .ps 5 (lits c)), (4, .ptr 0 0), (11, .os 1 0 256 1), (13, .int .i64 j.1)]) (fun _ => [some (.var [.int .i64 w.size, .ps 1 (rowsA w.rows)]), some (.row (ints A) 0)]) (fun j => c.length - j.1) ⟨0, by omega⟩ ?_ (fun _ => Nat.zero_le _) ?_
      · simp only [go_sem, Nat.reduceAdd, Nat.reduceSub, Nat.reduceMul, Nat.reduceLeDiff, Nat.reduceEqDiff, Nat.reduceBEq, Int.toNat_zero, decide_eq_true_eq, decide_eq_false_iff_not, Bool.not_eq_true, Bool.not_eq_false, Decidable.not_not, List.contains_cons, List.contains_nil, syms_low, lits_low, ints_low, rowsA_low, Int.natCast_zero]
        decide
      · rintro ⟨j, hj⟩
        by_cases hjl : (j : Int) < c.length
        · have hjl' : j < c.length := by omega
          have hv1 := hval c[j].l (hall j hjl').1 (hterm j hjl').1
          have hv2 := hval c[j].r (hall j hjl').2 (hterm j hjl').2
          have hm1 := ValueM_eq g w c[j].l A (hfits j hjl').1 (by have := (hsz j hjl').1; omega)
          have hm2 := ValueM_eq g w c[j].r A (hfits j hjl').2 (by have := (hsz j hjl').2; omega)
          rw [hv1] at hm1
          rw [hv2] at hm2
          simp only at hm1 hm2
          have hh : c[j].holds w (look vars row) = false := by
            rw [anyHolds, List.any_eq_false] at hany
            simpa using hany c[j] (List.getElem_mem hjl')
          have hAl : (ints A).take 256 = ints A := List.take_of_length_le (by rw [ints_len, hlen]; exact Nat.le_refl _)
          simp only [go_sem, Nat.reduceAdd, Nat.reduceSub, Nat.reduceMul, Nat.reduceLeDiff, Nat.reduceEqDiff, Nat.reduceBEq, Int.toNat_zero, decide_eq_true_eq, decide_eq_false_iff_not, Bool.not_eq_true, Bool.not_eq_false, Decidable.not_not, List.contains_cons, List.contains_nil, hjl, lits_len]
          refine EvK.draw [] 2 2 mixed rfl rfl (Nat.le_refl _) ?_
          simp only [go_sem, Nat.reduceAdd, Nat.reduceSub, Nat.reduceMul, Nat.reduceLeDiff, Nat.reduceEqDiff, Nat.reduceBEq, Int.toNat_zero, decide_eq_true_eq, decide_eq_false_iff_not, Bool.not_eq_true, Bool.not_eq_false, Decidable.not_not, List.contains_cons, List.contains_nil, padS, lits_len, Int.toNat_natCast, lits_get hjl', li_cells, Nat.le_refl]
          (repeat ((with_reducible refine And.intro ?_ ?_); · omega))
          rw [← wo_eq, ← toA_eq]
          refine ⟨_, _, VCall.isoT [1] hm1 ?_ (by simp [go_sem, syms_low, wo_low, toA_low, ints_low]) ⟨rfl, rfl⟩, ?_, ?_⟩
          · simp only [go_sem, Nat.reduceAdd, Nat.reduceSub, Nat.reduceMul, Nat.reduceLeDiff, Nat.reduceEqDiff, Nat.reduceBEq, Int.toNat_zero, decide_eq_true_eq, decide_eq_false_iff_not, Bool.not_eq_true, Bool.not_eq_false, Decidable.not_not, List.contains_cons, List.contains_nil, among_cons, among_nil, ints_len, hlen, hAl]
          · rw [show flatR (.tup [.int .i64 (c[j].l.val w (look vars row)), .int .i64 0]) = true from rfl]
            simp only [go_sem, Nat.reduceAdd, Nat.reduceSub, Nat.reduceMul, Nat.reduceLeDiff, Nat.reduceEqDiff, Nat.reduceBEq, Int.toNat_zero, decide_eq_true_eq, decide_eq_false_iff_not, Bool.not_eq_true, Bool.not_eq_false, Decidable.not_not, List.contains_cons, List.contains_nil]
          rw [show flatR (.tup [.int .i64 (c[j].l.val w (look vars row)), .int .i64 0]) = true from rfl]
          simp only [go_sem, Nat.reduceAdd, Nat.reduceSub, Nat.reduceMul, Nat.reduceLeDiff, Nat.reduceEqDiff, Nat.reduceBEq, Int.toNat_zero, decide_eq_true_eq, decide_eq_false_iff_not, Bool.not_eq_true, Bool.not_eq_false, Decidable.not_not, List.contains_cons, List.contains_nil]
          refine EvK.go 1000 ?_
          simp only [go_sem, Nat.reduceAdd, Nat.reduceSub, Nat.reduceMul, Nat.reduceLeDiff, Nat.reduceEqDiff, Nat.reduceBEq, Int.toNat_zero, decide_eq_true_eq, decide_eq_false_iff_not, Bool.not_eq_true, Bool.not_eq_false, Decidable.not_not, List.contains_cons, List.contains_nil, lits_len]
          refine EvK.draw [] 2 2 mixed rfl rfl (Nat.le_refl _) ?_
          simp only [go_sem, Nat.reduceAdd, Nat.reduceSub, Nat.reduceMul, Nat.reduceLeDiff, Nat.reduceEqDiff, Nat.reduceBEq, Int.toNat_zero, decide_eq_true_eq, decide_eq_false_iff_not, Bool.not_eq_true, Bool.not_eq_false, Decidable.not_not, List.contains_cons, List.contains_nil, padS, lits_len, Int.toNat_natCast, lits_get hjl', li_cells, Nat.le_refl]
          (repeat ((with_reducible refine And.intro ?_ ?_); · omega))
          rw [← wo_eq, ← toA_eq]
          refine ⟨_, _, VCall.isoT [1] hm2 ?_ (by simp [go_sem, syms_low, wo_low, toA_low, ints_low]) ⟨rfl, rfl⟩, ?_, ?_⟩
          · simp only [go_sem, Nat.reduceAdd, Nat.reduceSub, Nat.reduceMul, Nat.reduceLeDiff, Nat.reduceEqDiff, Nat.reduceBEq, Int.toNat_zero, decide_eq_true_eq, decide_eq_false_iff_not, Bool.not_eq_true, Bool.not_eq_false, Decidable.not_not, List.contains_cons, List.contains_nil, among_cons, among_nil, ints_len, hlen, hAl]
          · rw [show flatR (.tup [.int .i64 (c[j].r.val w (look vars row)), .int .i64 0]) = true from rfl]
            simp only [go_sem, Nat.reduceAdd, Nat.reduceSub, Nat.reduceMul, Nat.reduceLeDiff, Nat.reduceEqDiff, Nat.reduceBEq, Int.toNat_zero, decide_eq_true_eq, decide_eq_false_iff_not, Bool.not_eq_true, Bool.not_eq_false, Decidable.not_not, List.contains_cons, List.contains_nil]
          rw [show flatR (.tup [.int .i64 (c[j].r.val w (look vars row)), .int .i64 0]) = true from rfl]
          simp only [go_sem, Nat.reduceAdd, Nat.reduceSub, Nat.reduceMul, Nat.reduceLeDiff, Nat.reduceEqDiff, Nat.reduceBEq, Int.toNat_zero, decide_eq_true_eq, decide_eq_false_iff_not, Bool.not_eq_true, Bool.not_eq_false, Decidable.not_not, List.contains_cons, List.contains_nil]
          refine EvK.go 1000 ?_
          have hb : (!(decide (c[j].l.val w (look vars row) = c[j].r.val w (look vars row)) == c[j].neg)) = false := by
            simp only [Li.holds] at hh
            cases hn : c[j].neg <;> rw [hn] at hh <;> by_cases e : c[j].l.val w (look vars row) = c[j].r.val w (look vars row) <;> simp [e] at hh ⊢
          simp only [go_sem, Nat.reduceAdd, Nat.reduceSub, Nat.reduceMul, Nat.reduceLeDiff, Nat.reduceEqDiff, Nat.reduceBEq, Int.toNat_zero, decide_eq_true_eq, decide_eq_false_iff_not, Bool.not_eq_true, Bool.not_eq_false, Decidable.not_not, List.contains_cons, List.contains_nil, lits_len, Int.toNat_natCast, lits_get hjl', li_cells, Nat.le_refl, hb]
          refine ⟨by omega, ⟨j + 1, hjl'⟩, ?_, by simp only; omega⟩
          rw [i64_id (by omega)]
          exact ⟨rfl, ⟨syms_low _, lits_low _, by decide, by decide⟩, rowsA_low _, ints_low _⟩
        · have hje : j = c.length := by omega
          subst hje
          simp only [go_sem, Nat.reduceAdd, Nat.reduceSub, Nat.reduceMul, Nat.reduceLeDiff, Nat.reduceEqDiff, Nat.reduceBEq, Int.toNat_zero, decide_eq_true_eq, decide_eq_false_iff_not, Bool.not_eq_true, Bool.not_eq_false, Decidable.not_not, List.contains_cons, List.contains_nil, hjl, lits_len]
          refine EvK.go 1000 ?_
          simp only [go_sem, Nat.reduceAdd, Nat.reduceSub, Nat.reduceMul, Nat.reduceLeDiff, Nat.reduceEqDiff, Nat.reduceBEq, Int.toNat_zero, decide_eq_true_eq, decide_eq_false_iff_not, Bool.not_eq_true, Bool.not_eq_false, Decidable.not_not, List.contains_cons, List.contains_nil]
          refine VCall.isoT [] (Awake_eq) (pTL_refl _ _ _) (by simp [go_sem, ]) ?_; simp only [flatR, flatA, flatC, if_true]; refine EvK.go 1000 ?_
          simp only [go_sem, Nat.reduceAdd, Nat.reduceSub, Nat.reduceMul, Nat.reduceLeDiff, Nat.reduceEqDiff, Nat.reduceBEq, Int.toNat_zero, decide_eq_true_eq, decide_eq_false_iff_not, Bool.not_eq_true, Bool.not_eq_false, Decidable.not_not, List.contains_cons, List.contains_nil]
end Go.Proofs
