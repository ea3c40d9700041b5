/- Part 41 of my own framework and of the walks of functions: AcsQ. -/
import Derived.Test.YtngbclnedkmiaaaDoorOwn40
set_option linter.unusedVariables false
set_option linter.unusedSectionVars false
set_option linter.unusedSimpArgs false

/- A call of which the library's own laws tell, where what is handed over and back is plain. -/
namespace Go.Abs
open Go

def litV : AVal → Option Value
  | .bool b => some (.bool b)
  | .int k n => some (.int k n)
  | .str s => some (.string s)
  | _ => none
def litsV : List AVal → Option (List Value)
  | [] => some []
  | a :: l => (litV a).bind fun v => (litsV l).map (v :: ·)
def resV : AVal → Option Value
  | .tup l => (litsV l).map fun vs => .tuple vs.toArray
  | a => litV a

section
variable {P : Program} {w : World} {M : Nat → Nat → Prop} {β : Env}
theorem rep_lit {v u : Value} {a : AVal} (h : Rep w M β v a) (hl : litV a = some u) : v = u := by
  cases a <;> simp [litV] at hl <;> subst hl <;> cases h <;> rfl
theorem lit_rep {u : Value} {a : AVal} (hl : litV a = some u) : Rep w M β u a := by
  cases a <;> simp [litV] at hl <;> subst hl <;> constructor
theorem rep_lits : ∀ {args : List AVal} {us : List Value} (_ : litsV args = some us) (vs : List Value) (_ : vs.length = args.length), (∀ k, k < args.length → Rep w M β (vs.getD k undef) (args.getD k .undef)) → vs = us
  | [], us, h, vs, hl, _ => by
    simp [litsV] at h; subst h
    exact List.eq_nil_of_length_eq_zero hl
  | a :: l, us, h, vs, hl, hr => by
    simp only [litsV, Option.bind_eq_some_iff, Option.map_eq_some_iff] at h
    obtain ⟨v, h1, us', h2, rfl⟩ := h
    match vs, hl with
    | x :: vs, hl =>
      have hx := rep_lit (hr 0 (by simp)) h1
      simp at hx; subst hx
      rw [rep_lits h2 vs (by simpa using hl) fun k hk => by have := hr (k + 1) (by simpa using hk); simpa using this]
theorem lits_len : ∀ {l : List AVal} {us : List Value}, litsV l = some us → us.length = l.length
  | [], us, h => by simp [litsV] at h; subst h; rfl
  | a :: l, us, h => by
    simp only [litsV, Option.bind_eq_some_iff, Option.map_eq_some_iff] at h
    obtain ⟨v, _, us', h2, rfl⟩ := h
    simp [lits_len h2]
theorem lits_rep : ∀ {l : List AVal} {us : List Value}, litsV l = some us → ∀ k, k < l.length → Rep w M β (us.getD k undef) (l.getD k .undef)
  | [], _, _, k, hk => absurd hk (by simp)
  | a :: l, us, h, k, hk => by
    simp only [litsV, Option.bind_eq_some_iff, Option.map_eq_some_iff] at h
    obtain ⟨v, h1, us', h2, rfl⟩ := h
    cases k with
    | zero => exact lit_rep h1
    | succ k => exact lits_rep h2 k (by simpa using hk)
theorem res_rep {u : Value} {a : AVal} (h : resV a = some u) : Rep w M β u a := by
  by_cases ht : ∃ l, a = .tup l
  · obtain ⟨l, rfl⟩ := ht
    simp only [resV, Option.map_eq_some_iff] at h
    obtain ⟨us, h1, rfl⟩ := h
    refine .tup (by simp [lits_len h1]) fun k hk => ?_
    have := lits_rep (w := w) (M := M) (β := β) h1 k hk
    simpa [Array.getD_eq_getD_getElem?, List.getD_eq_getElem?_getD] using this
  · have : resV a = litV a := by cases a <;> first | rfl | exact absurd ⟨_, rfl⟩ ht
    rw [this] at h; exact lit_rep h
theorem lit_low {a : AVal} {u : Value} (h : litV a = some u) (n : Nat) : a.low n := by
  cases a <;> simp [litV] at h <;> trivial
theorem lits_low : ∀ {l : List AVal} {us : List Value}, litsV l = some us → ∀ n, lowL n l
  | [], _, _, _ => trivial
  | a :: l, us, h, n => by
    simp only [litsV, Option.bind_eq_some_iff, Option.map_eq_some_iff] at h
    obtain ⟨v, h1, us', h2, rfl⟩ := h
    exact ⟨lit_low h1 n, lits_low h2 n⟩
theorem res_low {a : AVal} {u : Value} (h : resV a = some u) (n : Nat) : a.low n := by
  by_cases ht : ∃ l, a = .tup l
  · obtain ⟨l, rfl⟩ := ht
    simp only [resV, Option.map_eq_some_iff] at h
    obtain ⟨us, h1, rfl⟩ := h
    exact lits_low h1 n
  · have : resV a = litV a := by cases a <;> first | rfl | exact absurd ⟨_, rfl⟩ ht
    rw [this] at h; exact lit_low h n

theorem Glob.le {base b' : Nat} {w : World} (h : Glob base w) (hb : base ≤ b') : Glob b' w := fun x hx => ⟨Nat.lt_of_lt_of_le (h x hx).1 hb, (h x hx).2⟩

/-- From the library's way to tell of a call to mine. -/
theorem CallEq.ofCalls {g : FuncId} {fn : Func} {c : Code} {args : List AVal} {r : AVal} {us : List Value} {u : Value} (hf : P.funcs[g]? = some fn) (hb : fn.body = some c) (hname : (fn.name == "runtime.NumGoroutine") = false)
    (ha : litsV args = some us) (hr : resV r = some u) (h : ∀ w, Glob w.heap.size w → Calls P g us.toArray w fun e w' => e = .returned u ∧ RowKit.Below w.heap.size w w') : CallEq P g args r := by
  refine ⟨?_, res_low hr 0⟩
  intro X base β w vs h1 h2 h3 fr cs hfr
  have hname' : ¬ fn.name = "runtime.NumGoroutine" := by simpa using hname
  have hvs : vs = us.toArray := by
    have := rep_lits ha vs.toList (by simpa using h2) fun k hk => by
      have := h3 k hk
      simpa [Array.getD_eq_getD_getElem?, List.getD_eq_getElem?_getD] using this
    rw [← this]
  subst hvs
  obtain ⟨e, w', fr', ⟨rfl, hbel⟩, hc, hfn, hl⟩ := h w (h1.gl.le h1.size) (fr :: cs)
  have hcall : (callFunc g us.toArray).run P w = .ok (.enter g us.toArray) w := by simp [callFunc, hf, hname', hb]
  refine ⟨r, [], β, u, w', ⟨rfl, rfl⟩, (h1.kept hbel.size hbel.block).1, res_rep hr, ⟨hbel.os, hbel.tape, hbel.output, hbel.size, fun g' o v hcx _ => ?_, fun g' hg' _ => hbel.block g' hg', fun g' o hm => .inl hm, fun b hb => rfl⟩, Nat.le_refl _, Frame.enter P g us.toArray .normal, fr :: cs, w, ?_, ?_⟩
  · rw [World.cell?_of_block (w := w) (a := ⟨g', o, none⟩) (hbel.block g' (block_lt hcx))]; exact hcx
  · simp only [stepG.apply, if_true, Sem.runT_eq, hcall, GStep.bare_after, GStep.bare_go]
    split
    · rename_i d s a k e; exact absurd e (hfr _ _ _ _ _)
    · rfl
  · exact Steps.trans hc (.one (step_leave_returned hl))
end
end Go.Abs
