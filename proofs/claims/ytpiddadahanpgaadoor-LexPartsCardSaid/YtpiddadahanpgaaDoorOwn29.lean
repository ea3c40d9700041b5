/- Part 29 of my own framework and of the walks of functions: AcsF. -/
import Derived.Test.YtpiddadahanpgaaDoorOwn28
import Derived.Below
import Derived.Carry
set_option linter.unusedVariables false
set_option linter.unusedSimpArgs false

/- From the framework to the kit's own statement of a call. -/
namespace Go.Abs
open Go

section
variable {P : Program}

theorem body_leaves {g : FuncId} {fn : Func} {c : Code} {args : List AVal} {σ : Store} {K : AVal → Store → Prop} (hf : P.funcs[g]? = some fn) (hb : fn.body = some c) (hname : (fn.name == "runtime.NumGoroutine") = false)
    (h : EvS P ⟨σ.length, none⟩ c (St.enter fn args σ) (bodyQ P fn K)) {X : Nat → Nat → Prop} {base : Nat} {β : Env} {w : World} {vs : Array Value} (h1 : RelS X base σ β w) (h2 : vs.size = args.length)
    (h3 : ∀ k, k < args.length → Rep w (MT X σ β) β (vs.getD k undef) (args.getD k .undef)) (cs : List Frame) :
    ∃ r σ' β' v w' fr', K r σ' ∧ Rep w' (MT X σ' β') β' v r ∧ Ext σ.length σ β w σ' β' w' ∧ Steps P (lone (Frame.enter P g vs .normal) cs w) (lone fr' cs w') ∧ fr'.fn = g ∧ fr'.leaving P w' (.returned v) := by
  let b : Frame := { (default : Frame) with fn := g, kind := .normal }
  have hname' : ¬ fn.name = "runtime.NumGoroutine" := by simpa using hname
  have henter : Frame.enter P g vs .normal = b.atR { tmps := vs ++ Array.replicate (fn.ntmps - vs.size) undef, defers := [] } [.code c] := by
    simp [Frame.enter, Frame.atR, hf, hb, b]; rfl
  have hrel : Rel X base w.heap.size (St.enter fn args σ) β { tmps := vs ++ Array.replicate (fn.ntmps - vs.size) undef, defers := [] } w := by
    refine ⟨h1, by simp only [St.enter, Array.size_append, Array.size_replicate, List.length_append, List.length_replicate, h2], fun k hk => ?_, ⟨[], rfl, List.nodup_nil, fun r hr => by simp at hr⟩⟩
    simp only [St.enter] at hk ⊢
    rw [list_getD_append, Array.getD_eq_getD_getElem?, Array.getElem?_append]
    by_cases c1 : k < args.length
    · rw [if_pos (by omega), if_pos c1, ← Array.getD_eq_getD_getElem?]; exact h3 k c1
    · rw [if_neg c1]
      have : (List.replicate (fn.ntmps - args.length) AVal.undef).getD (k - args.length) .undef = .undef := by
        simp [List.getD, List.getElem?_replicate]; split <;> rfl
      rw [this]; exact .undef _
  obtain ⟨e, st', β', a', w', q, r1, r2, r3, r4⟩ := h X base w.heap.size β _ w b [] cs (Nat.le_refl _) (Nat.le_refl _) hrel rfl
  rw [← henter] at r4
  have hq : ∃ r, resultsA P st' fn.results.toList = some r ∧ K r st'.σ := by cases e <;> first | exact q | exact q.elim
  obtain ⟨r, hr1, hr2⟩ := hq
  obtain ⟨todo, hst⟩ : ∃ todo, Steps P (lone (Frame.enter P g vs .normal) cs w) (lone { b.atR a' todo with mode := .returning } cs w') := by
    cases e with
    | normal => exact ⟨[], Steps.trans r4 (.one (stepR_end rfl))⟩
    | ret => obtain ⟨k', hk'⟩ := r4; exact ⟨_, Steps.trans hk' (.one (stepR_ret rfl))⟩
    | exit id => exact q.elim
    | goto l => exact q.elim
  obtain ⟨rs, m1, m2, m3⟩ := r2.d
  obtain ⟨w2, t1, t2, t3, t4, t5, t6, t7⟩ := take_marks (P := P) (fn := fn) rs w' { b.atR a' todo with mode := .returning } cs rfl m1 m2 m3
  -- the marks are no blocks of ours, and nobody reads them
  have hmo : ∀ r ∈ rs, ∀ o, ¬ Mof st'.σ β' r o := fun r hr => not_mof_of_obj r2.s (m3 r hr).2
  have hheap : ∀ (g' : Nat) (o : Obj), w'.heap[g']? = some o → (∀ d, o ≠ .deferred d) → w2.heap[g']? = some o := by
    intro g' o ho hne
    rw [t6 g' (fun r hr e => by subst e; rw [(m3 g' hr).2] at ho; cases ho; exact hne _ rfl)]; exact ho
  have hc2 : ∀ (g' o : Nat) (v : Value), w'.cell? ⟨g', o, none⟩ = some v → w2.cell? ⟨g', o, none⟩ = some v := by
    intro g' o v hc
    obtain ⟨c', e', fz, hg'⟩ : ∃ c' e' fz, w'.heap[g']? = some (.cells c' e' fz) := by
      simp only [World.cell?] at hc
      split at hc
      · rename_i c' e' fz hg'; exact ⟨_, _, _, hg'⟩
      · cases hc
    rw [World.cell?_of_block (w := w') (by rw [hheap _ _ hg' (fun d e => by cases e), hg'])]; exact hc
  have hk2 : Keeps w' (MT X st'.σ β') w2 (MT X st'.σ β') :=
    ⟨fun g' o v hc hn => ⟨hc2 g' o v hc, hn⟩, fun g' es cl hg hn => ⟨hheap _ _ hg (fun d e => by cases e), hn⟩⟩
  have hs2 : RelS X base st'.σ β' w2 := by
    refine ⟨r2.s.dom, fun b' blk hb' => ?_, r2.s.inj, by rw [t5]; exact r2.s.size, fun g' o hx => by rw [t5]; exact r2.s.xlt g' o hx, fun x hx => let ⟨g1, v, g2, g3⟩ := r2.s.gl x hx; ⟨g1, v, hc2 _ _ _ g2, g3⟩⟩
    obtain ⟨L, q1, q2, q3, q4⟩ := r2.s.blk b' blk hb'
    refine ⟨L, q1, q2, q3, q4.mono hk2 (fun _ _ h => h) ?_⟩
    cases blk with
    | var cs' => obtain ⟨c', e', h, _⟩ := q4; rw [hheap _ _ h (fun d e => by cases e), h]
    | row es fz => obtain ⟨c', e', h, _⟩ := q4; rw [hheap _ _ h (fun d e => by cases e), h]
    | map ks vs' fz => obtain ⟨c', e', h, _⟩ := q4; rw [hheap _ _ h (fun d e => by cases e), h]
    | iter s p => have h : w'.heap[L.g]? = some (.stringIter s p) := q4; rw [hheap _ _ h (fun d e => by cases e), h]
    | loop r' => obtain ⟨c', e', f', h, _⟩ := q4; rw [hheap _ _ h (fun d e => by cases e), h]
  have hrel2 : Rel X base w.heap.size st' β' { tmps := a'.tmps, defers := [] } w2 :=
    ⟨hs2, r2.n, fun k hk => (r2.t k hk).mono hk2 (fun _ _ h => h), ⟨[], rfl, List.nodup_nil, fun r hr => by simp at hr⟩⟩
  obtain ⟨x, hx1, hx2⟩ := run_resultsA hrel2 hr1
  have hext2 : Ext σ.length (St.enter fn args σ).σ β w st'.σ β' w2 := by
    refine ⟨t2.trans r3.os, t3.trans r3.tape, t4.trans r3.output, by rw [t5]; exact r3.size, fun g' o v hc hn => ?_, fun g' hg' hn => ?_, r3.newM, r3.env⟩
    · have hc' := r3.cell g' o v hc hn
      have hlt := block_lt hc
      rw [World.cell?_of_block (w := w') (a := ⟨g', o, none⟩) (t6 g' (fun r hr e => by have := (m3 r hr).1; omega))]; exact hc'
    · rw [t6 g' (fun r hr e => by have := (m3 r hr).1; omega)]; exact r3.block g' hg' hn
  refine ⟨r, st'.σ, β', x, w2, _, hr2, hx2, hext2, hst.trans t1, rfl, rfl, rfl, rfl, fn, hf, hx1⟩

theorem mof_nil' {β : Env} {g o : Nat} : ¬ Mof [] β g o := mof_nil

theorem relS_start {w : World} (hg : Glob w.heap.size w) : RelS noM w.heap.size [] noB w := ⟨fun _ _ => rfl, fun b x h => by simp at h, fun b b' x y L L' h => by simp at h, Nat.le_refl _, fun _ _ h => h.elim, hg⟩

/-- A LAW IS CALLED: handed these trees it returns true and nothing that was there is written. -/
theorem calls_true {g : FuncId} {fn : Func} {c : Code} {args : List AVal} {m : Nat} {rs : List ResultVar} (n : Nat) (hf : P.funcs[g]? = some fn) (hb : fn.body = some c) (hr : fn.results.toList = rs) (hm : fn.ntmps - args.length = m) (hname : (fn.name == "runtime.NumGoroutine") = false)
    (h : vcK P ⟨0, none⟩ (retQ P rs (isT (.bool true))) n [.code c] .normal (args ++ List.replicate m .undef) []) {w : World} {vs : Array Value} (hg : Glob w.heap.size w) (h2 : vs.size = args.length)
    (h3 : ∀ k, k < args.length → Rep w noM noB (vs.getD k undef) (args.getD k .undef)) : Calls P g vs w fun e w' => e = .returned (.bool true) ∧ RowKit.Below w.heap.size w w' := by
  intro cs
  subst hr hm
  have hM : MT noM [] noB = noM := by funext g o; simp [MT, noM, mof_nil]
  obtain ⟨r, σ', β', v, w', fr', k1, k2, k3, k4, k5, k6⟩ := body_leaves (args := args) (σ := []) (K := isT (.bool true)) hf hb hname (vcK_sound n _ _ _ _ h) (X := noM) (base := w.heap.size) (β := noB) (w := w) (relS_start hg) h2 (by rw [hM]; exact h3) cs
  have hr : r = .bool true := by
    have : pT (fun _ => true) σ' (.bool true) r := k1
    simpa [pT] using this
  subst hr
  have hv := k2.bool_inv
  subst hv
  exact ⟨.returned (.bool true), w', fr', ⟨rfl, k3.os, k3.tape, k3.output, k3.size, fun g hg => k3.block g hg fun o => mof_nil⟩, k4, k5, k6⟩

end
end Go.Abs
