/- Part 37 of my own framework and of the walks of functions: AcsM. -/
import Derived.Test.YtngbclnedkmiaaaDoorOwn36
set_option linter.unusedVariables false
set_option linter.unusedSectionVars false
set_option linter.unusedSimpArgs false

/- Where branches meet again. -/
namespace Go.Abs
open Go

section
variable {P : Program} {lo : Ctx} {Q : AExit → St → Prop} {σ σ1 : Store} {tm T : List AVal}

theorem wr_le {s : St} {n : Nat} (h : leSt T σ1 s) : Wr n (fun b => b) ⟨T, σ1⟩ s := by
  obtain ⟨h1, h2, h3, h4⟩ := h
  refine ⟨fun b _ => rfl, fun b b' _ _ e => e, ?_, fun b x hb => ?_, h3, lowSo_spec h4⟩
  · simp only [renL_same (π := fun b => b) (fun _ => rfl) h3]; exact h1
  · rw [renB_id (fun b => b) σ1.length (fun b _ => rfl) x (lowSo_spec h4 b x hb)]
    exact leSo_spec h2 b x hb

/-- A piece of the code, and what is known behind it, whichever way it went. -/
theorem EvK.mid {c1 c2 : Code} {k : List KI} (n : Nat) (T : List AVal) (σ1 : Store) (hlo : lo.n ≤ σ1.length) (h1 : vcK P lo (fun e s => e = .normal ∧ leSt T σ1 s) n [.code c1] .normal tm σ)
    (h2 : EvK P lo Q (.code c2 :: k) .normal ⟨T, σ1⟩) : EvK P lo Q (.code c1 :: .code c2 :: k) .normal ⟨tm, σ⟩ := by
  have h := vcK_sound n _ _ _ _ h1
  refine EvS.mono (Q := fun e s => e = .normal ∧ leSt T σ1 s) h ?_
  rintro e s ⟨rfl, hs⟩
  exact EvK.wrC (wr_le hs) hlo h2

theorem EvK.split {c1 c2 : Code} {k : List KI} {st : St} (h : EvK P lo Q (.code c1 :: .code c2 :: k) .normal st) : EvK P lo Q (.code (.seq c1 c2) :: k) .normal st := by
  refine EvS.seq (EvS.mono (Q := fun e s => EvK P lo Q (.code c2 :: k) e s) h ?_)
  intro e s q
  cases e <;> exact q

/-- As far as the end of a piece. -/
theorem EvK.upto {c1 c2 : Code} {k : List KI} (n : Nat) (h1 : vcK P lo (fun e s => e = .normal ∧ EvK P lo Q (.code c2 :: k) .normal s) n [.code c1] .normal tm σ) : EvK P lo Q (.code c1 :: .code c2 :: k) .normal ⟨tm, σ⟩ := by
  have h := vcK_sound n _ _ _ _ h1
  refine EvS.mono (Q := fun e s => e = .normal ∧ EvK P lo Q (.code c2 :: k) .normal s) h ?_
  rintro e s ⟨rfl, hs⟩
  exact hs

theorem CallEq.beginK {g : FuncId} {fn : Func} {c : Code} {args : List AVal} {r : AVal} {m : Nat} {rs : List ResultVar} (hf : P.funcs[g]? = some fn) (hb : fn.body = some c) (hr : fn.results.toList = rs) (hm : fn.ntmps - args.length = m)
    (hname : (fn.name == "runtime.NumGoroutine") = false) (hl : r.low 0)
    (h : EvK P ⟨0, none⟩ (retQ P rs (isT r)) [.code c] .normal ⟨args ++ List.replicate m .undef, []⟩) : CallEq P g args r := by
  subst hr hm
  exact CallSh.pureT (CallSh.body hf hb hname h) hl
end
end Go.Abs
