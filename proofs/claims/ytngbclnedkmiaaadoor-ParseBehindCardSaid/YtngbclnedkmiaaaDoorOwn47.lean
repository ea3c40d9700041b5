/- Part 47 of my own framework and of the walks of functions: AcsS. -/
import Derived.Test.YtngbclnedkmiaaaDoorOwn46
set_option linter.unusedVariables false
set_option linter.unusedSectionVars false
set_option linter.unusedSimpArgs false

/- Deferred calls, and recovering. -/
namespace Go.Abs
open Go

/-- What a function value without arguments is as a deferred call. -/
def dOf : Value → Deferred
  | .func fn first captured => { target := .fn fn captured, args := first ++ #[] }
  | _ => { target := .nil, args := #[] }

/-- A function value without arguments is called as a deferred call of a frame that is left. -/
def VDefG (P : Program) (f : AVal) (σ : Store) (md md' : FrameMode) (K : Store → Prop) : Prop :=
  ∀ (X : Nat → Nat → Prop) (base : Nat) (β : Env) (w : World) (vf : Value), RelS X base σ β w → Rep w (MT X σ β) β vf f → ∀ (fr : Frame) (cs : List Frame) (ds : List Deferred), fr.mode = md →
    ∃ σ' β' w', K σ' ∧ RelS X base σ' β' w' ∧ Ext σ.length σ β w σ' β' w' ∧ σ.length ≤ σ'.length ∧ Steps P (lone { fr with defers := dOf vf :: ds } cs w) (lone { fr with defers := ds, mode := md' } cs w')

section
variable {P : Program} {σ : Store}

theorem getD_args {first captured args : List AVal} {fa ca vs : Array Value} {M : Nat → Nat → Prop} {β : Env} {w : World} (e1 : fa.size = first.length) (h2 : vs.size = args.length)
    (r1 : ∀ k, k < first.length → Rep w M β (fa.getD k undef) (first.getD k .undef)) (h3 : ∀ k, k < args.length → Rep w M β (vs.getD k undef) (args.getD k .undef)) (r2 : ∀ k, k < captured.length → Rep w M β (ca.getD k undef) (captured.getD k .undef)) :
    ∀ k, k < (first ++ args ++ captured).length → Rep w M β ((fa ++ vs ++ ca).getD k undef) ((first ++ args ++ captured).getD k .undef) := fun k hk => by
  simp only [List.length_append] at hk
  rw [list_getD_append, list_getD_append, getD_append3]
  simp only [List.length_append]
  by_cases c1 : k < first.length
  · rw [if_pos (by omega), if_pos (by omega), if_pos c1]; exact r1 k c1
  · by_cases c2 : k < first.length + args.length
    · rw [if_neg (by omega), if_pos (by omega), if_pos c2, if_neg c1, e1]; exact h3 _ (by omega)
    · rw [if_neg (by omega), if_neg (by omega), if_neg c2, e1, h2]; exact r2 _ (by omega)

theorem VDefG.mono {f : AVal} {md md' : FrameMode} {K K' : Store → Prop} (h : VDefG P f σ md md' K) (hk : ∀ s, K s → K' s) : VDefG P f σ md md' K' := by
  intro X base β w vf h1 h2 fr cs ds h3
  obtain ⟨σ', β', w', q, rest⟩ := h X base β w vf h1 h2 fr cs ds h3
  exact ⟨σ', β', w', hk _ q, rest⟩

/-- The frame is left: by a return, or by a panic that nobody has recovered yet. -/
def LeftM (md : FrameMode) : Prop := md = .returning ∨ ∃ u, md = .panicking [{ v := u, recovered := false }]

theorem enter_deferred {g : FuncId} {fn : Func} {c : Code} {fa ca : Array Value} {fr : Frame} {cs : List Frame} {ds : List Deferred} {w : World} (hf : P.funcs[g]? = some fn) (hb : fn.body = some c) (hname : (fn.name == "runtime.NumGoroutine") = false) (hm : LeftM fr.mode) :
    step P (lone { fr with defers := dOf (.func (.func g) fa ca) :: ds } cs w) = .next (lone (Frame.enter P g (fa ++ #[] ++ ca) .deferred) ({ fr with defers := ds } :: cs) w) := by
  have hname' : ¬ fn.name = "runtime.NumGoroutine" := by simpa using hname
  have hcall : (invoke (.fn (.func g) ca) fa).run P w = .ok (.enter g (fa ++ ca)) w := by
    simp [invoke, callFunc, hf, hname', hb]
  refine step_lone_go ?_
  rcases hm with hm | ⟨u, hm⟩
  · simp [stepG, unwind, hm, dOf, callDeferred, Sem.runT_eq, hcall]
  · simp [stepG, unwind, hm, dOf, callDeferred, Sem.runT_eq, hcall]

theorem VDefG.body {g : FuncId} {fn : Func} {c : Code} {first captured : List AVal} {K : Store → Prop} {md : FrameMode} (hf : P.funcs[g]? = some fn) (hb : fn.body = some c) (hname : (fn.name == "runtime.NumGoroutine") = false) (hmd : LeftM md)
    (h : EvS P ⟨σ.length, none⟩ c (St.enter fn (first ++ captured) σ) (bodyQ P fn fun _ σ' => K σ')) : VDefG P (.fn g first captured) σ md md K := by
  intro X base β w vf h1 h2 fr cs ds hm
  cases h2 with
  | @fn _ fa ca _ _ e1 e2 r1 r2 =>
    have hargs : ∀ k, k < (first ++ captured).length → Rep w (MT X σ β) β ((fa ++ #[] ++ ca).getD k undef) ((first ++ captured).getD k .undef) := by
      have := getD_args (args := []) (vs := #[]) e1 rfl r1 (fun k hk => by simp at hk) r2
      simpa using this
    obtain ⟨e, st', β', a', w', q, q1, q2, q3, q4⟩ := h X base w.heap.size [] β _ w (frameOf g .deferred) [] ({ fr with defers := ds } :: cs) (Nat.le_refl _) (Nat.le_refl _) (enter_rel h1 (vs := fa ++ #[] ++ ca) (by simp [e1, e2]) hargs) rfl
    rw [← enter_frame hf hb] at q4
    have hq : ∃ r, resultsA P st' fn.results.toList = some r ∧ K st'.σ := by cases e <;> first | exact q | exact q.elim
    obtain ⟨r, hr1, hr2⟩ := hq
    obtain ⟨todo, hst⟩ : ∃ todo, Steps P (lone (Frame.enter P g (fa ++ #[] ++ ca) .deferred) ({ fr with defers := ds } :: cs) w) (lone { (frameOf g .deferred).atR a' todo with mode := .returning } ({ fr with defers := ds } :: cs) w') := by
      cases e with
      | normal => exact ⟨[], Steps.trans q4 (.one (stepR_end rfl))⟩
      | ret => obtain ⟨k', hk'⟩ := q4; exact ⟨_, Steps.trans hk' (.one (stepR_ret rfl))⟩
      | exit id => exact q.elim
      | goto l => exact q.elim
      | panic u => exact q.elim
    obtain ⟨x, w2, hx, hs2, hext, t1, t2⟩ := leave_frame (k := todo) (b := frameOf g .deferred) (cs := { fr with defers := ds } :: cs) hf rfl q2 hr1
    refine ⟨st'.σ, β', w2, hr2, hs2, hext _ _ _ _ (Nat.le_refl _) q3, q1, .head (enter_deferred hf hb hname (by rw [hm]; exact hmd)) ((hst.trans t1).trans (.one (step_lone_go ?_)))⟩
    rw [t2]
    rcases hmd with rfl | ⟨u, rfl⟩
    · simp [doReturn, Frame.atR, frameOf, hm]
    · simp [doReturn, Frame.atR, frameOf, hm]

/-- What the caller's frame is once a deferred call has asked for the panic. -/
def recFrame (fr : Frame) : Frame :=
  match fr.mode with
  | .panicking ({ v, recovered := false, goexit := false } :: older) => { fr with mode := .panicking ({ v, recovered := true } :: older) }
  | _ => fr

/-- What recover gives. -/
def RecOk (md : FrameMode) (ra : AVal) : Prop := (md = .returning ∧ ra = .nilif) ∨ ∃ u, md = .panicking [{ v := u, recovered := false }] ∧ pvV ra = some u

theorem VDefG.recovers {g : FuncId} {fn : Func} {id : Nat} {ops : Array Oper} {c2 : Code} {first captured : List AVal} {K : Store → Prop} {md : FrameMode} {ra : AVal} {d : Option Tmp} {ts : Array TypeId} {tt : TypeId} {ps : String} {af : Array Edge} (hf : P.funcs[g]? = some fn)
    (hb : fn.body = some (.seq (.region id ops false) c2)) (hname : (fn.name == "runtime.NumGoroutine") = false) (ho : ops[0]? = some ⟨d, .call ⟨.builtin .recover, #[], ts⟩, tt, ps, af, none⟩) (hmd : RecOk md ra)
    (h : EvR P ⟨σ.length, none⟩ ops [] (List.range' 1 (ops.size - 1)) ⟨put (St.enter fn (first ++ captured) σ).tm d ra, σ⟩ fun e s => e = .normal ∧ EvS P ⟨σ.length, none⟩ c2 s (bodyQ P fn fun _ σ' => K σ')) : VDefG P (.fn g first captured) σ md .returning K := by
  intro X base β w vf h1 h2 fr cs ds hm
  cases h2 with
  | @fn _ fa ca _ _ e1 e2 r1 r2 =>
    have hargs : ∀ k, k < (first ++ captured).length → Rep w (MT X σ β) β ((fa ++ #[] ++ ca).getD k undef) ((first ++ captured).getD k .undef) := by
      have := getD_args (args := []) (vs := #[]) e1 rfl r1 (fun k hk => by simp at hk) r2
      simpa using this
    have hleft : LeftM fr.mode := by
      rw [hm]
      rcases hmd with ⟨h, _⟩ | ⟨u, h, _⟩
      · exact .inl h
      · exact .inr ⟨u, h⟩
    have hrel := enter_rel (fn := fn) h1 (vs := fa ++ #[] ++ ca) (args := first ++ captured) (by simp [e1, e2]) hargs
    have hent := enter_frame (P := P) hf hb (fa ++ #[] ++ ca) .deferred
    generalize ha0 : ({ tmps := (fa ++ #[] ++ ca) ++ Array.replicate (fn.ntmps - (fa ++ #[] ++ ca).size) undef, defers := [] } : Act) = a0 at hrel hent
    have hsz : 0 < ops.size := (Array.getElem?_eq_some_iff.1 ho).1
    have hrange : List.range ops.size = 0 :: List.range' 1 (ops.size - 1) := by
      rw [List.range_eq_range', show ops.size = (ops.size - 1) + 1 by omega, List.range'_succ]; simp
    -- the frame behind, and the value
    obtain ⟨rv, hrv, hrec⟩ : ∃ rv, Rep w (MT X σ β) β rv ra ∧ step P (lone ((frameOf g .deferred).atR a0 (.inRegion ops (0 :: List.range' 1 (ops.size - 1)) :: [.code c2])) ({ fr with defers := ds } :: cs) w) =
        .next (lone ((frameOf g .deferred).atR (a0.put d rv) (.inRegion ops (List.range' 1 (ops.size - 1)) :: [.code c2])) (recFrame { fr with defers := ds } :: cs) w) := by
      have hw := gdA_wanted hrel (b := true) (o := ⟨d, .call ⟨.builtin .recover, #[], ts⟩, tt, ps, af, none⟩) (ops := ops) (by simp [gdA])
      have hfin := fun v => Frame.finish_atR (frameOf g .deferred) a0 ops 0 (List.range' 1 (ops.size - 1)) [.code c2] v
      rw [ho] at hfin
      have hrun : (execOp a0.eval ⟨d, .call ⟨.builtin .recover, #[], ts⟩, tt, ps, af, none⟩).run P w = .ok .recover w := by
        simp [execOp, resolve, invoke, builtin]
      rcases hmd with ⟨rfl, rfl⟩ | ⟨u, rfl, hu⟩
      · refine ⟨.nilIface, .nilif, step_lone_go ?_⟩
        rw [stepGR_op ho hw, Oper.semAt_eq _ _ _ (fun c e => by cases e)]
        simp only [stepG.apply, if_true, Sem.runT_eq, hrun, GStep.bare_after]
        have hro : ((frameOf g .deferred).atR a0 (.inRegion ops (0 :: List.range' 1 (ops.size - 1)) :: [.code c2])).roundOf = none := rfl
        have htr : tryRecover ((frameOf g .deferred).atR a0 (.inRegion ops (0 :: List.range' 1 (ops.size - 1)) :: [.code c2])) ({ fr with defers := ds } :: cs) = none := by
          simp [tryRecover, Frame.atR, frameOf, hm]
        simp only [hro, htr, GStep.bare_go]
        rw [hfin]
        simp [recFrame, hm]
      · refine ⟨u, pvV_rep hu, step_lone_go ?_⟩
        rw [stepGR_op ho hw, Oper.semAt_eq _ _ _ (fun c e => by cases e)]
        simp only [stepG.apply, if_true, Sem.runT_eq, hrun, GStep.bare_after]
        have hro : ((frameOf g .deferred).atR a0 (.inRegion ops (0 :: List.range' 1 (ops.size - 1)) :: [.code c2])).roundOf = none := rfl
        have htr : tryRecover ((frameOf g .deferred).atR a0 (.inRegion ops (0 :: List.range' 1 (ops.size - 1)) :: [.code c2])) ({ fr with defers := ds } :: cs) = some (u, recFrame { fr with defers := ds } :: cs) := by
          simp [tryRecover, Frame.atR, frameOf, hm, recFrame]
        simp only [hro, htr, GStep.bare_go]
        rw [hfin]; rfl
    have hrel1 := hrel.next h1 (Ext.refl 0 _ _ _) (fun _ _ h => h) hrv d
    obtain ⟨e, st1, β1, a1, w1, ⟨he, q⟩, q1, q2, q3, qd, q4⟩ := h X base w.heap.size [] β _ w (frameOf g .deferred) [.code c2] (recFrame { fr with defers := ds } :: cs) (Nat.le_refl _) (Nat.le_refl _) hrel1
    subst he
    rw [List.append_nil] at q4
    obtain ⟨e2, st', β', a', w', p, p1, p2, p3, p4⟩ := q X base w.heap.size [] β1 a1 w1 (frameOf g .deferred) [] (recFrame { fr with defers := ds } :: cs) q1 q3.size q2 rfl
    have hall : Steps P (lone { fr with defers := dOf (.func (.func g) fa ca) :: ds } cs w) (lone ((frameOf g .deferred).atR a1 [.code c2]) (recFrame { fr with defers := ds } :: cs) w1) := by
      refine .head (enter_deferred hf hb hname hleft) ?_
      rw [hent]
      refine .head stepR_seq (.head stepR_region ?_)
      rw [hrange]
      exact .head hrec (Steps.trans q4 (.one stepR_region_end))
    have hq : ∃ r, resultsA P st' fn.results.toList = some r ∧ K st'.σ := by cases e2 <;> first | exact p | exact p.elim
    obtain ⟨r, hr1, hr2⟩ := hq
    obtain ⟨todo, hst⟩ : ∃ todo, Steps P (lone ((frameOf g .deferred).atR a1 [.code c2]) (recFrame { fr with defers := ds } :: cs) w1) (lone { (frameOf g .deferred).atR a' todo with mode := .returning } (recFrame { fr with defers := ds } :: cs) w') := by
      cases e2 with
      | normal => exact ⟨[], Steps.trans p4 (.one (stepR_end rfl))⟩
      | ret => obtain ⟨k', hk'⟩ := p4; exact ⟨_, Steps.trans hk' (.one (stepR_ret rfl))⟩
      | exit id => exact p.elim
      | goto l => exact p.elim
      | panic u => exact p.elim
    obtain ⟨x, w2, hx, hs2, hext, t1, t2⟩ := leave_frame (k := todo) (b := frameOf g .deferred) (cs := recFrame { fr with defers := ds } :: cs) hf rfl p2 hr1
    have hE : Ext σ.length σ β w st'.σ β' w' := q3.trans p3
    refine ⟨st'.σ, β', w2, hr2, hs2, hext _ _ _ _ (Nat.le_refl _) hE, p1, hall.trans ((hst.trans t1).trans (.one (step_lone_go ?_)))⟩
    rw [t2]
    rcases hmd with ⟨rfl, rfl⟩ | ⟨u, rfl, hu⟩
    · simp [doReturn, Frame.atR, frameOf, recFrame, hm]
    · simp [doReturn, Frame.atR, frameOf, recFrame, hm]

/-! ### a function that defers a call -/
/-- The end of a function that has deferred the call of F. -/
def endQ (P : Program) (rs : List ResultVar) (F : AVal) (K Kp : AVal → Store → Prop) (e : AExit) (s : St) : Prop :=
  match e with
  | .normal | .ret => VDefG P F s.σ .returning .returning fun σ' => ∃ r, resultsA P ⟨s.tm, σ'⟩ rs = some r ∧ K r σ'
  | .panic u => VDefG P F s.σ (.panicking [{ v := u, recovered := false }]) (.panicking [{ v := u, recovered := false }]) (fun σ' => ∃ r, pvV r = some u ∧ Kp r σ') ∨
      VDefG P F s.σ (.panicking [{ v := u, recovered := false }]) .returning fun σ' => ∃ r, resultsA P ⟨s.tm, σ'⟩ rs = some r ∧ K r σ'
  | _ => False

/-- Where the deferred call stands. -/
def deferQ (P : Program) (rs : List ResultVar) (c2 : Code) (f : Tmp) (K Kp : AVal → Store → Prop) (e : AExit) (s : St) : Prop :=
  match e with
  | .normal => (∃ g x y, ev s.tm (.tmp f) = .fn g x y) ∧ EvS P ⟨s.σ.length, none⟩ c2 s (endQ P rs (ev s.tm (.tmp f)) K Kp)
  | .panic u => ∃ r, pvV r = some u ∧ Kp r s.σ
  | _ => False

theorem CallSh.defers {g : FuncId} {fn : Func} {id0 id : Nat} {ops0 ops : Array Oper} {c2 : Code} {m : Nat} {f : Tmp} {ts : Array TypeId} {tt : TypeId} {ps : String} {af : Array Edge} {args : List AVal} {K Kp : AVal → Store → Prop} (hf : P.funcs[g]? = some fn)
    (hb : fn.body = some (.seq (.region id0 ops0 false) (.seq (.region id ops false) c2))) (hname : (fn.name == "runtime.NumGoroutine") = false) (hsz : ops.size = m + 1) (hd : ops[m]? = some ⟨none, .defer ⟨.value (.tmp f), #[], ts⟩, tt, ps, af, none⟩)
    (hs : (∀ r σ', ¬ Kp r σ') ∨ (∀ r σ', ¬ K r σ'))
    (h : EvR P ⟨σ.length, none⟩ ops0 [] (List.range ops0.size) (St.enter fn args σ) fun e s => e = .normal ∧ EvR P ⟨σ.length, none⟩ ops [m] (List.range m) s (deferQ P fn.results.toList c2 f K Kp)) : CallSh P g args σ K ∨ CallPan P g args σ Kp := by
  have key : ∀ (X : Nat → Nat → Prop) (base : Nat) (β : Env) (w : World) (vs : Array Value), RelS X base σ β w → vs.size = args.length →
      (∀ k, k < args.length → Rep w (MT X σ β) β (vs.getD k undef) (args.getD k .undef)) → ∀ (fr : Frame) (cs : List Frame), Waits fr →
      (∃ r σ' β' v w', K r σ' ∧ RelS X base σ' β' w' ∧ Rep w' (MT X σ' β') β' v r ∧ Ext σ.length σ β w σ' β' w' ∧ σ.length ≤ σ'.length ∧ Fin P fr cs (callFunc g vs) w v w') ∨
      (∃ r σ' β' v w', Kp r σ' ∧ RelS X base σ' β' w' ∧ Rep w' (MT X σ' β') β' v r ∧ Ext σ.length σ β w σ' β' w' ∧ σ.length ≤ σ'.length ∧ FinP P fr cs (callFunc g vs) w v w') := by
    intro X base β w vs h1 h2 h3 fr cs hfr
    let b := frameOf g .normal
    have hent := enter_frame (P := P) hf hb vs .normal
    have hrel := enter_rel (fn := fn) h1 h2 h3
    have had : ({ tmps := vs ++ Array.replicate (fn.ntmps - vs.size) undef, defers := [] } : Act).defers = [] := rfl
    generalize ({ tmps := vs ++ Array.replicate (fn.ntmps - vs.size) undef, defers := [] } : Act) = a0 at hrel hent had
    obtain ⟨e1, st1, β1, a1, w1, ⟨rfl, q⟩, q1, q2, q3, qd, q4⟩ := h X base w.heap.size [] β a0 w b [.code (.seq (.region id ops false) c2)] (fr :: cs) (Nat.le_refl _) (Nat.le_refl _) hrel
    rw [List.append_nil] at q4
    obtain ⟨e2, st2, β2, a2, w2, p, p1, p2, p3, pd, p4⟩ := q X base w.heap.size [] β1 a1 w1 b [.code c2] (fr :: cs) q1 q3.size q2
    have hst1 : Steps P (lone (Frame.enter P g vs .normal) (fr :: cs) w) (lone (b.atR a1 (.inRegion ops (List.range m ++ [m]) :: [.code c2])) (fr :: cs) w1) := by
      rw [hent]
      refine .head stepR_seq (.head stepR_region (Steps.trans q4 (.head stepR_region_end (.head stepR_seq (.head stepR_region ?_)))))
      rw [hsz, List.range_succ]; exact .refl _ _
    have happ := apply_enter (fr := fr) (cs := cs) (w := w) (vs := vs) hf hb hname hfr
    have hE2 : Ext σ.length σ β w st2.σ β2 w2 := q3.trans p3
    cases e2 with
    | exit id => exact p.elim
    | goto l => exact p.elim
    | ret => exact p.elim
    | panic u =>
      obtain ⟨r, hu, hK⟩ := p
      obtain ⟨k', hk'⟩ := p4
      obtain ⟨w3, hs3, hext, t1⟩ := raise_frame (P := P) (k := k') (b := b) (u := u) (fr := fr) (cs := cs) hf rfl p2
      exact .inr ⟨r, st2.σ, β2, u, w3, hK, hs3, pvV_rep hu, hext _ _ _ _ (Nat.le_refl _) hE2, p1, Frame.enter P g vs .normal, fr :: cs, w, happ, (hst1.trans hk').trans t1⟩
    | normal =>
      obtain ⟨⟨g1, x1, y1, hF⟩, pe⟩ := p
      have hvf := ev_rep p2 (.tmp f)
      rw [hF] at hvf pe
      obtain ⟨fa, ca, hv⟩ : ∃ fa ca, a2.eval (.tmp f) = .func (.func g1) fa ca := by
        generalize a2.eval (.tmp f) = v at hvf
        cases hvf; exact ⟨_, _, rfl⟩
      have had2 : a2.defers = [] := by rw [pd, qd, had]
      -- the call is deferred
      have hw := gdA_wanted p2 (b := true) (o := ⟨none, .defer ⟨.value (.tmp f), #[], ts⟩, tt, ps, af, none⟩) (ops := ops) (by simp [gdA])
      have hdef : step P (lone (b.atR a2 (.inRegion ops [m] :: [.code c2])) (fr :: cs) w2) = .next (lone (b.atR { a2 with defers := [dOf (a2.eval (.tmp f))] } (.inRegion ops [] :: [.code c2])) (fr :: cs) w2) := by
        refine step_lone_go ?_
        have hrun : (execOp a2.eval ⟨none, .defer ⟨.value (.tmp f), #[], ts⟩, tt, ps, af, none⟩).run P w2 = .ok (.defer (dOf (a2.eval (.tmp f)))) w2 := by
          rw [hv]; simp [execOp, resolve, Deferred.ofValue, dOf, hv]
        have hop : (b.atR a2 (.inRegion ops [m] :: [.code c2])).oper? = some ⟨none, .defer ⟨.value (.tmp f), #[], ts⟩, tt, ps, af, none⟩ := by simp [Frame.oper?, Frame.atR, hd]
        have hw' : (Option.map (fun x => Region.wanted x (yielded ops a2.tmps)) ops[m]?).getD false = true := by rw [hd]; exact hw
        have hev : (b.atR a2 (.inRegion ops [m] :: [.code c2])).eval = a2.eval := Frame.eval_atR _ _ _
        have hro : (b.atR a2 (.inRegion ops [m] :: [.code c2])).roundOf = none := rfl
        have hg : (stepG P true { frame := b.atR a2 (.inRegion ops [m] :: [.code c2]), callers := fr :: cs, status := .running, dying := none } w2).bare = (stepG.apply P true (b.atR a2 (.inRegion ops [m] :: [.code c2])) (fr :: cs) none (execOp a2.eval ⟨none, .defer ⟨.value (.tmp f), #[], ts⟩, tt, ps, af, none⟩) w2).bare := by
          have hmode : (b.atR a2 (.inRegion ops [m] :: [.code c2])).mode = .run := rfl
          have htodo : (b.atR a2 (.inRegion ops [m] :: [.code c2])).todo = .inRegion ops [m] :: [.code c2] := rfl
          have htm : (b.atR a2 (.inRegion ops [m] :: [.code c2])).tmps = a2.tmps := rfl
          simp only [stepG, hmode, stepG.exec, htodo, htm, hw', if_true, stepG.oper, hop, hro, hev]
        rw [hg]
        simp only [stepG.apply, if_true, Sem.runT_eq, hrun, GStep.bare_after, GStep.bare_go]
        have hfin := Frame.finish_atR b { a2 with defers := [dOf (a2.eval (.tmp f))] } ops m [] [.code c2] undef
        rw [hd] at hfin
        have : ({ b.atR a2 (.inRegion ops [m] :: [.code c2]) with defers := dOf (a2.eval (.tmp f)) :: (b.atR a2 (.inRegion ops [m] :: [.code c2])).defers } : Frame) = b.atR { a2 with defers := [dOf (a2.eval (.tmp f))] } (.inRegion ops [m] :: [.code c2]) := by
          simp [Frame.atR, had2]
        rw [this, hfin]; rfl
      have hrel2 : Rel X base w2.heap.size [dOf (a2.eval (.tmp f))] st2 β2 { a2 with defers := [dOf (a2.eval (.tmp f))] } w2 := ⟨p2.s, p2.n, p2.t, ⟨[], rfl, List.nodup_nil, fun r hr => by simp at hr⟩⟩
      obtain ⟨e3, st3, β3, a3, w3, r, r1, r2, r3, r4⟩ := pe X base w2.heap.size _ β2 _ w2 b [] (fr :: cs) (Nat.le_refl _) (Nat.le_refl _) hrel2 rfl
      have hst2 : Steps P (lone (Frame.enter P g vs .normal) (fr :: cs) w) (lone (b.atR { a2 with defers := [dOf (a2.eval (.tmp f))] } [.code c2]) (fr :: cs) w2) := (hst1.trans p4).trans (.head hdef (.one stepR_region_end))
      -- the deferred call is what it was
      have hβ : ∀ c L, β2 c = some L → β3 c = some L := fun c L hc => by
        by_cases hcl : c < st2.σ.length
        · rw [r3.env c hcl]; exact hc
        · rw [p2.s.dom c (by omega)] at hc; cases hc
      have hleave : ∀ (md md' : FrameMode) (k' : List Item) (K' : Store → Prop), md ≠ .run → VDefG P (.fn g1 x1 y1) st3.σ md md' K' → ∃ σ4 β4 w4, K' σ4 ∧ Rel X base w2.heap.size [] ⟨st3.tm, σ4⟩ β4 { a3 with defers := [] } w4 ∧ Ext σ.length σ β w σ4 β4 w4 ∧ σ.length ≤ σ4.length ∧
          Steps P (lone { b.atR a3 k' with mode := md } (fr :: cs) w3) (lone { b.atR { a3 with defers := [] } k' with mode := md' } (fr :: cs) w4) := by
        intro md md' k' K' hmd hv'
        obtain ⟨w5, t1, hrel5, hext5⟩ := r2.unmark (P := P) { b.atR a3 k' with mode := md } (fr :: cs) hmd rfl
        have hE5 : Ext st2.σ.length st2.σ β2 w2 st3.σ β3 w5 := hext5 _ _ _ _ (Nat.le_refl _) r3
        have hvf5 := hvf.mono (hE5.keeps p2.s) hβ
        obtain ⟨σ4, β4, w4, s1, s2, s3, s4, s5⟩ := hv' X base β3 w5 _ hrel5.s hvf5 { b.atR a3 k' with mode := md } (fr :: cs) [] rfl
        have hβ4 : ∀ c L, β3 c = some L → β4 c = some L := fun c L hc => by
          by_cases hcl : c < st3.σ.length
          · rw [s3.env c hcl]; exact hc
          · rw [hrel5.s.dom c (by omega)] at hc; cases hc
        have hrel6 : Rel X base w2.heap.size [] st3 β3 { a3 with defers := [] } w5 := ⟨hrel5.s, hrel5.n, hrel5.t, ⟨[], rfl, List.nodup_nil, fun r hr => by simp at hr⟩⟩
        have hEl : Ext σ.length st2.σ β2 w2 st3.σ β3 w5 := hE5.lower p1
        have hEl2 : Ext σ.length st3.σ β3 w5 σ4 β4 w4 := s3.lower (Nat.le_trans p1 r1)
        exact ⟨σ4, β4, w4, s1, hrel6.keep s2 s3 hβ4, (hE2.trans hEl).trans hEl2, Nat.le_trans (Nat.le_trans p1 r1) s4, t1.trans s5⟩
      have hret : ∀ (k' : List Item) σ4 β4 w4 (md : FrameMode), Steps P (lone { b.atR a3 k' with mode := md } (fr :: cs) w3) (lone { b.atR { a3 with defers := [] } k' with mode := .returning } (fr :: cs) w4) → (∃ r, resultsA P ⟨st3.tm, σ4⟩ fn.results.toList = some r ∧ K r σ4) →
          Rel X base w2.heap.size [] ⟨st3.tm, σ4⟩ β4 { a3 with defers := [] } w4 → Ext σ.length σ β w σ4 β4 w4 → σ.length ≤ σ4.length → Steps P (lone (Frame.enter P g vs .normal) (fr :: cs) w) (lone { b.atR a3 k' with mode := md } (fr :: cs) w3) →
          ∃ r σ' β' v w', K r σ' ∧ RelS X base σ' β' w' ∧ Rep w' (MT X σ' β') β' v r ∧ Ext σ.length σ β w σ' β' w' ∧ σ.length ≤ σ'.length ∧ Fin P fr cs (callFunc g vs) w v w' := by
        intro k' σ4 β4 w4 md s5 hK hr4 hE4 hl4 hst3
        obtain ⟨r, hr1, hr2⟩ := hK
        obtain ⟨x, w6, hx, hs6, hext, t1, t2⟩ := leave_frame (k := k') (b := b) (cs := fr :: cs) hf rfl hr4 hr1
        refine ⟨r, σ4, β4, x, w6, hr2, hs6, hx, hext σ.length σ β w (Nat.le_trans q3.size p3.size) hE4, hl4, Frame.enter P g vs .normal, fr :: cs, w, happ, hst3.trans (s5.trans (t1.trans (.one (step_lone_go ?_))))⟩
        rw [t2]
        simp [doReturn, Frame.atR, b, frameOf]
      cases e3 with
      | exit id => exact r.elim
      | goto l => exact r.elim
      | normal =>
        obtain ⟨σ4, β4, w4, s1, s2, s3, s4, s5⟩ := hleave .returning .returning [] _ (by simp) r
        exact .inl (hret [] σ4 β4 w4 _ s5 s1 s2 s3 s4 (hst2.trans (Steps.trans r4 (.one (stepR_end rfl)))))
      | ret =>
        obtain ⟨k', hk'⟩ := r4
        obtain ⟨σ4, β4, w4, s1, s2, s3, s4, s5⟩ := hleave .returning .returning (.code .ret :: k') _ (by simp) r
        exact .inl (hret _ σ4 β4 w4 _ s5 s1 s2 s3 s4 (hst2.trans (Steps.trans hk' (.one (stepR_ret rfl)))))
      | panic u =>
        obtain ⟨k', hk'⟩ := r4
        rcases r with r | r
        · obtain ⟨σ4, β4, w4, ⟨ra, hu, hK⟩, s2, s3, s4, s5⟩ := hleave _ _ k' _ (by simp) r
          obtain ⟨w6, hs6, hext, t1⟩ := raise_frame (P := P) (k := k') (b := b) (u := u) (fr := fr) (cs := cs) hf rfl s2
          exact .inr ⟨ra, σ4, β4, u, w6, hK, hs6, pvV_rep hu, hext σ.length σ β w (Nat.le_trans q3.size p3.size) s3, s4, Frame.enter P g vs .normal, fr :: cs, w, happ, (hst2.trans hk').trans (s5.trans t1)⟩
        · obtain ⟨σ4, β4, w4, s1, s2, s3, s4, s5⟩ := hleave _ _ k' _ (by simp) r
          exact .inl (hret k' σ4 β4 w4 _ s5 s1 s2 s3 s4 (hst2.trans hk'))
  rcases hs with hs | hs
  · refine .inl fun X base β w vs h1 h2 h3 fr cs h4 => ?_
    rcases key X base β w vs h1 h2 h3 fr cs h4 with h | ⟨r, σ', _, _, _, q, _⟩
    · exact h
    · exact absurd q (hs _ _)
  · refine .inr fun X base β w vs h1 h2 h3 fr cs h4 => ?_
    rcases key X base β w vs h1 h2 h3 fr cs h4 with ⟨r, σ', _, _, _, q, _⟩ | h
    · exact absurd q (hs _ _)
    · exact h

/-- A function that panics. -/
theorem VPan.begin {g : FuncId} {fn : Func} {c : Code} {first captured args all : List AVal} {Kp : AVal → Store → Prop} {m : Nat} {rs : List ResultVar} (hf : P.funcs[g]? = some fn) (hb : fn.body = some c) (hr : fn.results.toList = rs)
    (hall : first ++ args ++ captured = all) (hm : fn.ntmps - all.length = m) (hname : (fn.name == "runtime.NumGoroutine") = false)
    (h : EvK P ⟨σ.length, none⟩ (retX P rs (fun _ _ => False) (dropK Kp σ.length)) [.code c, .thr] .normal ⟨all ++ List.replicate m .undef, σ⟩) : VPan P (.fn g first captured) args σ Kp := by
  subst hr hm hall
  refine VCall.sh ?_
  intro X base β w vs h1 h2 h3 fr cs hfr
  have h' : EvS P ⟨σ.length, none⟩ c (St.enter fn (first ++ args ++ captured) σ) (retX P fn.results.toList (fun _ _ => False) (dropK Kp σ.length)) := EvS.mono h fun e s q => by
    have := evK_thr.1 q
    simpa only [EvK] using this
  obtain ⟨e, st', β', a', w', q, r1, r2, r3, r4⟩ := h' X base w.heap.size [] β _ w (frameOf g .normal) [] (fr :: cs) (Nat.le_refl _) (Nat.le_refl _) (enter_rel h1 h2 h3) rfl
  rw [← enter_frame hf hb] at r4
  cases e with
  | panic u =>
    obtain ⟨r, hu, σ3, k1, k2, k3, k4, k5⟩ := q
    obtain ⟨k', hk'⟩ := r4
    obtain ⟨w2, hs2, hext, t1⟩ := raise_frame (P := P) (k := k') (b := frameOf g .normal) (u := u) (fr := fr) (cs := cs) hf rfl r2
    have hE := hext _ _ _ _ (Nat.le_refl _) r3
    exact ⟨r, σ3, _, u, w2, k5, hs2.drop (leSo_spec k1) rfl (lowSo_spec k3), pvV_rep hu, hE.drop (leSo_spec k1) rfl k2, k2, Frame.enter P g vs .normal, fr :: cs, w, apply_enter hf hb hname hfr, hk'.trans t1⟩
  | normal => obtain ⟨r, _, h2⟩ := q; exact h2.elim
  | ret => obtain ⟨r, _, h2⟩ := q; exact h2.elim
  | exit id => exact q.elim
  | goto l => exact q.elim

/-- A deferred call by its walk. -/
theorem VDefG.walk {g : FuncId} {fn : Func} {c : Code} {first captured all : List AVal} {K : Store → Prop} {md : FrameMode} {m : Nat} {rs : List ResultVar} (n : Nat) (hf : P.funcs[g]? = some fn) (hb : fn.body = some c) (hr : fn.results.toList = rs) (hall : first ++ captured = all)
    (hm : fn.ntmps - all.length = m) (hname : (fn.name == "runtime.NumGoroutine") = false) (hmd : LeftM md)
    (h : vcK P ⟨σ.length, none⟩ (retQ P rs fun _ σ' => K σ') n [.code c] .normal (all ++ List.replicate m .undef) σ) : VDefG P (.fn g first captured) σ md md K := by
  subst hr hm hall
  refine VDefG.body hf hb hname hmd (EvS.mono (vcK_sound n _ _ _ _ h) fun e s q => ?_)
  cases e <;> exact q

end
end Go.Abs
