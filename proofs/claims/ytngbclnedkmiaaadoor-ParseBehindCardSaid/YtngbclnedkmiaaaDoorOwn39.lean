/- Part 39 of my own framework and of the walks of functions: AcsO. -/
import Derived.Test.YtngbclnedkmiaaaDoorOwn38
set_option linter.unusedVariables false
set_option linter.unusedSectionVars false
set_option linter.unusedSimpArgs false

/- A region whose operations may be taken in another order, where a cell is read that a call beside it leaves as it is. -/
namespace Go.Abs
open Go

section
variable {P : Program} {lo : Ctx} {Q : AExit → St → Prop} {ops : Array Oper}

theorem EvK.fact {e : AExit} {st : St} (h : Q e st) : EvK P lo Q [] e st := h

theorem EvK.drawF {k : List KI} {id : Nat} {tm : List AVal} {σ : Store} (fs : List Fp) (n0 N : Nat) (hm : P.follows .mixedOrders = true) (hok : drawOk ops fs n0 N = true) (h0 : σ.length = n0) (hN : n0 ≤ N)
    (i0 : Nat) {d : Option Tmp} {t : TypeId} {x : Tmp} {tt : TypeId} {ps : String} {af : Array Edge} (ho : ops.toList[i0]? = some ⟨d, .load t (.tmp x), tt, ps, af, none⟩) (hdx : ((List.range ops.size).all fun j => decide (j < i0) || (dstsOf ops).getD j none != some x) = true)
    (hw0 : (fpAt fs i0).wr = []) (b off j0 : Nat) (hone : ((List.range ops.size).all fun j => j == j0 || !(fpAt fs j).wr.contains b) = true) {l : Lay} (hl : layOf P t = some l) (v : Value)
    (hst : loadA (padS N σ) l (.ptr b off) = some (ofValue v))
    (h : drawK P lo (fun _ st => (ev st.tm (.tmp x) = .ptr b off ∧ loadA st.σ l (.ptr b off) = some (ofValue v)) ∧ EvK P lo Q k .normal st) [] ops (ops.toList.set i0 ⟨d, .move (.const v), tt, ps, af, none⟩) fs tm (padS N σ)) :
    EvK P lo Q (.code (.region id ops true) :: k) .normal ⟨tm, σ⟩ := by
  have hk := drawOk_spec hok
  obtain ⟨TM, SS, e1, e2, e3, ⟨e4p, e4l⟩, e4⟩ := drawK_text _ _ _ _ h
  have hlen : (ops.toList.set i0 (⟨d, .move (.const v), tt, ps, af, none⟩ : Oper)).length = ops.size := by simp
  rw [hlen] at e4 e4p e4l
  have hi0 : i0 < ops.size := by
    have := (List.getElem?_eq_some_iff.1 ho).1
    simpa using this
  -- the text's steps
  have hS' : ∀ i o, ops[i]? = some o → i ≠ i0 → StepT P ops (fpAt fs i) o (TM i) (SS i) (TM (i + 1)) (SS (i + 1)) := fun i o hi hne => e3 i o (by rw [List.getElem?_set_ne (Ne.symm hne)]; simpa using hi)
  have hmask : ∀ f : Fp, f.wr = [] → ∀ σ' : Store, mergeW f.wr 0 (maskF f σ') σ' = σ' := fun f hf σ' => by rw [hf]; exact mergeW_no _ _ _
  have h0' := e3 i0 ⟨d, .move (.const v), tt, ps, af, none⟩ (by rw [List.getElem?_set_self (by simpa using hi0)])
  have hmid : TM (i0 + 1) = put (TM i0) d (ofValue v) ∧ SS (i0 + 1) = SS i0 := by
    rcases h0' with ⟨g, _, _⟩ | ⟨_, r, σ1, g1, g2, g3, g4⟩
    · simp [gdA] at g
    · have g1' : (ofValue v, maskF (fpAt fs i0) (SS i0)) = (r, σ1) := by
        have : opE P (maskF (fpAt fs i0) (SS i0)) ((fpAt fs i0).name (SS i0)) (ev (TM i0)) (.move (.const v)) = some (r, σ1) := g1
        simp only [opE] at this
        exact Option.some.inj this
      obtain ⟨rfl, rfl⟩ := Prod.mk.injEq .. ▸ g1'
      exact ⟨g3, by rw [g4]; exact hmask _ hw0 _⟩
  have hwr : ∀ i c, i < ops.size → c ∉ (fpAt fs i).wr → (SS (i + 1))[c]? = (SS i)[c]? := by
    intro i c hi hn
    by_cases e : i = i0
    · subst e; rw [hmid.2]
    · rcases hS' i _ (Array.getElem?_eq_getElem hi) e with ⟨_, _, h⟩ | ⟨_, r, σ1, _, h2, _, h⟩
      · rw [h]
      · rw [h, mergeW_get (by rw [sameO_len h2, maskF, maskS_len]), Nat.zero_add, if_neg hn]
  have hone' : ∀ i, i < ops.size → i ≠ j0 → b ∉ (fpAt fs i).wr := fun i hi hne hm => by
    have := List.all_eq_true.1 hone i (by simpa using hi)
    simp only [Bool.or_eq_true, beq_iff_eq, Bool.not_eq_true', List.contains_eq_mem, decide_eq_false_iff_not] at this
    exact this.elim hne (fun h => h hm)
  have hb1 : ∀ k, k ≤ j0 → k ≤ ops.size → (SS k)[b]? = (SS 0)[b]? := by
    intro k
    induction k with
    | zero => intro _ _; rfl
    | succ k ih => intro h1 h2; rw [hwr k b (by omega) (hone' k (by omega) (by omega)), ih (by omega) (by omega)]
  have hb2 : ∀ n k, k + n = ops.size → j0 < k → (SS k)[b]? = (SS ops.size)[b]? := by
    intro n
    induction n with
    | zero => intro k h1 _; rw [show k = ops.size by omega]
    | succ n ih => intro k h1 h2; rw [← hwr k b (by omega) (hone' k (by omega) (by omega)), ih (k + 1) (by omega) (by omega)]
  have hcg : ∀ σ σ' : Store, σ[b]? = σ'[b]? → loadA σ l (.ptr b off) = loadA σ' l (.ptr b off) := fun σ σ' h => by simp only [loadA, getS, h]
  have hall : ∀ k, k ≤ ops.size → loadA (SS k) l (.ptr b off) = some (ofValue v) := by
    intro k hk'
    by_cases hkj : k ≤ j0
    · rw [hcg _ _ (hb1 k hkj hk'), e2]; exact hst
    · rw [hcg _ _ (hb2 (ops.size - k) k (by omega) (by omega))]; exact e4l
  have hdx' : ∀ i o, ops[i]? = some o → i0 ≤ i → o.dst ≠ some x := fun i o hi hle hd => by
    have hlt := (Array.getElem?_eq_some_iff.1 hi).1
    have := List.all_eq_true.1 hdx i (by simpa using hlt)
    have hds : (dstsOf ops).getD i none = some x := by simp [dstsOf, List.getD, hi, hd]
    simp only [Bool.or_eq_true, decide_eq_true_eq, bne_iff_ne, hds, ne_eq, not_true_eq_false, or_false] at this
    omega
  have hput : ∀ (T : List AVal) (dd : Option Tmp) (r : AVal), dd ≠ some x → (put T dd r).getD x .undef = T.getD x .undef := by
    intro T dd r hn
    cases dd with
    | none => rfl
    | some d' =>
      have hne : d' ≠ x := fun e => hn (by rw [e])
      simp only [put, List.getD, List.getElem?_set_ne hne]
  have hx : ∀ n i, i + n = ops.size → i0 ≤ i → (TM i).getD x .undef = (TM ops.size).getD x .undef := by
    intro n
    induction n with
    | zero => intro i h1 _; rw [show i = ops.size by omega]
    | succ n ih =>
      intro i h1 h2
      rw [← ih (i + 1) (by omega) (by omega)]
      have hoi : ops[i]? = some ops[i] := Array.getElem?_eq_getElem (by omega)
      have hne := hdx' i _ hoi h2
      by_cases e : i = i0
      · subst e
        have : ops[i] = ⟨d, .load t (.tmp x), tt, ps, af, none⟩ := by
          have h' : ops[i]? = some ⟨d, .load t (.tmp x), tt, ps, af, none⟩ := by simpa using ho
          rw [hoi] at h'; exact Option.some.inj h'
        rw [hmid.1, hput _ _ _ (by rw [this] at hne; exact hne)]
      · rcases hS' i _ hoi e with ⟨_, h, _⟩ | ⟨_, r, σ1, _, _, h, _⟩ <;> rw [h, hput _ _ _ hne]
  have hpx : ev (TM i0) (.tmp x) = .ptr b off := by
    have := hx (ops.size - i0) i0 (by omega) (Nat.le_refl _)
    exact this.trans e4p
  have hT : ∀ i o, ops[i]? = some o → StepT P ops (fpAt fs i) o (TM i) (SS i) (TM (i + 1)) (SS (i + 1)) ∨ StepL P ops.size o (TM i) SS i (TM (i + 1)) ∧ (fpAt fs i).wr = [] := by
    intro i o hi
    by_cases e : i = i0
    · subst e
      have : o = ⟨d, .load t (.tmp x), tt, ps, af, none⟩ := by
        have h' : ops[i]? = some ⟨d, .load t (.tmp x), tt, ps, af, none⟩ := by simpa using ho
        rw [hi] at h'; exact Option.some.inj h'
      subst this
      exact .inr ⟨⟨rfl, t, .tmp x, l, ofValue v, rfl, hl, fun k hk' => by rw [hpx]; exact hall k hk', hmid.1, hmid.2⟩, hw0⟩
    · exact .inl (hS' i o hi e)
  have hln : ∀ i, i ≤ ops.size → (TM i).length = (TM 0).length ∧ (SS i).length = N := by
    intro i
    induction i with
    | zero => intro _; exact ⟨rfl, by rw [e2, padS_len (by omega)]⟩
    | succ i ih =>
      intro hi
      have h2 := ih (by omega)
      rcases hT i ops[i] (Array.getElem?_eq_getElem (by omega)) with h3 | ⟨⟨_, _, _, _, _, _, _, _, h4, h5⟩, _⟩
      · have := h3.len
        omega
      · rw [h4, h5, put_length]; exact h2
  intro X base mb D β a w bb kk cs h1 h2 h3 _
  simp only at h1
  have hrel : Rel X base mb D ⟨TM 0, SS 0⟩ β a { w with drawn := w.drawn + 1 } := by
    have := rel_drawn (n := w.drawn + 1) h3
    rw [e1, e2]
    exact ⟨this.s.pad (by simp only; omega), this.n, fun j hj => by rw [MT_pad]; exact this.t j hj, this.d⟩
  obtain ⟨β', a', w', r1, r2, r3⟩ := draw_run0 (lo := lo) hk (by omega) hN hT (fun i hi => (hln i hi).1) (fun i hi => (hln i hi).2) bb kk cs ops.size (w.tape w.drawn (.order bb.fn id)) (Array.replicate ops.size false) (TM 0) (SS 0) β a { w with drawn := w.drawn + 1 } (by simp)
    (by simp [todoN]) (fun i j _ hj => by simp [Array.getD_eq_getD_getElem?, Array.getElem?_replicate] at hj; split at hj <;> simp at hj)
    (by
      have : (fun j => (Array.replicate ops.size false).getD j false = true) = fun _ => False := funext fun j => by simp [Array.getD_eq_getD_getElem?, Array.getElem?_replicate]; split <;> simp
      rw [this]; exact InvD.init)
    (by
      have : (fun j => (Array.replicate ops.size false).getD j false = true) = fun _ => False := funext fun j => by simp [Array.getD_eq_getD_getElem?, Array.getElem?_replicate]; split <;> simp
      rw [this]; exact InvD.init)
    rfl (hln 0 (Nat.zero_le _)).2 (fun i c hi _ hc => h3.s.dom c (by simp only; have := (hk.nam i hi c hc).1; omega)) hrel
  rw [e2] at r2
  refine ⟨.normal, ⟨TM ops.size, SS ops.size⟩, β', a', w', e4, ?_, r1, ?_, .head stepR_region_draw ?_⟩
  · have := (hln ops.size (Nat.le_refl _)).2
    simp only; omega
  · exact ⟨r2.os, r2.tape, r2.output, r2.size, fun g o v hc hn => r2.cell g o v hc fun hm => hn (mof_pad.1 hm), fun g hg hn => r2.block g hg fun o hm => hn o (mof_pad.1 hm), fun g o hm => (r2.newM g o hm).imp mof_pad.1 (fun h => h), r2.env⟩
  · have hs : Region.schedule (P.follows .mixedOrders) ops (w.tape w.drawn (.order bb.fn id)) = Region.linearise.go .any ops ops.size (w.tape w.drawn (.order bb.fn id)) (Array.replicate ops.size false) [] := by
      simp only [Region.schedule, hm, Bool.true_or, if_true]; rfl
    rw [hs]; exact r3
end

section
variable {P : Program}
theorem CallSh.exA {g : FuncId} {args : List AVal} {σ : Store} {K K' : AVal → Store → Prop} (h : CallSh P g args σ K) (hk : ∀ r σ', K r σ' → ∃ b cs, getS σ' b = some (.var cs) ∧ K' (exA b cs r) (σ'.set b none)) : CallSh P g args σ K' := by
  intro X base β w vs h1 h2 h3 fr cs' h4
  obtain ⟨r, σ', β', v, w', q, g1, g2, g3, g4, g5⟩ := h X base β w vs h1 h2 h3 fr cs' h4
  obtain ⟨b, cs, hb, hq⟩ := hk r σ' q
  have hb' := getS_some hb
  refine ⟨_, _, β', v, w', hq, g1.less (fun c x hc => (set_get hc).2) List.length_set, rep_exA g1 hb' g2, ?_, by simpa using g4, g5⟩
  exact ⟨g3.os, g3.tape, g3.output, g3.size, g3.cell, g3.block, fun g o hm => g3.newM g o (mof_set hm), g3.env⟩

/-- The answer, where pointers to own variables are read as what these hold. -/
def isX : List Nat → AVal → AVal → Store → Prop
  | [], r, r0, σ' => isT r r0 σ'
  | b :: bs, r, r0, σ' => ∃ cs, getS σ' b = some (.var cs) ∧ isX bs r (exA b cs r0) (σ'.set b none)

theorem CallSh.isX {g : FuncId} {args : List AVal} {σ : Store} {r : AVal} : ∀ (bs : List Nat), CallSh P g args σ (isX bs r) → CallSh P g args σ (isT r)
  | [], h => h
  | b :: bs, h => CallSh.isX bs (h.exA fun r0 σ' q => by obtain ⟨cs, h1, h2⟩ := q; exact ⟨b, cs, h1, h2⟩)

theorem CallEq.beginX {g : FuncId} {fn : Func} {c : Code} {args : List AVal} {r : AVal} {m : Nat} {rs : List ResultVar} (bs : List Nat) (n : Nat) (hf : P.funcs[g]? = some fn) (hb : fn.body = some c) (hr : fn.results.toList = rs) (hm : fn.ntmps - args.length = m)
    (hname : (fn.name == "runtime.NumGoroutine") = false) (hl : r.low 0)
    (h : vcK P ⟨0, none⟩ (retQ P rs (Abs.isX bs r)) n [.code c] .normal (args ++ List.replicate m .undef) []) : CallEq P g args r :=
  CallSh.pureT (CallSh.isX bs (CallSh.start n hf hb hr hm hname h)) hl
end
end Go.Abs
