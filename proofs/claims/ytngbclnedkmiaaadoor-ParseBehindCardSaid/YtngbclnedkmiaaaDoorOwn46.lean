/- Part 46 of my own framework and of the walks of functions: AcsR. -/
import Derived.Test.YtngbclnedkmiaaaDoorOwn45
set_option linter.unusedVariables false
set_option linter.unusedSectionVars false
set_option linter.unusedSimpArgs false

/- Calls whose answers are read as trees; panics in regions that draw. -/
namespace Go.Abs
open Go

section
variable {P : Program} {F : Frame → List Frame → Sem Next → World → Value → World → Prop} {σ : Store}

/-- The answer is read as a tree, and what was laid is let go. -/
def treeK (K : AVal → Store → Prop) (n : Nat) (r0 : AVal) (σ' : Store) : Prop :=
  ∃ r σ3, pT (fun b => decide (n ≤ b)) σ' r r0 ∧ leSo σ3 σ' ∧ σ3.length = n ∧ lowSo n σ3 ∧ r.low 0 ∧ K r σ3

theorem CallSh.tree {g : FuncId} {args : List AVal} {K : AVal → Store → Prop} (h : CallShG P F g args σ (treeK K σ.length)) : CallShG P F g args σ K := by
  intro X base β w vs h1 h2 h3 fr cs h4
  obtain ⟨r0, σ', β', v, w', ⟨r, σ3, k1, k2, k3, k4, k5, k6⟩, g1, g2, g3, g4, g5⟩ := h X base β w vs h1 h2 h3 fr cs h4
  have hf := frzI_froz (fun b => decide (σ.length ≤ b)) σ'
  have hget : ∀ b, b < σ.length → (frzI (fun b => decide (σ.length ≤ b)) 0 σ')[b]? = σ'[b]? := fun b hb => by
    rw [frzI_get, Nat.zero_add]
    have : decide (σ.length ≤ b) = false := by simp; omega
    rw [this]
    cases σ'[b]? <;> rfl
  generalize hσf : frzI (fun b => decide (σ.length ≤ b)) 0 σ' = σf at hf hget
  have hrf := g1.frz hf.frz
  have hr' := (pT_good hrf hf r k1).1 v (g2.mono (frz_keeps hf.frz) (fun _ _ h => h))
  have hle : leS σ3 σf := fun b x hb => by
    have hbn : b < σ.length := by have := (List.getElem?_eq_some_iff.1 hb).1; omega
    rw [hget b hbn]; exact leSo_spec k2 b x hb
  have hs := hrf.drop hle k3 (lowSo_spec k4)
  have hrep := Rep.drop hr' hle k3 (low_mono (Nat.zero_le _) k5)
  exact ⟨r, σ3, _, v, w', k6, hs, hrep, g3.drop (leSo_spec k2) k3 (Nat.le_refl _), by omega, g5⟩

theorem CallSh.or_begin {g : FuncId} {fn : Func} {c : Code} {first captured args all : List AVal} {K Kp : AVal → Store → Prop} {m : Nat} {rs : List ResultVar} (hf : P.funcs[g]? = some fn) (hb : fn.body = some c) (hr : fn.results.toList = rs)
    (hall : first ++ args ++ captured = all) (hm : fn.ntmps - all.length = m) (hname : (fn.name == "runtime.NumGoroutine") = false) (hs : (∀ r σ', ¬ Kp r σ') ∨ (∀ r σ', ¬ K r σ'))
    (h : EvK P ⟨σ.length, none⟩ (retX P rs (treeK K σ.length) (treeK Kp σ.length)) [.code c, .thr] .normal ⟨all ++ List.replicate m .undef, σ⟩) :
    VCall P (.fn g first captured) args σ K ∨ VPan P (.fn g first captured) args σ Kp := by
  subst hr hm hall
  have h' : EvS P ⟨σ.length, none⟩ c (St.enter fn (first ++ args ++ captured) σ) (retX P fn.results.toList (treeK K σ.length) (treeK Kp σ.length)) := EvS.mono h fun e s q => by
    have := evK_thr.1 q
    simpa only [EvK] using this
  rcases CallSh.bodyX hf hb hname h' (hs.imp (fun hs r σ' ⟨_, _, _, _, _, _, _, q⟩ => hs _ _ q) (fun hs r σ' ⟨_, _, _, _, _, _, _, q⟩ => hs _ _ q)) with h | h
  · exact .inl (VCall.sh (CallSh.tree h))
  · exact .inr (VCall.sh (CallSh.tree h))

/-- A call that answers, not only where that is asked. -/
theorem CallOr.ok {f : AVal} {args : List AVal} {K : AVal → Store → Prop} {Kp : Value → Store → Prop} (h : VCall P f args σ K) : CallOr P f args σ K Kp := .inl h
theorem CallOr.pan {f : AVal} {args : List AVal} {K : AVal → Store → Prop} {Kp : Value → Store → Prop} (h : VPan P f args σ fun r σ' => ∃ u, pvV r = some u ∧ Kp u σ') : CallOr P f args σ K Kp := .inr h
end

/-! ### a panic in a region that draws -/
/-- The operation, taken out. -/
def fakeO (o : Oper) : Oper := ⟨o.dst, .move (.const undef), o.type, o.pos, o.after, none⟩
def fakeL (ds : List Nat) : Nat → List Oper → List Oper
  | _, [] => []
  | i, o :: l => (if ds.contains i = true then fakeO o else o) :: fakeL ds (i + 1) l

theorem fakeL_get (ds : List Nat) : ∀ (l : List Oper) (i j : Nat), (fakeL ds i l)[j]? = (l[j]?).map fun o => if ds.contains (i + j) = true then fakeO o else o
  | [], i, j => by simp [fakeL]
  | o :: l, i, 0 => by simp [fakeL]
  | o :: l, i, j + 1 => by
    simp only [fakeL, List.getElem?_cons_succ, fakeL_get ds l (i + 1) j]
    rw [show i + 1 + j = i + (j + 1) by omega]

theorem fakeL_len (ds : List Nat) : ∀ (l : List Oper) (i : Nat), (fakeL ds i l).length = l.length
  | [], i => rfl
  | o :: l, i => by simp [fakeL, fakeL_len ds l (i + 1)]

def isTmp (t : Tmp) : Operand → Bool
  | .tmp t' => t' == t
  | _ => false

section
variable {P : Program} {lo : Ctx} {Q : AExit → St → Prop} {ops : Array Oper}

theorem EvK.drawP {k : List KI} {id : Nat} {tm : List AVal} {σ : Store} (fs : List Fp) (n0 N : Nat) (hm : P.follows .mixedOrders = true) (hok : drawOk ops fs n0 N = true) (h0 : σ.length = n0) (hN : n0 ≤ N)
    (i0 : Nat) (ds : List Nat) {d : Option Tmp} {fo : Operand} {args : Array Operand} {ts : Array TypeId} {tt : TypeId} {ps : String} {af : Array Edge} (ho : ops.toList[i0]? = some ⟨d, .call ⟨.value fo, args, ts⟩, tt, ps, af, none⟩)
    (hi : ds.contains i0 = true) (hds : (ds.all fun j => j == i0 || ((befs [] ops.toList).getD j 0).testBit i0) = true)
    (hlook : ((List.range ops.size).all fun j => decide (j < i0) || (fo :: args.toList).all fun x => match (dstsOf ops).getD j none with | some t => !isTmp t x | none => true) = true)
    (hwr : ((List.range ops.size).all fun j => ds.contains j || (fpAt fs j).wr.isEmpty) = true) (hhd : (fpAt fs i0).hd = [])
    (h : drawK P lo (fun _ st => VPan P (ev st.tm fo) (args.toList.map (ev st.tm)) st.σ (fun r σ1 => ∃ u, pvV r = some u ∧ ∀ tm' : List AVal, EvK P lo Q k (.panic u) ⟨tm', σ1⟩)) [] ops (fakeL ds 0 ops.toList) fs tm (padS N σ)) :
    EvK P lo Q (.code (.region id ops true) :: k) .normal ⟨tm, σ⟩ := by
  have hk := drawOk_spec hok
  obtain ⟨TM, SS, e1, e2, e3, e4⟩ := drawK_text _ _ _ _ h
  have hlen : (fakeL ds 0 ops.toList).length = ops.size := by rw [fakeL_len]; simp
  rw [hlen] at e4
  have e4 : VPan P (ev (TM ops.size) fo) (args.toList.map (ev (TM ops.size))) (SS ops.size) (fun r σ1 => ∃ u, pvV r = some u ∧ ∀ tm' : List AVal, EvK P lo Q k (.panic u) ⟨tm', σ1⟩) := e4
  have hi0 : i0 < ops.size := by
    have := (List.getElem?_eq_some_iff.1 ho).1
    simpa using this
  have hoi : ops[i0]? = some ⟨d, .call ⟨.value fo, args, ts⟩, tt, ps, af, none⟩ := by simpa using ho
  have hput0 : ∀ i, i < ops.size → mergeW (fpAt fs i).wr 0 (maskF (fpAt fs i) (SS i)) (SS i) = SS i := by
    intro i hi
    apply List.ext_getElem?
    intro c
    rw [mergeW_get (by rw [maskF, maskS_len]), Nat.zero_add]
    split
    · rename_i hc
      rw [maskF, maskS_get, Nat.zero_add]
      have := (hk.own i hi c hc).2.1
      have e : (!(fpAt fs i).hd.contains c) = true := by simp [this]
      rw [e]
      cases (SS i)[c]? <;> rfl
    · rfl
  have hT : ∀ i o, ops[i]? = some o → ((StepT P ops (fpAt fs i) o (TM i) (SS i) (TM (i + 1)) (SS (i + 1)) ∨ StepL P ops.size o (TM i) SS i (TM (i + 1)) ∧ (fpAt fs i).wr = []) ∨ ds.contains i = true ∧ (∃ v, TM (i + 1) = put (TM i) o.dst v) ∧ SS (i + 1) = SS i) := by
    intro i o ho'
    have h1 := e3 i (if ds.contains i = true then fakeO o else o) (by rw [fakeL_get, Nat.zero_add]; simp [ho'])
    by_cases hc : ds.contains i = true
    · rw [if_pos hc] at h1
      refine .inr ⟨hc, ?_⟩
      rcases h1 with ⟨g, _, _⟩ | ⟨_, r, σ1, g1, g2, g3, g4⟩
      · simp [gdA, fakeO] at g
      · have g1' : (ofValue undef, maskF (fpAt fs i) (SS i)) = (r, σ1) := by
          have : opE P (maskF (fpAt fs i) (SS i)) ((fpAt fs i).name (SS i)) (ev (TM i)) (.move (.const undef)) = some (r, σ1) := g1
          simp only [opE] at this
          exact Option.some.inj this
        obtain ⟨rfl, rfl⟩ := Prod.mk.injEq .. ▸ g1'
        exact ⟨⟨_, g3⟩, by rw [g4]; exact hput0 i (Array.getElem?_eq_some_iff.1 ho').1⟩
    · rw [if_neg hc] at h1
      exact .inl (.inl h1)
  have hSS : ∀ i, i < ops.size → SS (i + 1) = SS i := by
    intro i hi'
    rcases hT i ops[i] (Array.getElem?_eq_getElem hi') with (h1 | ⟨⟨_, _, _, _, _, _, _, _, _, h5⟩, _⟩) | ⟨_, _, h5⟩
    · rcases h1 with ⟨_, _, h5⟩ | ⟨_, r, σ1, _, h2, _, h5⟩
      · exact h5
      · by_cases hc : ds.contains i = true
        · have h1 := e3 i (if ds.contains i = true then fakeO ops[i] else ops[i]) (by rw [fakeL_get, Nat.zero_add]; simp [hi'])
          rw [if_pos hc] at h1
          rcases h1 with ⟨g, _, _⟩ | ⟨_, r, σ1, g1, g2, g3, g4⟩
          · simp [gdA, fakeO] at g
          · have g1' : (ofValue undef, maskF (fpAt fs i) (SS i)) = (r, σ1) := by
              have : opE P (maskF (fpAt fs i) (SS i)) ((fpAt fs i).name (SS i)) (ev (TM i)) (.move (.const undef)) = some (r, σ1) := g1
              simp only [opE] at this
              exact Option.some.inj this
            obtain ⟨rfl, rfl⟩ := Prod.mk.injEq .. ▸ g1'
            rw [g4]; exact hput0 i hi'
        · have hw := List.all_eq_true.1 hwr i (by simpa using hi')
          simp only [hc, Bool.false_or, List.isEmpty_iff] at hw
          rw [h5, hw]; exact mergeW_no _ _ _
    · exact h5
    · exact h5
  have hSall : ∀ n i, i + n = ops.size → SS i = SS ops.size := by
    intro n
    induction n with
    | zero => intro i h; rw [show i = ops.size by omega]
    | succ n ih => intro i h; rw [← ih (i + 1) (by omega), hSS i (by omega)]
  have hTM : ∀ (x : Operand), x ∈ fo :: args.toList → ∀ n i, i + n = ops.size → i0 ≤ i → ev (TM i) x = ev (TM ops.size) x := by
    intro x hx n
    induction n with
    | zero => intro i h _; rw [show i = ops.size by omega]
    | succ n ih =>
      intro i h hle
      rw [← ih (i + 1) (by omega) (by omega)]
      have ho' : ops[i]? = some ops[i] := Array.getElem?_eq_getElem (by omega)
      have hex : ∃ v, TM (i + 1) = put (TM i) ops[i].dst v := by
        rcases hT i ops[i] ho' with (h1 | ⟨⟨_, _, _, _, _, _, _, _, h4, _⟩, _⟩) | ⟨_, h4, _⟩
        · rcases h1 with ⟨_, h4, _⟩ | ⟨_, r, σ1, _, _, h4, _⟩
          · exact ⟨_, h4⟩
          · exact ⟨_, h4⟩
        · exact ⟨_, h4⟩
        · exact h4
      obtain ⟨v, hv⟩ := hex
      have hl := List.all_eq_true.1 hlook i (by simp; omega)
      simp only [Bool.or_eq_true, decide_eq_true_eq, show ¬ i < i0 by omega, false_or] at hl
      have hl := List.all_eq_true.1 hl x hx
      cases x with
      | tmp t =>
        simp only [ev, hv]
        cases hd : ops[i].dst with
        | none => rfl
        | some dd =>
          have hds : (dstsOf ops).getD i none = some dd := by simp [dstsOf, List.getD, ho', hd]
          rw [hds] at hl
          simp only [isTmp, Bool.not_eq_true', beq_eq_false_iff_ne, ne_eq] at hl
          have hne : dd ≠ t := fun e => hl e.symm
          simp only [put, List.getD, List.getElem?_set_ne hne]
      | _ => rfl
  have hln : ∀ i, i ≤ ops.size → (TM i).length = (TM 0).length ∧ (SS i).length = N := by
    intro i
    induction i with
    | zero => intro _; exact ⟨rfl, by rw [e2, padS_len (by omega)]⟩
    | succ i ih =>
      intro hi
      have h2 := ih (by omega)
      rcases hT i ops[i] (Array.getElem?_eq_getElem (by omega)) with (h3 | ⟨⟨_, _, _, _, _, _, _, _, h4, h5⟩, _⟩) | ⟨_, ⟨_, h4⟩, h5⟩
      · have := h3.len
        omega
      · rw [h4, h5, put_length]; exact h2
      · rw [h4, h5, put_length]; exact h2
  have hm0 := (hln ops.size (Nat.le_refl _)).2
  intro X base mb D β a w b kk cs h1 h2 h3 _
  simp only at h1
  have hrel : Rel X base mb D ⟨TM 0, SS 0⟩ β a { w with drawn := w.drawn + 1 } := by
    have := rel_drawn (n := w.drawn + 1) h3
    rw [e1, e2]
    exact ⟨this.s.pad (by simp only; omega), this.n, fun j hj => by rw [MT_pad]; exact this.t j hj, this.d⟩
  have hout := draw_run (lo := lo) (X := X) (base := base) (mb := mb) (D := D) (Q := fun e s => EvK P lo Q k e s) (z := some i0) (dd := fun j => ds.contains j = true) (fun i hz => by cases hz; exact ⟨hi0, hi⟩) (fun j hj => ⟨i0, rfl, by
      have := List.all_eq_true.1 hds j (by simpa using hj)
      simp only [Bool.or_eq_true, beq_iff_eq] at this
      exact this.imp (fun h => h) fun hb => befs_spec ops.toList [] (by simp) (fun j i hji => by simp at hji) j i0 hb⟩)
    hk (by omega) hN hT (fun i hi => (hln i hi).1) (fun i hi => (hln i hi).2) b kk cs
    (by
      intro i o hz ho' tm' σ' β' a' w' rest hrd hgd hrs hl' hrel'
      cases hz
      have hoo := Option.some.inj (ho'.symm.trans hoi)
      subst hoo
      have hσ : σ' = SS ops.size := by
        rw [← hSall (ops.size - i0) i0 (by omega)]
        exact List.ext_getElem? fun c => hrs c (by rw [hhd]; simp)
      have hev : ∀ x ∈ fo :: args.toList, ev tm' x = ev (TM ops.size) x := fun x hx => by
        rw [← hTM x hx (ops.size - i0) i0 (by omega) (Nat.le_refl _)]
        cases x with
        | tmp t =>
          refine hrd t ?_
          simp only [Oper.looksAt, List.mem_append, List.mem_filterMap]
          refine .inl ⟨.tmp t, ?_, rfl⟩
          simp only [Op.operands, Call.operands]
          simp only [List.mem_cons, Array.mem_toList_iff] at hx
          rcases hx with rfl | hx
          · simp
          · simp [hx]
        | _ => rfl
      subst hσ
      rw [← hev fo (by simp), show args.toList.map (ev (TM ops.size)) = args.toList.map (ev tm') from List.map_congr_left fun x hx => (hev x (by simp at hx; simp [hx])).symm] at e4
      have hw := gdA_wanted hrel' (b := true) (o := ⟨d, .call ⟨.value fo, args, ts⟩, tt, ps, af, none⟩) (ops := ops) (by simp [gdA])
      obtain ⟨r, σ1, β1, v, w1, ⟨u, hu, q⟩, g1, gr, g3, g4, f1, cs1, w2, g5, g6⟩ := e4 X base β' w' (a'.eval fo) (args.map a'.eval) hrel'.s (ev_rep hrel' fo) (by simp) (fun j hj => by
        simp only [List.length_map, Array.length_toList] at hj
        rw [Array.getD_eq_getD_getElem?, Array.getElem?_map, Array.getElem?_eq_getElem hj]
        simp only [List.getD, List.getElem?_map, Array.getElem?_toList, Array.getElem?_eq_getElem hj, Option.map_some, Option.getD_some]
        exact ev_rep hrel' _) (b.atR a' (.inRegion ops (i0 :: rest) :: kk)) cs (fun d b' s a' k' e => by simp [Frame.atR] at e)
      have hβ : ∀ c L, β' c = some L → β1 c = some L := fun c L hc => by
        by_cases hcl : c < (SS ops.size).length
        · rw [g3.env c hcl]; exact hc
        · rw [hrel'.s.dom c (by simp only; omega)] at hc; cases hc
      obtain rfl := pvV_inv hu gr
      refine ⟨v, ⟨tm', σ1⟩, β1, a', w1, .inRegion ops (i0 :: rest) :: kk, q _, by simp only; omega, hrel'.keep g1 g3 hβ, g3.lower (by omega), .head (step_lone_go ?_) g6⟩
      rw [stepGR_op hoi hw, Oper.semAt_eq _ _ _ (fun c e => by cases e)]
      rw [← g5]
      congr 2)
    ops.size (w.tape w.drawn (.order b.fn id)) (Array.replicate ops.size false) (TM 0) (SS 0) β a { w with drawn := w.drawn + 1 } (by simp)
    (by simp [todoN]) (fun i j _ hj => by simp [Array.getD_eq_getD_getElem?, Array.getElem?_replicate] at hj; split at hj <;> simp at hj)
    (by
      have : (fun j => (Array.replicate ops.size false).getD j false = true) = fun _ => False := funext fun j => by simp [Array.getD_eq_getD_getElem?, Array.getElem?_replicate]; split <;> simp
      rw [this]; exact InvD.init)
    (by
      have : (fun j => (Array.replicate ops.size false).getD j false = true) = fun _ => False := funext fun j => by simp [Array.getD_eq_getD_getElem?, Array.getElem?_replicate]; split <;> simp
      rw [this]; exact InvD.init)
    rfl (hln 0 (Nat.zero_le _)).2 (fun i c hi _ hc => h3.s.dom c (by simp only; have := (hk.nam i hi c hc).1; omega)) hrel
    (fun j hj => by simp [Array.getD_eq_getD_getElem?, Array.getElem?_replicate] at hj; split at hj <;> simp at hj)
  rcases hout with ⟨hz, _⟩ | ⟨_, u, st', β', a', w', k', q, q0, r1, r2, r3⟩
  · cases hz
  rw [e2] at r2
  refine ⟨.panic u, st', β', a', w', q, q0, r1, ?_, k', .head stepR_region_draw ?_⟩
  · exact ⟨r2.os, r2.tape, r2.output, r2.size, fun g o v hc hn => r2.cell g o v hc fun hm => hn (mof_pad.1 hm), fun g hg hn => r2.block g hg fun o hm => hn o (mof_pad.1 hm), fun g o hm => (r2.newM g o hm).imp mof_pad.1 (fun h => h), r2.env⟩
  · have hs : Region.schedule (P.follows .mixedOrders) ops (w.tape w.drawn (.order b.fn id)) = Region.linearise.go .any ops ops.size (w.tape w.drawn (.order b.fn id)) (Array.replicate ops.size false) [] := by
      simp only [Region.schedule, hm, Bool.true_or, if_true]; rfl
    rw [hs]; exact r3

theorem fk_nil {ds : List Nat} {i : Nat} : fakeL ds i [] = [] := rfl
theorem fk_cons {ds : List Nat} {i : Nat} {d : Option Tmp} {op : Op} {tt : TypeId} {ps : String} {af : Array Edge} {gg : Option (Nat × Bool)} {l : List Oper} :
    fakeL ds i (⟨d, op, tt, ps, af, gg⟩ :: l) = (if ds.contains i = true then ⟨d, .move (.const undef), tt, ps, af, none⟩ else ⟨d, op, tt, ps, af, gg⟩) :: fakeL ds (i + 1) l := rfl
attribute [go_sem] fk_nil fk_cons
end
end Go.Abs
