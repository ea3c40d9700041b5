/- Part 38 of my own framework and of the walks of functions: AcsN. -/
import Derived.Test.YtngbclnedkmiaaaDoorOwn37
import Derived.Laws.Externs
import Derived.MapKept
set_option linter.unusedVariables false
set_option linter.unusedSectionVars false
set_option linter.unusedSimpArgs false

/- A map of one's own is shown to a call, for the last time; and a map is copied. -/
namespace Go.Abs
open Go

/-- The own map q as one that nobody writes. -/
def frM (q : Nat) (ks vs : List AVal) : AVal → AVal
  | .map b => if b = q then .pm ks vs else .map b
  | a => a

@[go_sem] theorem tak_map {t u : TypeId} {x : AVal} {ok : Bool} {l : Lay} : taK t u x ok l .map = if t = u then some (if ok then .tup [x, .bool true] else x) else if ok then some (.tup [zeroV l, .bool false]) else none := (Eq.refl _).trans rfl
section
variable {P : Program} {X : Nat → Nat → Prop} {base : Nat} {σ : Store} {β β' : Env} {w w' : World}

theorem rep_frM {q : Nat} {ks vs : List AVal} {fz : Bool} (hr : RelS X base σ β w) (hb : σ[q]? = some (some (.map ks vs fz))) {v : Value} {a : AVal} (h : Rep w (MT X σ β) β v a) : Rep w (MT X (σ.set q none) β) β v (frM q ks vs a) := by
  have hk : Keeps w (MT X σ β) w (MT X (σ.set q none) β) := Keeps.anti fun g o h => h.imp id mof_set
  cases a with
  | map b =>
    simp only [frM]
    split
    · rename_i e
      subst e
      cases h with
      | @map _ L hh =>
        obtain ⟨L', q1, q2, q3, es, clk, q4, q5, q6, q7, q8⟩ := hr.blk b _ hb
        obtain rfl := Option.some.inj (q1.symm.trans hh)
        have hM : ∀ o, ¬ MT X (σ.set b none) β L'.g o := by
          rintro o (hx | ⟨c2, y, L2, m1, m2, m3, m4⟩)
          · exact q3 _ hx
          · obtain ⟨n1, n2⟩ := set_get m1
            exact n1 (hr.inj c2 b y _ L2 L' n2 hb m2 q1 m3)
        exact .pm q4 (hM _) q5 q6 (fun k hk' => (q7 k hk').mono hk (fun _ _ h => h)) fun k hk' => (q8 k hk').mono hk (fun _ _ h => h)
    · exact h.mono hk (fun _ _ h => h)
  | _ => exact h.mono hk (fun _ _ h => h)

/-- A call gets an own map that is not asked for afterwards. -/
theorem VCall.frzM {f : AVal} {args : List AVal} {K : AVal → Store → Prop} {q : Nat} {ks vs : List AVal} {fz : Bool} (hb : getS σ q = some (.map ks vs fz))
    (h : VCall P f (args.map (frM q ks vs)) (σ.set q none) K) : VCall P f args σ K := by
  intro X base β w vf vs' h1 h1' h2 h3 fr cs h4
  have hb' := getS_some hb
  have hk : Keeps w (MT X σ β) w (MT X (σ.set q none) β) := Keeps.anti fun g o h => h.imp id mof_set
  have h1e : RelS X base (σ.set q none) β w := h1.less (fun c x hc => (set_get hc).2) List.length_set
  obtain ⟨r, σ', β', v, w', g0, g1, g2, g3, g4, g5⟩ := h X base β w vf vs' h1e (h1'.mono hk (fun _ _ h => h)) (by simpa using h2) (fun k hk' => by
    rw [List.length_map] at hk'
    have := rep_frM h1 hb' (h3 k hk')
    simpa [List.getD_eq_getElem?_getD, hk'] using this) fr cs h4
  refine ⟨r, σ', β', v, w', g0, g1, g2, ?_, by simpa using g4, g5⟩
  exact ⟨g3.os, g3.tape, g3.output, g3.size, fun g o v hc hn => g3.cell g o v hc (fun hm => hn (mof_set hm)), fun g hg hn => g3.block g hg (fun o hm => hn o (mof_set hm)), fun g o hm => (g3.newM g o hm).imp mof_set id, fun b hb => g3.env b (by simpa using hb)⟩

theorem run_maps_clone {r : Nat} {es : Array MapEntry} {clock : Nat} (t : TypeId) (hb : w.heap[r]? = some (.map es clock)) :
    (Extern.MapsClone.clone #[.iface t (.map (some r))]).run P w = .ok (.iface t (.map (some w.heap.size))) (w.alloc (.map es clock)) := by
  have e : Extern.MapsClone.clone #[.iface t (.map (some r))] = (getObj r >>= fun o => match o with
      | .map entries clock => (newObj (.map entries clock) >>= fun n => pure (.iface t (.map (some n))))
      | _ => stuck "maps.clone: a map expected") := rfl
  rw [e]
  simp [MapKept.run_getObj_map hb, Result.andThen, go_sem]

/-- maps.clone: a map like it, of one's own. -/
theorem VCall.mapsClone {g : FuncId} {fn : Func} (hf : P.funcs[g]? = some fn) (hname : (fn.name == "runtime.NumGoroutine") = false) (hb : fn.body.isNone = true) (hn : Extern.findNext fn = none) (he : Extern.find fn = some Extern.MapsClone.clone)
    {t : TypeId} {ks vs : List AVal} {K : AVal → Store → Prop} (hk : K (.iface t (.map σ.length)) (σ ++ [some (.map ks vs false)])) : VCall P (.fn g [] []) [.iface t (.pm ks vs)] σ K := by
  refine VCall.sh ?_
  intro X base β w vs' h1 h2 h3 fr cs h4
  obtain ⟨x, rfl⟩ : ∃ x, vs' = #[x] := by
    simp at h2
    exact Array.size_eq_one_iff.1 h2
  have h3' := h3 0 (by simp)
  simp only [List.nil_append, List.append_nil, List.getD_cons_zero] at h3'
  have hx : (#[x] : Array Value).getD 0 undef = x := rfl
  rw [hx] at h3'
  cases h3' with
  | iface h5 =>
    cases h5 with
    | @pm g0 clk es _ _ hg hm hk1 hk2 hr1 hr2 =>
      have hrun : (callFunc g #[.iface t (.map (some g0))]).run P w = .ok (.value (.iface t (.map (some w.heap.size)))) (w.alloc (.map es clk)) := by
        rw [run_callFunc_extern hf hname hb hn he, run_maps_clone t hg]; rfl
      obtain ⟨v, w', β', o1, o2, o3, o4, o5, o6⟩ := new_out (P := P) h1 (h1.dom σ.length (Nat.le_refl _)) (.map ks vs false) ks.length 1 (obj := .map es clk) (w' := w.alloc (.map es clk)) rfl rfl rfl rfl (s := callFunc g #[.iface t (.map (some g0))]) (v := .iface t (.map (some w.heap.size))) (r := .iface t (.map σ.length)) hrun
        (fun M' β' hk' hβ => ⟨es, clk, heap_push_new w _, hk1, hk2, fun k hkk => (hr1 k hkk).mono hk' hβ, fun k hkk => (hr2 k hkk).mono hk' hβ⟩) (fun M' => .iface (.map (L := ⟨w.heap.size, 0, ks.length, 1⟩) (upd_same _ _ _)))
      rw [setS_end] at o2 o3 o4
      have hrun' : (callFunc g #[.iface t (.map (some g0))]).run P w = .ok (.value v) w' := by
        rcases o1 with o1 | ⟨o1, _⟩
        · exact o1
        · rw [hrun] at o1; cases o1
      refine ⟨_, _, β', v, w', hk, o2, o3, ⟨o4.os, o4.tape, o4.output, o4.size, o4.cell, o4.block, o4.newM, fun b hb => o5 b (by omega)⟩, by simp, fr.finish v, cs, w', ?_, .refl _ _⟩
      simp only [stepG.apply, if_true, Sem.runT_eq, hrun', GStep.bare_after, GStep.bare_go]
end
end Go.Abs
