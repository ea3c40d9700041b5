/- Part 49 of my own framework and of the walks of functions: AcsT. -/
import Derived.Test.YtngbclnedkmiaaaDoorOwn48
set_option linter.unusedVariables false
set_option linter.unusedSectionVars false
set_option linter.unusedSimpArgs false

/- A call that sees one block alone, at another place of the store. -/
namespace Go.Abs
open Go

section
variable {P : Program}

theorem one_get {B x : Blk} {b : Nat} : ([some B] : Store)[b]? = some (some x) ↔ b = 0 ∧ B = x := by
  cases b with
  | zero => simp
  | succ b => simp

theorem VCall.one {F : Frame → List Frame → Sem Next → World → Value → World → Prop} {f : AVal} {args : List AVal} {K : AVal → Store → Prop} {Z : Store} {i : Nat} {B : Blk} (hZ : ∀ b x, Z[b]? = some (some x) ↔ b = i ∧ B = x) (hB : B.low 0) (hf : f.low 0) (ha : lowL 1 args)
    (h : VCallG P F f args [some B] (fun r σ' => r.low 0 ∧ ∃ B', σ' = [some B'] ∧ B'.low 0 ∧ K r (Z.set i (some B')))) : VCallG P F f (renL (fun _ => i) args) Z K := by
  intro X base β w vf vs h1 h1' h2 h3 fr cs h4
  rw [renL_len] at h2 h3
  obtain ⟨L, l1, l2, l3, l4⟩ := h1.blk i B ((hZ i B).2 ⟨rfl, rfl⟩)
  have hiZ : i < Z.length := (List.getElem?_eq_some_iff.1 ((hZ i B).2 ⟨rfl, rfl⟩)).1
  have e0 : envR β (fun _ => i) 1 0 = some L := l1
  have hm : ∀ g o, Mof Z β g o ↔ Mof [some B] (envR β (fun _ => i) 1) g o := fun g o => by
    constructor
    · rintro ⟨b, x, L', m1, m2, m3, m4⟩
      obtain ⟨rfl, rfl⟩ := (hZ b x).1 m1
      exact ⟨0, B, L', rfl, m2, m3, m4⟩
    · rintro ⟨b, x, L', m1, m2, m3, m4⟩
      obtain ⟨rfl, rfl⟩ := one_get.1 m1
      exact ⟨i, B, L', (hZ i B).2 ⟨rfl, rfl⟩, m2, m3, m4⟩
  have hM : MT X [some B] (envR β (fun _ => i) 1) = MT X Z β := funext fun g => funext fun o => propext (or_congr Iff.rfl (hm g o).symm)
  have hr : RelS X base [some B] (envR β (fun _ => i) 1) w := by
    refine ⟨fun b hb => ?_, fun b x hb => ?_, fun b b' x y L' L'' e1 e2 _ _ _ => ?_, h1.size, h1.xlt, h1.gl⟩
    · simp only [List.length_singleton] at hb
      exact if_neg (by omega)
    · obtain ⟨rfl, rfl⟩ := one_get.1 hb
      refine ⟨L, e0, l2, l3, ?_⟩
      rw [hM]
      exact BlkOk.low (n := 0) (fun b hb => absurd hb (by omega)) l4 hB
    · rw [(one_get.1 e1).1, (one_get.1 e2).1]
  have hf' : Rep w (MT X Z β) (envR β (fun _ => i) 1) vf f := Rep.low (n := 0) (fun b hb => absurd hb (by omega)) h1' hf
  have ha' : ∀ k, k < args.length → Rep w (MT X Z β) (envR β (fun _ => i) 1) (vs.getD k undef) (args.getD k .undef) := fun k hk => by
    have := h3 k hk
    rw [renL_getD] at this
    exact Rep.ren this _ rfl (lowL_getD ha k)
  rw [← hM] at hf' ha'
  obtain ⟨r, σ', β', v, w', ⟨q1, B', rfl, q2, q3⟩, g1, g2, g3, g4, g5⟩ := h X base _ w vf vs hr hf' h2 ha' fr cs h4
  have e0' : β' 0 = some L := (g3.env 0 Nat.one_pos).trans e0
  have hZ' : ∀ b x, (Z.set i (some B'))[b]? = some (some x) ↔ b = i ∧ B' = x := fun b x => by
    by_cases hb : b = i
    · subst hb; rw [List.getElem?_set_self hiZ]; simp
    · rw [List.getElem?_set_ne (fun e => hb e.symm)]
      constructor
      · intro e; exact absurd ((hZ b x).1 e).1 hb
      · intro e; exact absurd e.1 hb
  have hm' : ∀ g o, Mof (Z.set i (some B')) β g o ↔ Mof [some B'] β' g o := fun g o => by
    constructor
    · rintro ⟨b, x, L', m1, m2, m3, m4⟩
      obtain ⟨rfl, rfl⟩ := (hZ' b x).1 m1
      obtain rfl := Option.some.inj (l1.symm.trans m2)
      exact ⟨0, B', L, rfl, e0', m3, m4⟩
    · rintro ⟨b, x, L', m1, m2, m3, m4⟩
      obtain ⟨rfl, rfl⟩ := one_get.1 m1
      obtain rfl := Option.some.inj (e0'.symm.trans m2)
      exact ⟨i, B', L, (hZ' i B').2 ⟨rfl, rfl⟩, l1, m3, m4⟩
  have hM' : MT X [some B'] β' = MT X (Z.set i (some B')) β := funext fun g => funext fun o => propext (or_congr Iff.rfl (hm' g o).symm)
  refine ⟨r, Z.set i (some B'), β, v, w', q3, ?_, ?_, ?_, by simp, g5⟩
  · refine ⟨fun b hb => h1.dom b (by simpa using hb), fun b x hb => ?_, fun b b' x y L' L'' e1 e2 _ _ _ => ?_, g1.size, g1.xlt, g1.gl⟩
    · obtain ⟨rfl, rfl⟩ := (hZ' b x).1 hb
      obtain ⟨L', k1, k2, k3, k4⟩ := g1.blk 0 B' rfl
      obtain rfl := Option.some.inj (e0'.symm.trans k1)
      refine ⟨L, l1, k2, k3, ?_⟩
      rw [← hM']
      exact BlkOk.low (n := 0) (fun b hb => absurd hb (by omega)) k4 q2
    · rw [((hZ' _ _).1 e1).1, ((hZ' _ _).1 e2).1]
  · rw [← hM']
    exact Rep.low (n := 0) (fun b hb => absurd hb (by omega)) g2 q1
  · exact ⟨g3.os, g3.tape, g3.output, g3.size, fun g o x hc hn => g3.cell g o x hc fun hx => hn ((hm g o).2 hx), fun g hg hn => g3.block g hg fun o hx => hn o ((hm g o).2 hx), fun g o hx => (g3.newM g o ((hm' g o).1 hx)).imp (hm g o).2 id, fun _ _ => rfl⟩

/-- A call that sees one block alone runs the same where that block stands elsewhere, with others beside it. -/
theorem VCall.at1 {F : Frame → List Frame → Sem Next → World → Value → World → Prop} {f : AVal} {args : List AVal} {K : AVal → Store → Prop} {σ : Store} (i : Nat) {B : Blk} (hi : σ[i]? = some (some B)) (hB : B.low 0) (hf : f.low 0) (ha : lowL 1 args)
    (h : VCallG P F f args [some B] (fun r σ' => r.low 0 ∧ ∃ B', σ' = [some B'] ∧ B'.low 0 ∧ K r (σ.set i (some B')))) : VCallG P F f (renL (fun _ => i) args) σ K := by
  have hlt : i < σ.length := (List.getElem?_eq_some_iff.1 hi).1
  refine VCall.frame (fun b => decide (b = i)) (K' := fun r σ2 => ∃ B', σ2 = (maskS (fun b => decide (b = i)) 0 σ).set i (some B') ∧ K r (σ.set i (some B'))) ?_ ?_
  · refine VCall.one (B := B) ?_ hB hf ha (h.mono ?_)
    · intro b x
      rw [maskS_get, Nat.zero_add]
      by_cases hb : b = i
      · subst hb; simp [hi]
      · simp [hb]
    · rintro r σ' ⟨q1, B', rfl, q2, q3⟩
      exact ⟨q1, B', rfl, q2, B', rfl, q3⟩
  · rintro r σ' ⟨B', rfl, hk⟩
    refine ⟨fun b hb hv => ?_, ?_⟩
    · simp only [decide_eq_false_iff_not] at hv
      rw [List.getElem?_set_ne (fun e => hv e.symm), maskS_get, Nat.zero_add, List.getElem?_eq_getElem hb]; simp [hv]
    · have e : backS (fun b => decide (b = i)) 0 ((maskS (fun b => decide (b = i)) 0 σ).set i (some B')) σ = σ.set i (some B') := by
        refine List.ext_getElem? fun b => ?_
        rw [backS_get (fun b => decide (b = i)) ((maskS (fun b => decide (b = i)) 0 σ).set i (some B')) σ 0 b (by rw [List.length_set, maskS_len]; exact Nat.le_refl _), Nat.zero_add]
        by_cases hb : b = i
        · subst hb
          rw [if_neg (by simp), List.getElem?_set_self (by rw [maskS_len]; exact hlt), List.getElem?_set_self hlt]
        · by_cases hbl : b < σ.length
          · rw [if_pos ⟨hbl, by simpa using hb⟩, List.getElem?_set_ne (fun e => hb e.symm)]
          · rw [if_neg (fun h => hbl h.1), List.getElem?_eq_none (by rw [List.length_set, maskS_len]; omega), List.getElem?_eq_none (by rw [List.length_set]; omega)]
      rw [e]; exact hk
end
end Go.Abs
