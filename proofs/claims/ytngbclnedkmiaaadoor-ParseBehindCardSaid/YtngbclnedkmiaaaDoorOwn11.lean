/- Part 11 of my own framework and of the walks of functions: AbsN. -/
import Derived.Test.YtngbclnedkmiaaaDoorOwn10
set_option linter.unusedVariables false
set_option linter.unusedSectionVars false
set_option linter.unusedSimpArgs false

/- Calls by themselves: what is handed over is read as trees, and so is what comes back. -/
namespace Go.Abs
open Go

def purC (σ : Store) : AVal → Option AVal
  | .os b off n sz => match getS σ b with
    | some (.row es _) => if off + n ≤ es.length then some (.ps sz ((es.drop off).take n)) else none
    | _ => none
  | .map b => match getS σ b with
    | some (.map ks vs _) => some (.pm ks vs)
    | _ => none
  | a => some a

def purL (σ : Store) : List AVal → Option (List AVal)
  | [] => some []
  | a :: as_ => (purC σ a).bind fun x => (purL σ as_).map (x :: ·)

def purA (σ : Store) : AVal → Option AVal
  | .agg cs => (purL σ cs).map .agg
  | a => purC σ a

def purLA (σ : Store) : List AVal → Option (List AVal)
  | [] => some []
  | a :: as_ => (purA σ a).bind fun x => (purLA σ as_).map (x :: ·)

def purR (σ : Store) : AVal → Option AVal
  | .tup vs => (purLA σ vs).map .tup
  | a => purA σ a

def frzC (σ : Store) : AVal → Store
  | .os b off n _ => match getS σ b with
    | some (.row es fz) => setS σ b (.row es (max fz (off + n)))
    | _ => σ
  | .map b => match getS σ b with
    | some (.map ks vs _) => setS σ b (.map ks vs true)
    | _ => σ
  | _ => σ

def frzL (σ : Store) : List AVal → Store
  | [] => σ
  | a :: as_ => frzL (frzC σ a) as_

def frzA (σ : Store) : AVal → Store
  | .agg cs => frzL σ cs
  | a => frzC σ a

def frzLA (σ : Store) : List AVal → Store
  | [] => σ
  | a :: as_ => frzLA (frzA σ a) as_

def frzR (σ : Store) : AVal → Store
  | .tup vs => frzLA σ vs
  | a => frzA σ a

/-- The same block, of which less may be written. -/
def Blk.fle : Blk → Blk → Prop
  | .row es fz, .row es' fz' => es = es' ∧ fz ≤ fz'
  | .map ks vs f, .map ks' vs' f' => ks = ks' ∧ vs = vs' ∧ (f = true → f' = true)
  | a, b => a = b

theorem Blk.fle_refl (b : Blk) : b.fle b := by cases b <;> simp [Blk.fle]
theorem Blk.fle_trans {a b c : Blk} (h : a.fle b) (k : b.fle c) : a.fle c := by
  cases a <;> cases b <;> simp only [Blk.fle, reduceCtorEq] at h <;> cases c <;> simp only [Blk.fle, reduceCtorEq] at k ⊢
  · exact h.trans k
  · exact ⟨h.1.trans k.1, Nat.le_trans h.2 k.2⟩
  · exact ⟨h.1.trans k.1, h.2.1.trans k.2.1, fun q => k.2.2 (h.2.2 q)⟩
  · exact h.trans k
  · exact h.trans k

structure Frz (σ σf : Store) : Prop where
  len : σf.length = σ.length
  to : ∀ (b : Nat) (x : Blk), σ[b]? = some (some x) → ∃ y, σf[b]? = some (some y) ∧ x.fle y
  from_ : ∀ (b : Nat) (y : Blk), σf[b]? = some (some y) → ∃ x, σ[b]? = some (some x) ∧ x.fle y

theorem Frz.refl (σ : Store) : Frz σ σ := ⟨rfl, fun _ x h => ⟨x, h, Blk.fle_refl x⟩, fun _ x h => ⟨x, h, Blk.fle_refl x⟩⟩
theorem Frz.trans {a b c : Store} (h : Frz a b) (k : Frz b c) : Frz a c := by
  refine ⟨k.len.trans h.len, fun i x hx => ?_, fun i y hy => ?_⟩
  · obtain ⟨y, h1, h2⟩ := h.to i x hx
    obtain ⟨z, h3, h4⟩ := k.to i y h1
    exact ⟨z, h3, Blk.fle_trans h2 h4⟩
  · obtain ⟨x, h1, h2⟩ := k.from_ i y hy
    obtain ⟨z, h3, h4⟩ := h.from_ i x h1
    exact ⟨z, h3, Blk.fle_trans h4 h2⟩

theorem frz_set {σ : Store} {b : Nat} {x y : Blk} (h : getS σ b = some x) (hf : x.fle y) : Frz σ (setS σ b y) := by
  have hb := getS_some h
  have hlt : b < σ.length := (List.getElem?_eq_some_iff.1 hb).1
  have hs : setS σ b y = σ.set b (some y) := by simp [setS, hlt]
  rw [hs]
  refine ⟨by simp, fun i z hz => ?_, fun i z hz => ?_⟩
  · by_cases e : b = i
    · subst e
      rw [hb] at hz
      cases hz
      exact ⟨y, by simp [hlt], hf⟩
    · exact ⟨z, by rw [List.getElem?_set_ne e]; exact hz, Blk.fle_refl z⟩
  · by_cases e : b = i
    · subst e
      simp [hlt] at hz
      subst hz
      exact ⟨x, hb, hf⟩
    · rw [List.getElem?_set_ne e] at hz
      exact ⟨z, hz, Blk.fle_refl z⟩

theorem frzC_frz (σ : Store) (a : AVal) : Frz σ (frzC σ a) := by
  unfold frzC
  split
  · split
    · rename_i h; exact frz_set h ⟨rfl, Nat.le_max_left _ _⟩
    · exact Frz.refl σ
  · split
    · rename_i h; exact frz_set h ⟨rfl, rfl, fun _ => rfl⟩
    · exact Frz.refl σ
  · exact Frz.refl σ

theorem frzL_frz : ∀ (l : List AVal) (σ : Store), Frz σ (frzL σ l)
  | [], σ => Frz.refl σ
  | a :: as_, σ => (frzC_frz σ a).trans (frzL_frz as_ _)

theorem frzA_frz (σ : Store) (a : AVal) : Frz σ (frzA σ a) := by
  unfold frzA; split
  · exact frzL_frz _ _
  · exact frzC_frz _ _

theorem frzLA_frz : ∀ (l : List AVal) (σ : Store), Frz σ (frzLA σ l)
  | [], σ => Frz.refl σ
  | a :: as_, σ => (frzA_frz σ a).trans (frzLA_frz as_ _)

theorem frzR_frz (σ : Store) (a : AVal) : Frz σ (frzR σ a) := by
  unfold frzR; split
  · exact frzLA_frz _ _
  · exact frzA_frz _ _

/-- What a value names of rows and maps is not written any more. -/
def CovC (σf : Store) : AVal → Prop
  | .os b off n _ => ∃ es fz, σf[b]? = some (some (.row es fz)) ∧ off + n ≤ fz
  | .map b => ∃ ks vs, σf[b]? = some (some (.map ks vs true))
  | _ => True

def CovA (σf : Store) : AVal → Prop
  | .agg cs => ∀ c ∈ cs, CovC σf c
  | a => CovC σf a

theorem CovC.frz {σ σf : Store} {a : AVal} (h : CovC σ a) (hf : Frz σ σf) : CovC σf a := by
  cases a <;> first | trivial | skip
  · obtain ⟨es, fz, h1, h2⟩ := h
    obtain ⟨y, h3, h4⟩ := hf.to _ _ h1
    cases y <;> simp [Blk.fle] at h4
    exact ⟨_, _, h3, by omega⟩
  · obtain ⟨ks, vs, h1⟩ := h
    obtain ⟨y, h3, h4⟩ := hf.to _ _ h1
    cases y <;> simp [Blk.fle] at h4
    obtain ⟨q1, q2, q3⟩ := h4
    rw [q3] at h3
    exact ⟨_, _, h3⟩

theorem covA_iff {σ : Store} {a : AVal} (h : isAggA a = false) : CovA σ a ↔ CovC σ a := by
  cases a <;> first | exact Iff.rfl | (simp [isAggA] at h)

theorem purA_eq {σ : Store} {a : AVal} (h : isAggA a = false) : purA σ a = purC σ a := by
  cases a <;> first | rfl | (simp [isAggA] at h)

theorem frzA_eq {σ : Store} {a : AVal} (h : isAggA a = false) : frzA σ a = frzC σ a := by
  cases a <;> first | rfl | (simp [isAggA] at h)

theorem CovA.frz {σ σf : Store} {a : AVal} (h : CovA σ a) (hf : Frz σ σf) : CovA σf a := by
  cases a with
  | agg cs => exact fun c hc => CovC.frz (h c hc) hf
  | _ => exact (covA_iff rfl).2 (((covA_iff rfl).1 h).frz hf)

theorem covC {σ : Store} {a a' : AVal} (h : purC σ a = some a') : CovC (frzC σ a) a := by
  cases a <;> first | trivial | skip
  · rename_i b off n sz
    simp only [purC] at h
    split at h
    · rename_i es fz hb
      exact ⟨es, max fz (off + n), by simp only [frzC, hb]; exact setS_same _ _ _, Nat.le_max_right _ _⟩
    · cases h
  · rename_i b
    simp only [purC] at h
    split at h
    · rename_i ks vs f hb
      exact ⟨ks, vs, by simp only [frzC, hb]; exact setS_same _ _ _⟩
    · cases h

theorem purC_frz {σ σf : Store} (hf : Frz σ σf) {a a' : AVal} (h : purC σ a = some a') : purC σf a = some a' := by
  cases a <;> first | exact h | skip
  · rename_i b off n sz
    simp only [purC] at h ⊢
    split at h
    · rename_i es fz hb
      obtain ⟨y, h3, h4⟩ := hf.to _ _ (getS_some hb)
      cases y <;> simp [Blk.fle] at h4
      obtain ⟨rfl, _⟩ := h4
      rename_i fz' _
      have : getS σf b = some (.row es fz') := by unfold getS; rw [h3]; rfl
      rw [this]; exact h
    · cases h
  · rename_i b
    simp only [purC] at h ⊢
    split at h
    · rename_i ks vs f hb
      obtain ⟨y, h3, h4⟩ := hf.to _ _ (getS_some hb)
      cases y <;> simp [Blk.fle] at h4
      obtain ⟨rfl, rfl, _⟩ := h4
      rename_i f' _
      have : getS σf b = some (.map ks vs f') := by unfold getS; rw [h3]; rfl
      rw [this]; exact h
    · cases h

theorem covL : ∀ (l : List AVal) (σ : Store) (l' : List AVal), purL σ l = some l' → ∀ c ∈ l, CovC (frzL σ l) c
  | [], _, _, _ => fun c hc => by simp at hc
  | a :: as_, σ, l', h => by
    simp only [purL, Option.bind_eq_some_iff, Option.map_eq_some_iff] at h
    obtain ⟨x, h1, ys, h2, _⟩ := h
    have h2' : purL (frzC σ a) as_ = some ys := by
      have : ∀ (l : List AVal) (l' : List AVal), purL σ l = some l' → purL (frzC σ a) l = some l' := by
        intro l
        induction l with
        | nil => intro l' h; exact h
        | cons b bs ih =>
          intro l' h
          simp only [purL, Option.bind_eq_some_iff, Option.map_eq_some_iff] at h ⊢
          obtain ⟨y, q1, zs, q2, q3⟩ := h
          exact ⟨y, purC_frz (frzC_frz σ a) q1, zs, ih zs q2, q3⟩
      exact this as_ ys h2
    intro c hc
    simp only [List.mem_cons] at hc
    rcases hc with rfl | hc
    · exact (covC h1).frz (frzL_frz as_ _)
    · exact covL as_ _ ys h2' c hc

theorem covA {σ : Store} {a a' : AVal} (h : purA σ a = some a') : CovA (frzA σ a) a := by
  cases a with
  | agg cs =>
    simp only [purA, Option.map_eq_some_iff] at h
    obtain ⟨l', h1, _⟩ := h
    exact covL cs σ l' h1
  | _ => rw [purA_eq rfl] at h; rw [covA_iff rfl, frzA_eq rfl]; exact covC h

theorem purL_frz {σ σf : Store} (hf : Frz σ σf) : ∀ {l l' : List AVal}, purL σ l = some l' → purL σf l = some l'
  | [], _, h => h
  | a :: as_, l', h => by
    simp only [purL, Option.bind_eq_some_iff, Option.map_eq_some_iff] at h ⊢
    obtain ⟨y, q1, zs, q2, q3⟩ := h
    exact ⟨y, purC_frz hf q1, zs, purL_frz hf q2, q3⟩

theorem purA_frz {σ σf : Store} (hf : Frz σ σf) {a a' : AVal} (h : purA σ a = some a') : purA σf a = some a' := by
  cases a with
  | agg cs =>
    simp only [purA, Option.map_eq_some_iff] at h ⊢
    obtain ⟨l', h1, h2⟩ := h
    exact ⟨l', purL_frz hf h1, h2⟩
  | _ => rw [purA_eq rfl] at h ⊢; exact purC_frz hf h

theorem covLA : ∀ (l : List AVal) (σ : Store) (l' : List AVal), purLA σ l = some l' → ∀ c ∈ l, CovA (frzLA σ l) c
  | [], _, _, _ => fun c hc => by simp at hc
  | a :: as_, σ, l', h => by
    simp only [purLA, Option.bind_eq_some_iff, Option.map_eq_some_iff] at h
    obtain ⟨x, h1, ys, h2, _⟩ := h
    have h2' : purLA (frzA σ a) as_ = some ys := by
      have : ∀ (l : List AVal) (l' : List AVal), purLA σ l = some l' → purLA (frzA σ a) l = some l' := by
        intro l
        induction l with
        | nil => intro l' h; exact h
        | cons b bs ih =>
          intro l' h
          simp only [purLA, Option.bind_eq_some_iff, Option.map_eq_some_iff] at h ⊢
          obtain ⟨y, q1, zs, q2, q3⟩ := h
          exact ⟨y, purA_frz (frzA_frz σ a) q1, zs, ih zs q2, q3⟩
      exact this as_ ys h2
    intro c hc
    simp only [List.mem_cons] at hc
    rcases hc with rfl | hc
    · exact (covA h1).frz (frzLA_frz as_ _)
    · exact covLA as_ _ ys h2' c hc

section
variable {P : Program} {X : Nat → Nat → Prop} {base : Nat} {σ σf : Store} {β : Env} {w : World}

theorem Mof.frz (hf : Frz σ σf) {g o : Nat} (h : Mof σf β g o) : Mof σ β g o := by
  obtain ⟨b, y, L, h1, h2, h3, h4⟩ := h
  obtain ⟨x, h5, h6⟩ := hf.from_ b y h1
  refine ⟨b, x, L, h5, h2, h3, ?_⟩
  cases x <;> cases y <;> simp [Blk.fle, Blk.mut] at h6 h4 ⊢
  · have : _ := Nat.mul_le_mul_right L.sz h6.2; omega
  · rename_i f _ _ f'
    cases f with
    | false => rfl
    | true => rw [h6.2.2 rfl] at h4; cases h4

theorem frz_keeps (hf : Frz σ σf) : Keeps w (MT X σ β) w (MT X σf β) := Keeps.anti fun g o h => h.imp id fun hm => hm.frz hf

theorem RelS.frz (hr : RelS X base σ β w) (hf : Frz σ σf) : RelS X base σf β w := by
  refine ⟨fun b hb => hr.dom b (by rw [← hf.len]; exact hb), fun b y hb => ?_, fun b b' y y' L L' h1 h2 h3 h4 hg => ?_, hr.size, hr.xlt, hr.gl⟩
  · obtain ⟨x, h1, h2⟩ := hf.from_ b y hb
    obtain ⟨L, q1, q2, q3, q4⟩ := hr.blk b x h1
    refine ⟨L, q1, q2, q3, ?_⟩
    have q5 := q4.mono (frz_keeps (X := X) hf) (fun _ _ h => h) rfl
    cases x <;> cases y <;> simp [Blk.fle] at h2
    · subst h2; exact q5
    · obtain ⟨rfl, _⟩ := h2; exact q5
    · obtain ⟨rfl, rfl, _⟩ := h2; exact q5
    · obtain ⟨rfl, rfl⟩ := h2; exact q5
    · subst h2; exact q5
  · obtain ⟨x, q1, _⟩ := hf.from_ b y h1
    obtain ⟨x', q2, _⟩ := hf.from_ b' y' h2
    exact hr.inj b b' x x' L L' q1 q2 h3 h4 hg

theorem purC_rep (hr : RelS X base σ β w) (hf : Frz σ σf) {v : Value} {a a' : AVal} (hv : Rep w (MT X σ β) β v a) (h : purC σ a = some a') (hc : CovC σf a) : Rep w (MT X σf β) β v a' := by
  have same : Rep w (MT X σf β) β v a := hv.mono (frz_keeps hf) fun _ _ h => h
  have hrf := hr.frz hf
  cases a with
  | os b off n sz =>
    simp only [purC] at h
    split at h
    · rename_i es fz hb
      split at h
      · rename_i hle
        cases h
        obtain ⟨es', fz', hb', hcov⟩ := hc
        obtain ⟨x, hx1, hx2⟩ := hf.from_ b _ hb'
        have hb0 := getS_some hb
        rw [hb0] at hx1
        cases hx1
        simp only [Blk.fle] at hx2
        obtain ⟨rfl, _⟩ := hx2
        obtain ⟨L, h1, h1b, h1x, c, e, h2, h3, h4, h5, h6⟩ := hrf.blk b _ hb'
        have hlen : ((es.drop off).take n).length = n := by simp; omega
        have hget : ∀ k, k < n → ((es.drop off).take n).getD k AVal.undef = es.getD (off + k) .undef := fun k hk => by
          simp [List.getD, hk, List.getElem?_drop]
        rcases same.os_inv with ⟨rfl, ad, L0, hL0, hLs, rfl⟩ | ⟨L', cap, hL, hLs, hl, hcp, rfl⟩
        · have : Rep w (MT X σf β) β (.slice ad ([] : List AVal).length 0) (.ps sz []) := .ps (fun _ _ => undef) (by simp) (fun i hi => by simp at hi) (fun i j hi => by simp at hi) (fun h0 => by simp at h0) (fun i j hi => by simp at hi)
          simpa using this
        · obtain rfl := Option.some.inj (h1.symm.trans hL)
          subst hLs
          have key : Rep w (MT X σf β) β (.slice (some ⟨L.g, L.o + off * L.sz, none⟩) ((es.drop off).take n).length cap) (.ps L.sz ((es.drop off).take n)) := by
            refine .ps (fun i j => c.getD (L.o + (off + i) * L.sz + j) undef) (by omega) (fun i hi => ?_) (fun i j hi hj => ?_) (fun _ => ⟨_, _, rfl⟩) (fun i j hi hj => ?_)
            · rw [hget i (by omega)]; exact h5 _ (by omega)
            · rw [hlen] at hi
              have h7 : (off + i + 1) * L.sz ≤ L.n * L.sz := Nat.mul_le_mul_right _ (by omega)
              have h8 : (off + i + 1) * L.sz ≤ fz' * L.sz := Nat.mul_le_mul_right _ (by omega)
              rw [Nat.add_mul, Nat.one_mul] at h7 h8
              have e1 : L.o + off * L.sz + i * L.sz + j = L.o + (off + i) * L.sz + j := by rw [Nat.add_mul]; omega
              refine ⟨L.g, L.o + off * L.sz, rfl, ?_, ?_⟩
              · rw [e1, cell_of_row w L.g _ c e (0, 0) h2, array_getD_some (by omega)]
              · rw [e1]
                rintro (hx | ⟨b2, y2, L2, m1, m2, m3, m4⟩)
                · exact h1x _ hx
                · obtain rfl := hrf.inj b2 b y2 _ L2 L m1 hb' m2 h1 m3
                  rw [hb'] at m1
                  cases m1
                  obtain rfl := Option.some.inj (m2.symm.trans h1)
                  simp only [Blk.mut] at m4
                  omega
            · rw [hlen] at hi
              rw [hget i hi]; exact h6 (off + i) j (by omega) hj
          rw [hlen] at key
          exact key
      · cases h
    · cases h
  | map b =>
    simp only [purC] at h
    split at h
    · rename_i ks vs f hb
      cases h
      obtain ⟨ks', vs', hb'⟩ := hc
      obtain ⟨x, hx1, hx2⟩ := hf.from_ b _ hb'
      rw [getS_some hb] at hx1
      cases hx1
      simp only [Blk.fle] at hx2
      obtain ⟨rfl, rfl, _⟩ := hx2
      obtain ⟨L, h1, h1b, h1x, es, clk, h2, h3, h4, h5, h6⟩ := hrf.blk b _ hb'
      obtain ⟨L', hL, rfl⟩ : ∃ L, β b = some L ∧ v = .map (some L.g) := by
        cases same with | map h => exact ⟨_, h, rfl⟩
      obtain rfl := Option.some.inj (h1.symm.trans hL)
      refine .pm h2 ?_ h3 h4 h5 h6
      rintro (hx | ⟨b2, y2, L2, m1, m2, m3, m4⟩)
      · exact h1x _ hx
      · obtain rfl := hrf.inj b2 b y2 _ L2 L m1 hb' m2 h1 m3
        rw [hb'] at m1
        cases m1
        simp [Blk.mut] at m4
    · cases h
  | _ =>
    simp only [purC, Option.some.injEq] at h
    subst h
    exact same

theorem purL_rep (hr : RelS X base σ β w) (hf : Frz σ σf) : ∀ {l l' : List AVal}, purL σ l = some l' → (∀ c ∈ l, CovC σf c) → l'.length = l.length ∧
    ∀ (f : Nat → Value), (∀ k, k < l.length → Rep w (MT X σ β) β (f k) (l.getD k .undef)) → ∀ k, k < l.length → Rep w (MT X σf β) β (f k) (l'.getD k .undef)
  | [], _, h, _ => by simp only [purL, Option.some.injEq] at h; subst h; exact ⟨rfl, fun _ _ k hk => by simp at hk⟩
  | a :: as_, l', h, hc => by
    simp only [purL, Option.bind_eq_some_iff, Option.map_eq_some_iff] at h
    obtain ⟨x, q1, ys, q2, rfl⟩ := h
    obtain ⟨h1, h2⟩ := purL_rep hr hf q2 (fun c hc' => hc c (by simp [hc']))
    refine ⟨by simp [h1], fun f hfr k hk => ?_⟩
    cases k with
    | zero => exact purC_rep hr hf (hfr 0 (by simp)) q1 (hc a (by simp))
    | succ k => simp only [List.length_cons] at hk; simpa using h2 (fun k => f (k + 1)) (fun j hj => by simpa using hfr (j + 1) (by simp; omega)) k (by omega)

theorem purA_rep (hr : RelS X base σ β w) (hf : Frz σ σf) {v : Value} {a a' : AVal} (hv : Rep w (MT X σ β) β v a) (h : purA σ a = some a') (hc : CovA σf a) : Rep w (MT X σf β) β v a' := by
  cases a with
  | agg cs =>
    simp only [purA, Option.map_eq_some_iff] at h
    obtain ⟨l', h1, rfl⟩ := h
    cases hv with
    | @agg vs _ hn hr' =>
      obtain ⟨h2, h3⟩ := purL_rep hr hf h1 hc
      exact .agg (by omega) fun k hk => h3 (fun k => vs.getD k undef) hr' k (by omega)
  | _ => rw [purA_eq rfl] at h; exact purC_rep hr hf hv h ((covA_iff rfl).1 hc)

theorem purLA_rep (hr : RelS X base σ β w) (hf : Frz σ σf) : ∀ {l l' : List AVal}, purLA σ l = some l' → (∀ c ∈ l, CovA σf c) → l'.length = l.length ∧
    ∀ (f : Nat → Value), (∀ k, k < l.length → Rep w (MT X σ β) β (f k) (l.getD k .undef)) → ∀ k, k < l.length → Rep w (MT X σf β) β (f k) (l'.getD k .undef)
  | [], _, h, _ => by simp only [purLA, Option.some.injEq] at h; subst h; exact ⟨rfl, fun _ _ k hk => by simp at hk⟩
  | a :: as_, l', h, hc => by
    simp only [purLA, Option.bind_eq_some_iff, Option.map_eq_some_iff] at h
    obtain ⟨x, q1, ys, q2, rfl⟩ := h
    obtain ⟨h1, h2⟩ := purLA_rep hr hf q2 (fun c hc' => hc c (by simp [hc']))
    refine ⟨by simp [h1], fun f hfr k hk => ?_⟩
    cases k with
    | zero => exact purA_rep hr hf (hfr 0 (by simp)) q1 (hc a (by simp))
    | succ k => simp only [List.length_cons] at hk; simpa using h2 (fun k => f (k + 1)) (fun j hj => by simpa using hfr (j + 1) (by simp; omega)) k (by omega)

theorem purR_rep (hr : RelS X base σ β w) {v : Value} {a a' : AVal} (hv : Rep w (MT X σ β) β v a) (h : purR σ a = some a') : Rep w (MT X (frzR σ a) β) β v a' := by
  cases a with
  | tup vs =>
    simp only [purR, Option.map_eq_some_iff] at h
    obtain ⟨l', h1, rfl⟩ := h
    cases hv with
    | @tup xs _ hn hr' =>
      obtain ⟨h2, h3⟩ := purLA_rep hr (frzLA_frz vs σ) h1 (covLA vs σ l' h1)
      exact .tup (by omega) fun k hk => h3 (fun k => xs.getD k undef) hr' k (by omega)
  | _ => exact purA_rep hr (frzA_frz σ _) hv h (covA h)

/-- Nothing that was there has been written. -/
theorem RelS.kept {w' : World} (hr : RelS X base σ β w) (hsize : w.heap.size ≤ w'.heap.size) (hb : ∀ g, g < w.heap.size → w'.heap[g]? = w.heap[g]?) :
    RelS X base σ β w' ∧ Keeps w (MT X σ β) w' (MT X σ β) := by
  have hk : Keeps w (MT X σ β) w' (MT X σ β) := by
    refine ⟨fun g o v hc hn => ⟨?_, hn⟩, fun g es c hg hn => ⟨?_, hn⟩⟩
    · rw [World.cell?_of_block (w := w) (a := ⟨g, o, none⟩) (hb g (block_lt hc))]; exact hc
    · exact (hb g (Array.getElem?_eq_some_iff.1 hg).1).trans hg
  refine ⟨⟨hr.dom, fun b y hy => ?_, hr.inj, Nat.le_trans hr.size hsize, fun g o hx => Nat.lt_of_lt_of_le (hr.xlt g o hx) hsize, hr.gl.same hb⟩, hk⟩
  obtain ⟨L, q1, q2, q3, q4⟩ := hr.blk b y hy
  exact ⟨L, q1, q2, q3, q4.mono hk (fun _ _ h => h) (hb L.g q4.lt)⟩

def flatC : AVal → Bool
  | .undef | .bool _ | .int _ _ | .str _ | .nilptr | .nils | .nilfn | .nilmap | .nilif | .ps _ [] => true
  | _ => false

def flatA : AVal → Bool
  | .agg cs => cs.all flatC
  | a => flatC a

def flatR : AVal → Bool
  | .tup vs => vs.all flatA
  | a => flatA a

theorem flatC_rep {M M' : Nat → Nat → Prop} {β' : Env} {v : Value} {a : AVal} (h : Rep w M β v a) (hf : flatC a = true) : Rep w M' β' v a := by
  cases a <;> simp only [flatC, Bool.false_eq_true] at hf
  · exact .undef _
  · cases h; exact .bool _
  · cases h; exact .int _ _
  · cases h; exact .str _
  · cases h; exact .nilptr
  · cases h; exact .nils _
  · rename_i sz es
    cases es with
    | nil => cases h with | ps cv hcap hsz hc ha hr => exact .ps cv hcap (fun i hi => by simp at hi) (fun i j hi => by simp at hi) (fun h0 => by simp at h0) (fun i j hi => by simp at hi)
    | cons e es => simp [flatC] at hf
  · cases h; exact .nilfn
  · cases h; exact .nilmap
  · cases h; exact .nilif

theorem flatA_rep {M M' : Nat → Nat → Prop} {β' : Env} {v : Value} {a : AVal} (h : Rep w M β v a) (hf : flatA a = true) : Rep w M' β' v a := by
  cases a with
  | agg cs =>
    cases h with
    | agg hn hr =>
      refine .agg hn fun k hk => flatC_rep (hr k hk) ?_
      simp only [flatA, List.all_eq_true] at hf
      exact hf _ (by simp only [List.getD, List.getElem?_eq_getElem hk, Option.getD_some]; exact List.getElem_mem hk)
  | _ => exact flatC_rep h hf

theorem flatR_rep {M M' : Nat → Nat → Prop} {β' : Env} {v : Value} {a : AVal} (h : Rep w M β v a) (hf : flatR a = true) : Rep w M' β' v a := by
  cases a with
  | tup cs =>
    cases h with
    | tup hn hr =>
      refine .tup hn fun k hk => flatA_rep (hr k hk) ?_
      simp only [flatR, List.all_eq_true] at hf
      exact hf _ (by simp only [List.getD, List.getElem?_eq_getElem hk, Option.getD_some]; exact List.getElem_mem hk)
  | _ => exact flatA_rep h hf

/-- A FUNCTION, BY ITSELF: handed these trees it answers just this one. -/
def CallEq (P : Program) (g : FuncId) (args : List AVal) (r : AVal) : Prop := CallSh P g args [] (fun r' σ' => r' = r ∧ σ' = []) ∧ r.low 0

theorem mof_nil {β : Env} {g o : Nat} : ¬ Mof [] β g o := by rintro ⟨b, x, L, h, _⟩; simp at h

theorem CallSh.pure {g : FuncId} {args : List AVal} {r : AVal} (h : CallSh P g args [] (fun r0 σ' => purR σ' r0 = some r)) (hl : r.low 0) : CallEq P g args r := by
  refine ⟨?_, hl⟩
  intro X base β w vs h1 h2 h3 fr cs h4
  obtain ⟨r0, σ', β', v, w', q, g1, g2, g3, g4, g5⟩ := h X base β w vs h1 h2 h3 fr cs h4
  have hf := frzR_frz σ' r0
  have hr' := purR_rep g1 g2 q
  have hs := (g1.frz hf).drop (σ' := []) (n := 0) (fun b x hb => by simp at hb) rfl (fun b x hb => by simp at hb)
  have hrep := Rep.drop (σ' := []) (n := 0) hr' (fun b x hb => by simp at hb) rfl hl
  exact ⟨r, [], _, v, w', ⟨rfl, rfl⟩, hs, hrep, g3.drop (σ' := []) (n := 0) (fun b x hb => by simp at hb) rfl (Nat.le_refl 0), Nat.zero_le _, g5⟩

theorem CallEq.body {g : FuncId} {fn : Func} {c : Code} {args : List AVal} {r : AVal} (hf : P.funcs[g]? = some fn) (hb : fn.body = some c) (hname : (fn.name == "runtime.NumGoroutine") = false) (hl : r.low 0)
    (h : EvS P ⟨0, none⟩ c (St.enter fn args []) (bodyQ P fn fun r0 σ' => purR σ' r0 = some r)) : CallEq P g args r := CallSh.pure (CallSh.body hf hb hname h) hl

theorem list_getD_map {vs : Array Value} {k : Nat} : vs.toList.getD k undef = vs.getD k undef := by simp [List.getD, Array.getD_eq_getD_getElem?]

theorem VCall.iso {g : FuncId} {first captured args args' : List AVal} {K : AVal → Store → Prop} {r : AVal} (hp : purLA σ (first ++ args ++ captured) = some args') (hl : lowL 0 args') (hc : CallEq P g args' r)
    (hk : K r (if flatR r then σ else frzLA σ (first ++ args ++ captured))) : VCall P (.fn g first captured) args σ K := by
  refine VCall.sh ?_
  intro X base β w vs h1 h2 h3 fr cs h4
  have hf := frzLA_frz (first ++ args ++ captured) σ
  generalize hσf : frzLA σ (first ++ args ++ captured) = σf at *
  obtain ⟨e1, e2⟩ := purLA_rep h1 hf hp (by rw [← hσf]; exact covLA _ σ _ hp)
  have e3 := e2 (fun k => vs.getD k undef) h3
  have h1f := h1.frz hf
  have hβ0 : ∀ b, b < 0 → (fun _ => none : Env) b = β b := fun b hb => by omega
  have hX' : ∀ g' o, MT X σf β g' o → g' < w.heap.size := by
    rintro g' o (hx | ⟨b, y, L, m1, m2, rfl, m4⟩)
    · exact h1.xlt g' o hx
    · exact live_lt h1f m1 m2
  have hs0 : RelS (MT X σf β) base [] (fun _ => none) w := ⟨fun _ _ => rfl, fun b y hb => by simp at hb, fun b b' y y' L L' hb => by simp at hb, h1.size, hX', h1.gl⟩
  have hanti : ∀ (β' : Env) (w : World), Keeps w (MT X σf β) w (MT (MT X σf β) [] β') := fun β' w => Keeps.anti fun g' o h => by rcases h with h | h; exact h; exact absurd h mof_nil
  have hanti2 : ∀ (β' : Env) (w : World), Keeps w (MT (MT X σf β) [] β') w (MT X σf β) := fun β' w => Keeps.anti fun g' o h => .inl h
  obtain ⟨r', σ', β', v, w', ⟨rfl, rfl⟩, g1, g2, g3, g4, g5⟩ := hc.1 (MT X σf β) base (fun _ => none) w vs hs0 (by omega) (fun k hk' =>
    ((e3 k (by omega)).low hβ0 (lowL_getD hl k)).mono (hanti _ _) (fun _ _ h => h)) fr cs h4
  have hheap : ∀ g', g' < w.heap.size → w'.heap[g']? = w.heap[g']? := fun g' hg' => g3.block g' hg' fun o => mof_nil
  have mkExt : ∀ σ2, (∀ g' o, Mof σ2 β g' o → Mof σ β g' o) → Ext σ.length σ β w σ2 β w' := fun σ2 h =>
    ⟨g3.os, g3.tape, g3.output, g3.size, fun g' o x hcx _ => by rw [World.cell?_of_block (w := w) (a := ⟨g', o, none⟩) (hheap g' (block_lt hcx))]; exact hcx, fun g' hg' _ => hheap g' hg', fun g' o hm => .inl (h g' o hm), fun _ _ => rfl⟩
  by_cases hfl : flatR r' = true
  · rw [if_pos hfl] at hk
    exact ⟨r', σ, β, v, w', hk, (h1.kept g3.size hheap).1, flatR_rep g2 hfl, mkExt σ (fun _ _ h => h), Nat.le_refl _, g5⟩
  · rw [if_neg hfl] at hk
    refine ⟨r', σf, β, v, w', hk, (h1f.kept g3.size hheap).1, ?_, mkExt σf (fun _ _ h => h.frz hf), by rw [hf.len]; exact Nat.le_refl _, g5⟩
    exact (g2.mono (hanti2 _ _) (fun _ _ h => h)).low (fun b hb => by omega) hc.2

end
end Go.Abs
