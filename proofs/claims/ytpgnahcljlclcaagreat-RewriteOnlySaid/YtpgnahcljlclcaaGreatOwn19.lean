/- Part 19 of my own framework and of the walks of functions: AbsT. -/
import Derived.Test.YtpgnahcljlclcaaGreatOwn18
set_option linter.unusedVariables false
set_option linter.unusedSectionVars false
set_option linter.unusedSimpArgs false

/- The same rules, gathered under one name; the ends of loops and functions. -/
namespace Go.Abs
open Go

section
variable {P : Program} {lo : Ctx} {Q : AExit → St → Prop} {n : Nat} {k : List KI} {tm : List AVal} {σ : Store} {all : Array Oper} {l : List Oper}

theorem lQ_normal {ι : Type} {I : ι → List AVal} {S : ι → Store} {μ : ι → Nat} {x : ι} {s : St} : loopQ P lo Q k I S μ x .normal s = ∃ y, leSt (I y) (S y) s ∧ μ y < μ x := (Eq.refl _).trans rfl
theorem lQ_exit {ι : Type} {I : ι → List AVal} {S : ι → Store} {μ : ι → Nat} {x : ι} {s : St} {i : Nat} : loopQ P lo Q k I S μ x (.exit i) s = EvK P lo Q k (.exit i) s := (Eq.refl _).trans rfl
theorem lQ_goto {ι : Type} {I : ι → List AVal} {S : ι → Store} {μ : ι → Nat} {x : ι} {s : St} {i : Nat} : loopQ P lo Q k I S μ x (.goto i) s = EvK P lo Q k (.goto i) s := (Eq.refl _).trans rfl
theorem lQ_ret {ι : Type} {I : ι → List AVal} {S : ι → Store} {μ : ι → Nat} {x : ι} {s : St} : loopQ P lo Q k I S μ x .ret s = EvK P lo Q k .ret s := (Eq.refl _).trans rfl
theorem rQ_normal {rs : List ResultVar} {K : AVal → Store → Prop} {s : St} : retQ P rs K .normal s = ∃ r, resultsA P s rs = some r ∧ K r s.σ := (Eq.refl _).trans rfl
theorem rQ_ret {rs : List ResultVar} {K : AVal → Store → Prop} {s : St} : retQ P rs K .ret s = ∃ r, resultsA P s rs = some r ∧ K r s.σ := (Eq.refl _).trans rfl
theorem lQ_panic {ι : Type} {I : ι → List AVal} {S : ι → Store} {μ : ι → Nat} {x : ι} {s : St} {u : Value} : loopQ P lo Q k I S μ x (.panic u) s = EvK P lo Q k (.panic u) s := (Eq.refl _).trans rfl
theorem isT_eq {r r0 : AVal} : isT r r0 σ = pT (fun _ => true) σ r r0 := (Eq.refl _).trans rfl

theorem res_one {r : ResultVar} {tm : List AVal} : resultsA P ⟨tm, σ⟩ [r] = resA tm σ P r := by
  simp only [resultsA, List.mapM_cons, List.mapM_nil]
  cases resA tm σ P r <;> rfl
theorem res_none {tm : List AVal} : resultsA P ⟨tm, σ⟩ [] = some (.tup []) := (Eq.refl _).trans rfl
theorem res_two {r r' : ResultVar} {rs : List ResultVar} {tm : List AVal} : resultsA P ⟨tm, σ⟩ (r :: r' :: rs) = ((r :: r' :: rs).mapM (resA tm σ P)).map .tup := by
  simp only [resultsA, List.mapM_cons]
  cases resA tm σ P r with
  | none => rfl
  | some a => cases resA tm σ P r' with
    | none => rfl
    | some b => cases List.mapM (resA tm σ P) rs <;> rfl
theorem res_tmp {t : Tmp} {tm : List AVal} : resA tm σ P (.tmp t) = some (tm.getD t .undef) := (Eq.refl _).trans rfl
theorem res_cell {a : Tmp} {t : TypeId} {tm : List AVal} : resA tm σ P (.cell a t) = (layOf P t).bind fun l => loadA σ l (tm.getD a .undef) := (Eq.refl _).trans rfl

theorem leSt_eq {tm' : List AVal} {σ' : Store} : leSt tm' σ' ⟨tm, σ⟩ = (leTm tm' tm ∧ leSo σ' σ ∧ lowL σ'.length tm' ∧ lowSo σ'.length σ') := (Eq.refl _).trans rfl
theorem leTm_nil : leTm [] [] = True := (Eq.refl _).trans rfl
theorem leTm_undef {b : AVal} {as_ bs : List AVal} : leTm (.undef :: as_) (b :: bs) = leTm as_ bs := by simp [leTm]
theorem leTm_same {a : AVal} {as_ bs : List AVal} : leTm (a :: as_) (a :: bs) = leTm as_ bs := by simp [leTm]
theorem leTm_cons {a b : AVal} {as_ bs : List AVal} : leTm (a :: as_) (b :: bs) = ((a = b ∨ a = .undef) ∧ leTm as_ bs) := (Eq.refl _).trans rfl
theorem leSo_nil : leSo [] σ = True := (Eq.refl _).trans rfl
theorem leSo_cons {a b : Option Blk} {as_ bs : Store} : leSo (a :: as_) (b :: bs) = ((a = b ∨ a = none) ∧ leSo as_ bs) := (Eq.refl _).trans rfl
theorem leSo_none {b : Option Blk} {as_ bs : Store} : leSo (none :: as_) (b :: bs) = leSo as_ bs := by simp [leSo]
theorem leSo_same {a : Option Blk} {as_ bs : Store} : leSo (a :: as_) (a :: bs) = leSo as_ bs := by simp [leSo]
theorem lowSo_nil {n : Nat} : lowSo n [] = True := (Eq.refl _).trans rfl
theorem lowSo_none {n : Nat} : lowSo n (none :: σ) = lowSo n σ := by simp [lowSo, lowO]
theorem lowSo_some {n : Nat} {b : Blk} : lowSo n (some b :: σ) = (b.low n ∧ lowSo n σ) := (Eq.refl _).trans rfl
theorem lowL_nil {n : Nat} : lowL n [] = True := (Eq.refl _).trans rfl
theorem lowL_cons {n : Nat} {a : AVal} {as_ : List AVal} : lowL n (a :: as_) = (a.low n ∧ lowL n as_) := (Eq.refl _).trans rfl
theorem low_undef {n : Nat} : AVal.low n .undef = True := (Eq.refl _).trans rfl
theorem low_bool {n : Nat} {b : Bool} : AVal.low n (.bool b) = True := (Eq.refl _).trans rfl
theorem low_int {n : Nat} {k : IntKind} {i : Int} : AVal.low n (.int k i) = True := (Eq.refl _).trans rfl
theorem low_str {n : Nat} {s : ByteArray} : AVal.low n (.str s) = True := (Eq.refl _).trans rfl
theorem low_nilptr {n : Nat} : AVal.low n .nilptr = True := (Eq.refl _).trans rfl
theorem low_nils {n : Nat} : AVal.low n .nils = True := (Eq.refl _).trans rfl
theorem low_nilfn {n : Nat} : AVal.low n .nilfn = True := (Eq.refl _).trans rfl
theorem low_nilmap {n : Nat} : AVal.low n .nilmap = True := (Eq.refl _).trans rfl
theorem low_nilif {n : Nat} : AVal.low n .nilif = True := (Eq.refl _).trans rfl
theorem low_opq {n : Nat} {v : Value} : AVal.low n (.opq v) = True := (Eq.refl _).trans rfl
theorem low_ptr {n b o : Nat} : AVal.low n (.ptr b o) = (b < n) := (Eq.refl _).trans rfl
theorem low_rp {n b i f : Nat} : AVal.low n (.rp b i f) = (b < n) := (Eq.refl _).trans rfl
theorem low_os {n b o m s : Nat} : AVal.low n (.os b o m s) = (b < n) := (Eq.refl _).trans rfl
theorem low_oc {n b o m c s : Nat} : AVal.low n (.oc b o m c s) = (b < n) := (Eq.refl _).trans rfl
theorem low_yld {n b : Nat} : AVal.low n (.yld b) = (b < n) := (Eq.refl _).trans rfl
theorem low_map {n b : Nat} : AVal.low n (.map b) = (b < n) := (Eq.refl _).trans rfl
theorem low_it {n b : Nat} : AVal.low n (.it b) = (b < n) := (Eq.refl _).trans rfl
theorem low_pp {n : Nat} {cs : List AVal} : AVal.low n (.pp cs) = lowL n cs := (Eq.refl _).trans rfl
theorem low_ps {n s : Nat} {cs : List AVal} : AVal.low n (.ps s cs) = lowL n cs := (Eq.refl _).trans rfl
theorem low_agg {n : Nat} {cs : List AVal} : AVal.low n (.agg cs) = lowL n cs := (Eq.refl _).trans rfl
theorem low_tup {n : Nat} {cs : List AVal} : AVal.low n (.tup cs) = lowL n cs := (Eq.refl _).trans rfl
theorem low_fn {n : Nat} {f : FuncId} {a c : List AVal} : AVal.low n (.fn f a c) = (lowL n a ∧ lowL n c) := (Eq.refl _).trans rfl
theorem low_pm {n : Nat} {a c : List AVal} : AVal.low n (.pm a c) = (lowL n a ∧ lowL n c) := (Eq.refl _).trans rfl
theorem low_iface {n : Nat} {t : TypeId} {v : AVal} : AVal.low n (.iface t v) = v.low n := (Eq.refl _).trans rfl
theorem bl_var {n : Nat} {cs : List AVal} : Blk.low n (.var cs) = lowL n cs := (Eq.refl _).trans rfl
theorem bl_row {n fz : Nat} {cs : List AVal} : Blk.low n (.row cs fz) = lowL n cs := (Eq.refl _).trans rfl
theorem bl_map {n : Nat} {a c : List AVal} {f : Bool} : Blk.low n (.map a c f) = (lowL n a ∧ lowL n c) := (Eq.refl _).trans rfl
theorem bl_mit {n : Nat} {ks vs : List AVal} {s : List Nat} : Blk.low n (.mit ks vs s) = (lowL n ks ∧ lowL n vs) := (Eq.refl _).trans rfl
theorem bl_iter {n pos : Nat} {s : ByteArray} : Blk.low n (.iter s pos) = True := (Eq.refl _).trans rfl

theorem pTL_nil {F : Nat → Bool} : pTL F σ [] [] = True := by simp [pTL]
theorem pTL_cons {F : Nat → Bool} {t a : AVal} {ts as_ : List AVal} : pTL F σ (t :: ts) (a :: as_) = (pT F σ t a ∧ pTL F σ ts as_) := by simp [pTL]
theorem pTL_same {F : Nat → Bool} {ts : List AVal} : pTL F σ ts ts = True := eq_true (pTL_refl F σ ts)
theorem pT_same {F : Nat → Bool} {t : AVal} : pT F σ t t = True := eq_true (pT_refl F σ t)
theorem pT_agg {F : Nat → Bool} {cs cs' : List AVal} : pT F σ (.agg cs') (.agg cs) = pTL F σ cs' cs := by simp [pT]
theorem pT_tup {F : Nat → Bool} {cs cs' : List AVal} : pT F σ (.tup cs') (.tup cs) = pTL F σ cs' cs := by simp [pT]
theorem pT_pp {F : Nat → Bool} {cs cs' : List AVal} : pT F σ (.pp cs') (.pp cs) = pTL F σ cs' cs := by simp [pT]
theorem pT_nils {F : Nat → Bool} {s : Nat} {ts : List AVal} : pT F σ (.ps s ts) .nils = (ts = []) := by simp [pT]
theorem pT_ps {F : Nat → Bool} {s s' : Nat} {ts es : List AVal} : pT F σ (.ps s ts) (.ps s' es) = (s' = s ∧ pTL F σ ts es) := by simp [pT]
def pTrow (F : Nat → Bool) (σ : Store) (ts : List AVal) (off n : Nat) : Option Blk → Prop
  | some (.row es _) => off + n ≤ es.length ∧ pTL F σ ts ((es.drop off).take n)
  | _ => False
theorem pT_os {F : Nat → Bool} {s s' b off n : Nat} {ts : List AVal} : pT F σ (.ps s ts) (.os b off n s') = (s' = s ∧ F b = true ∧ pTrow F σ ts off n (getS σ b)) := by
  simp only [pT, pTrow]; cases getS σ b with | none => rfl | some x => cases x <;> rfl
theorem pTrow_some {F : Nat → Bool} {ts es : List AVal} {off n fz : Nat} : pTrow F σ ts off n (some (.row es fz)) = (off + n ≤ es.length ∧ pTL F σ ts ((es.drop off).take n)) := (Eq.refl _).trans rfl
theorem pT_pm {F : Nat → Bool} {a b c d : List AVal} : pT F σ (.pm a b) (.pm c d) = (pTL F σ a c ∧ pTL F σ b d) := by simp [pT]
def pTmap (F : Nat → Bool) (σ : Store) (a b : List AVal) : Option Blk → Prop
  | some (.map ks vs _) => pTL F σ a ks ∧ pTL F σ b vs
  | _ => False
theorem pT_map {F : Nat → Bool} {a b : List AVal} {m : Nat} : pT F σ (.pm a b) (.map m) = (F m = true ∧ pTmap F σ a b (getS σ m)) := by
  simp only [pT, pTmap]; cases getS σ m with | none => rfl | some x => cases x <;> rfl
theorem pTmap_some {F : Nat → Bool} {a b ks vs : List AVal} {f : Bool} : pTmap F σ a b (some (.map ks vs f)) = (pTL F σ a ks ∧ pTL F σ b vs) := (Eq.refl _).trans rfl
theorem pT_iface {F : Nat → Bool} {t t' : TypeId} {a b : AVal} : pT F σ (.iface t' a) (.iface t b) = (t' = t ∧ pT F σ a b) := by simp [pT]
theorem pT_fn {F : Nat → Bool} {f f' : FuncId} {a b c d : List AVal} : pT F σ (.fn f' a b) (.fn f c d) = (f' = f ∧ pTL F σ a c ∧ pTL F σ b d) := by simp [pT]
theorem pT_bool {F : Nat → Bool} {b : Bool} {a : AVal} : pT F σ (.bool b) a = (a = .bool b) := by simp [pT]
theorem pT_int {F : Nat → Bool} {k : IntKind} {i : Int} {a : AVal} : pT F σ (.int k i) a = (a = .int k i) := by simp [pT]
theorem pT_str {F : Nat → Bool} {s : ByteArray} {a : AVal} : pT F σ (.str s) a = (a = .str s) := by simp [pT]
theorem fz_nil {F : Nat → Bool} {i : Nat} : frzI F i [] = [] := (Eq.refl _).trans rfl
theorem fz_cons {F : Nat → Bool} {i : Nat} {b : Option Blk} {σ : Store} : frzI F i (b :: σ) = (if F i = true then frzO b else b) :: frzI F (i + 1) σ := (Eq.refl _).trans rfl
theorem fo_row {es : List AVal} {fz : Nat} : frzO (some (.row es fz)) = some (.row es (max fz es.length)) := (Eq.refl _).trans rfl
theorem fo_map {ks vs : List AVal} {f : Bool} : frzO (some (.map ks vs f)) = some (.map ks vs true) := (Eq.refl _).trans rfl
theorem among_nil {b : Nat} : among [] b = false := (Eq.refl _).trans rfl
theorem among_cons {a b : Nat} {bs : List Nat} : among (a :: bs) b = (a == b || among bs b) := by simp [among]

end

section
variable {P : Program} {lo : Ctx} {Q : AExit → St → Prop} {n : Nat} {k : List KI} {tm : List AVal} {σ : Store} {all : Array Oper} {l : List Oper} {d : Option Tmp} {tt : TypeId} {ps : String} {af : Array Edge} {gg : Option (Nat × Bool)}
theorem go_builtin {bi : Builtin} {args : Array Operand} {ts : Array TypeId} : goO P lo Q (n + 1) ⟨d, .call ⟨.builtin bi, args, ts⟩, tt, ps, af, gg⟩ all l k tm σ = goR P lo Q n (opE P σ σ.length (ev tm) (.call ⟨.builtin bi, args, ts⟩)) d all l k tm := (Eq.refl _).trans rfl
theorem go_func {f : FuncId} {a c : Array Operand} : goO P lo Q (n + 1) ⟨d, .makeFunc (.func f) a c, tt, ps, af, gg⟩ all l k tm σ = goR P lo Q n (opE P σ σ.length (ev tm) (.makeFunc (.func f) a c)) d all l k tm := (Eq.refl _).trans rfl
theorem go_move {x : Operand} : goO P lo Q (n + 1) ⟨d, .move x, tt, ps, af, gg⟩ all l k tm σ = goR P lo Q n (opE P σ σ.length (ev tm) (.move x)) d all l k tm := (Eq.refl _).trans rfl
theorem go_assign {x : Operand} : goO P lo Q (n + 1) ⟨d, .assign x, tt, ps, af, gg⟩ all l k tm σ = goR P lo Q n (opE P σ σ.length (ev tm) (.assign x)) d all l k tm := (Eq.refl _).trans rfl
theorem go_pick {x : Operand} {y : Operand} {z : Operand} : goO P lo Q (n + 1) ⟨d, .pick x y z, tt, ps, af, gg⟩ all l k tm σ = goR P lo Q n (opE P σ σ.length (ev tm) (.pick x y z)) d all l k tm := (Eq.refl _).trans rfl
theorem go_alloc {t : TypeId} : goO P lo Q (n + 1) ⟨d, .alloc t, tt, ps, af, gg⟩ all l k tm σ = goR P lo Q n (opE P σ σ.length (ev tm) (.alloc t)) d all l k tm := (Eq.refl _).trans rfl
theorem go_box {t : TypeId} {x : Operand} : goO P lo Q (n + 1) ⟨d, .box t x, tt, ps, af, gg⟩ all l k tm σ = goR P lo Q n (opE P σ σ.length (ev tm) (.box t x)) d all l k tm := (Eq.refl _).trans rfl
theorem go_build {t : TypeId} {pp : Array (Nat × Operand)} : goO P lo Q (n + 1) ⟨d, .build t pp, tt, ps, af, gg⟩ all l k tm σ = goR P lo Q n (opE P σ σ.length (ev tm) (.build t pp)) d all l k tm := (Eq.refl _).trans rfl
theorem go_buildSlice {t : TypeId} {m : Nat} {pp : Array (Nat × Operand)} : goO P lo Q (n + 1) ⟨d, .buildSlice t m pp, tt, ps, af, gg⟩ all l k tm σ = goR P lo Q n (opE P σ σ.length (ev tm) (.buildSlice t m pp)) d all l k tm := (Eq.refl _).trans rfl
theorem go_load {t : TypeId} {x : Operand} : goO P lo Q (n + 1) ⟨d, .load t x, tt, ps, af, gg⟩ all l k tm σ = goR P lo Q n (opE P σ σ.length (ev tm) (.load t x)) d all l k tm := (Eq.refl _).trans rfl
theorem go_store {t : TypeId} {x : Operand} {y : Operand} : goO P lo Q (n + 1) ⟨d, .store t x y, tt, ps, af, gg⟩ all l k tm σ = goR P lo Q n (opE P σ σ.length (ev tm) (.store t x y)) d all l k tm := (Eq.refl _).trans rfl
theorem go_nilCheck {x : Operand} : goO P lo Q (n + 1) ⟨d, .nilCheck x, tt, ps, af, gg⟩ all l k tm σ = goR P lo Q n (opE P σ σ.length (ev tm) (.nilCheck x)) d all l k tm := (Eq.refl _).trans rfl
theorem go_binOp {op : BinOp} {t : TypeId} {x : Operand} {y : Operand} {u : TypeId} : goO P lo Q (n + 1) ⟨d, .binOp op t x y u, tt, ps, af, gg⟩ all l k tm σ = goR P lo Q n (opE P σ σ.length (ev tm) (.binOp op t x y u)) d all l k tm := (Eq.refl _).trans rfl
theorem go_unOp {uo : UnOp} {t : TypeId} {x : Operand} : goO P lo Q (n + 1) ⟨d, .unOp uo t x, tt, ps, af, gg⟩ all l k tm σ = goR P lo Q n (opE P σ σ.length (ev tm) (.unOp uo t x)) d all l k tm := (Eq.refl _).trans rfl
theorem go_convert {t : TypeId} {u : TypeId} {x : Operand} : goO P lo Q (n + 1) ⟨d, .convert t u x, tt, ps, af, gg⟩ all l k tm σ = goR P lo Q n (opE P σ σ.length (ev tm) (.convert t u x)) d all l k tm := (Eq.refl _).trans rfl
theorem go_makeInterface {t : TypeId} {x : Operand} : goO P lo Q (n + 1) ⟨d, .makeInterface t x, tt, ps, af, gg⟩ all l k tm σ = goR P lo Q n (opE P σ σ.length (ev tm) (.makeInterface t x)) d all l k tm := (Eq.refl _).trans rfl
theorem go_slice {t : TypeId} {x : Operand} {ox : Option Operand} {oy : Option Operand} {oz : Option Operand} : goO P lo Q (n + 1) ⟨d, .slice t x ox oy oz, tt, ps, af, gg⟩ all l k tm σ = goR P lo Q n (opE P σ σ.length (ev tm) (.slice t x ox oy oz)) d all l k tm := (Eq.refl _).trans rfl
theorem go_fieldAddr {t : TypeId} {x : Operand} {m : Nat} : goO P lo Q (n + 1) ⟨d, .fieldAddr t x m, tt, ps, af, gg⟩ all l k tm σ = goR P lo Q n (opE P σ σ.length (ev tm) (.fieldAddr t x m)) d all l k tm := (Eq.refl _).trans rfl
theorem go_field {t : TypeId} {x : Operand} {m : Nat} : goO P lo Q (n + 1) ⟨d, .field t x m, tt, ps, af, gg⟩ all l k tm σ = goR P lo Q n (opE P σ σ.length (ev tm) (.field t x m)) d all l k tm := (Eq.refl _).trans rfl
theorem go_indexAddr {t : TypeId} {x : Operand} {y : Operand} : goO P lo Q (n + 1) ⟨d, .indexAddr t x y, tt, ps, af, gg⟩ all l k tm σ = goR P lo Q n (opE P σ σ.length (ev tm) (.indexAddr t x y)) d all l k tm := (Eq.refl _).trans rfl
theorem go_index {t : TypeId} {x : Operand} {y : Operand} : goO P lo Q (n + 1) ⟨d, .index t x y, tt, ps, af, gg⟩ all l k tm σ = goR P lo Q n (opE P σ σ.length (ev tm) (.index t x y)) d all l k tm := (Eq.refl _).trans rfl
theorem go_lookup {t : TypeId} {x : Operand} {y : Operand} {b : Bool} : goO P lo Q (n + 1) ⟨d, .lookup t x y b, tt, ps, af, gg⟩ all l k tm σ = goR P lo Q n (opE P σ σ.length (ev tm) (.lookup t x y b)) d all l k tm := (Eq.refl _).trans rfl
theorem go_mapUpdate {t : TypeId} {x : Operand} {y : Operand} {z : Operand} : goO P lo Q (n + 1) ⟨d, .mapUpdate t x y z, tt, ps, af, gg⟩ all l k tm σ = goR P lo Q n (opE P σ σ.length (ev tm) (.mapUpdate t x y z)) d all l k tm := (Eq.refl _).trans rfl
theorem go_insert {t : TypeId} {x : Operand} {y : Operand} {z : Operand} : goO P lo Q (n + 1) ⟨d, .insert t x y z, tt, ps, af, gg⟩ all l k tm σ = goR P lo Q n (opE P σ σ.length (ev tm) (.insert t x y z)) d all l k tm := (Eq.refl _).trans rfl
theorem go_range {t : TypeId} {x : Operand} : goO P lo Q (n + 1) ⟨d, .range t x, tt, ps, af, gg⟩ all l k tm σ = goR P lo Q n (opE P σ σ.length (ev tm) (.range t x)) d all l k tm := (Eq.refl _).trans rfl
theorem go_next {x : Operand} : goO P lo Q (n + 1) ⟨d, .next x true, tt, ps, af, gg⟩ all l k tm σ = goR P lo Q n (opE P σ σ.length (ev tm) (.next x true)) d all l k tm := (Eq.refl _).trans rfl
theorem go_entry {x : Operand} : goO P lo Q (n + 1) ⟨d, .entry x, tt, ps, af, gg⟩ all l k tm σ = goR P lo Q n (opE P σ σ.length (ev tm) (.entry x)) d all l k tm := (Eq.refl _).trans rfl
theorem go_nextM {x : Operand} : goO P lo Q (n + 1) ⟨d, .next x false, tt, ps, af, gg⟩ all l k tm σ = nextQ (ev tm x) σ fun r σ' => EvK P lo Q (.ops all l :: k) .normal ⟨put tm d r, σ'⟩ := (Eq.refl _).trans rfl
theorem go_typeAssert {x : Operand} {t : TypeId} {u : TypeId} {b : Bool} : goO P lo Q (n + 1) ⟨d, .typeAssert x t u b, tt, ps, af, gg⟩ all l k tm σ = goR P lo Q n (opE P σ σ.length (ev tm) (.typeAssert x t u b)) d all l k tm := (Eq.refl _).trans rfl
theorem go_extract {x : Operand} {m : Nat} : goO P lo Q (n + 1) ⟨d, .extract x m, tt, ps, af, gg⟩ all l k tm σ = goR P lo Q n (opE P σ σ.length (ev tm) (.extract x m)) d all l k tm := (Eq.refl _).trans rfl
theorem go_makeSlice {t : TypeId} {x : Operand} {y : Operand} : goO P lo Q (n + 1) ⟨d, .makeSlice t x y, tt, ps, af, gg⟩ all l k tm σ = goR P lo Q n (opE P σ σ.length (ev tm) (.makeSlice t x y)) d all l k tm := (Eq.refl _).trans rfl
theorem go_makeMap {t : TypeId} {ox : Option Operand} : goO P lo Q (n + 1) ⟨d, .makeMap t ox, tt, ps, af, gg⟩ all l k tm σ = goR P lo Q n (opE P σ σ.length (ev tm) (.makeMap t ox)) d all l k tm := (Eq.refl _).trans rfl
end
attribute [go_sem] go_builtin go_func go_move go_assign go_pick go_alloc go_box go_build go_buildSlice go_load go_store go_nilCheck go_binOp go_unOp go_convert go_makeInterface go_slice go_fieldAddr go_field go_indexAddr go_index go_lookup go_mapUpdate go_insert go_range go_next go_nextM go_entry go_typeAssert go_extract go_makeSlice go_makeMap
theorem gd2_yes {b : Bool} : gd2 true (some (.bool b)) = some b := by cases b <;> rfl
theorem gd2_no {b : Bool} : gd2 false (some (.bool b)) = some (!b) := by cases b <;> rfl
theorem pk_true {x y : AVal} : pickA (.bool true) x y = some x := by cases x <;> cases y <;> rfl
theorem pk_false {x y : AVal} : pickA (.bool false) x y = some y := by cases x <;> cases y <;> rfl
attribute [go_sem high] gd2_yes gd2_no pk_true pk_false
attribute [go_sem high] c_true c_false g_true g_false leTm_undef leTm_same leSo_same leSo_none o_call pT_same pTL_same
attribute [go_sem] kind_lit r_nil r_skip r_seq r_cond r_block r_region r_draw r_exit r_ret r_scope r_label r_loop r_rangeFunc r_goto r_code_exit r_code_goto r_code_ret r_ops_nil r_ops_cons r_blk_normal r_blk_ret r_blk_goto r_blk_exit r_scp_normal r_scp_ret r_scp_exit R_some R_none R_if R_dif opt_bind_if opt_map_if opt_bind_dif opt_map_dif gdA_none gdA_some gd1_some gd2_gone gd2_bool ev_tmp ev_const ev_global ev_func of_bool of_int of_str of_nilptr of_nils of_nilmap of_nilfn of_nilif put_some put_none cells_agg cells_int cells_bool cells_str cells_nilptr cells_ptr cells_rp cells_pp cells_nils cells_ps cells_os cells_nilfn cells_fn cells_yld cells_nilmap cells_map cells_pm cells_nilif cells_iface cells_undef cell_int cell_bool cell_str cell_nilptr cell_ptr cell_rp cell_pp cell_nils cell_ps cell_os cell_nilfn cell_fn cell_yld cell_nilmap cell_map cell_pm cell_nilif cell_iface agg_agg agg_int agg_bool agg_str agg_ps agg_os agg_nils agg_ptr agg_iface getS_nil getS_zero getS_succ setS_nil_zero setS_nil_succ setS_zero setS_succ load_ptr load_rp load_pp loadV_var loadRow_row take_agg take_one store_ptr store_rp storeV_var storeRow_row setMany_nil setMany_cons mkElem_agg mkElem_one fieldAddr_lit fA2_some faddr_ptr faddr_rp faddr_pp field_lit fld2_some iA_os iA_ps iA_arr ix_arr ix_str bin_int bin_str bin_bool bin_agg ib_add ib_sub ib_mul ib_quo ib_rem ib_eql ib_neq ib_lss ib_leq ib_gtr ib_geq cmp_eql cmp_neq eql_kind eqk_bool eqk_struct eqk_map bin_pm_nil bin_map_nil bin_nil_nil ms_pm ms_map ms_nil kaV_int kaV_str kaV_bool sb_add sb_eql sb_neq sb_lss un_not un_neg pk_bool pk_int len_str len_ps len_nils len_os len_nilmap len_pm len_map lenM_some el_ps el_nils el_os elRow_some bi_len kind_lit lenT_arr lenT_str lenT_slice lenT_map bi_append appK_slice appT_slice appT_str app_nils app_os appRow_some bi_max bi_min fi_nil fi_cons sl_str sl_ps sl_os sl_nils hi_none hi_some lo_none lo_some bd_struct bd_array fill_nil fill_cons fill2_some row_nil row_cons mk_lit zv_agg zv_one lk_nil lk_pm lk_map lkM_some ky_int ky_str sk_int sk_str mu_map muM_some e_move e_assign e_pick e_alloc e_box e_build e_buildSlice e_load e_store e_nil nc_ptr nc_rp nc_pp nc_fn e_bin e_un e_convert e_func e_map e_makeSlice e_slice e_fieldAddr e_field e_indexAddr e_index e_lookup e_mapUpdate e_insert e_range rangeS_str rangeS_pm e_entry en_it enN_last e_next e_assert e_extract ex_tup e_builtin kindOf_eq lQ_normal lQ_exit lQ_goto lQ_ret lQ_panic ci_no ci_yes ht_nil ht_thr ht_code ht_ops ht_blk ht_scp pv_agg pv_int pvs_nil pvs_int eK_nil eK_code eK_ops eK_blk eK_thr r_thr fs_fn fs_nil rQ_normal rQ_ret isT_eq res_one res_none res_two res_tmp res_cell leSt_eq leTm_nil leSo_nil lowSo_nil lowSo_none lowSo_some lowL_nil lowL_cons low_undef low_bool low_int low_str low_nilptr low_nils low_nilfn low_nilmap low_nilif low_opq low_ptr low_rp low_os low_yld low_map low_it low_pp low_ps low_agg low_tup low_fn low_pm low_iface bl_var bl_row bl_map bl_iter bl_mit pTL_nil pTL_cons pT_agg pT_tup pT_pp pT_nils pT_ps pT_os pTrow_some pT_pm pT_map pTmap_some pT_iface pT_fn pT_bool pT_int pT_str fz_nil fz_cons fo_row fo_map among_nil among_cons frzI_nil
attribute [go_sem] Option.bind_some Option.map_some Option.bind_none Option.map_none Option.join_some List.getD_cons_zero List.getD_cons_succ List.set_cons_zero List.set_cons_succ List.length_cons List.length_nil List.all_cons List.all_nil Bool.and_true Bool.true_and Bool.and_false Bool.false_and Bool.or_true Bool.or_false Bool.false_or Bool.true_or and_self if_true if_false Bool.false_eq_true Bool.true_eq_false true_implies false_implies and_true true_and and_false false_and forall_const reduceCtorEq List.nil_append List.replicate_zero List.replicate_succ List.cons_append Nat.lt_irrefl List.getElem?_cons_zero List.getElem?_cons_succ List.getElem?_nil Option.getD_some Option.getD_none List.drop_zero List.drop_succ_cons List.head?_cons ne_eq not_false_eq_true not_true_eq_false List.take_succ_cons List.take_zero List.map_cons List.map_nil List.mapM_cons List.mapM_nil Option.pure_def Option.bind_eq_bind Option.some.injEq exists_eq_left' exists_eq_left or_true true_or or_false false_or beq_self_eq_true decide_true decide_false Bool.not_true Bool.not_false Option.isSome_some Option.isSome_none Option.map_map Nat.zero_add Nat.add_zero
theorem low_any {n : Nat} : AVal.low n .anyb = True := (Eq.refl _).trans rfl
attribute [go_sem] low_any c_any no_tmp no_int no_bool no_str no_nilptr no_nilmap no_nilfn no_nilif no_agg no_ptr no_iface no_glob no_nils bO_no bO_yes nE_eql nE_neq nK_slice nS_nils nS_ps nS_os nS_oc
attribute [go_sem] low_oc cells_oc cell_oc agg_oc iA_oc len_oc el_oc appT_int bi_cap capT_slice capA_nils capA_oc bi_clear clrT_slice bi_copy cpyT_slice lenS_nils lenS_os lenS_oc lenS_ps ov_os ov_oc ovRow_some app_oc appRowC_some sl_oc sl_oc3 hiC_none hiC_some
attribute [go_sem low] leTm_cons leSo_cons c_bool g_bool
@[go_sem] theorem roomN_0 : roomN 0 = 6000000000000 := rfl
@[go_sem] theorem roomN_1 : roomN 1 = 6000000000000 := rfl
@[go_sem] theorem roomN_2 : roomN 2 = 6000000000000 := rfl
@[go_sem] theorem roomN_4 : roomN 4 = 6000000000000 := rfl
@[go_sem] theorem roomN_8 : roomN 8 = 6000000000000 := rfl
@[go_sem] theorem roomN_16 : roomN 16 = 6000000000000 := rfl
@[go_sem] theorem roomN_24 : roomN 24 = 6000000000000 := rfl
@[go_sem] theorem roomN_32 : roomN 32 = 6000000000000 := rfl
@[go_sem] theorem roomN_40 : roomN 40 = 1000000000 := rfl
@[go_sem] theorem roomN_48 : roomN 48 = 1000000000 := rfl
@[go_sem] theorem roomN_56 : roomN 56 = 1000000000 := rfl
@[go_sem] theorem roomN_64 : roomN 64 = 1000000000 := rfl
@[go_sem] theorem roomN_72 : roomN 72 = 1000000000 := rfl
@[go_sem] theorem roomN_80 : roomN 80 = 1000000000 := rfl
@[go_sem] theorem roomN_88 : roomN 88 = 1000000000 := rfl
@[go_sem] theorem roomN_96 : roomN 96 = 1000000000 := rfl
@[go_sem] theorem roomN_104 : roomN 104 = 1000000000 := rfl
@[go_sem] theorem roomN_112 : roomN 112 = 1000000000 := rfl
@[go_sem] theorem roomN_120 : roomN 120 = 1000000000 := rfl
@[go_sem] theorem roomN_128 : roomN 128 = 1000000000 := rfl
@[go_sem] theorem roomN_136 : roomN 136 = 1000000000 := rfl
@[go_sem] theorem roomN_144 : roomN 144 = 1000000000 := rfl
@[go_sem] theorem roomN_152 : roomN 152 = 1000000000 := rfl
@[go_sem] theorem roomN_160 : roomN 160 = 1000000000 := rfl
@[go_sem] theorem roomN_168 : roomN 168 = 1000000000 := rfl
@[go_sem] theorem roomN_176 : roomN 176 = 1000000000 := rfl
@[go_sem] theorem roomN_184 : roomN 184 = 1000000000 := rfl
@[go_sem] theorem roomN_192 : roomN 192 = 1000000000 := rfl
@[go_sem] theorem roomN_200 : roomN 200 = 1000000000 := rfl
@[go_sem] theorem roomN_208 : roomN 208 = 1000000000 := rfl
@[go_sem] theorem roomN_216 : roomN 216 = 1000000000 := rfl
@[go_sem] theorem roomN_224 : roomN 224 = 1000000000 := rfl
@[go_sem] theorem roomN_232 : roomN 232 = 1000000000 := rfl
@[go_sem] theorem roomN_240 : roomN 240 = 1000000000 := rfl
@[go_sem] theorem roomN_248 : roomN 248 = 1000000000 := rfl
@[go_sem] theorem roomN_256 : roomN 256 = 1000000000 := rfl
@[go_sem] theorem roomN_264 : roomN 264 = 1000000000 := rfl
@[go_sem] theorem roomN_272 : roomN 272 = 1000000000 := rfl
@[go_sem] theorem roomN_280 : roomN 280 = 1000000000 := rfl
@[go_sem] theorem roomN_288 : roomN 288 = 1000000000 := rfl
@[go_sem] theorem roomN_296 : roomN 296 = 1000000000 := rfl
@[go_sem] theorem roomN_304 : roomN 304 = 1000000000 := rfl
@[go_sem] theorem roomN_312 : roomN 312 = 1000000000 := rfl
@[go_sem] theorem roomN_320 : roomN 320 = 1000000000 := rfl
@[go_sem] theorem roomN_328 : roomN 328 = 1000000000 := rfl
@[go_sem] theorem roomN_336 : roomN 336 = 1000000000 := rfl
@[go_sem] theorem roomN_344 : roomN 344 = 1000000000 := rfl
@[go_sem] theorem roomN_352 : roomN 352 = 1000000000 := rfl
@[go_sem] theorem roomN_360 : roomN 360 = 1000000000 := rfl
@[go_sem] theorem roomN_368 : roomN 368 = 1000000000 := rfl
@[go_sem] theorem roomN_376 : roomN 376 = 1000000000 := rfl
@[go_sem] theorem roomN_384 : roomN 384 = 1000000000 := rfl
@[go_sem] theorem roomN_392 : roomN 392 = 1000000000 := rfl
@[go_sem] theorem roomN_400 : roomN 400 = 1000000000 := rfl
end Go.Abs
