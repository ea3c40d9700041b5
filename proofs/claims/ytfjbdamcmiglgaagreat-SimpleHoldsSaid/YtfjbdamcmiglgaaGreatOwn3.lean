/- Part 3 of my own framework and of the walks of functions: AbsD, AbsE, AbsF. -/
import Derived.Test.YtfjbdamcmiglgaaGreatOwn2
import Derived.Laws.Slices
import Derived.Laws.StructEq
abbrev bH:=@Array.length_toList
abbrev aB:=@Bool.and_eq_true
abbrev bd:=@Bool.false_eq_true
abbrev bw:=@Bool.not_eq_true'
abbrev cG:=@Bool.true_and
abbrev a8:=@List.all_eq_true
abbrev h_:=@List.cons.injEq
abbrev bI:=@List.getD_cons_succ
abbrev bm:=@List.getD_cons_zero
abbrev cu:=@List.getElem?_map
abbrev aC:=@List.getElem_mem
abbrev mX:=@List.getElem_of_mem
abbrev dF:=@List.length_singleton
abbrev aK:=@List.map_cons
abbrev fN:=@Nat.add_assoc
abbrev bQ:=@Nat.add_mul
abbrev bf:=@Nat.mul_le_mul_right
abbrev dL:=@Nat.one_mul
abbrev ie:=@Nat.sub_zero
abbrev bq:=@Nat.zero_add
abbrev ay:=@Option.bind_eq_some_iff
abbrev fb:=@Option.bind_some
abbrev oY:=@Option.isSome_iff_exists
abbrev aI:=@Option.map_eq_some_iff
abbrev bM:=@Option.map_some
abbrev bE:=@Prod.mk.injEq
set_option linter.unusedVariables false
set_option linter.unusedSectionVars false
set_option linter.unusedSimpArgs false
namespace Go.dm
open Go
section
variable {P:Program} {X:Nat→Nat→Prop} {base:Nat} {σ:ai} {β:Env} {w:World} {nm:Nat} {M:Nat→Nat→Prop}
theorem kq {b:Nat} {cw:bO} (h:bP σ b=some cw) : σ[b]? = some (some cw):=by
 unfold bP at h;cases h1 : σ[b]? with
 | none=>rw [h1] at h;cases h
 | some x=>rw [h1] at h;simp at h;rw [h]
theorem cf.iI {v:Value} {b:Bool} (h:cf w M β v (.bool b)):v = .bool b:=by cases h;rfl
theorem cf.eQ {v:Value} {k:IntKind} {n:Int} (h:cf w M β v (.int k n)):v = .int k n:=by cases h;rfl
theorem cf.hO {v:Value} {s:ByteArray} (h:cf w M β v (.str s)):v = .string s:=by cases h;rfl
def Yu (w:World) (M:Nat→Nat→Prop) (β:Env) (v:Value) (cs:List ah):Prop :=
 ∃ (g o:Nat) (cv:Nat→Value),v = .pointer (some ⟨g,o,none⟩)∧(∀ k,k<cs.length→w.cell? ⟨g,o+k,none⟩=some (cv k))∧∀ k,k<cs.length→cf w M β (cv k) (cs.getD k .undef)
theorem uO {c:Array Value} {k:Nat} (h:k<c.size):c[k]? = some (c.getD k undef):=by
 rw [ak,aE h];rfl
theorem K_ (cs:List ah) (o k:Nat):(cs.drop o).getD k ah.undef=cs.getD (o+k) .undef:=by
 simp [List.getD,eo]
theorem To (hr:cS X base σ β w) {l:fj} {p r:ah} {v:Value} (hv:cf w (MT X σ β) β v p) (h:jv σ l p=some r) :
  ∃ cs,Yu w (MT X σ β) β v cs∧j5 l cs=some r:=by
 cases p with
 | ptr b off =>
  simp only [jv] at h;split at h
  ·rename_i cs hb;obtain ⟨L,h1,_,_,c,e,h2,h3,h4,h5⟩:=hr.cw b _ (kq hb);cases hv with
   | ptr h' =>
    obtain rfl:=aP (h1.symm.trans h');refine ⟨cs.drop off,⟨L.g,L.o+off,fun k=>c.getD (off+k) undef,rfl,fun k hk=>?_,fun k hk=>?_⟩,h⟩
    ·simp only [cz] at hk;rw [h3,cell_of_row w L.g _ c e (0,0) h2,bq,uO (by omega)]
    ·simp only [cz] at hk;rw [K_];exact h5 _ (by omega)
  ·exact absurd h (by simp)
 | rp b i f =>
  simp only [jv] at h;split at h
  ·rename_i es fz hb;split at h
   ·rename_i hi;obtain ⟨L,h1,_,_,c,e,h2,h3,h4,h5,h6⟩:=hr.cw b _ (kq hb);cases hv with
    | rp h' =>
     obtain rfl:=aP (h1.symm.trans h');have hs:=h5 i hi;refine ⟨(es.getD i .undef).cells.drop f,⟨L.g,L.o+i*L.sz+f,fun k=>c.getD (L.o+i*L.sz+f+k) undef,rfl,fun k hk=>?_,fun k hk=>?_⟩,h⟩
     ·simp only [cz] at hk;have h7:(i+1)*L.sz≤L.n*L.sz:=bf _ (by omega);rw [bQ,dL] at h7;rw [cell_of_row w L.g _ c e (0,0) h2,uO (by omega)]
     ·simp only [cz] at hk;show cf _ _ _ (c.getD (L.o+i*L.sz+f+k) undef) _;rw [K_,fN (L.o+i*L.sz)];exact h6 i (f+k) hi (by omega)
   ·exact absurd h (by simp)
  ·exact absurd h (by simp)
 | pp cs =>
  cases hv with
  | pp cv hc pV=>exact ⟨cs,⟨_,_,cv,rfl,fun k hk=>(hc k hk).1,pV⟩,h⟩
 | _=>cases h
theorem Ymn (hr:cS X base σ β w) {ρ:Operand→Value} {iC:Operand→ah} (er:∀ x,cf w (MT X σ β) β (ρ x) (iC x)) {o:Oper} {t:TypeId} {x:Operand} (ho:o.op = .load t x)
  {l:fj} (hl:aF P t=some l) {r:ah} (h:jv σ l (iC x)=some r):c8 P X base σ β w nm (execOp ρ o) r σ:=by
 obtain ⟨cs,⟨g,of,cv,h1,h2,h3⟩,h4⟩:=To hr (er x) h;obtain ⟨v,h5,h6⟩:=SD hl h2 h3 h4;refine c8.val hr (v:=v) ?_ h6;simp only [execOp,ho,Instr.loadAt,Instr.sureAddr,h1,Sem.run_bind,Sem.run_pure,Result.andThen_ok,h5]
theorem Ylh (hr:cS X base σ β w) {ρ:Operand→Value} {iC:Operand→ah} (er:∀ x,cf w (MT X σ β) β (ρ x) (iC x)) {o:Oper} {c a b:Operand} (ho:o.op = .pick c a b)
  {r:ah} (h:pN (iC c) (iC a) (iC b)=some r):c8 P X base σ β w nm (execOp ρ o) r σ:=by
 have hc:=er c;have ha:=er a;have hb:=er b;cases r6 : iC c with
 | bool c' =>
  rw [r6] at hc h;have ft:(execOp ρ o).run P w = .ok (.value (if c' then ρ a else ρ b)) w:=by simp [execOp,ho,hc.iI,asBool]
  refine c8.val hr ft ?_;unfold pN at h;split at h
  ·rename_i c2 x y e1 e2 e3;cases e1;rw [e2] at ha;rw [e3] at hb;cases h;rw [ha.iI,hb.iI];cases c'<;>exact .bool _
  ·rename_i c2 e1 _;cases e1;cases h;cases c'
   ·exact hb
   ·exact ha
  ·cases h
 | _=>rw [r6] at h;simp [pN] at h
theorem Ytv (a b:Int):cf w M β (.bool (a != b)) (.bool (decide (a≠b))):=by
 have:(a != b)=decide (a≠b):=by by_cases e:a=b<;>simp [e]
 rw [this];exact .bool _
theorem Ycp {op:BinOp} {k:IntKind} {a b:Int} {r:ah} (h:i_ op k a b=some r) :
  ∃ v,(match op with
   | .add | .sub | .mul=>Op.intArith op k a b
   | .quo | .rem=>Op.intDiv op k a b
   | .and | .or | .xor | .andNot=>Op.intBits op k a b
   | _=>Op.intCmp op a b).run P w = .ok v w∧cf w M β v r:=by
 cases op<;>simp only [i_,reduceCtorEq] at h <;>
  (try (split at h<;>(try cases h))) <;>
  (try (simp only [aH] at h;subst h)) <;>
  (first
   | exact ⟨_,rfl, .int _ _⟩
   | exact ⟨_,rfl, .bool _⟩
   | exact ⟨_,rfl,Ytv _ _⟩
   | (rename_i hb;refine ⟨_,by simp only [Op.intDiv,if_neg hb];rfl,?_⟩;exact .int _ _))
theorem Ybc {op:BinOp} {a b:ByteArray} {r:ah} (h:mU op a b=some r):∃ v,(Op.stringOp op a b).run P w = .ok v w∧cf w M β v r:=by
 cases op<;>simp only [mU,reduceCtorEq] at h <;>
  (try (split at h<;>(try cases h))) <;>
  (try (simp only [aH] at h;subst h)) <;>
  (first
   | (rename_i hs
      have:¬ (((a.size+b.size:Nat):Int) > IntKind.i64.max):=by
       have e:IntKind.i64.max=9223372036854775807:=by decide
       rw [e];omega
      refine ⟨.string (a++b),?_, .str _⟩;simp only [Op.stringOp];rw [if_neg this];rfl)
   | exact ⟨_,rfl, .bool _⟩)
theorem Jv {u:TypeDesc} {k:IntKind} (h:jC u = .int k):u = .int k:=by cases u<;>simp_all [jC]
theorem A_ {u:TypeDesc} (h:jC u = .str):u = .string:=by cases u<;>simp_all [jC]
theorem V8 {u:TypeDesc} (h:jC u = .bool):u = .bool:=by cases u<;>simp_all [jC]
theorem Ypt {u:TypeDesc} (h:jC u = .ptr):∃ e,u = .pointer e:=by cases u<;>simp_all [jC]
theorem Db {u:TypeDesc} (h:jC u = .slice):∃ e,u = .slice e:=by cases u<;>simp_all [jC]
theorem I1 {u:TypeDesc} {n:Nat} (h:jC u = .array n):∃ e,u = .array n e:=by cases u<;>simp_all [jC]
theorem Fi {u:TypeDesc} (h:jC u = .map):∃ k e,u = .map k e:=by cases u<;>simp_all [jC]
theorem Lt {u:TypeDesc} (h:jC u = .struct):∃ fs,u = .struct fs:=by cases u<;>simp_all [jC]
theorem Z8 {u:TypeDesc} (h:jC u = .iface):∃ ms,u = .interface ms:=by cases u<;>simp_all [jC]
theorem Ycz {u:TypeDesc} (h:(jC u).plain=true):rP u=false:=by cases u<;>simp [jC,KA.plain,rP] at h ⊢
theorem SU {t:TypeId} {u:TypeDesc} (hu:P.underlying t=some u) (ha:rP u=false) {cs:Array Value} {off:Nat} (h:off<cs.size) :
  (part t cs off).run P w = .ok (cs.getD off undef) w:=by
 simp only [part,Sem.run_bind,Ml hu,Result.andThen_ok,ha];rw [uO h];rfl
theorem Zsp {xs ys:Array Value} {cD bs:List ah} (hx:xs.size=cD.length) (hy:ys.size=bs.length)
  (zA:∀ k,k<cD.length→cf w M β (xs.getD k undef) (cD.getD k .undef)) (F0:∀ k,k<bs.length→cf w M β (ys.getD k undef) (bs.getD k .undef)) (d:Nat) :
  ∀ (fs:List Field) (i:Nat),(cD.drop i).map tL=(bs.drop i).map tL→qa P fs i ((cD.drop i).map tL)=true →
   (Op.eqFields (d+1) xs ys fs).run P w = .ok (ki (cD.drop i) (bs.drop i)) w:=by
 intro fs
 induction fs with
 | nil =>
  intro i hk he;cases ha:cD.drop i with
  | nil=>rw [ha] at hk;cases hb:bs.drop i with
   | nil=>simp [Op.eqFields,ki]
   | cons b N2=>rw [hb] at hk;simp at hk
  | cons a DC=>rw [ha] at he;simp [qa] at he
 | cons f fs ih =>
  intro i hk he;cases ha:cD.drop i with
  | nil=>rw [ha] at he;simp [qa] at he
  | cons a DC =>
   cases hb:bs.drop i with
   | nil=>rw [ha,hb] at hk;simp at hk
   | cons b N2 =>
    have hia:i<cD.length:=by have:=congrArg List.length ha;simp at this;omega
    have hib:i<bs.length:=by have:=congrArg List.length hb;simp at this;omega
    have ea:cD.getD i .undef=a:=by simp [List.getD,← List.head?_drop,ha]
    have eb:bs.getD i .undef=b:=by simp [List.getD,← List.head?_drop,hb]
    have N5:cD.drop (i+1)=DC:=by rw [← List.drop_drop,ha];rfl
    have Xv:bs.drop (i+1)=N2:=by rw [← List.drop_drop,hb];rfl
    rw [ha,hb] at hk;rw [ha] at he;simp only [aK,h_] at hk;simp only [aK,qa,aB,beq_iff_eq,bne_iff_ne,decide_eq_true_eq] at he;obtain ⟨⟨⟨⟨h1,h2⟩,h3⟩,h4⟩,h5⟩:=he;have KG:=ih (i+1) (by rw [N5,Xv];exact hk.2) (by rw [N5];exact h5);rw [N5,Xv] at KG;have FR:=zA i hia;have KD:=F0 i hib;rw [ea] at FR;rw [eb] at KD;obtain ⟨u,hu,Eb⟩:=aI.1 h4;have Hq:rP u=false:=by
     rw [← Eb] at h3;exact Ycz h3
    have p1:=SU (P:=P) (w:=w) hu Hq (cs:=xs) (off:=f.offset) (by omega);have p2:=SU (P:=P) (w:=w) hu Hq (cs:=ys) (off:=f.offset) (by omega);rw [h1] at p1 p2;simp only [Op.eqFields,if_pos h2,Sem.run_bind,h1,p1,p2,Result.andThen_ok,ki];have ui:=hk.1;have fin:∀ (r:Bool),(Op.equalIn (d+1) f.type (xs.getD i undef) (ys.getD i undef)).run P w = .ok r w→fC a b=r →
      ((Op.equalIn (d+1) f.type (xs.getD i undef) (ys.getD i undef)).run P w).andThen (fun r w'=>(if (!r)=true then pure false else Op.eqFields (d+1) xs ys fs).run P w') =
       .ok (fC a b&&ki DC N2) w:=by
     intro r hr he;rw [hr,he,Result.andThen_ok];cases r
     ·rfl
     ·simp only [Bool.not_true,bd,if_false,cG];exact KG
    cases a with
    | int k n =>
     cases b with
     | int k' n' =>
      simp only [tL,KA.int.injEq] at ui;subst ui;refine fin (n==n') ?_ rfl;rw [FR.eQ,KD.eQ];exact run_equalIn_int w d f.type k k n n' (by rw [hu,Jv Eb])
     | _=>simp [tL] at ui
    | str s =>
     cases b with
     | str s' =>
      refine fin (s.toList==s'.toList) ?_ rfl;rw [FR.hO,KD.hO];exact run_equalIn_string w d f.type s s' (by rw [hu,A_ Eb])
     | _=>simp [tL] at ui
    | bool s =>
     cases b with
     | bool s' =>
      refine fin (s==s') ?_ rfl;rw [FR.iI,KD.iI];exact run_equalIn_bool' w d f.type s s' (by rw [hu,V8 Eb])
     | _=>simp [tL] at ui
    | _=>simp [tL,KA.plain] at h3
theorem yj {t:TypeId} {k:KA} (h:ja P t=some k):∃ i u,P.info? t=some i∧P.underlying t=some u∧jC u=k:=by
 unfold ja at h;obtain ⟨l,h1,h2⟩:=aI.1 h;obtain ⟨i,u,z,h3,h4,_,_,_,_,_,h5,_⟩:=qE h1;exact ⟨i,u,h3,h4,h5.trans h2⟩
theorem IU {v:Value} {a:ah} {b:Bool} (h:cf w M β v a) (hb:n9 a=some b):∃ p,v = .pointer p∧p.isSome=b:=by
 cases a<;>simp only [n9,reduceCtorEq,aH] at hb<;>subst hb<;>cases h<;>exact ⟨_,rfl,rfl⟩
theorem ES {v:Value} {a:ah} {b:Bool} (h:cf w M β v a) (hb:lg a=some b):(b=false∧v = .nilIface)∨(b=true∧∃ t x,v = .iface t x):=by
 cases a<;>simp only [lg,reduceCtorEq,aH] at hb<;>subst hb<;>cases h
 ·exact .inl ⟨rfl,rfl⟩
 ·exact .inr ⟨rfl,_,_,rfl⟩
theorem IK {v:Value} {a:ah} {b:Bool} (h:cf w M β v a) (hb:ku a=some b):(b=false∧v = .nilFunc)∨(b=true∧∃ f x y,v = .func f x y):=by
 cases a<;>simp only [ku,reduceCtorEq,aH] at hb<;>subst hb<;>cases h
 ·exact .inl ⟨rfl,rfl⟩
 ·exact .inr ⟨rfl,_,_,_,rfl⟩
theorem Yf5 {u:TypeDesc} (h:jC u = .func):∃ a b c,u = .func a b c:=by
 cases u<;>first | (cases h;done) | exact ⟨_,_,_,rfl⟩
theorem Zrj {t:TypeId} (h:rz P t=true):∃ ms:Array (String×TypeId),P.underlying t=some (.interface ms)∧ms.isEmpty=true:=by
 unfold rz at h;split at h
 ·rename_i ms e;exact ⟨ms,e,h⟩
 ·cases h
theorem Zwg {v:Value} {a:ah} {b:Bool} (h:cf w M β v a) (hb:lS a=some b):∃ p,v = .map p∧p.isSome=b:=by
 cases a<;>simp only [lS,reduceCtorEq,aH] at hb<;>subst hb<;>cases h<;>exact ⟨_,rfl,rfl⟩
theorem Yll (d:Nat) {t k e:TypeId} (h:P.underlying t=some (.map k e)) (p:Option Nat):(Op.equalIn (d+1) t (.map p) (.map none)).run P w = .ok p.isNone w:=by
 cases p<;>simp [Op.equalIn,run_underlying h]
theorem Yig (d:Nat) {t e:TypeId} (h:P.underlying t=some (.pointer e)) (q:Option Addr):(Op.equalIn (d+1) t (.pointer none) (.pointer q)).run P w = .ok q.isNone w:=by
 simp [Op.equalIn,run_underlying h]
theorem Yhy (d:Nat) {t e:TypeId} (h:P.underlying t=some (.pointer e)) (a:Addr):(Op.equalIn (d+1) t (.pointer (some a)) (.pointer none)).run P w = .ok false w:=by
 simp [Op.equalIn,run_underlying h]
theorem Ymz (d:Nat) {t:TypeId} {ms} (h:P.underlying t=some (.interface ms)) (u:TypeId) (x:Value):(Op.equalIn (d+1) t (.iface u x) .nilIface).run P w = .ok false w:=by
 simp [Op.equalIn,run_underlying h]
theorem Yoe (d:Nat) {t:TypeId} {ms} (h:P.underlying t=some (.interface ms)) (u:TypeId) (x:Value):(Op.equalIn (d+1) t .nilIface (.iface u x)).run P w = .ok false w:=by
 simp [Op.equalIn,run_underlying h]
theorem Ykd (d:Nat) {t:TypeId} {ms} (h:P.underlying t=some (.interface ms)):(Op.equalIn (d+1) t .nilIface .nilIface).run P w = .ok true w:=by
 simp [Op.equalIn,run_underlying h]
theorem Ykj (d:Nat) {t:TypeId} {a b c} (h:P.underlying t=some (.func a b c)):(Op.equalIn (d+1) t .nilFunc .nilFunc).run P w = .ok true w:=by
 simp [Op.equalIn,run_underlying h]
theorem Ym7 (d:Nat) {t:TypeId} {a b c} (h:P.underlying t=some (.func a b c)) (f:Fn) (x y:Array Value):(Op.equalIn (d+1) t .nilFunc (.func f x y)).run P w = .ok false w:=by
 simp [Op.equalIn,run_underlying h]
theorem Ynt (d:Nat) {t:TypeId} {a b c} (h:P.underlying t=some (.func a b c)) (f:Fn) (x y:Array Value):(Op.equalIn (d+1) t (.func f x y) .nilFunc).run P w = .ok false w:=by
 simp [Op.equalIn,run_underlying h]
theorem Zr1 (d:Nat) {t:TypeId} {ms:Array (String×TypeId)} (h:P.underlying t=some (.interface ms)) (hm:ms.isEmpty=true):(Op.eqGuardIn (d+1) t .nilIface .nilIface).run P w = .ok false w:=by
 simp [Op.eqGuardIn,run_underlying h,hm]
theorem Zn0 (op:BinOp) {t:TypeId} {ms:Array (String×TypeId)} (ox oy:Operand) (h:P.underlying t=some (.interface ms)) (hm:ms.isEmpty=true):(eqGuard op t ox oy .nilIface .nilIface).run P w = .ok () w:=by
 have h1:(Op.eqGuardIn Op.maxDepth t .nilIface .nilIface).run P w = .ok false w:=Zr1 9999 h hm
 have h2 : ∀ c : Bool, (if c = true then pure () else do if ← Op.eqGuardIn Op.maxDepth t .nilIface .nilIface then unsupported (.noEntry "binop/eql: two nil values of an interface type with methods, neither of them the literal nil") : Sem Unit).run P w = .ok () w := by
  intro c;cases c
  ·simp only [bd,if_false,Sem.run_bind,h1,Result.andThen_ok];rfl
  ·rfl
 have h3:=h2 ((ox matches .const _)||(oy matches .const _));cases op<;>first | exact h3 | rfl
theorem WS {t:TypeId} {x y:ah} {vx vy:Value} (hx:cf w M β vx x) (hy:cf w M β vy y) {b:Bool} (h:vb P t x y=some b) (op:BinOp) (ox oy:Operand) :
  (eqGuard op t ox oy vx vy).run P w = .ok () w∧(Op.equal t vx vy).run P w = .ok b w∧(∀ k n,vx≠.int k n)∧(∀ s,vx≠.string s)∧(∀ k n,vx≠.float k n)∧(∀ k n m,vx≠.complex k n m):=by
 unfold vb at h;split at h
 ·rename_i a a' hk;obtain ⟨i,u,h1,h2,h3⟩:=yj hk;cases h;rw [hx.iI,hy.iI];refine ⟨by cases op<;>simp [eqGuard],?_,by simp,by simp,by simp,by simp⟩;exact run_equalIn_bool' w 9999 t a a' (by rw [h2,V8 h3])
 ·rename_i hk;obtain ⟨i,u,h1,h2,h3⟩:=yj hk;obtain ⟨e,he⟩:=Ypt h3;rw [he] at h2;split at h
  ·rename_i b' e1 e2;cases h;obtain ⟨p,rfl,hp⟩:=IU hx e1;obtain ⟨q,rfl,hq⟩:=IU hy e2;obtain rfl:p=none:=Option.isSome_eq_false_iff.1 hp |> Option.isNone_iff_eq_none.1;refine ⟨by cases op<;>simp [eqGuard],?_,by simp,by simp,by simp,by simp⟩;refine (Yig 9999 h2 q).trans ?_;rw [← hq];cases q<;>rfl
  ·rename_i e1 e2;cases h;obtain ⟨p,rfl,hp⟩:=IU hx e1;obtain ⟨q,rfl,hq⟩:=IU hy e2;obtain rfl:q=none:=Option.isSome_eq_false_iff.1 hq |> Option.isNone_iff_eq_none.1;obtain ⟨a,rfl⟩:=oY.1 hp;refine ⟨by cases op<;>simp [eqGuard],?_,by simp,by simp,by simp,by simp⟩;exact Yhy 9999 h2 a
  ·cases h
 ·rename_i hk;obtain ⟨i,u,h1,h2,h3⟩:=yj hk;obtain ⟨k,e,he⟩:=Fi h3;rw [he] at h2;rw [aI] at h;obtain ⟨b',e1,rfl⟩:=h;obtain ⟨p,rfl,hp⟩:=Zwg hx e1;cases hy;refine ⟨by cases op<;>simp [eqGuard],?_,by simp,by simp,by simp,by simp⟩;refine (Yll 9999 h2 p).trans ?_;rw [← hp];cases p<;>rfl
 ·rename_i hk;obtain ⟨i,u,h1,h2,h3⟩:=yj hk;obtain ⟨e,he⟩:=Z8 h3;rw [he] at h2;split at h
  ·rename_i e1 e2;cases h;rcases ES hx e1 with ⟨h4,_⟩ | ⟨_,t1,x1,rfl⟩
   ·cases h4
   rcases ES hy e2 with ⟨_,rfl⟩ | ⟨h4,_⟩
   ·refine ⟨by cases op<;>simp [eqGuard],?_,by simp,by simp,by simp,by simp⟩;exact Ymz 9999 h2 _ _
   ·cases h4
  ·rename_i e1 e2;cases h;rcases ES hy e2 with ⟨h4,_⟩ | ⟨_,t1,x1,rfl⟩
   ·cases h4
   rcases ES hx e1 with ⟨_,rfl⟩ | ⟨h4,_⟩
   ·refine ⟨by cases op<;>simp [eqGuard],?_,by simp,by simp,by simp,by simp⟩;exact Yoe 9999 h2 _ _
   ·cases h4
  ·rename_i e1 e2;split at h
   ·rename_i hm;cases h;obtain ⟨ms,g1,g2⟩:=Zrj hm;rcases ES hx e1 with ⟨_,rfl⟩ | ⟨h4,_⟩
    ·rcases ES hy e2 with ⟨_,rfl⟩ | ⟨h4,_⟩
     ·exact ⟨Zn0 op ox oy g1 g2,Ykd 9999 h2,by simp,by simp,by simp,by simp⟩
     ·cases h4
    ·cases h4
   ·cases h
  ·cases h
 ·rename_i hk;obtain ⟨i,u,h1,h2,h3⟩:=yj hk;obtain ⟨a1,a2,a3,he⟩:=Yf5 h3;rw [he] at h2;split at h
  ·rename_i b' e1 e2;cases h;rcases IK hx e1 with ⟨_,rfl⟩ | ⟨h4,_⟩
   ·rcases IK hy e2 with ⟨rfl,rfl⟩ | ⟨rfl,f,p,q,rfl⟩
    ·exact ⟨by cases op<;>simp [eqGuard],Ykj 9999 h2,by simp,by simp,by simp,by simp⟩
    ·exact ⟨by cases op<;>simp [eqGuard],Ym7 9999 h2 _ _ _,by simp,by simp,by simp,by simp⟩
   ·cases h4
  ·rename_i e1 e2;cases h;rcases IK hx e1 with ⟨h4,_⟩ | ⟨_,f,p,q,rfl⟩
   ·cases h4
   rcases IK hy e2 with ⟨_,rfl⟩ | ⟨h4,_⟩
   ·exact ⟨by cases op<;>simp [eqGuard],Ynt 9999 h2 _ _ _,by simp,by simp,by simp,by simp⟩
   ·cases h4
  ·cases h
 ·rename_i xs ys hk;split at h
  ·rename_i hc;cases h;obtain ⟨sO,lJ⟩:=hc;unfold va at lJ;split at lJ
   ·rename_i fs D1;simp only [aB,bw] at lJ;obtain ⟨⟨hg,hh⟩,hi⟩:=lJ;cases hx with
    | agg hxn zA =>
     cases hy with
     | agg hyn F0 =>
      have XV:P.fieldsOf t=fs:=by simp [Program.fieldsOf,D1]
      refine ⟨run_eqGuard_agg w op t ox oy _ _ hg,?_,by simp,by simp,by simp,by simp⟩;refine (run_equalIn_struct w 9999 t _ _ (by rw [XV];exact D1) hh).trans ?_;rw [XV];exact Zsp (P:=P) hxn hyn zA F0 9998 fs.toList 0 sO hi
   ·cases lJ
  ·cases h
 ·cases h
end
section
variable {P:Program} {X:Nat→Nat→Prop} {base:Nat} {σ:ai} {β:Env} {w:World} {nm:Nat} {M:Nat→Nat→Prop}
theorem Yph {op:BinOp} {t:TypeId} {x y r:ah} {vx vy:Value} (hx:cf w M β vx x) (hy:cf w M β vy y) (h:mj P op t x y=some r) (ox oy:Operand) :
  ∃ v,(do eqGuard op t ox oy vx vy;binOp op t vx vy:Sem Value).run P w = .ok v w∧cf w M β v r:=by
 unfold mj at h;split at h
 ·obtain ⟨b,h1,rfl⟩:=aI.1 h;obtain ⟨h2,h3,h4,h5,h6,h7⟩:=WS hx hy h1 .eql ox oy;refine ⟨.bool b,?_, .bool b⟩;simp only [Sem.run_bind,h2,Result.andThen_ok];clear hx hy;cases vx<;>first | (exact absurd rfl (h4 _ _)) | (exact absurd rfl (h5 _)) | (exact absurd rfl (h6 _ _)) | (exact absurd rfl (h7 _ _ _)) | (simp only [binOp,Sem.run_bind,h3,Result.andThen_ok,Sem.run_pure])
 ·obtain ⟨b,h1,rfl⟩:=aI.1 h;obtain ⟨h2,h3,h4,h5,h6,h7⟩:=WS hx hy h1 .neq ox oy;refine ⟨.bool !b,?_, .bool !b⟩;simp only [Sem.run_bind,h2,Result.andThen_ok];clear hx hy;cases vx<;>first | (exact absurd rfl (h4 _ _)) | (exact absurd rfl (h5 _)) | (exact absurd rfl (h6 _ _)) | (exact absurd rfl (h7 _ _ _)) | (simp only [binOp,Sem.run_bind,h3,Result.andThen_ok,Sem.run_pure])
 ·cases h
theorem Ynl {op:BinOp} {t:TypeId} {x y r:ah} {vx vy:Value} (hx:cf w M β vx x) (hy:cf w M β vy y) (h:rR P op t x y=some r) (ox oy:Operand) :
  ∃ v,(do eqGuard op t ox oy vx vy;binOp op t vx vy:Sem Value).run P w = .ok v w∧cf w M β v r:=by
 unfold rR at h;split at h
 ·rename_i k a k' b;split at h
  ·rename_i hk;subst hk;obtain ⟨v,h1,h2⟩:=Ycp (P:=P) (w:=w) (M:=M) (β:=β) h;refine ⟨v,?_,h2⟩;rw [hx.eQ,hy.eQ];have hg:(eqGuard op t ox oy (.int k a) (.int k b)).run P w = .ok () w:=by cases op<;>simp [eqGuard]
   simp only [Sem.run_bind,hg,Result.andThen_ok];cases op<;>first | (simpa [binOp] using h1) | (simp [i_] at h)
  ·cases h
 ·rename_i a b;obtain ⟨v,h1,h2⟩:=Ybc (P:=P) (w:=w) (M:=M) (β:=β) h;refine ⟨v,?_,h2⟩;rw [hx.hO,hy.hO];have hg:(eqGuard op t ox oy (.string a) (.string b)).run P w = .ok () w:=by cases op<;>simp [eqGuard]
  simp only [Sem.run_bind,hg,Result.andThen_ok];cases op<;>first | (simpa [binOp] using h1) | (simp [mU] at h)
 ·exact Yph hx hy h ox oy
theorem QJ {neg:Bool} {x r:ah} {vx:Value} (hx:cf w M β vx x) (h:tn neg x=some r):∃ a n c,vx = .slice a n c∧cf w M β (.bool (a.isNone != neg)) r:=by
 have lit:∀ (a:Addr),(some a:Option Addr).isNone=false:=fun _=>rfl;unfold tn at h;split at h<;>cases h
 ·cases hx;exact ⟨_,_,_,rfl, .iH _⟩
 ·cases hx with
  | @ps a cap sz es cv jH fJ hc ha hr =>
   refine ⟨_,_,_,rfl,?_⟩;split
   ·exact .iH _
   ·obtain ⟨g,o,rfl⟩:=ha (by omega);have e:((some (⟨g,o,none⟩:Addr)).isNone != neg)=neg:=by cases neg<;>rfl
    rw [e];exact .bool neg
 ·cases hx with
  | tU a h=>exact ⟨_,_,_,rfl,by rw [if_pos rfl];exact .iH _⟩
  | os h h1 h2 =>
   refine ⟨_,_,_,rfl,?_⟩;split
   ·exact .iH _
   ·cases neg<;>exact .bool _
 ·cases hx with
  | tQ a h=>exact ⟨_,_,_,rfl,by rw [if_pos rfl];exact .iH _⟩
  | oc h h1 h2 =>
   refine ⟨_,_,_,rfl,?_⟩;split
   ·exact .iH _
   ·cases neg<;>exact .bool _
theorem Ui (d:Nat) {t e:TypeId} (h:P.underlying t=some (.slice e)) (a:Option Addr) (n c:Nat):(Op.equalIn (d+1) t (.slice a n c) (.slice none 0 0)).run P w = .ok a.isNone w:=by
 cases a<;>simp [Op.equalIn,run_underlying h]
theorem Yhl {y:Operand} (h:kC y=true):y = .const (.slice none 0 0):=by
 unfold kC at h;split at h
 ·rfl
 ·cases h
theorem Ynv {op:BinOp} {t:TypeId} {x r:ah} {vx:Value} (hx:cf w M β vx x) (h:vI P op t x=some r) (ox oy:Operand) :
  ∃ v,(do eqGuard op t ox oy vx (.slice none 0 0);binOp op t vx (.slice none 0 0):Sem Value).run P w = .ok v w∧cf w M β v r:=by
 unfold vI at h;split at h
 ·rename_i hk;obtain ⟨i,u,h1,h2,h3⟩:=yj hk;obtain ⟨e,he⟩:=Db h3;rw [he] at h2;obtain ⟨a,n,c,rfl,hr⟩:=QJ hx h;refine ⟨_,?_,hr⟩;have:=Ui (w:=w) 9999 h2 a n c;have hg:(eqGuard .eql t ox oy (.slice a n c) (.slice none 0 0)).run P w = .ok () w:=by simp [eqGuard]
  have h5:(Op.equal t (.slice a n c) (.slice none 0 0)).run P w = .ok a.isNone w:=this;simp only [binOp,Sem.run_bind,hg,Result.andThen_ok,h5,Sem.run_pure];cases a<;>rfl
 ·rename_i hk;obtain ⟨i,u,h1,h2,h3⟩:=yj hk;obtain ⟨e,he⟩:=Db h3;rw [he] at h2;obtain ⟨a,n,c,rfl,hr⟩:=QJ hx h;refine ⟨_,?_,hr⟩;have:=Ui (w:=w) 9999 h2 a n c;have hg:(eqGuard .neq t ox oy (.slice a n c) (.slice none 0 0)).run P w = .ok () w:=by simp [eqGuard]
  have h5:(Op.equal t (.slice a n c) (.slice none 0 0)).run P w = .ok a.isNone w:=this;simp only [binOp,Sem.run_bind,hg,Result.andThen_ok,h5,Sem.run_pure];cases a<;>rfl
 ·cases h
theorem Ytp {op:UnOp} {x r:ah} {vx:Value} (hx:cf w M β vx x) (h:F6 op x=some r):∃ v,(Op.unary op vx).run P w = .ok v w∧cf w M β v r:=by
 cases x<;>simp only [F6,reduceCtorEq] at h
 ·rw [hx.iI];cases op<;>simp only [reduceCtorEq,aH] at h;subst h;exact ⟨_,rfl, .bool _⟩
 ·rw [hx.eQ];cases op<;>simp only [reduceCtorEq,aH] at h;subst h;exact ⟨_,rfl, .int _ _⟩
theorem Zs8 {s d:TypeId} {x r:ah} {vx:Value} (hx:cf w M β vx x) (h:pD P s d x=some r):∃ v,(convert s d vx).run P w = .ok v w∧cf w M β v r:=by
 unfold pD at h;split at h
 ·rename_i ks k k' n h1 h2;cases h;obtain ⟨_,us,_,h3,_⟩:=yj h1;obtain ⟨_,ud,_,h4,h5⟩:=yj h2;obtain rfl:=Jv h5;rw [hx.eQ];exact ⟨_,by simp only [convert,Sem.run_bind,run_underlying h3,run_underlying h4,Result.andThen_ok,Conv.intToInt];rfl, .int _ _⟩
 ·rename_i y h1 h2;cases h;obtain ⟨_,us,_,h3,xO⟩:=yj h1;obtain ⟨_,ud,_,h4,h5⟩:=yj h2;obtain rfl:=A_ h5;obtain rfl:=A_ xO;rw [hx.hO];exact ⟨_,by simp only [convert,Sem.run_bind,run_underlying h3,run_underlying h4,Result.andThen_ok];rfl, .str _⟩
 ·cases h
theorem uS {t:TypeId} {T:j9} (h:bU P t=some T):∃ u,aF P t=some T.lay∧P.underlying t=some u∧jC u=T.kind ∧
  T.pF=(match u with | .struct fs=>fs.toList.map fun f=>(f.offset,aF P f.type) | _=>[]) ∧
  T.elem=(match u with | .slice e=>aF P e | .array _ e=>aF P e | .map _ e=>aF P e | _=>none) ∧
  T.ED=(match u with | .map k _=>aF P k | _=>none):=by
 unfold bU at h;split at h
 ·rename_i l u h1 h2;cases h;obtain ⟨i,u',z,h3,h4,_,_,_,_,_,h5,_⟩:=qE h1;obtain rfl:=aP (h2.symm.trans h4);exact ⟨u,h1,h2,h5,rfl,rfl,rfl⟩
 ·cases h
theorem Vf {lo hi:Nat} {a:ah} {v:Value} {n:Nat} (hv:cf w M β v a) (h:j0 lo hi a=some n) :
  ∃ k i,v = .int k i∧(lo:Int)≤i∧i≤hi∧n=i.toNat:=by
 unfold j0 at h;split at h
 ·split at h
  ·rename_i hc;cases h;exact ⟨_,_,hv.eQ,hc.1,hc.2,rfl⟩
  ·cases h
 ·cases h
theorem E8 {lo hi:Nat} {a:ah} {v:Value} {n:Nat} (hv:cf w M β v a) (h:j0 lo hi a=some n) (code:BoundsCode) :
  (Instr.sliceBound v hi code).run P w = .ok n w∧lo≤n∧n≤hi:=by
 obtain ⟨k,i,rfl,h1,h2,rfl⟩:=Vf hv h;exact ⟨run_sliceBound w k i hi code (by omega) h2,by omega,by omega⟩
inductive lq (w:World) (M:Nat→Nat→Prop) (β:Env):Option Value→Option ah→Prop
 | none:lq w M β none none
 | some {v:Value} {a:ah} (h:cf w M β v a):lq w M β (some v) (some a)
theorem Gh {EC:Bool} {n c:Nat} (hc:n≤c) {lo hi:Option ah} {vP xA:Option Value} (jg:lq w M β vP lo) (zf:lq w M β xA hi) {h l:Nat}
  (e1:xS n hi=some h) (e2:sv h lo=some l):(Instr.sliceBounds EC n c vP xA none).run P w = .ok (l,h,c) w∧l≤h∧h≤n:=by
 have dZ:∀ {a v},cf w M β v a→j0 0 n a=some h→∀ code,(Instr.sliceBound v c code).run P w = .ok h w∧h≤n:=by
  intro a v hv e code;obtain ⟨k,i,rfl,h1,h2,rfl⟩:=Vf hv e;exact ⟨run_sliceBound w k i c _ (by omega) (by omega),by omega⟩
 have lo':∀ {a v},cf w M β v a→j0 0 h a=some l→∀ code,(Instr.sliceBound v h code).run P w = .ok l w∧l≤h:=by
  intro a v hv e code;obtain ⟨h1,h2,h3⟩:=E8 (P:=P) hv e code;exact ⟨h1,h3⟩
 cases zf with
 | none =>
  simp only [xS,aH] at e1;subst e1;cases jg with
  | none =>
   simp only [sv,aH] at e2;subst e2;exact ⟨rfl,by omega,ae _⟩
  | some hl =>
   obtain ⟨h1,h2⟩:=lo' hl e2 .sliceB;refine ⟨?_,h2,ae _⟩;simp [Instr.sliceBounds,h1]
 | some hh =>
  obtain ⟨h3,h4⟩:=dZ hh e1 (if EC then .sliceAcap else .sliceAlen)
  cases jg with
  | none =>
   simp only [sv,aH] at e2;subst e2;refine ⟨?_,by omega,h4⟩;simp [Instr.sliceBounds,h3]
  | some hl =>
   obtain ⟨h1,h2⟩:=lo' hl e2 .sliceB;refine ⟨?_,h2,h4⟩;simp [Instr.sliceBounds,h1,h3]
theorem Zw2 {n c:Nat} {lo hi:Option ah} {vP xA:Option Value} (Kv:n≤c) (jg:lq w M β vP lo) (zf:lq w M β xA hi) {h l:Nat}
  (e1:D7 n c hi=some h) (e2:sv h lo=some l):(Instr.sliceBounds true n c vP xA none).run P w = .ok (l,h,c) w∧l≤h∧h≤c:=by
 have lo':∀ {a v},cf w M β v a→j0 0 h a=some l→∀ code,(Instr.sliceBound v h code).run P w = .ok l w∧l≤h:=by
  intro a v hv e code;obtain ⟨h1,h2,h3⟩:=E8 (P:=P) hv e code;exact ⟨h1,h3⟩
 cases zf with
 | none =>
  simp only [D7,aH] at e1;subst e1;cases jg with
  | none =>
   simp only [sv,aH] at e2;subst e2;exact ⟨rfl,by omega,Kv⟩
  | some hl =>
   obtain ⟨h1,h2⟩:=lo' hl e2 .sliceB;exact ⟨by simp [Instr.sliceBounds,h1],h2,Kv⟩
 | some hh =>
  obtain ⟨h3,_,h4⟩:=E8 (P:=P) hh e1 .sliceAcap;cases jg with
  | none =>
   simp only [sv,aH] at e2;subst e2;exact ⟨by simp [Instr.sliceBounds,h3],by omega,h4⟩
  | some hl =>
   obtain ⟨h1,h2⟩:=lo' hl e2 .sliceB;exact ⟨by simp [Instr.sliceBounds,h1,h3],h2,h4⟩
theorem Zvz {n c m:Nat} {lo:Option ah} {ha ma:ah} {vP:Option Value} {vh vm:Value} (jg:lq w M β vP lo) (hh:cf w M β vh ha) (hm:cf w M β vm ma) {h l:Nat}
  (e0:j0 0 c ma=some m) (e1:j0 0 m ha=some h) (e2:sv h lo=some l):(Instr.sliceBounds true n c vP (some vh) (some vm)).run P w = .ok (l,h,m) w∧l≤h∧h≤m∧m≤c:=by
 obtain ⟨h1,_,h2⟩:=E8 (P:=P) hm e0 .slice3Acap;obtain ⟨h3,_,h4⟩:=E8 (P:=P) hh e1 .slice3B;cases jg with
 | none =>
  simp only [sv,aH] at e2;subst e2;exact ⟨by simp [Instr.sliceBounds,h1,h3],by omega,h4,h2⟩
 | some hl =>
  obtain ⟨h5,_,h6⟩:=E8 (P:=P) hl e2 .slice3C;exact ⟨by simp [Instr.sliceBounds,h1,h3,h5],h6,h4,h2⟩
theorem NF {ρ:Operand→Value} {iC:Operand→ah} (er:∀ x,cf w M β (ρ x) (iC x)) (o:Option Operand):lq w M β (o.map ρ) (o.map iC):=by
 cases o with
 | none=>exact .none
 | some x=>exact .some (er x)
theorem E3 {α β γ:Type} {x:Option α} {f : α→Option β} {g : α→β→γ} {r : γ} (h:x.bind (fun a=>(f a).bind fun b=>some (g a b))=some r):∃ a b,x=some a∧f a=some b∧g a b=r:=by
 cases x with
 | none=>simp at h
 | some a =>
  simp only [fb] at h;cases hf:f a with
  | none=>rw [hf] at h;simp at h
  | some b=>rw [hf] at h;simp at h;exact ⟨a,b,rfl,hf,h⟩
theorem uP {t:TypeId} {T:j9} (hT:bU P t=some T) (hk:T.kind = .slice):∃ e,P.underlying t=some (.slice e)∧T.elem=aF P e:=by
 obtain ⟨u,h1,h2,h3,_,h5,_⟩:=uS hT;obtain ⟨e,rfl⟩:=Db (h3.trans hk);exact ⟨e,h2,h5⟩
theorem IH {t e:TypeId} {i:TypeInfo} (ht:P.underlying t=some (.slice e)) (hi:P.info? e=some i) {a:Option Addr} {n c l h:Nat} {vP xA:Option Value}
  (hb:(Instr.sliceBounds true n c vP xA none).run P w = .ok (l,h,c) w) :
  (Instr.sliceAt t (.slice a n c) vP xA none).run P w = .ok (.slice (if c=l then a else a.map (·.add (l*i.size))) (h - l) (c - l)) w:=by
 simp [Instr.sliceAt,Instr.slice,run_underlying ht,hb,uQ hi]
theorem SG {t e:TypeId} {i:TypeInfo} (ht:P.underlying t=some (.slice e)) (hi:P.info? e=some i) {a:Option Addr} {n c l h m:Nat} {vP xA Iw:Option Value}
  (hb:(Instr.sliceBounds true n c vP xA Iw).run P w = .ok (l,h,m) w) :
  (Instr.sliceAt t (.slice a n c) vP xA Iw).run P w = .ok (.slice (if m=l then a else a.map (·.add (l*i.size))) (h - l) (m - l)) w:=by
 simp [Instr.sliceAt,Instr.slice,run_underlying ht,hb,uQ hi]
theorem S3 {v:Value} {b off n c s l h m:Nat} (hx:cf w M β v (.oc b off n c s)) (h1:l≤h) (h2:h≤m) (h3:m≤c):∃ a,v = .slice a n c∧n≤c ∧
  cf w M β (.slice (if m=l then a else a.map (·.add (l*s))) (h - l) (m - l)) (.oc b (off+l) (h - l) (m - l) s):=by
 cases hx with
 | tQ ad hL =>
  refine ⟨_,rfl,ae _,?_⟩;obtain rfl:l=0:=by omega
  obtain rfl:h=0:=by omega
  obtain rfl:m=0:=by omega
  exact .tQ _ hL
 | @oc _ _ _ _ L hL hl hc =>
  refine ⟨_,rfl,hl,?_⟩;by_cases e:m=l
  ·rw [show h - l=0 by omega,show m - l=0 by omega];exact .tQ _ hL
  ·rw [if_neg e];simp only [bM,Addr.add_lit];rw [show L.o+off*L.sz+l*L.sz=L.o+(off+l)*L.sz by rw [bQ];omega];exact .oc hL (by omega) (by omega)
theorem Dl {e:TypeId} {T:j9} (ju:T.elem=aF P e) {sz:Nat} (h:T.vY=some sz):∃ i,P.info? e=some i∧i.size=sz:=by
 unfold j9.vY at h;rw [ju] at h;obtain ⟨l,h1,h2⟩:=aI.1 h;obtain ⟨i,u,z,h3,_,_,h4,_⟩:=qE h1;exact ⟨i,h3,h4.trans h2⟩
theorem Ydc {t:TypeId} {T:j9} (hT:bU P t=some T) {vx:Value} {x r:ah} {vP xA Iw:Option Value} {lo hi mx:Option ah} (hx:cf w M β vx x)
  (jg:lq w M β vP lo) (zf:lq w M β xA hi) (Kt:lq w M β Iw mx) (h:jo T x lo hi mx=some r) :
  ∃ v,(Instr.sliceAt t vx vP xA Iw).run P w = .ok v w∧cf w M β v r:=by
 unfold jo at h;cases Kt with
 | some hm =>
  simp only at h;split at h
  ·rename_i bk off n c sz;split at h
   ·rename_i hk;obtain ⟨e,ht,ju⟩:=uP hT hk.1;obtain ⟨i,dZ,hs⟩:=Dl ju hk.2;obtain ⟨m,e0,h⟩:=ay.1 h;obtain ⟨b,a,e1,e2,rfl⟩:=E3 h;obtain ⟨ha,rfl,e1⟩:=ay.1 e1;cases zf with
    | some hh =>
     obtain ⟨h4,h5,h6,h7⟩:=Zvz (P:=P) (n:=n) jg hh hm e0 e1 e2;obtain ⟨ad,rfl,h8,h9⟩:=S3 hx h5 h6 h7;exact ⟨_,SG ht dZ h4,by rw [hs];exact h9⟩
   ·cases h
  ·cases h
 | none =>
  simp only at h;split at h
  ·rename_i bk off n c sz;split at h
   ·rename_i hk;obtain ⟨e,ht,ju⟩:=uP hT hk.1;obtain ⟨i,dZ,hs⟩:=Dl ju hk.2;obtain ⟨b,a,e1,e2,rfl⟩:=E3 h;have Kv:n≤c:=by
     cases hx with
     | tQ=>exact ae _
     | oc _ hl _=>exact hl
    obtain ⟨h4,h5,h6⟩:=Zw2 (P:=P) Kv jg zf e1 e2;obtain ⟨ad,rfl,h8,h9⟩:=S3 hx h5 h6 (ae _);exact ⟨_,SG ht dZ h4,by rw [hs];exact h9⟩
   ·cases h
  ·rename_i s;split at h
   ·rename_i hk;obtain ⟨u,h1,h2,h3,_⟩:=uS hT;obtain rfl:=A_ (h3.trans hk);obtain ⟨b,a,e1,e2,rfl⟩:=E3 h;obtain ⟨h4,h5,h6⟩:=Gh (P:=P) (EC:=false) (ae _) jg zf e1 e2;rw [hx.hO];exact ⟨.string (s.extract a b),by simp [Instr.sliceAt,Instr.slice,run_underlying h2,h4], .str _⟩
   ·cases h
  ·rename_i sz es;split at h
   ·rename_i hk;obtain ⟨e,ht,ju⟩:=uP hT hk.1;obtain ⟨i,dZ,hs⟩:=Dl ju hk.2;obtain ⟨b,a,e1,e2,rfl⟩:=E3 h;cases hx with
    | @ps ad cap _ _ cv jH fJ hc ha hr =>
     obtain ⟨h4,h5,h6⟩:=Gh (P:=P) (EC:=true) jH jg zf e1 e2;refine ⟨_,IH ht dZ h4,?_⟩;have hl:((es.drop a).take (b - a)).length=b - a:=by simp;omega
     have eJ:∀ k,k<b - a→((es.drop a).take (b - a)).getD k ah.undef=es.getD (a+k) .undef:=fun k hk=>by
      simp [List.getD,fI,hk,eo]
     have key:cf w M β (.slice (if cap=a then ad else ad.map (·.add (a*i.size))) ((es.drop a).take (b - a)).length (cap - a)) (.ps sz ((es.drop a).take (b - a))):=by
      refine .ps (fun k j=>cv (a+k) j) (by omega) (fun k e7=>?_) (fun k j e7 hj=>?_) (fun h0=>?_) (fun k j e7 hj=>?_)
      ·rw [eJ k (by omega)];exact fJ _ (by omega)
      ·obtain ⟨g,o,h7,h8,h9⟩:=hc (a+k) j (by omega) hj;have e3:o+(a+k)*sz+j=o+a*sz+k*sz+j:=by rw [bQ];omega
       rw [e3] at h8 h9;refine ⟨g,o+a*sz,?_,h8,h9⟩;rw [h7,if_neg (by omega),hs];simp [Addr.add_lit]
      ·obtain ⟨g,o,h7⟩:=ha (by omega);refine ⟨g,o+a*sz,?_⟩;rw [h7,if_neg (by omega),hs];simp [Addr.add_lit]
      ·rw [eJ k (by omega)];exact hr _ j (by omega) hj
     rw [hl] at key;exact key
   ·cases h
  ·rename_i bk off n sz;split at h
   ·rename_i hk;obtain ⟨e,ht,ju⟩:=uP hT hk.1;obtain ⟨i,dZ,hs⟩:=Dl ju hk.2;obtain ⟨b,a,e1,e2,rfl⟩:=E3 h;cases hx with
    | tU ad hL =>
     obtain ⟨h4,h5,h6⟩:=Gh (P:=P) (EC:=true) (ae 0) jg zf e1 e2;obtain rfl:b=0:=by omega
     obtain rfl:a=0:=by omega
     exact ⟨_,IH ht dZ h4, .tU _ hL⟩
    | @os _ _ _ cap L hL hl hc =>
     obtain ⟨h4,h5,h6⟩:=Gh (P:=P) (EC:=true) hl jg zf e1 e2;refine ⟨_,IH ht dZ h4,?_⟩;by_cases e3:cap=a
     ·rw [if_pos e3];rw [show cap - a=0 by omega,show b - a=0 by omega];exact .tU _ hL
     ·rw [if_neg e3,hs];simp only [bM,Addr.add_lit];rw [show L.o+off*L.sz+a*L.sz=L.o+(off+a)*L.sz by rw [bQ];omega];exact .os hL (by omega) (by omega)
   ·cases h
  ·split at h
   ·rename_i hk;obtain ⟨e,ht,ju⟩:=uP hT hk.1;obtain ⟨l',HM⟩:=oY.1 hk.2;rw [ju] at HM;obtain ⟨i,u,z,dZ,_⟩:=qE HM;obtain ⟨b,a,e1,e2,rfl⟩:=E3 h;cases hx with
    | aW ad =>
     obtain ⟨h4,h5,h6⟩:=Gh (P:=P) (EC:=true) (ae 0) jg zf e1 e2;obtain rfl:b=0:=by omega
     obtain rfl:a=0:=by omega
     exact ⟨_,IH ht dZ h4, .aW _⟩
   ·cases h
  ·cases h
theorem Znv {t:TypeId} {T:j9} (hT:bU P t=some T) {vx vi:Value} {x i r:ah} (hx:cf w M β vx x) (hi:cf w M β vi i) (h:fQ T x i=some r) :
  ∃ v,(Instr.indexAt t vx vi).run P w = .ok v w∧cf w M β v r:=by
 unfold fQ at h;split at h
 ·rename_i k i;rw [hi.eQ];split at h
  ·rename_i b off n sz;split at h
   ·rename_i hk;obtain ⟨e,ht,ju⟩:=uP hT hk.1;obtain ⟨ti,dZ,hs⟩:=Dl ju hk.2.1;cases h;cases hx with
    | tU ad hL=>exfalso;have:=hk.2.2;omega
    | @os _ _ _ cap L hL hl hc =>
     refine ⟨.pointer (some ⟨L.g,L.o+(off+i.toNat)*L.sz+0,none⟩),?_, .rp hL⟩;simp only [Instr.indexAt,asIntOf,Sem.run_bind,Sem.run_pure,Result.andThen_ok,run_underlying ht];rw [if_pos (by omega)];simp only [Sem.run_bind,uQ dZ,Result.andThen_ok,Sem.run_pure,Addr.add_lit,hs];rw [bQ,← fN];rfl
   ·cases h
  ·rename_i b off n c sz;split at h
   ·rename_i hk;obtain ⟨e,ht,ju⟩:=uP hT hk.1;obtain ⟨ti,dZ,hs⟩:=Dl ju hk.2.1;cases h;cases hx with
    | tQ ad hL=>exfalso;have:=hk.2.2;omega
    | @oc _ _ _ cap L hL hl hc =>
     refine ⟨.pointer (some ⟨L.g,L.o+(off+i.toNat)*L.sz+0,none⟩),?_, .rp hL⟩;simp only [Instr.indexAt,asIntOf,Sem.run_bind,Sem.run_pure,Result.andThen_ok,run_underlying ht];rw [if_pos (by omega)];simp only [Sem.run_bind,uQ dZ,Result.andThen_ok,Sem.run_pure,Addr.add_lit,hs];rw [bQ,← fN];rfl
   ·cases h
  ·rename_i sz es;split at h
   ·rename_i hk;obtain ⟨e,ht,ju⟩:=uP hT hk.1;obtain ⟨ti,dZ,hs⟩:=Dl ju hk.2.1;cases h;cases hx with
    | @ps ad cap _ _ cv jH fJ hc ha hr =>
     have bA:i.toNat<es.length:=by omega
     obtain ⟨g,o,h7⟩:=ha (by omega);refine ⟨.pointer (some ⟨g,o+i.toNat*sz,none⟩),?_, .pp (fun j=>cv i.toNat j) (fun j hj=>?_) (fun j hj=>?_)⟩
     ·simp only [Instr.indexAt,asIntOf,Sem.run_bind,Sem.run_pure,Result.andThen_ok,run_underlying ht,h7];rw [if_pos (by omega)];simp only [Sem.run_bind,uQ dZ,Result.andThen_ok,Sem.run_pure,Addr.add_lit,hs]
     ·rw [fJ i.toNat bA] at hj;obtain ⟨g',o',h8,h9⟩:=hc i.toNat j bA hj;rw [h7] at h8;simp only [aH,Addr.mk.injEq,and_true] at h8;obtain ⟨rfl,rfl⟩:=h8;exact h9
     ·rw [fJ i.toNat bA] at hj;exact hr i.toNat j bA hj
   ·cases h
  ·rename_i b off;split at h
   ·rename_i n e hk he;split at h
    ·rename_i hb;cases h;obtain ⟨u,h1,h2,h3,_,h5,_⟩:=uS hT;obtain ⟨et,rfl⟩:=I1 (h3.trans hk);rw [he] at h5;obtain ⟨ti,_,_,rD,_,_,hs,_⟩:=qE h5.symm;cases hx with
     | @ptr _ _ L hL =>
      refine ⟨.pointer (some ⟨L.g,L.o+(off+i.toNat*e.sz),none⟩),?_, .ptr hL⟩;simp only [Instr.indexAt,asIntOf,Sem.run_bind,Sem.run_pure,Result.andThen_ok,run_underlying h2,Instr.sureAddr];rw [if_pos hb];simp only [Sem.run_bind,uQ rD,Result.andThen_ok,Sem.run_pure,Addr.add_lit,hs];rw [fN]
    ·cases h
   ·cases h
  ·cases h
 ·cases h
theorem Ycu {t:TypeId} {T:j9} (hT:bU P t=some T) {vx vi:Value} {x i r:ah} (hx:cf w M β vx x) (hi:cf w M β vi i) (h:qk T x i=some r) :
  ∃ v,(Instr.index t vx vi).run P w = .ok v w∧cf w M β v r:=by
 unfold qk at h;split at h
 ·rename_i cs k i;rw [hi.eQ];split at h
  ·rename_i n e hk he;split at h
   ·rename_i hb;obtain ⟨u,h1,h2,h3,_,h5,_⟩:=uS hT;obtain ⟨et,rfl⟩:=I1 (h3.trans hk);rw [he] at h5;obtain ⟨ti,_,_,rD,_,_,hs,_⟩:=qE h5.symm;cases hx with
    | agg hn hr =>
     obtain ⟨v,h6,h7⟩:=SV (P:=P) h5.symm hn hr h;refine ⟨v,?_,h7⟩;simp only [Instr.index,asIntOf,Sem.run_bind,Sem.run_pure,Result.andThen_ok,run_underlying h2];rw [if_pos hb];simp only [Sem.run_bind,uQ rD,Result.andThen_ok,hs,h6]
   ·cases h
  ·cases h
 ·rename_i s k i;split at h
  ·rename_i hb;obtain ⟨hb,hk⟩:=hb;cases h;rw [hi.eQ,hx.hO];obtain ⟨u,h1,h2,h3,_⟩:=uS hT;obtain rfl:=A_ (h3.trans hk);refine ⟨_,?_, .int _ _⟩;simp only [Instr.index,asIntOf,Sem.run_bind,Sem.run_pure,Result.andThen_ok,run_underlying h2];rw [if_pos hb.1,getElem?_pos s i.toNat hb.2];rfl
  ·cases h
 ·cases h
theorem Znu {t:TypeId} {T:j9} (hT:bU P t=some T) {vx:Value} {x r:ah} {i:Nat} (hx:cf w M β vx x) (h:kc T x i=some r) :
  ∃ v,(Instr.fieldAt t vx i).run P w = .ok v w∧cf w M β v r:=by
 unfold kc at h;split at h
 ·rename_i off l hk hf;split at h
  ·rename_i fJ;obtain ⟨u,h1,h2,h3,h4,_⟩:=uS hT;obtain ⟨fs,rfl⟩:=Lt (h3.trans hk);simp only at h4;rw [h4,cu] at hf;obtain ⟨f,vp,pH⟩:=aI.1 hf;simp only [bE] at pH;obtain ⟨rfl,hl⟩:=pH;obtain ⟨ti,_,_,rD,_,_,hs,_⟩:=qE hl;have OQ:fs[i]? = some f:=by simpa using vp
   have run:∀ g o,(Instr.fieldAt t (.pointer (some ⟨g,o,none⟩)) i).run P w = .ok (.pointer (some ⟨g,o+f.offset,none⟩)) w:=by
    intro g o;have:¬ ti.size=0:=by omega
    simp [Instr.fieldAt,run_underlying h2,OQ,Instr.sureAddr,fieldPlace,uQ rD,this,Addr.add_lit]
   split at h
   ·cases h;cases hx with
    | @ptr b o L hL=>exact ⟨_,run _ _,by rw [fN];exact .ptr hL⟩
   ·cases h;cases hx with
    | @rp b o fo L hL=>exact ⟨_,run _ _,by rw [fN];exact .rp hL⟩
   ·rename_i cs;cases h;cases hx with
    | @pp g o _ cv hc hr =>
     refine ⟨_,run _ _, .pp (fun k=>cv (f.offset+k)) (fun k e7=>?_) (fun k e7=>?_)⟩
     ·simp only [cz] at e7;have:=hc (f.offset+k) (by omega)
      rwa [← fN] at this
     ·simp only [cz] at e7;rw [K_];exact hr _ (by omega)
   ·cases h
  ·cases h
 ·cases h
theorem Ybs {t:TypeId} {T:j9} (hT:bU P t=some T) {vx:Value} {x r:ah} {i:Nat} (hx:cf w M β vx x) (h:qd T x i=some r) :
  ∃ v,(Instr.field t vx i).run P w = .ok v w∧cf w M β v r:=by
 unfold qd at h;split at h
 ·rename_i off l cs hk hf;obtain ⟨u,h1,h2,h3,h4,_⟩:=uS hT;obtain ⟨fs,rfl⟩:=Lt (h3.trans hk);simp only at h4;rw [h4,cu] at hf;obtain ⟨f,vp,pH⟩:=aI.1 hf;simp only [bE] at pH;obtain ⟨rfl,hl⟩:=pH;have OQ:fs[i]? = some f:=by simpa using vp
  cases hx with
  | agg hn hr =>
   obtain ⟨v,h6,h7⟩:=SV (P:=P) hl hn hr h;exact ⟨v,by simp [Instr.field,run_underlying h2,OQ,asAgg,h6],h7⟩
 ·cases h
end
section
variable {P:Program} {X:Nat→Nat→Prop} {base:Nat} {σ:ai} {β:Env} {w:World} {nm:Nat} {M:Nat→Nat→Prop}
theorem Gz (k:ah):∀ (ks:List ah) (i j:Nat),fG k ks i=some j→i≤j∧j - i<ks.length
 | [],_,_,h=>by simp [fG] at h
 | x :: xs,i,j,h=>by
  simp only [fG] at h;split at h
  ·cases h;simp
  ·have:=Gz k xs (i+1) j h;simp;omega
theorem Ta {T:j9} {t:TypeId} (hT:bU P t=some T) (hk:T.kind = .map) {k:ah} (h:nS T k=true) :
  ∃ kt et u,P.underlying t=some (.map kt et)∧T.elem=aF P et∧P.underlying kt=some u ∧
   ((∃ ik n,u = .int ik∧k = .int ik n)∨(∃ s,u = .string∧k = .str s)):=by
 obtain ⟨u,h1,h2,h3,_,h5,h6⟩:=uS hT;obtain ⟨kt,et,rfl⟩:=Fi (h3.trans hk);simp only at h5 h6;unfold nS at h;rw [h6] at h;cases hl:aF P kt with
 | none=>rw [hl] at h;simp at h
 | some l =>
  rw [hl] at h;simp only [bM] at h;obtain ⟨_,u,_,_,hu,_,_,_,_,_,Eb,_⟩:=qE hl;refine ⟨kt,et,u,h2,h5,hu,?_⟩;split at h
  ·rename_i k' ik n e1;simp only [aH] at e1;rw [← Eb] at e1;simp only [beq_iff_eq] at h;subst h;exact .inl ⟨_,_,Jv e1,rfl⟩
  ·rename_i s e1;simp only [aH] at e1;rw [← Eb] at e1;exact .inr ⟨_,A_ e1,rfl⟩
  ·cases h
theorem S4 {kt:TypeId} {u:TypeDesc} (hu:P.underlying kt=some u) (h:(∃ ik,u = .int ik)∨u = .string) (e:Bool) (n:Nat) (v:Value) :
  (Instr.checkKey e (n+1) kt v).run P w = .ok () w:=by
 rcases h with ⟨ik,rfl⟩ | rfl<;>simp [Instr.checkKey,run_underlying hu]
theorem Yd1 {u:TypeDesc} {k x:ah} {vk vx:Value} (hu:(∃ ik n,u = .int ik∧k = .int ik n)∨(∃ s,u = .string∧k = .str s)) (hk:cf w M β vk k) (hx:cf w M β vx x)
  (hs:sameKind k x=true):Instr.sameNow u vk vx=some (fC k x):=by
 rcases hu with ⟨ik,n,rfl,rfl⟩ | ⟨s,rfl,rfl⟩
 ·cases x<;>simp only [sameKind,reduceCtorEq,bd,beq_iff_eq] at hs;subst hs;rw [hk.eQ,hx.eQ];simp [Instr.sameNow,fC]
 ·cases x<;>simp only [sameKind,reduceCtorEq,bd] at hs;rw [hk.hO,hx.hO];simp [Instr.sameNow,fC,beq_toListBytes]
theorem LB {u:TypeDesc} {k:ah} {vk:Value} (hu:(∃ ik n,u = .int ik∧k = .int ik n)∨(∃ s,u = .string∧k = .str s)) (hk:cf w M β vk k) :
  ∀ (es:List MapEntry) (ks:List ah) (i:Nat),es.length=ks.length→(∀ j,j<ks.length→cf w M β (es.getD j default).key (ks.getD j .undef))→(∀ x∈ks,sameKind k x=true) →
   Instr.findNow u vk es i=some ((fG k ks i).map fun j=>(j,(es.getD (j - i) default).val))
 | [],[],i,_,_,_=>rfl
 | [],_ :: _,_,h,_,_=>by simp at h
 | _ :: _,[],_,h,_,_=>by simp at h
 | e :: es,x :: xs,i,hl,hr,hs=>by
  have h0:=hr 0 (by simp);simp only [bm] at h0;simp only [Instr.findNow,Yd1 hu hk h0 (hs x (by simp)),fG];cases hc:fC k x with
  | true=>simp
  | false =>
   have ih:=LB hu hk es xs (i+1) (by simpa using hl) (fun j hj=>by simpa using hr (j+1) (by simpa using hj)) (fun y hy=>hs y (by simp [hy]));simp only [bd,if_false];rw [ih];cases hf:fG k xs (i+1) with
   | none=>rfl
   | some j =>
    have:=Gz k xs (i+1) j hf;simp only [bM];rw [show j - i=(j - (i+1))+1 by omega,bI]
theorem Cj {t:TypeId} {l:fj} (hl:aF P t=some l):∃ z,(zeroValue t).run P w = .ok z w∧cf w M β z (zeroV l)∧z.cells.size=l.sz∧l.zero.length=l.sz ∧
  (∀ k,k<l.sz→cf w M β (z.cells.getD k undef) (l.zero.getD k .undef))∧B6 l.ag z=true:=by
 obtain ⟨i,u,z,h1,h2,h3,h4,h5,h6,h7,h8,h9,vg⟩:=qE hl;have hn:l.zero.length=l.sz:=by rw [← h7];simp [tW];exact vg
 have hz:∀ k,k<l.sz→cf w M β (z.cells.getD k undef) (l.zero.getD k .undef):=by
  intro k hk;rw [← vg] at hk;have:(tW z).getD k .undef=ofValue (z.cells.getD k undef):=by simp [tW,List.getD,hk,Array.getD]
  rw [← h7,this];exact Lq _
 refine ⟨z,IG h1 h3,?_,vg,hn,hz,h9⟩;unfold zeroV;cases z with
 | agg cs =>
  have ha:l.ag=true:=by simpa [B6] using h9
  rw [if_pos ha];exact .agg (by rw [hn,← vg];rfl) (fun k hk=>hz k (by omega))
 | tuple cs=>simp [B6] at h9
 | _ =>
  have ha:¬ l.ag=true:=by intro ha;rw [ha] at h9;simp [B6] at h9
  rw [if_neg ha];have e1:l.zero=[ofValue _]:=h7.symm;rw [e1];exact Lq _
theorem Gp {v:Value} {a:ah} (h:cf w M β v a) (hc:a.cells.all ah.cT=true):v.cells.size=a.cells.length∧(∀ k,k<a.cells.length→cf w M β (v.cells.getD k undef) (a.cells.getD k .undef)) ∧
  (cX a=false→v.oneCell'=true)∧(∀ u∈v.cells.toList,u.oneCell'=true):=by
 have one:∀ {v:Value} {a:ah},cf w M β v a→a.cT=true→v.oneCell'=true:=by
  intro v a h hc;cases h<;>first | rfl | (simp [ah.cT] at hc)
 cases a with
 | agg l =>
  cases h with
  | @agg cs _ hn hr =>
   refine ⟨hn,hr,fun e=>by simp [cX] at e,fun u hu=>?_⟩;obtain ⟨k,hk,rfl⟩:=mX hu;simp only [Value.cells] at hk;simp only [bH] at hk;have h1:=hr k (by omega);have h2:(cs.getD k undef)=cs[k]:=by simp [Array.getD,hk]
   rw [h2] at h1;refine one h1 ?_;simp only [ah.cells,a8] at hc;have h3:k<l.length:=by omega
   have:l.getD k .undef=l[k]:=by simp [List.getD,h3]
   rw [this];exact hc _ (aC h3)
 | _ =>
  have h1:=one h (by simpa [ah.cells] using hc);have h2:v.cells = #[v]:=by cases v<;>first | rfl | (simp [Value.oneCell'] at h1)
  rw [h2];refine ⟨rfl,fun k hk=>?_,fun _=>h1,fun u hu=>?_⟩
  ·simp only [ah.cells,dF] at hk;obtain rfl:k=0:=by omega
   exact h
  ·simp at hu;subst hu;exact h1
theorem Lg {t kt et:TypeId} (ht:P.underlying t=some (.map kt et)) {l:fj} (hl:aF P et=some l) {u:TypeDesc} (hu:P.underlying kt=some u) {k:ah} {vk:Value}
  (hk:(∃ ik n,u = .int ik∧k = .int ik n)∨(∃ s,u = .string∧k = .str s)) (r_:cf w M β vk k) {es:Array MapEntry} {ks vs:List ah} (hn:es.size=ks.length) (hv:vs.length=ks.length)
  (ov:∀ j,j<ks.length→cf w M β (es.getD j default).key (ks.getD j .undef)) (nP:∀ j,j<ks.length→cf w M β (es.getD j default).val (vs.getD j .undef)) (hs:∀ x∈ks,sameKind k x=true)
  {vx:Value} (hx:vx = .map none∧es = #[]∨∃ g clk,vx = .map (some g)∧w.heap[g]? = some (.map es clk)) (ok:Bool) :
  ∃ v,(Instr.lookup t vx vk ok).run P w = .ok v w∧cf w M β v (fv ks vs (zeroV l) k ok):=by
 obtain ⟨z,sU,sV,_⟩:=Cj (w:=w) (M:=M) (β:=β) hl;have sP:=S4 (P:=P) (w:=w) hu (by rcases hk with ⟨ik,_,h,_⟩ | ⟨_,h,_⟩;exact .inl ⟨ik,h⟩;exact .inr h) es.isEmpty 9999 vk;have eJ:∀ j,es.toList.getD j default=es.getD j default:=fun j=>by simp [List.getD,ak]
 have CK:=LB hk r_ es.toList ks 0 (by simpa using hn) (fun j hj=>by rw [eJ];exact ov j hj) hs;have wD:(Instr.findKey kt vk es.toList).run P w = .ok ((fG k ks 0).map fun j=>(j,(es.getD j default).val)) w:=by
  simp only [Instr.findKey,Sem.run_bind,run_underlying hu,Result.andThen_ok,CK,ie,eJ];rfl
 refine ⟨match fG k ks 0 with | some j=>if ok then .tuple #[(es.getD j default).val, .bool true] else (es.getD j default).val | none=>if ok then .tuple #[z, .bool false] else z,?_,?_⟩
 ·rcases hx with ⟨rfl,rfl⟩ | ⟨g,clk,rfl,hg⟩
  ·simp only [Instr.lookup,Sem.run_bind,run_underlying ht,Result.andThen_ok,Sem.run_pure];rw [show (10000:Nat)=9999+1 from rfl,sP]
   simp only [Result.andThen_ok,wD];cases hf:fG k ks 0 with
   | none=>cases ok<;>simp [sU]
   | some j=>cases ok<;>simp
  ·have wE:(getObj g).run P w = .ok (.map es clk) w:=by simp [getObj,Sem.run,hg]
   simp only [Instr.lookup,Sem.run_bind,run_underlying ht,Result.andThen_ok,wE,Sem.run_pure];rw [show (10000:Nat)=9999+1 from rfl,sP]
   simp only [Result.andThen_ok,wD];cases hf:fG k ks 0 with
   | none=>cases ok<;>simp [sU]
   | some j=>cases ok<;>simp
 ·unfold fv;cases hf:fG k ks 0 with
  | none =>
   cases ok
   ·exact sV
   ·exact .dT rfl (fun j hj=>by
     match j,hj with
     | 0,_=>exact sV
     | 1,_=>exact .bool _)
  | some j =>
   have hj:=(Gz k ks 0 j hf).2;cases ok
   ·exact nP j (by omega)
   ·exact .dT rfl (fun i hi=>by
     match i,hi with
     | 0,_=>exact nP j (by omega)
     | 1,_=>exact .bool _)
theorem Zwc (hr:cS X base σ β w) {t:TypeId} {T:j9} (hT:bU P t=some T) {vx vk:Value} {x k r:ah} {ok:Bool} (hx:cf w (MT X σ β) β vx x) (r_:cf w (MT X σ β) β vk k)
  (h:lR σ T x k ok=some r):∃ v,(Instr.lookup t vx vk ok).run P w = .ok v w∧cf w (MT X σ β) β v r:=by
 unfold lR at h;split at h
 ·rename_i l hk he;split at h
  ·rename_i O6;obtain ⟨kt,et,u,h1,h2,h3,h4⟩:=Ta hT hk O6;rw [he] at h2;split at h
   ·cases h;cases hx;exact Lg h1 h2.symm h3 h4 r_ (es:=#[]) rfl rfl (fun j hj=>by simp at hj) (fun j hj=>by simp at hj) (fun x hx=>by simp at hx) (.inl ⟨rfl,rfl⟩) ok
   ·split at h
    ·rename_i hs;cases h;cases hx with
     | @pm g clk es _ _ hg hm hn hv ov nP=>exact Lg h1 h2.symm h3 h4 r_ hn hv ov nP (by simpa using hs) (.inr ⟨g,clk,rfl,hg⟩) ok
    ·cases h
   ·split at h
    ·rename_i ks vs fz hb;split at h
     ·rename_i hs;cases h;obtain ⟨L,h5,_,_,es,clk,h6,hn,hv,ov,nP,_⟩:=hr.cw _ _ (kq hb);cases hx with
      | map hL =>
       obtain rfl:=aP (h5.symm.trans hL);exact Lg h1 h2.symm h3 h4 r_ hn hv ov nP (by simpa using hs) (.inr ⟨L.g,clk,rfl,h6⟩) ok
     ·cases h
    ·cases h
   ·cases h
  ·cases h
 ·cases h
end
end Go.dm
