/- Part 3 of my own framework and of the walks of functions: AbsD, AbsE, AbsF. -/
import Derived.Test.YtpgnahcljlclcaaGreatOwn2
import Derived.Laws.Slices
import Derived.Laws.StructEq
set_option linter.unusedVariables false
set_option linter.unusedSectionVars false
set_option linter.unusedSimpArgs false
namespace Go.Abs
open Go
section
variable {P:Program} {X:Nat→Nat→Prop} {base:Nat} {σ:Store} {β:Env} {w:World} {nm:Nat} {M:Nat→Nat→Prop}
theorem Zae {b:Nat} {blk:Blk} (h:getS σ b=some blk) : σ[b]? = some (some blk):=by
 unfold getS at h
 cases h1 : σ[b]? with
 | none=>rw [h1] at h;cases h
 | some x=>rw [h1] at h;simp at h;rw [h]
theorem Rep.bool_inv {v:Value} {b:Bool} (h:Rep w M β v (.bool b)):v = .bool b:=by cases h;rfl
theorem Rep.int_inv {v:Value} {k:IntKind} {n:Int} (h:Rep w M β v (.int k n)):v = .int k n:=by cases h;rfl
theorem Rep.str_inv {v:Value} {s:ByteArray} (h:Rep w M β v (.str s)):v = .string s:=by cases h;rfl
def Pts (w:World) (M:Nat→Nat→Prop) (β:Env) (v:Value) (cs:List AVal):Prop :=
 ∃ (g o:Nat) (cv:Nat→Value),v = .pointer (some ⟨g,o,none⟩)∧(∀ k,k<cs.length→w.cell? ⟨g,o+k,none⟩=some (cv k))∧∀ k,k<cs.length→Rep w M β (cv k) (cs.getD k .undef)
theorem Zan {c:Array Value} {k:Nat} (h:k<c.size):c[k]? = some (c.getD k undef):=by
 rw [Array.getD_eq_getD_getElem?,Array.getElem?_eq_getElem h];rfl
theorem Ze1 (cs:List AVal) (o k:Nat):(cs.drop o).getD k AVal.undef=cs.getD (o+k) .undef:=by
 simp [List.getD,List.getElem?_drop]
theorem Zjg (hr:RelS X base σ β w) {l:Lay} {p r:AVal} {v:Value} (hv:Rep w (MT X σ β) β v p) (h:loadA σ l p=some r) :
  ∃ cs,Pts w (MT X σ β) β v cs∧takeA l cs=some r:=by
 cases p with
 | ptr b off =>
  simp only [loadA] at h
  split at h
  ·rename_i cs hb
   obtain ⟨L,h1,_,_,c,e,h2,h3,h4,h5⟩:=hr.blk b _ (Zae hb)
   cases hv with
   | ptr h' =>
    obtain rfl:=Option.some.inj (h1.symm.trans h')
    refine ⟨cs.drop off,⟨L.g,L.o+off,fun k=>c.getD (off+k) undef,rfl,fun k hk=>?_,fun k hk=>?_⟩,h⟩
    ·simp only [List.length_drop] at hk
     rw [h3,cell_of_row w L.g _ c e (0,0) h2,Nat.zero_add,Zan (by omega)]
    ·simp only [List.length_drop] at hk
     rw [Ze1];exact h5 _ (by omega)
  ·exact absurd h (by simp)
 | rp b i f =>
  simp only [loadA] at h
  split at h
  ·rename_i es fz hb
   split at h
   ·rename_i hi
    obtain ⟨L,h1,_,_,c,e,h2,h3,h4,h5,h6⟩:=hr.blk b _ (Zae hb)
    cases hv with
    | rp h' =>
     obtain rfl:=Option.some.inj (h1.symm.trans h')
     have hs:=h5 i hi
     refine ⟨(es.getD i .undef).cells.drop f,⟨L.g,L.o+i*L.sz+f,fun k=>c.getD (L.o+i*L.sz+f+k) undef,rfl,fun k hk=>?_,fun k hk=>?_⟩,h⟩
     ·simp only [List.length_drop] at hk
      have h7:(i+1)*L.sz≤L.n*L.sz:=Nat.mul_le_mul_right _ (by omega)
      rw [Nat.add_mul,Nat.one_mul] at h7
      rw [cell_of_row w L.g _ c e (0,0) h2,Zan (by omega)]
     ·simp only [List.length_drop] at hk
      show Rep _ _ _ (c.getD (L.o+i*L.sz+f+k) undef) _
      rw [Ze1,Nat.add_assoc (L.o+i*L.sz)];exact h6 i (f+k) hi (by omega)
   ·exact absurd h (by simp)
  ·exact absurd h (by simp)
 | pp cs =>
  cases hv with
  | pp cv hc hr'=>exact ⟨cs,⟨_,_,cv,rfl,fun k hk=>(hc k hk).1,hr'⟩,h⟩
 | _=>cases h
theorem Ygg (hr:RelS X base σ β w) {ρ:Operand→Value} {ρa:Operand→AVal} (hρ:∀ x,Rep w (MT X σ β) β (ρ x) (ρa x)) {o:Oper} {t:TypeId} {x:Operand} (ho:o.op = .load t x)
  {l:Lay} (hl:layOf P t=some l) {r:AVal} (h:loadA σ l (ρa x)=some r):OpOut P X base σ β w nm (execOp ρ o) r σ:=by
 obtain ⟨cs,⟨g,of,cv,h1,h2,h3⟩,h4⟩:=Zjg hr (hρ x) h
 obtain ⟨v,h5,h6⟩:=Zfo hl h2 h3 h4
 refine OpOut.val hr (v:=v) ?_ h6
 simp only [execOp,ho,Instr.loadAt,Instr.sureAddr,h1,Sem.run_bind,Sem.run_pure,Result.andThen_ok,h5]
theorem Yhc (hr:RelS X base σ β w) {ρ:Operand→Value} {ρa:Operand→AVal} (hρ:∀ x,Rep w (MT X σ β) β (ρ x) (ρa x)) {o:Oper} {c a b:Operand} (ho:o.op = .pick c a b)
  {r:AVal} (h:pickA (ρa c) (ρa a) (ρa b)=some r):OpOut P X base σ β w nm (execOp ρ o) r σ:=by
 have hc:=hρ c;have ha:=hρ a;have hb:=hρ b
 cases hc' : ρa c with
 | bool c' =>
  rw [hc'] at hc h
  have hrun:(execOp ρ o).run P w = .ok (.value (if c' then ρ a else ρ b)) w:=by simp [execOp,ho,hc.bool_inv,asBool]
  refine OpOut.val hr hrun ?_
  unfold pickA at h
  split at h
  ·rename_i c2 x y e1 e2 e3
   cases e1
   rw [e2] at ha;rw [e3] at hb
   cases h
   rw [ha.bool_inv,hb.bool_inv];cases c'<;>exact .bool _
  ·rename_i c2 e1 _
   cases e1
   cases h
   cases c'
   ·exact hb
   ·exact ha
  ·cases h
 | _=>rw [hc'] at h;simp [pickA] at h
theorem Ymc (a b:Int):Rep w M β (.bool (a != b)) (.bool (decide (a≠b))):=by
 have:(a != b)=decide (a≠b):=by by_cases e:a=b<;>simp [e]
 rw [this]
 exact .bool _
theorem Zvy {op:BinOp} {k:IntKind} {a b:Int} {r:AVal} (h:intBin op k a b=some r) :
  ∃ v,(match op with
   | .add | .sub | .mul=>Op.intArith op k a b
   | .quo | .rem=>Op.intDiv op k a b
   | .and | .or | .xor | .andNot=>Op.intBits op k a b
   | _=>Op.intCmp op a b).run P w = .ok v w∧Rep w M β v r:=by
 cases op<;>simp only [intBin,reduceCtorEq] at h <;>
  (try (split at h<;>(try cases h))) <;>
  (try (simp only [Option.some.injEq] at h;subst h)) <;>
  (first
   | exact ⟨_,rfl, .int _ _⟩
   | exact ⟨_,rfl, .bool _⟩
   | exact ⟨_,rfl,Ymc _ _⟩
   | (rename_i hb;refine ⟨_,by simp only [Op.intDiv,if_neg hb];rfl,?_⟩;exact .int _ _))
theorem Zxh {op:BinOp} {a b:ByteArray} {r:AVal} (h:strBin op a b=some r):∃ v,(Op.stringOp op a b).run P w = .ok v w∧Rep w M β v r:=by
 cases op<;>simp only [strBin,reduceCtorEq] at h <;>
  (try (split at h<;>(try cases h))) <;>
  (try (simp only [Option.some.injEq] at h;subst h)) <;>
  (first
   | (rename_i hs
      have:¬ (((a.size+b.size:Nat):Int) > IntKind.i64.max):=by
       have e:IntKind.i64.max=9223372036854775807:=by decide
       rw [e];omega
      refine ⟨.string (a++b),?_, .str _⟩
      simp only [Op.stringOp]
      rw [if_neg this];rfl)
   | exact ⟨_,rfl, .bool _⟩)
theorem Zja {u:TypeDesc} {k:IntKind} (h:kaOf u = .int k):u = .int k:=by cases u<;>simp_all [kaOf]
theorem Zd8 {u:TypeDesc} (h:kaOf u = .str):u = .string:=by cases u<;>simp_all [kaOf]
theorem Zoy {u:TypeDesc} (h:kaOf u = .bool):u = .bool:=by cases u<;>simp_all [kaOf]
theorem Yh0 {u:TypeDesc} (h:kaOf u = .ptr):∃ e,u = .pointer e:=by cases u<;>simp_all [kaOf]
theorem Zcr {u:TypeDesc} (h:kaOf u = .slice):∃ e,u = .slice e:=by cases u<;>simp_all [kaOf]
theorem Zfs {u:TypeDesc} {n:Nat} (h:kaOf u = .array n):∃ e,u = .array n e:=by cases u<;>simp_all [kaOf]
theorem Zfr {u:TypeDesc} (h:kaOf u = .map):∃ k e,u = .map k e:=by cases u<;>simp_all [kaOf]
theorem Zgm {u:TypeDesc} (h:kaOf u = .struct):∃ fs,u = .struct fs:=by cases u<;>simp_all [kaOf]
theorem Zvl {u:TypeDesc} (h:kaOf u = .iface):∃ ms,u = .interface ms:=by cases u<;>simp_all [kaOf]
theorem Zxg {u:TypeDesc} (h:(kaOf u).plain=true):aggD u=false:=by cases u<;>simp [kaOf,KA.plain,aggD] at h ⊢
theorem Zih {t:TypeId} {u:TypeDesc} (hu:P.underlying t=some u) (ha:aggD u=false) {cs:Array Value} {off:Nat} (h:off<cs.size) :
  (part t cs off).run P w = .ok (cs.getD off undef) w:=by
 simp only [part,Sem.run_bind,Zje hu,Result.andThen_ok,ha]
 rw [Zan h];rfl
theorem Zp5 {xs ys:Array Value} {as_ bs:List AVal} (hx:xs.size=as_.length) (hy:ys.size=bs.length)
  (hxr:∀ k,k<as_.length→Rep w M β (xs.getD k undef) (as_.getD k .undef)) (hyr:∀ k,k<bs.length→Rep w M β (ys.getD k undef) (bs.getD k .undef)) (d:Nat) :
  ∀ (fs:List Field) (i:Nat),(as_.drop i).map kaV=(bs.drop i).map kaV→eqTyIn P fs i ((as_.drop i).map kaV)=true →
   (Op.eqFields (d+1) xs ys fs).run P w = .ok (eqCells (as_.drop i) (bs.drop i)) w:=by
 intro fs
 induction fs with
 | nil =>
  intro i hk he
  cases ha:as_.drop i with
  | nil=>rw [ha] at hk;cases hb:bs.drop i with
   | nil=>simp [Op.eqFields,eqCells]
   | cons b bs'=>rw [hb] at hk;simp at hk
  | cons a as_'=>rw [ha] at he;simp [eqTyIn] at he
 | cons f fs ih =>
  intro i hk he
  cases ha:as_.drop i with
  | nil=>rw [ha] at he;simp [eqTyIn] at he
  | cons a as_' =>
   cases hb:bs.drop i with
   | nil=>rw [ha,hb] at hk;simp at hk
   | cons b bs' =>
    have hia:i<as_.length:=by have:=congrArg List.length ha;simp at this;omega
    have hib:i<bs.length:=by have:=congrArg List.length hb;simp at this;omega
    have ea:as_.getD i .undef=a:=by simp [List.getD,← List.head?_drop,ha]
    have eb:bs.getD i .undef=b:=by simp [List.getD,← List.head?_drop,hb]
    have ea':as_.drop (i+1)=as_':=by rw [← List.drop_drop,ha];rfl
    have eb':bs.drop (i+1)=bs':=by rw [← List.drop_drop,hb];rfl
    rw [ha,hb] at hk
    rw [ha] at he
    simp only [List.map_cons,List.cons.injEq] at hk
    simp only [List.map_cons,eqTyIn,Bool.and_eq_true,beq_iff_eq,bne_iff_ne,decide_eq_true_eq] at he
    obtain ⟨⟨⟨⟨h1,h2⟩,h3⟩,h4⟩,h5⟩:=he
    have ih':=ih (i+1) (by rw [ea',eb'];exact hk.2) (by rw [ea'];exact h5)
    rw [ea',eb'] at ih'
    have hra:=hxr i hia
    have hrb:=hyr i hib
    rw [ea] at hra;rw [eb] at hrb
    obtain ⟨u,hu,hku⟩:=Option.map_eq_some_iff.1 h4
    have hag:aggD u=false:=by
     rw [← hku] at h3
     exact Zxg h3
    have p1:=Zih (P:=P) (w:=w) hu hag (cs:=xs) (off:=f.offset) (by omega)
    have p2:=Zih (P:=P) (w:=w) hu hag (cs:=ys) (off:=f.offset) (by omega)
    rw [h1] at p1 p2
    simp only [Op.eqFields,if_pos h2,Sem.run_bind,h1,p1,p2,Result.andThen_ok,eqCells]
    have hkk:=hk.1
    have fin:∀ (r:Bool),(Op.equalIn (d+1) f.type (xs.getD i undef) (ys.getD i undef)).run P w = .ok r w→eqCell a b=r →
      ((Op.equalIn (d+1) f.type (xs.getD i undef) (ys.getD i undef)).run P w).andThen (fun r w'=>(if (!r)=true then pure false else Op.eqFields (d+1) xs ys fs).run P w') =
       .ok (eqCell a b&&eqCells as_' bs') w:=by
     intro r hr he
     rw [hr,he,Result.andThen_ok]
     cases r
     ·rfl
     ·simp only [Bool.not_true,Bool.false_eq_true,if_false,Bool.true_and];exact ih'
    cases a with
    | int k n =>
     cases b with
     | int k' n' =>
      simp only [kaV,KA.int.injEq] at hkk
      subst hkk
      refine fin (n==n') ?_ rfl
      rw [hra.int_inv,hrb.int_inv]
      exact run_equalIn_int w d f.type k k n n' (by rw [hu,Zja hku])
     | _=>simp [kaV] at hkk
    | str s =>
     cases b with
     | str s' =>
      refine fin (s.toList==s'.toList) ?_ rfl
      rw [hra.str_inv,hrb.str_inv]
      exact run_equalIn_string w d f.type s s' (by rw [hu,Zd8 hku])
     | _=>simp [kaV] at hkk
    | bool s =>
     cases b with
     | bool s' =>
      refine fin (s==s') ?_ rfl
      rw [hra.bool_inv,hrb.bool_inv]
      exact run_equalIn_bool' w d f.type s s' (by rw [hu,Zoy hku])
     | _=>simp [kaV] at hkk
    | _=>simp [kaV,KA.plain] at h3
theorem Zbg {t:TypeId} {k:KA} (h:kindOf P t=some k):∃ i u,P.info? t=some i∧P.underlying t=some u∧kaOf u=k:=by
 unfold kindOf at h
 obtain ⟨l,h1,h2⟩:=Option.map_eq_some_iff.1 h
 obtain ⟨i,u,z,h3,h4,_,_,_,_,_,h5,_⟩:=Zao h1
 exact ⟨i,u,h3,h4,h5.trans h2⟩
theorem Zeu {v:Value} {a:AVal} {b:Bool} (h:Rep w M β v a) (hb:ptrSome a=some b):∃ p,v = .pointer p∧p.isSome=b:=by
 cases a<;>simp only [ptrSome,reduceCtorEq,Option.some.injEq] at hb<;>subst hb<;>cases h<;>exact ⟨_,rfl,rfl⟩
theorem Zc3 {v:Value} {a:AVal} {b:Bool} (h:Rep w M β v a) (hb:ifaceSome a=some b):(b=false∧v = .nilIface)∨(b=true∧∃ t x,v = .iface t x):=by
 cases a<;>simp only [ifaceSome,reduceCtorEq,Option.some.injEq] at hb<;>subst hb<;>cases h
 ·exact .inl ⟨rfl,rfl⟩
 ·exact .inr ⟨rfl,_,_,rfl⟩
theorem Zdt {v:Value} {a:AVal} {b:Bool} (h:Rep w M β v a) (hb:funcSome a=some b):(b=false∧v = .nilFunc)∨(b=true∧∃ f x y,v = .func f x y):=by
 cases a<;>simp only [funcSome,reduceCtorEq,Option.some.injEq] at hb<;>subst hb<;>cases h
 ·exact .inl ⟨rfl,rfl⟩
 ·exact .inr ⟨rfl,_,_,_,rfl⟩
theorem Ycv {u:TypeDesc} (h:kaOf u = .func):∃ a b c,u = .func a b c:=by
 cases u<;>first | (cases h;done) | exact ⟨_,_,_,rfl⟩
theorem Zpw {t:TypeId} (h:emptyIf P t=true):∃ ms:Array (String×TypeId),P.underlying t=some (.interface ms)∧ms.isEmpty=true:=by
 unfold emptyIf at h
 split at h
 ·rename_i ms e;exact ⟨ms,e,h⟩
 ·cases h
theorem Zt2 {v:Value} {a:AVal} {b:Bool} (h:Rep w M β v a) (hb:mapSome a=some b):∃ p,v = .map p∧p.isSome=b:=by
 cases a<;>simp only [mapSome,reduceCtorEq,Option.some.injEq] at hb<;>subst hb<;>cases h<;>exact ⟨_,rfl,rfl⟩
theorem Ye7 (d:Nat) {t k e:TypeId} (h:P.underlying t=some (.map k e)) (p:Option Nat):(Op.equalIn (d+1) t (.map p) (.map none)).run P w = .ok p.isNone w:=by
 cases p<;>simp [Op.equalIn,run_underlying h]
theorem Ycd (d:Nat) {t e:TypeId} (h:P.underlying t=some (.pointer e)) (q:Option Addr):(Op.equalIn (d+1) t (.pointer none) (.pointer q)).run P w = .ok q.isNone w:=by
 simp [Op.equalIn,run_underlying h]
theorem Ycp (d:Nat) {t e:TypeId} (h:P.underlying t=some (.pointer e)) (a:Addr):(Op.equalIn (d+1) t (.pointer (some a)) (.pointer none)).run P w = .ok false w:=by
 simp [Op.equalIn,run_underlying h]
theorem Yi4 (d:Nat) {t:TypeId} {ms} (h:P.underlying t=some (.interface ms)) (u:TypeId) (x:Value):(Op.equalIn (d+1) t (.iface u x) .nilIface).run P w = .ok false w:=by
 simp [Op.equalIn,run_underlying h]
theorem Yf5 (d:Nat) {t:TypeId} {ms} (h:P.underlying t=some (.interface ms)) (u:TypeId) (x:Value):(Op.equalIn (d+1) t .nilIface (.iface u x)).run P w = .ok false w:=by
 simp [Op.equalIn,run_underlying h]
theorem Yev (d:Nat) {t:TypeId} {ms} (h:P.underlying t=some (.interface ms)):(Op.equalIn (d+1) t .nilIface .nilIface).run P w = .ok true w:=by
 simp [Op.equalIn,run_underlying h]
theorem Yhn (d:Nat) {t:TypeId} {a b c} (h:P.underlying t=some (.func a b c)):(Op.equalIn (d+1) t .nilFunc .nilFunc).run P w = .ok true w:=by
 simp [Op.equalIn,run_underlying h]
theorem Ygr (d:Nat) {t:TypeId} {a b c} (h:P.underlying t=some (.func a b c)) (f:Fn) (x y:Array Value):(Op.equalIn (d+1) t .nilFunc (.func f x y)).run P w = .ok false w:=by
 simp [Op.equalIn,run_underlying h]
theorem Yfp (d:Nat) {t:TypeId} {a b c} (h:P.underlying t=some (.func a b c)) (f:Fn) (x y:Array Value):(Op.equalIn (d+1) t (.func f x y) .nilFunc).run P w = .ok false w:=by
 simp [Op.equalIn,run_underlying h]
theorem Zmu (d:Nat) {t:TypeId} {ms:Array (String×TypeId)} (h:P.underlying t=some (.interface ms)) (hm:ms.isEmpty=true):(Op.eqGuardIn (d+1) t .nilIface .nilIface).run P w = .ok false w:=by
 simp [Op.eqGuardIn,run_underlying h,hm]
theorem Zkb (op:BinOp) {t:TypeId} {ms:Array (String×TypeId)} (ox oy:Operand) (h:P.underlying t=some (.interface ms)) (hm:ms.isEmpty=true):(eqGuard op t ox oy .nilIface .nilIface).run P w = .ok () w:=by
 have h1:(Op.eqGuardIn Op.maxDepth t .nilIface .nilIface).run P w = .ok false w:=Zmu 9999 h hm
 have h2 : ∀ c : Bool, (if c = true then pure () else do if ← Op.eqGuardIn Op.maxDepth t .nilIface .nilIface then unsupported (.noEntry "binop/eql: two nil values of an interface type with methods, neither of them the literal nil") : Sem Unit).run P w = .ok () w := by
  intro c
  cases c
  ·simp only [Bool.false_eq_true,if_false,Sem.run_bind,h1,Result.andThen_ok];rfl
  ·rfl
 have h3:=h2 ((ox matches .const _)||(oy matches .const _))
 cases op<;>first | exact h3 | rfl
theorem Zv8 {t:TypeId} {x y:AVal} {vx vy:Value} (hx:Rep w M β vx x) (hy:Rep w M β vy y) {b:Bool} (h:eqlA P t x y=some b) (op:BinOp) (ox oy:Operand) :
  (eqGuard op t ox oy vx vy).run P w = .ok () w∧(Op.equal t vx vy).run P w = .ok b w∧(∀ k n,vx≠.int k n)∧(∀ s,vx≠.string s)∧(∀ k n,vx≠.float k n)∧(∀ k n m,vx≠.complex k n m):=by
 unfold eqlA at h
 split at h
 ·rename_i a a' hk
  obtain ⟨i,u,h1,h2,h3⟩:=Zbg hk
  cases h
  rw [hx.bool_inv,hy.bool_inv]
  refine ⟨by cases op<;>simp [eqGuard],?_,by simp,by simp,by simp,by simp⟩
  exact run_equalIn_bool' w 9999 t a a' (by rw [h2,Zoy h3])
 ·rename_i hk
  obtain ⟨i,u,h1,h2,h3⟩:=Zbg hk
  obtain ⟨e,he⟩:=Yh0 h3
  rw [he] at h2
  split at h
  ·rename_i b' e1 e2
   cases h
   obtain ⟨p,rfl,hp⟩:=Zeu hx e1
   obtain ⟨q,rfl,hq⟩:=Zeu hy e2
   obtain rfl:p=none:=Option.isSome_eq_false_iff.1 hp |> Option.isNone_iff_eq_none.1
   refine ⟨by cases op<;>simp [eqGuard],?_,by simp,by simp,by simp,by simp⟩
   refine (Ycd 9999 h2 q).trans ?_
   rw [← hq];cases q<;>rfl
  ·rename_i e1 e2
   cases h
   obtain ⟨p,rfl,hp⟩:=Zeu hx e1
   obtain ⟨q,rfl,hq⟩:=Zeu hy e2
   obtain rfl:q=none:=Option.isSome_eq_false_iff.1 hq |> Option.isNone_iff_eq_none.1
   obtain ⟨a,rfl⟩:=Option.isSome_iff_exists.1 hp
   refine ⟨by cases op<;>simp [eqGuard],?_,by simp,by simp,by simp,by simp⟩
   exact Ycp 9999 h2 a
  ·cases h
 ·rename_i hk
  obtain ⟨i,u,h1,h2,h3⟩:=Zbg hk
  obtain ⟨k,e,he⟩:=Zfr h3
  rw [he] at h2
  rw [Option.map_eq_some_iff] at h
  obtain ⟨b',e1,rfl⟩:=h
  obtain ⟨p,rfl,hp⟩:=Zt2 hx e1
  cases hy
  refine ⟨by cases op<;>simp [eqGuard],?_,by simp,by simp,by simp,by simp⟩
  refine (Ye7 9999 h2 p).trans ?_
  rw [← hp];cases p<;>rfl
 ·rename_i hk
  obtain ⟨i,u,h1,h2,h3⟩:=Zbg hk
  obtain ⟨e,he⟩:=Zvl h3
  rw [he] at h2
  split at h
  ·rename_i e1 e2
   cases h
   rcases Zc3 hx e1 with ⟨h4,_⟩ | ⟨_,t1,x1,rfl⟩
   ·cases h4
   rcases Zc3 hy e2 with ⟨_,rfl⟩ | ⟨h4,_⟩
   ·refine ⟨by cases op<;>simp [eqGuard],?_,by simp,by simp,by simp,by simp⟩
    exact Yi4 9999 h2 _ _
   ·cases h4
  ·rename_i e1 e2
   cases h
   rcases Zc3 hy e2 with ⟨h4,_⟩ | ⟨_,t1,x1,rfl⟩
   ·cases h4
   rcases Zc3 hx e1 with ⟨_,rfl⟩ | ⟨h4,_⟩
   ·refine ⟨by cases op<;>simp [eqGuard],?_,by simp,by simp,by simp,by simp⟩
    exact Yf5 9999 h2 _ _
   ·cases h4
  ·rename_i e1 e2
   split at h
   ·rename_i hm
    cases h
    obtain ⟨ms,g1,g2⟩:=Zpw hm
    rcases Zc3 hx e1 with ⟨_,rfl⟩ | ⟨h4,_⟩
    ·rcases Zc3 hy e2 with ⟨_,rfl⟩ | ⟨h4,_⟩
     ·exact ⟨Zkb op ox oy g1 g2,Yev 9999 h2,by simp,by simp,by simp,by simp⟩
     ·cases h4
    ·cases h4
   ·cases h
  ·cases h
 ·rename_i hk
  obtain ⟨i,u,h1,h2,h3⟩:=Zbg hk
  obtain ⟨a1,a2,a3,he⟩:=Ycv h3
  rw [he] at h2
  split at h
  ·rename_i b' e1 e2
   cases h
   rcases Zdt hx e1 with ⟨_,rfl⟩ | ⟨h4,_⟩
   ·rcases Zdt hy e2 with ⟨rfl,rfl⟩ | ⟨rfl,f,p,q,rfl⟩
    ·exact ⟨by cases op<;>simp [eqGuard],Yhn 9999 h2,by simp,by simp,by simp,by simp⟩
    ·exact ⟨by cases op<;>simp [eqGuard],Ygr 9999 h2 _ _ _,by simp,by simp,by simp,by simp⟩
   ·cases h4
  ·rename_i e1 e2
   cases h
   rcases Zdt hx e1 with ⟨h4,_⟩ | ⟨_,f,p,q,rfl⟩
   ·cases h4
   rcases Zdt hy e2 with ⟨_,rfl⟩ | ⟨h4,_⟩
   ·exact ⟨by cases op<;>simp [eqGuard],Yfp 9999 h2 _ _ _,by simp,by simp,by simp,by simp⟩
   ·cases h4
  ·cases h
 ·rename_i xs ys hk
  split at h
  ·rename_i hc
   cases h
   obtain ⟨hc1,hc2⟩:=hc
   unfold eqTy at hc2
   split at hc2
   ·rename_i fs hfs
    simp only [Bool.and_eq_true,Bool.not_eq_true'] at hc2
    obtain ⟨⟨hg,hh⟩,hi⟩:=hc2
    cases hx with
    | agg hxn hxr =>
     cases hy with
     | agg hyn hyr =>
      have hfo:P.fieldsOf t=fs:=by simp [Program.fieldsOf,hfs]
      refine ⟨run_eqGuard_agg w op t ox oy _ _ hg,?_,by simp,by simp,by simp,by simp⟩
      refine (run_equalIn_struct w 9999 t _ _ (by rw [hfo];exact hfs) hh).trans ?_
      rw [hfo]
      exact Zp5 (P:=P) hxn hyn hxr hyr 9998 fs.toList 0 hc1 hi
   ·cases hc2
  ·cases h
 ·cases h
end
section
variable {P:Program} {X:Nat→Nat→Prop} {base:Nat} {σ:Store} {β:Env} {w:World} {nm:Nat} {M:Nat→Nat→Prop}
theorem Yfl {op:BinOp} {t:TypeId} {x y r:AVal} {vx vy:Value} (hx:Rep w M β vx x) (hy:Rep w M β vy y) (h:cmpA P op t x y=some r) (ox oy:Operand) :
  ∃ v,(do eqGuard op t ox oy vx vy;binOp op t vx vy:Sem Value).run P w = .ok v w∧Rep w M β v r:=by
 unfold cmpA at h
 split at h
 ·obtain ⟨b,h1,rfl⟩:=Option.map_eq_some_iff.1 h
  obtain ⟨h2,h3,h4,h5,h6,h7⟩:=Zv8 hx hy h1 .eql ox oy
  refine ⟨.bool b,?_, .bool b⟩
  simp only [Sem.run_bind,h2,Result.andThen_ok]
  clear hx hy
  cases vx<;>first | (exact absurd rfl (h4 _ _)) | (exact absurd rfl (h5 _)) | (exact absurd rfl (h6 _ _)) | (exact absurd rfl (h7 _ _ _)) | (simp only [binOp,Sem.run_bind,h3,Result.andThen_ok,Sem.run_pure])
 ·obtain ⟨b,h1,rfl⟩:=Option.map_eq_some_iff.1 h
  obtain ⟨h2,h3,h4,h5,h6,h7⟩:=Zv8 hx hy h1 .neq ox oy
  refine ⟨.bool !b,?_, .bool !b⟩
  simp only [Sem.run_bind,h2,Result.andThen_ok]
  clear hx hy
  cases vx<;>first | (exact absurd rfl (h4 _ _)) | (exact absurd rfl (h5 _)) | (exact absurd rfl (h6 _ _)) | (exact absurd rfl (h7 _ _ _)) | (simp only [binOp,Sem.run_bind,h3,Result.andThen_ok,Sem.run_pure])
 ·cases h
theorem Ygf {op:BinOp} {t:TypeId} {x y r:AVal} {vx vy:Value} (hx:Rep w M β vx x) (hy:Rep w M β vy y) (h:binA P op t x y=some r) (ox oy:Operand) :
  ∃ v,(do eqGuard op t ox oy vx vy;binOp op t vx vy:Sem Value).run P w = .ok v w∧Rep w M β v r:=by
 unfold binA at h
 split at h
 ·rename_i k a k' b
  split at h
  ·rename_i hk
   subst hk
   obtain ⟨v,h1,h2⟩:=Zvy (P:=P) (w:=w) (M:=M) (β:=β) h
   refine ⟨v,?_,h2⟩
   rw [hx.int_inv,hy.int_inv]
   have hg:(eqGuard op t ox oy (.int k a) (.int k b)).run P w = .ok () w:=by cases op<;>simp [eqGuard]
   simp only [Sem.run_bind,hg,Result.andThen_ok]
   cases op<;>first | (simpa [binOp] using h1) | (simp [intBin] at h)
  ·cases h
 ·rename_i a b
  obtain ⟨v,h1,h2⟩:=Zxh (P:=P) (w:=w) (M:=M) (β:=β) h
  refine ⟨v,?_,h2⟩
  rw [hx.str_inv,hy.str_inv]
  have hg:(eqGuard op t ox oy (.string a) (.string b)).run P w = .ok () w:=by cases op<;>simp [eqGuard]
  simp only [Sem.run_bind,hg,Result.andThen_ok]
  cases op<;>first | (simpa [binOp] using h1) | (simp [strBin] at h)
 ·exact Yfl hx hy h ox oy
theorem Zui {neg:Bool} {x r:AVal} {vx:Value} (hx:Rep w M β vx x) (h:nilS neg x=some r):∃ a n c,vx = .slice a n c∧Rep w M β (.bool (a.isNone != neg)) r:=by
 have lit:∀ (a:Addr),(some a:Option Addr).isNone=false:=fun _=>rfl
 unfold nilS at h
 split at h<;>cases h
 ·cases hx;exact ⟨_,_,_,rfl, .anyb _⟩
 ·cases hx with
  | @ps a cap sz es cv hcap hsz hc ha hr =>
   refine ⟨_,_,_,rfl,?_⟩
   split
   ·exact .anyb _
   ·obtain ⟨g,o,rfl⟩:=ha (by omega)
    have e:((some (⟨g,o,none⟩:Addr)).isNone != neg)=neg:=by cases neg<;>rfl
    rw [e];exact .bool neg
 ·cases hx with
  | os0 a h=>exact ⟨_,_,_,rfl,by rw [if_pos rfl];exact .anyb _⟩
  | os h h1 h2 =>
   refine ⟨_,_,_,rfl,?_⟩
   split
   ·exact .anyb _
   ·cases neg<;>exact .bool _
 ·cases hx with
  | oc0 a h=>exact ⟨_,_,_,rfl,by rw [if_pos rfl];exact .anyb _⟩
  | oc h h1 h2 =>
   refine ⟨_,_,_,rfl,?_⟩
   split
   ·exact .anyb _
   ·cases neg<;>exact .bool _
theorem Zlx (d:Nat) {t e:TypeId} (h:P.underlying t=some (.slice e)) (a:Option Addr) (n c:Nat):(Op.equalIn (d+1) t (.slice a n c) (.slice none 0 0)).run P w = .ok a.isNone w:=by
 cases a<;>simp [Op.equalIn,run_underlying h]
theorem Zzv {y:Operand} (h:nilOp y=true):y = .const (.slice none 0 0):=by
 unfold nilOp at h
 split at h
 ·rfl
 ·cases h
theorem Yhz {op:BinOp} {t:TypeId} {x r:AVal} {vx:Value} (hx:Rep w M β vx x) (h:nilE P op t x=some r) (ox oy:Operand) :
  ∃ v,(do eqGuard op t ox oy vx (.slice none 0 0);binOp op t vx (.slice none 0 0):Sem Value).run P w = .ok v w∧Rep w M β v r:=by
 unfold nilE at h
 split at h
 ·rename_i hk
  obtain ⟨i,u,h1,h2,h3⟩:=Zbg hk
  obtain ⟨e,he⟩:=Zcr h3
  rw [he] at h2
  obtain ⟨a,n,c,rfl,hr⟩:=Zui hx h
  refine ⟨_,?_,hr⟩
  have:=Zlx (w:=w) 9999 h2 a n c
  have hg:(eqGuard .eql t ox oy (.slice a n c) (.slice none 0 0)).run P w = .ok () w:=by simp [eqGuard]
  have h5:(Op.equal t (.slice a n c) (.slice none 0 0)).run P w = .ok a.isNone w:=this
  simp only [binOp,Sem.run_bind,hg,Result.andThen_ok,h5,Sem.run_pure]
  cases a<;>rfl
 ·rename_i hk
  obtain ⟨i,u,h1,h2,h3⟩:=Zbg hk
  obtain ⟨e,he⟩:=Zcr h3
  rw [he] at h2
  obtain ⟨a,n,c,rfl,hr⟩:=Zui hx h
  refine ⟨_,?_,hr⟩
  have:=Zlx (w:=w) 9999 h2 a n c
  have hg:(eqGuard .neq t ox oy (.slice a n c) (.slice none 0 0)).run P w = .ok () w:=by simp [eqGuard]
  have h5:(Op.equal t (.slice a n c) (.slice none 0 0)).run P w = .ok a.isNone w:=this
  simp only [binOp,Sem.run_bind,hg,Result.andThen_ok,h5,Sem.run_pure]
  cases a<;>rfl
 ·cases h
theorem Yly {op:UnOp} {x r:AVal} {vx:Value} (hx:Rep w M β vx x) (h:unA op x=some r):∃ v,(Op.unary op vx).run P w = .ok v w∧Rep w M β v r:=by
 cases x<;>simp only [unA,reduceCtorEq] at h
 ·rw [hx.bool_inv]
  cases op<;>simp only [reduceCtorEq,Option.some.injEq] at h
  subst h
  exact ⟨_,rfl, .bool _⟩
 ·rw [hx.int_inv]
  cases op<;>simp only [reduceCtorEq,Option.some.injEq] at h
  subst h
  exact ⟨_,rfl, .int _ _⟩
theorem Zq3 {s d:TypeId} {x r:AVal} {vx:Value} (hx:Rep w M β vx x) (h:convertA P s d x=some r):∃ v,(convert s d vx).run P w = .ok v w∧Rep w M β v r:=by
 unfold convertA at h
 split at h
 ·rename_i ks k k' n h1 h2
  cases h
  obtain ⟨_,us,_,h3,_⟩:=Zbg h1
  obtain ⟨_,ud,_,h4,h5⟩:=Zbg h2
  obtain rfl:=Zja h5
  rw [hx.int_inv]
  exact ⟨_,by simp only [convert,Sem.run_bind,run_underlying h3,run_underlying h4,Result.andThen_ok,Conv.intToInt];rfl, .int _ _⟩
 ·rename_i y h1 h2
  cases h
  obtain ⟨_,us,_,h3,h3'⟩:=Zbg h1
  obtain ⟨_,ud,_,h4,h5⟩:=Zbg h2
  obtain rfl:=Zd8 h5
  obtain rfl:=Zd8 h3'
  rw [hx.str_inv]
  exact ⟨_,by simp only [convert,Sem.run_bind,run_underlying h3,run_underlying h4,Result.andThen_ok];rfl, .str _⟩
 ·cases h
theorem Zbn {t:TypeId} {T:TyA} (h:tyA P t=some T):∃ u,layOf P t=some T.lay∧P.underlying t=some u∧kaOf u=T.kind ∧
  T.flds=(match u with | .struct fs=>fs.toList.map fun f=>(f.offset,layOf P f.type) | _=>[]) ∧
  T.elem=(match u with | .slice e=>layOf P e | .array _ e=>layOf P e | .map _ e=>layOf P e | _=>none) ∧
  T.keyT=(match u with | .map k _=>layOf P k | _=>none):=by
 unfold tyA at h
 split at h
 ·rename_i l u h1 h2
  cases h
  obtain ⟨i,u',z,h3,h4,_,_,_,_,_,h5,_⟩:=Zao h1
  obtain rfl:=Option.some.inj (h2.symm.trans h4)
  exact ⟨u,h1,h2,h5,rfl,rfl,rfl⟩
 ·cases h
theorem Zpb {lo hi:Nat} {a:AVal} {v:Value} {n:Nat} (hv:Rep w M β v a) (h:natIn lo hi a=some n) :
  ∃ k i,v = .int k i∧(lo:Int)≤i∧i≤hi∧n=i.toNat:=by
 unfold natIn at h
 split at h
 ·split at h
  ·rename_i hc;cases h;exact ⟨_,_,hv.int_inv,hc.1,hc.2,rfl⟩
  ·cases h
 ·cases h
theorem Zec {lo hi:Nat} {a:AVal} {v:Value} {n:Nat} (hv:Rep w M β v a) (h:natIn lo hi a=some n) (code:BoundsCode) :
  (Instr.sliceBound v hi code).run P w = .ok n w∧lo≤n∧n≤hi:=by
 obtain ⟨k,i,rfl,h1,h2,rfl⟩:=Zpb hv h
 exact ⟨run_sliceBound w k i hi code (by omega) h2,by omega,by omega⟩
inductive OptRep (w:World) (M:Nat→Nat→Prop) (β:Env):Option Value→Option AVal→Prop
 | none:OptRep w M β none none
 | some {v:Value} {a:AVal} (h:Rep w M β v a):OptRep w M β (some v) (some a)
theorem Zek {isS:Bool} {n c:Nat} (hc:n≤c) {lo hi:Option AVal} {vlo vhi:Option Value} (hlo:OptRep w M β vlo lo) (hhi:OptRep w M β vhi hi) {h l:Nat}
  (e1:hiA n hi=some h) (e2:loA h lo=some l):(Instr.sliceBounds isS n c vlo vhi none).run P w = .ok (l,h,c) w∧l≤h∧h≤n:=by
 have hi':∀ {a v},Rep w M β v a→natIn 0 n a=some h→∀ code,(Instr.sliceBound v c code).run P w = .ok h w∧h≤n:=by
  intro a v hv e code
  obtain ⟨k,i,rfl,h1,h2,rfl⟩:=Zpb hv e
  exact ⟨run_sliceBound w k i c _ (by omega) (by omega),by omega⟩
 have lo':∀ {a v},Rep w M β v a→natIn 0 h a=some l→∀ code,(Instr.sliceBound v h code).run P w = .ok l w∧l≤h:=by
  intro a v hv e code
  obtain ⟨h1,h2,h3⟩:=Zec (P:=P) hv e code
  exact ⟨h1,h3⟩
 cases hhi with
 | none =>
  simp only [hiA,Option.some.injEq] at e1
  subst e1
  cases hlo with
  | none =>
   simp only [loA,Option.some.injEq] at e2
   subst e2
   exact ⟨rfl,by omega,Nat.le_refl _⟩
  | some hl =>
   obtain ⟨h1,h2⟩:=lo' hl e2 .sliceB
   refine ⟨?_,h2,Nat.le_refl _⟩
   simp [Instr.sliceBounds,h1]
 | some hh =>
  obtain ⟨h3,h4⟩:=hi' hh e1 (if isS then .sliceAcap else .sliceAlen)
  cases hlo with
  | none =>
   simp only [loA,Option.some.injEq] at e2
   subst e2
   refine ⟨?_,by omega,h4⟩
   simp [Instr.sliceBounds,h3]
  | some hl =>
   obtain ⟨h1,h2⟩:=lo' hl e2 .sliceB
   refine ⟨?_,h2,h4⟩
   simp [Instr.sliceBounds,h1,h3]
theorem Zrj {n c:Nat} {lo hi:Option AVal} {vlo vhi:Option Value} (hnc:n≤c) (hlo:OptRep w M β vlo lo) (hhi:OptRep w M β vhi hi) {h l:Nat}
  (e1:hiC n c hi=some h) (e2:loA h lo=some l):(Instr.sliceBounds true n c vlo vhi none).run P w = .ok (l,h,c) w∧l≤h∧h≤c:=by
 have lo':∀ {a v},Rep w M β v a→natIn 0 h a=some l→∀ code,(Instr.sliceBound v h code).run P w = .ok l w∧l≤h:=by
  intro a v hv e code
  obtain ⟨h1,h2,h3⟩:=Zec (P:=P) hv e code
  exact ⟨h1,h3⟩
 cases hhi with
 | none =>
  simp only [hiC,Option.some.injEq] at e1
  subst e1
  cases hlo with
  | none =>
   simp only [loA,Option.some.injEq] at e2
   subst e2
   exact ⟨rfl,by omega,hnc⟩
  | some hl =>
   obtain ⟨h1,h2⟩:=lo' hl e2 .sliceB
   exact ⟨by simp [Instr.sliceBounds,h1],h2,hnc⟩
 | some hh =>
  obtain ⟨h3,_,h4⟩:=Zec (P:=P) hh e1 .sliceAcap
  cases hlo with
  | none =>
   simp only [loA,Option.some.injEq] at e2
   subst e2
   exact ⟨by simp [Instr.sliceBounds,h3],by omega,h4⟩
  | some hl =>
   obtain ⟨h1,h2⟩:=lo' hl e2 .sliceB
   exact ⟨by simp [Instr.sliceBounds,h1,h3],h2,h4⟩
theorem Zre {n c m:Nat} {lo:Option AVal} {ha ma:AVal} {vlo:Option Value} {vh vm:Value} (hlo:OptRep w M β vlo lo) (hh:Rep w M β vh ha) (hm:Rep w M β vm ma) {h l:Nat}
  (e0:natIn 0 c ma=some m) (e1:natIn 0 m ha=some h) (e2:loA h lo=some l):(Instr.sliceBounds true n c vlo (some vh) (some vm)).run P w = .ok (l,h,m) w∧l≤h∧h≤m∧m≤c:=by
 obtain ⟨h1,_,h2⟩:=Zec (P:=P) hm e0 .slice3Acap
 obtain ⟨h3,_,h4⟩:=Zec (P:=P) hh e1 .slice3B
 cases hlo with
 | none =>
  simp only [loA,Option.some.injEq] at e2
  subst e2
  exact ⟨by simp [Instr.sliceBounds,h1,h3],by omega,h4,h2⟩
 | some hl =>
  obtain ⟨h5,_,h6⟩:=Zec (P:=P) hl e2 .slice3C
  exact ⟨by simp [Instr.sliceBounds,h1,h3,h5],h6,h4,h2⟩
theorem Zr9 {ρ:Operand→Value} {ρa:Operand→AVal} (hρ:∀ x,Rep w M β (ρ x) (ρa x)) (o:Option Operand):OptRep w M β (o.map ρ) (o.map ρa):=by
 cases o with
 | none=>exact .none
 | some x=>exact .some (hρ x)
theorem Zep {α β γ:Type} {x:Option α} {f : α→Option β} {g : α→β→γ} {r : γ} (h:x.bind (fun a=>(f a).bind fun b=>some (g a b))=some r):∃ a b,x=some a∧f a=some b∧g a b=r:=by
 cases x with
 | none=>simp at h
 | some a =>
  simp only [Option.bind_some] at h
  cases hf:f a with
  | none=>rw [hf] at h;simp at h
  | some b=>rw [hf] at h;simp at h;exact ⟨a,b,rfl,hf,h⟩
theorem Zb7 {t:TypeId} {T:TyA} (hT:tyA P t=some T) (hk:T.kind = .slice):∃ e,P.underlying t=some (.slice e)∧T.elem=layOf P e:=by
 obtain ⟨u,h1,h2,h3,_,h5,_⟩:=Zbn hT
 obtain ⟨e,rfl⟩:=Zcr (h3.trans hk)
 exact ⟨e,h2,h5⟩
theorem Zda {t e:TypeId} {i:TypeInfo} (ht:P.underlying t=some (.slice e)) (hi:P.info? e=some i) {a:Option Addr} {n c l h:Nat} {vlo vhi:Option Value}
  (hb:(Instr.sliceBounds true n c vlo vhi none).run P w = .ok (l,h,c) w) :
  (Instr.sliceAt t (.slice a n c) vlo vhi none).run P w = .ok (.slice (if c=l then a else a.map (·.add (l*i.size))) (h - l) (c - l)) w:=by
 simp [Instr.sliceAt,Instr.slice,run_underlying ht,hb,Zb9 hi]
theorem Zga {t e:TypeId} {i:TypeInfo} (ht:P.underlying t=some (.slice e)) (hi:P.info? e=some i) {a:Option Addr} {n c l h m:Nat} {vlo vhi vmx:Option Value}
  (hb:(Instr.sliceBounds true n c vlo vhi vmx).run P w = .ok (l,h,m) w) :
  (Instr.sliceAt t (.slice a n c) vlo vhi vmx).run P w = .ok (.slice (if m=l then a else a.map (·.add (l*i.size))) (h - l) (m - l)) w:=by
 simp [Instr.sliceAt,Instr.slice,run_underlying ht,hb,Zb9 hi]
theorem Zim {v:Value} {b off n c s l h m:Nat} (hx:Rep w M β v (.oc b off n c s)) (h1:l≤h) (h2:h≤m) (h3:m≤c):∃ a,v = .slice a n c∧n≤c ∧
  Rep w M β (.slice (if m=l then a else a.map (·.add (l*s))) (h - l) (m - l)) (.oc b (off+l) (h - l) (m - l) s):=by
 cases hx with
 | oc0 ad hL =>
  refine ⟨_,rfl,Nat.le_refl _,?_⟩
  obtain rfl:l=0:=by omega
  obtain rfl:h=0:=by omega
  obtain rfl:m=0:=by omega
  exact .oc0 _ hL
 | @oc _ _ _ _ L hL hl hc =>
  refine ⟨_,rfl,hl,?_⟩
  by_cases e:m=l
  ·rw [show h - l=0 by omega,show m - l=0 by omega]
   exact .oc0 _ hL
  ·rw [if_neg e]
   simp only [Option.map_some,Addr.add_lit]
   rw [show L.o+off*L.sz+l*L.sz=L.o+(off+l)*L.sz by rw [Nat.add_mul];omega]
   exact .oc hL (by omega) (by omega)
theorem Zgd {e:TypeId} {T:TyA} (hel:T.elem=layOf P e) {sz:Nat} (h:T.esz=some sz):∃ i,P.info? e=some i∧i.size=sz:=by
 unfold TyA.esz at h
 rw [hel] at h
 obtain ⟨l,h1,h2⟩:=Option.map_eq_some_iff.1 h
 obtain ⟨i,u,z,h3,_,_,h4,_⟩:=Zao h1
 exact ⟨i,h3,h4.trans h2⟩
theorem Zw1 {t:TypeId} {T:TyA} (hT:tyA P t=some T) {vx:Value} {x r:AVal} {vlo vhi vmx:Option Value} {lo hi mx:Option AVal} (hx:Rep w M β vx x)
  (hlo:OptRep w M β vlo lo) (hhi:OptRep w M β vhi hi) (hmx:OptRep w M β vmx mx) (h:sliceA T x lo hi mx=some r) :
  ∃ v,(Instr.sliceAt t vx vlo vhi vmx).run P w = .ok v w∧Rep w M β v r:=by
 unfold sliceA at h
 cases hmx with
 | some hm =>
  simp only at h
  split at h
  ·rename_i bk off n c sz
   split at h
   ·rename_i hk
    obtain ⟨e,ht,hel⟩:=Zb7 hT hk.1
    obtain ⟨i,hi',hs⟩:=Zgd hel hk.2
    obtain ⟨m,e0,h⟩:=Option.bind_eq_some_iff.1 h
    obtain ⟨b,a,e1,e2,rfl⟩:=Zep h
    obtain ⟨ha,rfl,e1⟩:=Option.bind_eq_some_iff.1 e1
    cases hhi with
    | some hh =>
     obtain ⟨h4,h5,h6,h7⟩:=Zre (P:=P) (n:=n) hlo hh hm e0 e1 e2
     obtain ⟨ad,rfl,h8,h9⟩:=Zim hx h5 h6 h7
     exact ⟨_,Zga ht hi' h4,by rw [hs];exact h9⟩
   ·cases h
  ·cases h
 | none =>
  simp only at h
  split at h
  ·rename_i bk off n c sz
   split at h
   ·rename_i hk
    obtain ⟨e,ht,hel⟩:=Zb7 hT hk.1
    obtain ⟨i,hi',hs⟩:=Zgd hel hk.2
    obtain ⟨b,a,e1,e2,rfl⟩:=Zep h
    have hnc:n≤c:=by
     cases hx with
     | oc0=>exact Nat.le_refl _
     | oc _ hl _=>exact hl
    obtain ⟨h4,h5,h6⟩:=Zrj (P:=P) hnc hlo hhi e1 e2
    obtain ⟨ad,rfl,h8,h9⟩:=Zim hx h5 h6 (Nat.le_refl _)
    exact ⟨_,Zga ht hi' h4,by rw [hs];exact h9⟩
   ·cases h
  ·rename_i s
   split at h
   ·rename_i hk
    obtain ⟨u,h1,h2,h3,_⟩:=Zbn hT
    obtain rfl:=Zd8 (h3.trans hk)
    obtain ⟨b,a,e1,e2,rfl⟩:=Zep h
    obtain ⟨h4,h5,h6⟩:=Zek (P:=P) (isS:=false) (Nat.le_refl _) hlo hhi e1 e2
    rw [hx.str_inv]
    exact ⟨.string (s.extract a b),by simp [Instr.sliceAt,Instr.slice,run_underlying h2,h4], .str _⟩
   ·cases h
  ·rename_i sz es
   split at h
   ·rename_i hk
    obtain ⟨e,ht,hel⟩:=Zb7 hT hk.1
    obtain ⟨i,hi',hs⟩:=Zgd hel hk.2
    obtain ⟨b,a,e1,e2,rfl⟩:=Zep h
    cases hx with
    | @ps ad cap _ _ cv hcap hsz hc ha hr =>
     obtain ⟨h4,h5,h6⟩:=Zek (P:=P) (isS:=true) hcap hlo hhi e1 e2
     refine ⟨_,Zda ht hi' h4,?_⟩
     have hl:((es.drop a).take (b - a)).length=b - a:=by simp;omega
     have hget:∀ k,k<b - a→((es.drop a).take (b - a)).getD k AVal.undef=es.getD (a+k) .undef:=fun k hk=>by
      simp [List.getD,List.getElem?_take,hk,List.getElem?_drop]
     have key:Rep w M β (.slice (if cap=a then ad else ad.map (·.add (a*i.size))) ((es.drop a).take (b - a)).length (cap - a)) (.ps sz ((es.drop a).take (b - a))):=by
      refine .ps (fun k j=>cv (a+k) j) (by omega) (fun k hk'=>?_) (fun k j hk' hj=>?_) (fun h0=>?_) (fun k j hk' hj=>?_)
      ·rw [hget k (by omega)];exact hsz _ (by omega)
      ·obtain ⟨g,o,h7,h8,h9⟩:=hc (a+k) j (by omega) hj
       have e3:o+(a+k)*sz+j=o+a*sz+k*sz+j:=by rw [Nat.add_mul];omega
       rw [e3] at h8 h9
       refine ⟨g,o+a*sz,?_,h8,h9⟩
       rw [h7,if_neg (by omega),hs]
       simp [Addr.add_lit]
      ·obtain ⟨g,o,h7⟩:=ha (by omega)
       refine ⟨g,o+a*sz,?_⟩
       rw [h7,if_neg (by omega),hs]
       simp [Addr.add_lit]
      ·rw [hget k (by omega)];exact hr _ j (by omega) hj
     rw [hl] at key
     exact key
   ·cases h
  ·rename_i bk off n sz
   split at h
   ·rename_i hk
    obtain ⟨e,ht,hel⟩:=Zb7 hT hk.1
    obtain ⟨i,hi',hs⟩:=Zgd hel hk.2
    obtain ⟨b,a,e1,e2,rfl⟩:=Zep h
    cases hx with
    | os0 ad hL =>
     obtain ⟨h4,h5,h6⟩:=Zek (P:=P) (isS:=true) (Nat.le_refl 0) hlo hhi e1 e2
     obtain rfl:b=0:=by omega
     obtain rfl:a=0:=by omega
     exact ⟨_,Zda ht hi' h4, .os0 _ hL⟩
    | @os _ _ _ cap L hL hl hc =>
     obtain ⟨h4,h5,h6⟩:=Zek (P:=P) (isS:=true) hl hlo hhi e1 e2
     refine ⟨_,Zda ht hi' h4,?_⟩
     by_cases e3:cap=a
     ·rw [if_pos e3]
      rw [show cap - a=0 by omega,show b - a=0 by omega]
      exact .os0 _ hL
     ·rw [if_neg e3,hs]
      simp only [Option.map_some,Addr.add_lit]
      rw [show L.o+off*L.sz+a*L.sz=L.o+(off+a)*L.sz by rw [Nat.add_mul];omega]
      exact .os hL (by omega) (by omega)
   ·cases h
  ·split at h
   ·rename_i hk
    obtain ⟨e,ht,hel⟩:=Zb7 hT hk.1
    obtain ⟨l',hl'⟩:=Option.isSome_iff_exists.1 hk.2
    rw [hel] at hl'
    obtain ⟨i,u,z,hi',_⟩:=Zao hl'
    obtain ⟨b,a,e1,e2,rfl⟩:=Zep h
    cases hx with
    | nils ad =>
     obtain ⟨h4,h5,h6⟩:=Zek (P:=P) (isS:=true) (Nat.le_refl 0) hlo hhi e1 e2
     obtain rfl:b=0:=by omega
     obtain rfl:a=0:=by omega
     exact ⟨_,Zda ht hi' h4, .nils _⟩
   ·cases h
  ·cases h
theorem Zl8 {t:TypeId} {T:TyA} (hT:tyA P t=some T) {vx vi:Value} {x i r:AVal} (hx:Rep w M β vx x) (hi:Rep w M β vi i) (h:indexAddrA T x i=some r) :
  ∃ v,(Instr.indexAt t vx vi).run P w = .ok v w∧Rep w M β v r:=by
 unfold indexAddrA at h
 split at h
 ·rename_i k i
  rw [hi.int_inv]
  split at h
  ·rename_i b off n sz
   split at h
   ·rename_i hk
    obtain ⟨e,ht,hel⟩:=Zb7 hT hk.1
    obtain ⟨ti,hi',hs⟩:=Zgd hel hk.2.1
    cases h
    cases hx with
    | os0 ad hL=>exfalso;have:=hk.2.2;omega
    | @os _ _ _ cap L hL hl hc =>
     refine ⟨.pointer (some ⟨L.g,L.o+(off+i.toNat)*L.sz+0,none⟩),?_, .rp hL⟩
     simp only [Instr.indexAt,asIntOf,Sem.run_bind,Sem.run_pure,Result.andThen_ok,run_underlying ht]
     rw [if_pos (by omega)]
     simp only [Sem.run_bind,Zb9 hi',Result.andThen_ok,Sem.run_pure,Addr.add_lit,hs]
     rw [Nat.add_mul,← Nat.add_assoc];rfl
   ·cases h
  ·rename_i b off n c sz
   split at h
   ·rename_i hk
    obtain ⟨e,ht,hel⟩:=Zb7 hT hk.1
    obtain ⟨ti,hi',hs⟩:=Zgd hel hk.2.1
    cases h
    cases hx with
    | oc0 ad hL=>exfalso;have:=hk.2.2;omega
    | @oc _ _ _ cap L hL hl hc =>
     refine ⟨.pointer (some ⟨L.g,L.o+(off+i.toNat)*L.sz+0,none⟩),?_, .rp hL⟩
     simp only [Instr.indexAt,asIntOf,Sem.run_bind,Sem.run_pure,Result.andThen_ok,run_underlying ht]
     rw [if_pos (by omega)]
     simp only [Sem.run_bind,Zb9 hi',Result.andThen_ok,Sem.run_pure,Addr.add_lit,hs]
     rw [Nat.add_mul,← Nat.add_assoc];rfl
   ·cases h
  ·rename_i sz es
   split at h
   ·rename_i hk
    obtain ⟨e,ht,hel⟩:=Zb7 hT hk.1
    obtain ⟨ti,hi',hs⟩:=Zgd hel hk.2.1
    cases h
    cases hx with
    | @ps ad cap _ _ cv hcap hsz hc ha hr =>
     have hlt:i.toNat<es.length:=by omega
     obtain ⟨g,o,h7⟩:=ha (by omega)
     refine ⟨.pointer (some ⟨g,o+i.toNat*sz,none⟩),?_, .pp (fun j=>cv i.toNat j) (fun j hj=>?_) (fun j hj=>?_)⟩
     ·simp only [Instr.indexAt,asIntOf,Sem.run_bind,Sem.run_pure,Result.andThen_ok,run_underlying ht,h7]
      rw [if_pos (by omega)]
      simp only [Sem.run_bind,Zb9 hi',Result.andThen_ok,Sem.run_pure,Addr.add_lit,hs]
     ·rw [hsz i.toNat hlt] at hj
      obtain ⟨g',o',h8,h9⟩:=hc i.toNat j hlt hj
      rw [h7] at h8
      simp only [Option.some.injEq,Addr.mk.injEq,and_true] at h8
      obtain ⟨rfl,rfl⟩:=h8
      exact h9
     ·rw [hsz i.toNat hlt] at hj
      exact hr i.toNat j hlt hj
   ·cases h
  ·rename_i b off
   split at h
   ·rename_i n e hk he
    split at h
    ·rename_i hb
     cases h
     obtain ⟨u,h1,h2,h3,_,h5,_⟩:=Zbn hT
     obtain ⟨et,rfl⟩:=Zfs (h3.trans hk)
     rw [he] at h5
     obtain ⟨ti,_,_,hti,_,_,hs,_⟩:=Zao h5.symm
     cases hx with
     | @ptr _ _ L hL =>
      refine ⟨.pointer (some ⟨L.g,L.o+(off+i.toNat*e.sz),none⟩),?_, .ptr hL⟩
      simp only [Instr.indexAt,asIntOf,Sem.run_bind,Sem.run_pure,Result.andThen_ok,run_underlying h2,Instr.sureAddr]
      rw [if_pos hb]
      simp only [Sem.run_bind,Zb9 hti,Result.andThen_ok,Sem.run_pure,Addr.add_lit,hs]
      rw [Nat.add_assoc]
    ·cases h
   ·cases h
  ·cases h
 ·cases h
theorem Zx5 {t:TypeId} {T:TyA} (hT:tyA P t=some T) {vx vi:Value} {x i r:AVal} (hx:Rep w M β vx x) (hi:Rep w M β vi i) (h:indexA T x i=some r) :
  ∃ v,(Instr.index t vx vi).run P w = .ok v w∧Rep w M β v r:=by
 unfold indexA at h
 split at h
 ·rename_i cs k i
  rw [hi.int_inv]
  split at h
  ·rename_i n e hk he
   split at h
   ·rename_i hb
    obtain ⟨u,h1,h2,h3,_,h5,_⟩:=Zbn hT
    obtain ⟨et,rfl⟩:=Zfs (h3.trans hk)
    rw [he] at h5
    obtain ⟨ti,_,_,hti,_,_,hs,_⟩:=Zao h5.symm
    cases hx with
    | agg hn hr =>
     obtain ⟨v,h6,h7⟩:=Zia (P:=P) h5.symm hn hr h
     refine ⟨v,?_,h7⟩
     simp only [Instr.index,asIntOf,Sem.run_bind,Sem.run_pure,Result.andThen_ok,run_underlying h2]
     rw [if_pos hb]
     simp only [Sem.run_bind,Zb9 hti,Result.andThen_ok,hs,h6]
   ·cases h
  ·cases h
 ·rename_i s k i
  split at h
  ·rename_i hb
   obtain ⟨hb,hk⟩:=hb
   cases h
   rw [hi.int_inv,hx.str_inv]
   obtain ⟨u,h1,h2,h3,_⟩:=Zbn hT
   obtain rfl:=Zd8 (h3.trans hk)
   refine ⟨_,?_, .int _ _⟩
   simp only [Instr.index,asIntOf,Sem.run_bind,Sem.run_pure,Result.andThen_ok,run_underlying h2]
   rw [if_pos hb.1,getElem?_pos s i.toNat hb.2];rfl
  ·cases h
 ·cases h
theorem Zl3 {t:TypeId} {T:TyA} (hT:tyA P t=some T) {vx:Value} {x r:AVal} {i:Nat} (hx:Rep w M β vx x) (h:fieldAddrA T x i=some r) :
  ∃ v,(Instr.fieldAt t vx i).run P w = .ok v w∧Rep w M β v r:=by
 unfold fieldAddrA at h
 split at h
 ·rename_i off l hk hf
  split at h
  ·rename_i hsz
   obtain ⟨u,h1,h2,h3,h4,_⟩:=Zbn hT
   obtain ⟨fs,rfl⟩:=Zgm (h3.trans hk)
   simp only at h4
   rw [h4,List.getElem?_map] at hf
   obtain ⟨f,hf1,hf2⟩:=Option.map_eq_some_iff.1 hf
   simp only [Prod.mk.injEq] at hf2
   obtain ⟨rfl,hl⟩:=hf2
   obtain ⟨ti,_,_,hti,_,_,hs,_⟩:=Zao hl
   have hf3:fs[i]? = some f:=by simpa using hf1
   have run:∀ g o,(Instr.fieldAt t (.pointer (some ⟨g,o,none⟩)) i).run P w = .ok (.pointer (some ⟨g,o+f.offset,none⟩)) w:=by
    intro g o
    have:¬ ti.size=0:=by omega
    simp [Instr.fieldAt,run_underlying h2,hf3,Instr.sureAddr,fieldPlace,Zb9 hti,this,Addr.add_lit]
   split at h
   ·cases h
    cases hx with
    | @ptr b o L hL=>exact ⟨_,run _ _,by rw [Nat.add_assoc];exact .ptr hL⟩
   ·cases h
    cases hx with
    | @rp b o fo L hL=>exact ⟨_,run _ _,by rw [Nat.add_assoc];exact .rp hL⟩
   ·rename_i cs
    cases h
    cases hx with
    | @pp g o _ cv hc hr =>
     refine ⟨_,run _ _, .pp (fun k=>cv (f.offset+k)) (fun k hk'=>?_) (fun k hk'=>?_)⟩
     ·simp only [List.length_drop] at hk'
      have:=hc (f.offset+k) (by omega)
      rwa [← Nat.add_assoc] at this
     ·simp only [List.length_drop] at hk'
      rw [Ze1];exact hr _ (by omega)
   ·cases h
  ·cases h
 ·cases h
theorem Zxa {t:TypeId} {T:TyA} (hT:tyA P t=some T) {vx:Value} {x r:AVal} {i:Nat} (hx:Rep w M β vx x) (h:fieldA T x i=some r) :
  ∃ v,(Instr.field t vx i).run P w = .ok v w∧Rep w M β v r:=by
 unfold fieldA at h
 split at h
 ·rename_i off l cs hk hf
  obtain ⟨u,h1,h2,h3,h4,_⟩:=Zbn hT
  obtain ⟨fs,rfl⟩:=Zgm (h3.trans hk)
  simp only at h4
  rw [h4,List.getElem?_map] at hf
  obtain ⟨f,hf1,hf2⟩:=Option.map_eq_some_iff.1 hf
  simp only [Prod.mk.injEq] at hf2
  obtain ⟨rfl,hl⟩:=hf2
  have hf3:fs[i]? = some f:=by simpa using hf1
  cases hx with
  | agg hn hr =>
   obtain ⟨v,h6,h7⟩:=Zia (P:=P) hl hn hr h
   exact ⟨v,by simp [Instr.field,run_underlying h2,hf3,asAgg,h6],h7⟩
 ·cases h
end
section
variable {P:Program} {X:Nat→Nat→Prop} {base:Nat} {σ:Store} {β:Env} {w:World} {nm:Nat} {M:Nat→Nat→Prop}
theorem Zgu (k:AVal):∀ (ks:List AVal) (i j:Nat),findK k ks i=some j→i≤j∧j - i<ks.length
 | [],_,_,h=>by simp [findK] at h
 | x :: xs,i,j,h=>by
  simp only [findK] at h
  split at h
  ·cases h;simp
  ·have:=Zgu k xs (i+1) j h;simp;omega
theorem Zjp {T:TyA} {t:TypeId} (hT:tyA P t=some T) (hk:T.kind = .map) {k:AVal} (h:keyOk T k=true) :
  ∃ kt et u,P.underlying t=some (.map kt et)∧T.elem=layOf P et∧P.underlying kt=some u ∧
   ((∃ ik n,u = .int ik∧k = .int ik n)∨(∃ s,u = .string∧k = .str s)):=by
 obtain ⟨u,h1,h2,h3,_,h5,h6⟩:=Zbn hT
 obtain ⟨kt,et,rfl⟩:=Zfr (h3.trans hk)
 simp only at h5 h6
 unfold keyOk at h
 rw [h6] at h
 cases hl:layOf P kt with
 | none=>rw [hl] at h;simp at h
 | some l =>
  rw [hl] at h
  simp only [Option.map_some] at h
  obtain ⟨_,u,_,_,hu,_,_,_,_,_,hku,_⟩:=Zao hl
  refine ⟨kt,et,u,h2,h5,hu,?_⟩
  split at h
  ·rename_i k' ik n e1
   simp only [Option.some.injEq] at e1
   rw [← hku] at e1
   simp only [beq_iff_eq] at h
   subst h
   exact .inl ⟨_,_,Zja e1,rfl⟩
  ·rename_i s e1
   simp only [Option.some.injEq] at e1
   rw [← hku] at e1
   exact .inr ⟨_,Zd8 e1,rfl⟩
  ·cases h
theorem Zil {kt:TypeId} {u:TypeDesc} (hu:P.underlying kt=some u) (h:(∃ ik,u = .int ik)∨u = .string) (e:Bool) (n:Nat) (v:Value) :
  (Instr.checkKey e (n+1) kt v).run P w = .ok () w:=by
 rcases h with ⟨ik,rfl⟩ | rfl<;>simp [Instr.checkKey,run_underlying hu]
theorem Zwx {u:TypeDesc} {k x:AVal} {vk vx:Value} (hu:(∃ ik n,u = .int ik∧k = .int ik n)∨(∃ s,u = .string∧k = .str s)) (hk:Rep w M β vk k) (hx:Rep w M β vx x)
  (hs:sameKind k x=true):Instr.sameNow u vk vx=some (eqCell k x):=by
 rcases hu with ⟨ik,n,rfl,rfl⟩ | ⟨s,rfl,rfl⟩
 ·cases x<;>simp only [sameKind,reduceCtorEq,Bool.false_eq_true,beq_iff_eq] at hs
  subst hs
  rw [hk.int_inv,hx.int_inv]
  simp [Instr.sameNow,eqCell]
 ·cases x<;>simp only [sameKind,reduceCtorEq,Bool.false_eq_true] at hs
  rw [hk.str_inv,hx.str_inv]
  simp [Instr.sameNow,eqCell,beq_toListBytes]
theorem Zi8 {u:TypeDesc} {k:AVal} {vk:Value} (hu:(∃ ik n,u = .int ik∧k = .int ik n)∨(∃ s,u = .string∧k = .str s)) (hk:Rep w M β vk k) :
  ∀ (es:List MapEntry) (ks:List AVal) (i:Nat),es.length=ks.length→(∀ j,j<ks.length→Rep w M β (es.getD j default).key (ks.getD j .undef))→(∀ x∈ks,sameKind k x=true) →
   Instr.findNow u vk es i=some ((findK k ks i).map fun j=>(j,(es.getD (j - i) default).val))
 | [],[],i,_,_,_=>rfl
 | [],_ :: _,_,h,_,_=>by simp at h
 | _ :: _,[],_,h,_,_=>by simp at h
 | e :: es,x :: xs,i,hl,hr,hs=>by
  have h0:=hr 0 (by simp)
  simp only [List.getD_cons_zero] at h0
  simp only [Instr.findNow,Zwx hu hk h0 (hs x (by simp)),findK]
  cases hc:eqCell k x with
  | true=>simp
  | false =>
   have ih:=Zi8 hu hk es xs (i+1) (by simpa using hl) (fun j hj=>by simpa using hr (j+1) (by simpa using hj)) (fun y hy=>hs y (by simp [hy]))
   simp only [Bool.false_eq_true,if_false]
   rw [ih]
   cases hf:findK k xs (i+1) with
   | none=>rfl
   | some j =>
    have:=Zgu k xs (i+1) j hf
    simp only [Option.map_some]
    rw [show j - i=(j - (i+1))+1 by omega,List.getD_cons_succ]
theorem Zd0 {t:TypeId} {l:Lay} (hl:layOf P t=some l):∃ z,(zeroValue t).run P w = .ok z w∧Rep w M β z (zeroV l)∧z.cells.size=l.sz∧l.zero.length=l.sz ∧
  (∀ k,k<l.sz→Rep w M β (z.cells.getD k undef) (l.zero.getD k .undef))∧zOk l.ag z=true:=by
 obtain ⟨i,u,z,h1,h2,h3,h4,h5,h6,h7,h8,h9,h10⟩:=Zao hl
 have hn:l.zero.length=l.sz:=by rw [← h7];simp [zeroA];exact h10
 have hz:∀ k,k<l.sz→Rep w M β (z.cells.getD k undef) (l.zero.getD k .undef):=by
  intro k hk
  rw [← h10] at hk
  have:(zeroA z).getD k .undef=ofValue (z.cells.getD k undef):=by simp [zeroA,List.getD,hk,Array.getD]
  rw [← h7,this]
  exact Zgr _
 refine ⟨z,Zd9 h1 h3,?_,h10,hn,hz,h9⟩
 unfold zeroV
 cases z with
 | agg cs =>
  have ha:l.ag=true:=by simpa [zOk] using h9
  rw [if_pos ha]
  exact .agg (by rw [hn,← h10];rfl) (fun k hk=>hz k (by omega))
 | tuple cs=>simp [zOk] at h9
 | _ =>
  have ha:¬ l.ag=true:=by intro ha;rw [ha] at h9;simp [zOk] at h9
  rw [if_neg ha]
  have e1:l.zero=[ofValue _]:=h7.symm
  rw [e1]
  exact Zgr _
theorem Zfp {v:Value} {a:AVal} (h:Rep w M β v a) (hc:a.cells.all AVal.isCell=true):v.cells.size=a.cells.length∧(∀ k,k<a.cells.length→Rep w M β (v.cells.getD k undef) (a.cells.getD k .undef)) ∧
  (isAggA a=false→v.oneCell'=true)∧(∀ u∈v.cells.toList,u.oneCell'=true):=by
 have one:∀ {v:Value} {a:AVal},Rep w M β v a→a.isCell=true→v.oneCell'=true:=by
  intro v a h hc
  cases h<;>first | rfl | (simp [AVal.isCell] at hc)
 cases a with
 | agg l =>
  cases h with
  | @agg cs _ hn hr =>
   refine ⟨hn,hr,fun e=>by simp [isAggA] at e,fun u hu=>?_⟩
   obtain ⟨k,hk,rfl⟩:=List.getElem_of_mem hu
   simp only [Value.cells] at hk
   simp only [Array.length_toList] at hk
   have h1:=hr k (by omega)
   have h2:(cs.getD k undef)=cs[k]:=by simp [Array.getD,hk]
   rw [h2] at h1
   refine one h1 ?_
   simp only [AVal.cells,List.all_eq_true] at hc
   have h3:k<l.length:=by omega
   have:l.getD k .undef=l[k]:=by simp [List.getD,h3]
   rw [this]
   exact hc _ (List.getElem_mem h3)
 | _ =>
  have h1:=one h (by simpa [AVal.cells] using hc)
  have h2:v.cells = #[v]:=by cases v<;>first | rfl | (simp [Value.oneCell'] at h1)
  rw [h2]
  refine ⟨rfl,fun k hk=>?_,fun _=>h1,fun u hu=>?_⟩
  ·simp only [AVal.cells,List.length_singleton] at hk
   obtain rfl:k=0:=by omega
   exact h
  ·simp at hu;subst hu;exact h1
theorem Zfj {t kt et:TypeId} (ht:P.underlying t=some (.map kt et)) {l:Lay} (hl:layOf P et=some l) {u:TypeDesc} (hu:P.underlying kt=some u) {k:AVal} {vk:Value}
  (hk:(∃ ik n,u = .int ik∧k = .int ik n)∨(∃ s,u = .string∧k = .str s)) (hkr:Rep w M β vk k) {es:Array MapEntry} {ks vs:List AVal} (hn:es.size=ks.length) (hv:vs.length=ks.length)
  (hr1:∀ j,j<ks.length→Rep w M β (es.getD j default).key (ks.getD j .undef)) (hr2:∀ j,j<ks.length→Rep w M β (es.getD j default).val (vs.getD j .undef)) (hs:∀ x∈ks,sameKind k x=true)
  {vx:Value} (hx:vx = .map none∧es = #[]∨∃ g clk,vx = .map (some g)∧w.heap[g]? = some (.map es clk)) (ok:Bool) :
  ∃ v,(Instr.lookup t vx vk ok).run P w = .ok v w∧Rep w M β v (lookupIn ks vs (zeroV l) k ok):=by
 obtain ⟨z,hz1,hz2,_⟩:=Zd0 (w:=w) (M:=M) (β:=β) hl
 have hck:=Zil (P:=P) (w:=w) hu (by rcases hk with ⟨ik,_,h,_⟩ | ⟨_,h,_⟩;exact .inl ⟨ik,h⟩;exact .inr h) es.isEmpty 9999 vk
 have hget:∀ j,es.toList.getD j default=es.getD j default:=fun j=>by simp [List.getD,Array.getD_eq_getD_getElem?]
 have hfn:=Zi8 hk hkr es.toList ks 0 (by simpa using hn) (fun j hj=>by rw [hget];exact hr1 j hj) hs
 have hfk:(Instr.findKey kt vk es.toList).run P w = .ok ((findK k ks 0).map fun j=>(j,(es.getD j default).val)) w:=by
  simp only [Instr.findKey,Sem.run_bind,run_underlying hu,Result.andThen_ok,hfn,Nat.sub_zero,hget]
  rfl
 refine ⟨match findK k ks 0 with | some j=>if ok then .tuple #[(es.getD j default).val, .bool true] else (es.getD j default).val | none=>if ok then .tuple #[z, .bool false] else z,?_,?_⟩
 ·rcases hx with ⟨rfl,rfl⟩ | ⟨g,clk,rfl,hg⟩
  ·simp only [Instr.lookup,Sem.run_bind,run_underlying ht,Result.andThen_ok,Sem.run_pure]
   rw [show (10000:Nat)=9999+1 from rfl,hck]
   simp only [Result.andThen_ok,hfk]
   cases hf:findK k ks 0 with
   | none=>cases ok<;>simp [hz1]
   | some j=>cases ok<;>simp
  ·have hgo:(getObj g).run P w = .ok (.map es clk) w:=by simp [getObj,Sem.run,hg]
   simp only [Instr.lookup,Sem.run_bind,run_underlying ht,Result.andThen_ok,hgo,Sem.run_pure]
   rw [show (10000:Nat)=9999+1 from rfl,hck]
   simp only [Result.andThen_ok,hfk]
   cases hf:findK k ks 0 with
   | none=>cases ok<;>simp [hz1]
   | some j=>cases ok<;>simp
 ·unfold lookupIn
  cases hf:findK k ks 0 with
  | none =>
   cases ok
   ·exact hz2
   ·exact .tup rfl (fun j hj=>by
     match j,hj with
     | 0,_=>exact hz2
     | 1,_=>exact .bool _)
  | some j =>
   have hj:=(Zgu k ks 0 j hf).2
   cases ok
   ·exact hr2 j (by omega)
   ·exact .tup rfl (fun i hi=>by
     match i,hi with
     | 0,_=>exact hr2 j (by omega)
     | 1,_=>exact .bool _)
theorem Zsx (hr:RelS X base σ β w) {t:TypeId} {T:TyA} (hT:tyA P t=some T) {vx vk:Value} {x k r:AVal} {ok:Bool} (hx:Rep w (MT X σ β) β vx x) (hkr:Rep w (MT X σ β) β vk k)
  (h:lookupA σ T x k ok=some r):∃ v,(Instr.lookup t vx vk ok).run P w = .ok v w∧Rep w (MT X σ β) β v r:=by
 unfold lookupA at h
 split at h
 ·rename_i l hk he
  split at h
  ·rename_i hko
   obtain ⟨kt,et,u,h1,h2,h3,h4⟩:=Zjp hT hk hko
   rw [he] at h2
   split at h
   ·cases h
    cases hx
    exact Zfj h1 h2.symm h3 h4 hkr (es:=#[]) rfl rfl (fun j hj=>by simp at hj) (fun j hj=>by simp at hj) (fun x hx=>by simp at hx) (.inl ⟨rfl,rfl⟩) ok
   ·split at h
    ·rename_i hs
     cases h
     cases hx with
     | @pm g clk es _ _ hg hm hn hv hr1 hr2=>exact Zfj h1 h2.symm h3 h4 hkr hn hv hr1 hr2 (by simpa using hs) (.inr ⟨g,clk,rfl,hg⟩) ok
    ·cases h
   ·split at h
    ·rename_i ks vs fz hb
     split at h
     ·rename_i hs
      cases h
      obtain ⟨L,h5,_,_,es,clk,h6,hn,hv,hr1,hr2,_⟩:=hr.blk _ _ (Zae hb)
      cases hx with
      | map hL =>
       obtain rfl:=Option.some.inj (h5.symm.trans hL)
       exact Zfj h1 h2.symm h3 h4 hkr hn hv hr1 hr2 (by simpa using hs) (.inr ⟨L.g,clk,rfl,h6⟩) ok
     ·cases h
    ·cases h
   ·cases h
  ·cases h
 ·cases h
end
end Go.Abs
