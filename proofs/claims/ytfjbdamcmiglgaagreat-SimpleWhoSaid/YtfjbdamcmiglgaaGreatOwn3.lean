/- Part 3 of my own framework and of the walks of functions: AbsD, AbsE, AbsF. -/
import Derived.Test.YtfjbdamcmiglgaaGreatOwn2
import Derived.Laws.Slices
import Derived.Laws.StructEq
abbrev bA:=@Array.length_toList
abbrev aD:=@Bool.and_eq_true
abbrev a8:=@Bool.false_eq_true
abbrev bT:=@Bool.not_eq_true'
abbrev ct:=@Bool.true_and
abbrev bp:=@List.all_eq_true
abbrev gA:=@List.cons.injEq
abbrev bB:=@List.getD_cons_succ
abbrev bf:=@List.getD_cons_zero
abbrev cb:=@List.getElem?_map
abbrev aE:=@List.getElem_mem
abbrev mo:=@List.getElem_of_mem
abbrev dh:=@List.length_singleton
abbrev aF:=@List.map_cons
abbrev fc:=@Nat.add_assoc
abbrev bH:=@Nat.add_mul
abbrev aX:=@Nat.mul_le_mul_right
abbrev dt:=@Nat.one_mul
abbrev gG:=@Nat.sub_zero
abbrev bm:=@Nat.zero_add
abbrev au:=@Option.bind_eq_some_iff
abbrev eo:=@Option.bind_some
abbrev n7:=@Option.isSome_iff_exists
abbrev aH:=@Option.map_eq_some_iff
abbrev bu:=@Option.map_some
abbrev bw:=@Prod.mk.injEq
set_option linter.unusedVariables false
set_option linter.unusedSectionVars false
set_option linter.unusedSimpArgs false
namespace Go.c8
open Go
section
variable {P:Program} {X:Nat→Nat→Prop} {base:Nat} {σ:ai} {β:Env} {w:World} {nm:Nat} {M:Nat→Nat→Prop}
theorem jU {b:Nat} {cd:bE} (h:bG σ b=some cd) : σ[b]? = some (some cd):=by
 unfold bG at h
 cases h1 : σ[b]? with
 | none=>rw [h1] at h;cases h
 | some x=>rw [h1] at h;simp at h;rw [h]
theorem bR.g_ {v:Value} {b:Bool} (h:bR w M β v (.bool b)):v = .bool b:=by cases h;rfl
theorem bR.dZ {v:Value} {k:IntKind} {n:Int} (h:bR w M β v (.int k n)):v = .int k n:=by cases h;rfl
theorem bR.gy {v:Value} {s:ByteArray} (h:bR w M β v (.str s)):v = .string s:=by cases h;rfl
def VH (w:World) (M:Nat→Nat→Prop) (β:Env) (v:Value) (cs:List ae):Prop :=
 ∃ (g o:Nat) (cv:Nat→Value),v = .pointer (some ⟨g,o,none⟩)∧(∀ k,k<cs.length→w.cell? ⟨g,o+k,none⟩=some (cv k))∧∀ k,k<cs.length→bR w M β (cv k) (cs.getD k .undef)
theorem tf {c:Array Value} {k:Nat} (h:k<c.size):c[k]? = some (c.getD k undef):=by
 rw [aj,aB h];rfl
theorem Jz (cs:List ae) (o k:Nat):(cs.drop o).getD k ae.undef=cs.getD (o+k) .undef:=by
 simp [List.getD,dH]
theorem Qn (hr:cC X base σ β w) {l:eF} {p r:ae} {v:Value} (hv:bR w (MT X σ β) β v p) (h:iS σ l p=some r) :
  ∃ cs,VH w (MT X σ β) β v cs∧jD l cs=some r:=by
 cases p with
 | ptr b off =>
  simp only [iS] at h
  split at h
  ·rename_i cs hb
   obtain ⟨L,h1,_,_,c,e,h2,h3,h4,h5⟩:=hr.cd b _ (jU hb)
   cases hv with
   | ptr h' =>
    obtain rfl:=aM (h1.symm.trans h')
    refine ⟨cs.drop off,⟨L.g,L.o+off,fun k=>c.getD (off+k) undef,rfl,fun k hk=>?_,fun k hk=>?_⟩,h⟩
    ·simp only [cf] at hk
     rw [h3,cell_of_row w L.g _ c e (0,0) h2,bm,tf (by omega)]
    ·simp only [cf] at hk
     rw [Jz];exact h5 _ (by omega)
  ·exact absurd h (by simp)
 | rp b i f =>
  simp only [iS] at h
  split at h
  ·rename_i es fz hb
   split at h
   ·rename_i hi
    obtain ⟨L,h1,_,_,c,e,h2,h3,h4,h5,h6⟩:=hr.cd b _ (jU hb)
    cases hv with
    | rp h' =>
     obtain rfl:=aM (h1.symm.trans h')
     have hs:=h5 i hi
     refine ⟨(es.getD i .undef).cells.drop f,⟨L.g,L.o+i*L.sz+f,fun k=>c.getD (L.o+i*L.sz+f+k) undef,rfl,fun k hk=>?_,fun k hk=>?_⟩,h⟩
     ·simp only [cf] at hk
      have h7:(i+1)*L.sz≤L.n*L.sz:=aX _ (by omega)
      rw [bH,dt] at h7
      rw [cell_of_row w L.g _ c e (0,0) h2,tf (by omega)]
     ·simp only [cf] at hk
      show bR _ _ _ (c.getD (L.o+i*L.sz+f+k) undef) _
      rw [Jz,fc (L.o+i*L.sz)];exact h6 i (f+k) hi (by omega)
   ·exact absurd h (by simp)
  ·exact absurd h (by simp)
 | pp cs =>
  cases hv with
  | pp cv hc qj=>exact ⟨cs,⟨_,_,cv,rfl,fun k hk=>(hc k hk).1,qj⟩,h⟩
 | _=>cases h
theorem Zl (hr:cC X base σ β w) {ρ:Operand→Value} {gV:Operand→ae} (dJ:∀ x,bR w (MT X σ β) β (ρ x) (gV x)) {o:Oper} {t:TypeId} {x:Operand} (ho:o.op = .load t x)
  {l:eF} (hl:aC P t=some l) {r:ae} (h:iS σ l (gV x)=some r):cN P X base σ β w nm (execOp ρ o) r σ:=by
 obtain ⟨cs,⟨g,of,cv,h1,h2,h3⟩,h4⟩:=Qn hr (dJ x) h
 obtain ⟨v,h5,h6⟩:=PR hl h2 h3 h4
 refine cN.val hr (v:=v) ?_ h6
 simp only [execOp,ho,Instr.loadAt,Instr.sureAddr,h1,Sem.run_bind,Sem.run_pure,Result.andThen_ok,h5]
theorem Yj9 (hr:cC X base σ β w) {ρ:Operand→Value} {gV:Operand→ae} (dJ:∀ x,bR w (MT X σ β) β (ρ x) (gV x)) {o:Oper} {c a b:Operand} (ho:o.op = .pick c a b)
  {r:ae} (h:oW (gV c) (gV a) (gV b)=some r):cN P X base σ β w nm (execOp ρ o) r σ:=by
 have hc:=dJ c;have ha:=dJ a;have hb:=dJ b
 cases qE : gV c with
 | bool c' =>
  rw [qE] at hc h
  have eL:(execOp ρ o).run P w = .ok (.value (if c' then ρ a else ρ b)) w:=by simp [execOp,ho,hc.g_,asBool]
  refine cN.val hr eL ?_
  unfold oW at h
  split at h
  ·rename_i c2 x y e1 e2 e3
   cases e1
   rw [e2] at ha;rw [e3] at hb
   cases h
   rw [ha.g_,hb.g_];cases c'<;>exact .bool _
  ·rename_i c2 e1 _
   cases e1
   cases h
   cases c'
   ·exact hb
   ·exact ha
  ·cases h
 | _=>rw [qE] at h;simp [oW] at h
theorem Ypw (a b:Int):bR w M β (.bool (a != b)) (.bool (decide (a≠b))):=by
 have:(a != b)=decide (a≠b):=by by_cases e:a=b<;>simp [e]
 rw [this]
 exact .bool _
theorem Zy6 {op:BinOp} {k:IntKind} {a b:Int} {r:ae} (h:iz op k a b=some r) :
  ∃ v,(match op with
   | .add | .sub | .mul=>Op.intArith op k a b
   | .quo | .rem=>Op.intDiv op k a b
   | .and | .or | .xor | .andNot=>Op.intBits op k a b
   | _=>Op.intCmp op a b).run P w = .ok v w∧bR w M β v r:=by
 cases op<;>simp only [iz,reduceCtorEq] at h <;>
  (try (split at h<;>(try cases h))) <;>
  (try (simp only [aG] at h;subst h)) <;>
  (first
   | exact ⟨_,rfl, .int _ _⟩
   | exact ⟨_,rfl, .bool _⟩
   | exact ⟨_,rfl,Ypw _ _⟩
   | (rename_i hb;refine ⟨_,by simp only [Op.intDiv,if_neg hb];rfl,?_⟩;exact .int _ _))
theorem Zya {op:BinOp} {a b:ByteArray} {r:ae} (h:ml op a b=some r):∃ v,(Op.stringOp op a b).run P w = .ok v w∧bR w M β v r:=by
 cases op<;>simp only [ml,reduceCtorEq] at h <;>
  (try (split at h<;>(try cases h))) <;>
  (try (simp only [aG] at h;subst h)) <;>
  (first
   | (rename_i hs
      have:¬ (((a.size+b.size:Nat):Int) > IntKind.i64.max):=by
       have e:IntKind.i64.max=9223372036854775807:=by decide
       rw [e];omega
      refine ⟨.string (a++b),?_, .str _⟩
      simp only [Op.stringOp]
      rw [if_neg this];rfl)
   | exact ⟨_,rfl, .bool _⟩)
theorem Ic {u:TypeDesc} {k:IntKind} (h:iY u = .int k):u = .int k:=by cases u<;>simp_all [iY]
theorem zN {u:TypeDesc} (h:iY u = .str):u = .string:=by cases u<;>simp_all [iY]
theorem SE {u:TypeDesc} (h:iY u = .bool):u = .bool:=by cases u<;>simp_all [iY]
theorem ZA {u:TypeDesc} (h:iY u = .ptr):∃ e,u = .pointer e:=by cases u<;>simp_all [iY]
theorem B4 {u:TypeDesc} (h:iY u = .slice):∃ e,u = .slice e:=by cases u<;>simp_all [iY]
theorem Hr {u:TypeDesc} {n:Nat} (h:iY u = .array n):∃ e,u = .array n e:=by cases u<;>simp_all [iY]
theorem D4 {u:TypeDesc} (h:iY u = .map):∃ k e,u = .map k e:=by cases u<;>simp_all [iY]
theorem JP {u:TypeDesc} (h:iY u = .struct):∃ fs,u = .struct fs:=by cases u<;>simp_all [iY]
theorem Zz7 {u:TypeDesc} (h:iY u = .iface):∃ ms,u = .interface ms:=by cases u<;>simp_all [iY]
theorem Zyz {u:TypeDesc} (h:(iY u).plain=true):qu u=false:=by cases u<;>simp [iY,KA.plain,qu] at h ⊢
theorem P5 {t:TypeId} {u:TypeDesc} (hu:P.underlying t=some u) (ha:qu u=false) {cs:Array Value} {off:Nat} (h:off<cs.size) :
  (part t cs off).run P w = .ok (cs.getD off undef) w:=by
 simp only [part,Sem.run_bind,J9 hu,Result.andThen_ok,ha]
 rw [tf h];rfl
theorem Zq8 {xs ys:Array Value} {cj bs:List ae} (hx:xs.size=cj.length) (hy:ys.size=bs.length)
  (BI:∀ k,k<cj.length→bR w M β (xs.getD k undef) (cj.getD k .undef)) (EB:∀ k,k<bs.length→bR w M β (ys.getD k undef) (bs.getD k .undef)) (d:Nat) :
  ∀ (fs:List Field) (i:Nat),(cj.drop i).map r7=(bs.drop i).map r7→po P fs i ((cj.drop i).map r7)=true →
   (Op.eqFields (d+1) xs ys fs).run P w = .ok (km (cj.drop i) (bs.drop i)) w:=by
 intro fs
 induction fs with
 | nil =>
  intro i hk he
  cases ha:cj.drop i with
  | nil=>rw [ha] at hk;cases hb:bs.drop i with
   | nil=>simp [Op.eqFields,km]
   | cons b LL=>rw [hb] at hk;simp at hk
  | cons a Cq=>rw [ha] at he;simp [po] at he
 | cons f fs ih =>
  intro i hk he
  cases ha:cj.drop i with
  | nil=>rw [ha] at he;simp [po] at he
  | cons a Cq =>
   cases hb:bs.drop i with
   | nil=>rw [ha,hb] at hk;simp at hk
   | cons b LL =>
    have hia:i<cj.length:=by have:=congrArg List.length ha;simp at this;omega
    have hib:i<bs.length:=by have:=congrArg List.length hb;simp at this;omega
    have ea:cj.getD i .undef=a:=by simp [List.getD,← List.head?_drop,ha]
    have eb:bs.getD i .undef=b:=by simp [List.getD,← List.head?_drop,hb]
    have LO:cj.drop (i+1)=Cq:=by rw [← List.drop_drop,ha];rfl
    have UI:bs.drop (i+1)=LL:=by rw [← List.drop_drop,hb];rfl
    rw [ha,hb] at hk
    rw [ha] at he
    simp only [aF,gA] at hk
    simp only [aF,po,aD,beq_iff_eq,bne_iff_ne,decide_eq_true_eq] at he
    obtain ⟨⟨⟨⟨h1,h2⟩,h3⟩,h4⟩,h5⟩:=he
    have Jc:=ih (i+1) (by rw [LO,UI];exact hk.2) (by rw [LO];exact h5)
    rw [LO,UI] at Jc
    have I8:=BI i hia
    have I9:=EB i hib
    rw [ea] at I8;rw [eb] at I9
    obtain ⟨u,hu,CU⟩:=aH.1 h4
    have FZ:qu u=false:=by
     rw [← CU] at h3
     exact Zyz h3
    have p1:=P5 (P:=P) (w:=w) hu FZ (cs:=xs) (off:=f.offset) (by omega)
    have p2:=P5 (P:=P) (w:=w) hu FZ (cs:=ys) (off:=f.offset) (by omega)
    rw [h1] at p1 p2
    simp only [Op.eqFields,if_pos h2,Sem.run_bind,h1,p1,p2,Result.andThen_ok,km]
    have sA:=hk.1
    have fin:∀ (r:Bool),(Op.equalIn (d+1) f.type (xs.getD i undef) (ys.getD i undef)).run P w = .ok r w→e8 a b=r →
      ((Op.equalIn (d+1) f.type (xs.getD i undef) (ys.getD i undef)).run P w).andThen (fun r w'=>(if (!r)=true then pure false else Op.eqFields (d+1) xs ys fs).run P w') =
       .ok (e8 a b&&km Cq LL) w:=by
     intro r hr he
     rw [hr,he,Result.andThen_ok]
     cases r
     ·rfl
     ·simp only [Bool.not_true,a8,if_false,ct];exact Jc
    cases a with
    | int k n =>
     cases b with
     | int k' n' =>
      simp only [r7,KA.int.injEq] at sA
      subst sA
      refine fin (n==n') ?_ rfl
      rw [I8.dZ,I9.dZ]
      exact run_equalIn_int w d f.type k k n n' (by rw [hu,Ic CU])
     | _=>simp [r7] at sA
    | str s =>
     cases b with
     | str s' =>
      refine fin (s.toList==s'.toList) ?_ rfl
      rw [I8.gy,I9.gy]
      exact run_equalIn_string w d f.type s s' (by rw [hu,zN CU])
     | _=>simp [r7] at sA
    | bool s =>
     cases b with
     | bool s' =>
      refine fin (s==s') ?_ rfl
      rw [I8.g_,I9.g_]
      exact run_equalIn_bool' w d f.type s s' (by rw [hu,SE CU])
     | _=>simp [r7] at sA
    | _=>simp [r7,KA.plain] at h3
theorem w7 {t:TypeId} {k:KA} (h:iA P t=some k):∃ i u,P.info? t=some i∧P.underlying t=some u∧iY u=k:=by
 unfold iA at h
 obtain ⟨l,h1,h2⟩:=aH.1 h
 obtain ⟨i,u,z,h3,h4,_,_,_,_,_,h5,_⟩:=pO h1
 exact ⟨i,u,h3,h4,h5.trans h2⟩
theorem Hk {v:Value} {a:ae} {b:Bool} (h:bR w M β v a) (hb:nu a=some b):∃ p,v = .pointer p∧p.isSome=b:=by
 cases a<;>simp only [nu,reduceCtorEq,aG] at hb<;>subst hb<;>cases h<;>exact ⟨_,rfl,rfl⟩
theorem DE {v:Value} {a:ae} {b:Bool} (h:bR w M β v a) (hb:kz a=some b):(b=false∧v = .nilIface)∨(b=true∧∃ t x,v = .iface t x):=by
 cases a<;>simp only [kz,reduceCtorEq,aG] at hb<;>subst hb<;>cases h
 ·exact .inl ⟨rfl,rfl⟩
 ·exact .inr ⟨rfl,_,_,rfl⟩
theorem Hh {v:Value} {a:ae} {b:Bool} (h:bR w M β v a) (hb:jW a=some b):(b=false∧v = .nilFunc)∨(b=true∧∃ f x y,v = .func f x y):=by
 cases a<;>simp only [jW,reduceCtorEq,aG] at hb<;>subst hb<;>cases h
 ·exact .inl ⟨rfl,rfl⟩
 ·exact .inr ⟨rfl,_,_,_,rfl⟩
theorem XS {u:TypeDesc} (h:iY u = .func):∃ a b c,u = .func a b c:=by
 cases u<;>first | (cases h;done) | exact ⟨_,_,_,rfl⟩
theorem Zpf {t:TypeId} (h:qh P t=true):∃ ms:Array (String×TypeId),P.underlying t=some (.interface ms)∧ms.isEmpty=true:=by
 unfold qh at h
 split at h
 ·rename_i ms e;exact ⟨ms,e,h⟩
 ·cases h
theorem Zu0 {v:Value} {a:ae} {b:Bool} (h:bR w M β v a) (hb:ln a=some b):∃ p,v = .map p∧p.isSome=b:=by
 cases a<;>simp only [ln,reduceCtorEq,aG] at hb<;>subst hb<;>cases h<;>exact ⟨_,rfl,rfl⟩
theorem Yjz (d:Nat) {t k e:TypeId} (h:P.underlying t=some (.map k e)) (p:Option Nat):(Op.equalIn (d+1) t (.map p) (.map none)).run P w = .ok p.isNone w:=by
 cases p<;>simp [Op.equalIn,run_underlying h]
theorem YL (d:Nat) {t e:TypeId} (h:P.underlying t=some (.pointer e)) (q:Option Addr):(Op.equalIn (d+1) t (.pointer none) (.pointer q)).run P w = .ok q.isNone w:=by
 simp [Op.equalIn,run_underlying h]
theorem WD (d:Nat) {t e:TypeId} (h:P.underlying t=some (.pointer e)) (a:Addr):(Op.equalIn (d+1) t (.pointer (some a)) (.pointer none)).run P w = .ok false w:=by
 simp [Op.equalIn,run_underlying h]
theorem Ykt (d:Nat) {t:TypeId} {ms} (h:P.underlying t=some (.interface ms)) (u:TypeId) (x:Value):(Op.equalIn (d+1) t (.iface u x) .nilIface).run P w = .ok false w:=by
 simp [Op.equalIn,run_underlying h]
theorem Ymb (d:Nat) {t:TypeId} {ms} (h:P.underlying t=some (.interface ms)) (u:TypeId) (x:Value):(Op.equalIn (d+1) t .nilIface (.iface u x)).run P w = .ok false w:=by
 simp [Op.equalIn,run_underlying h]
theorem ZH (d:Nat) {t:TypeId} {ms} (h:P.underlying t=some (.interface ms)):(Op.equalIn (d+1) t .nilIface .nilIface).run P w = .ok true w:=by
 simp [Op.equalIn,run_underlying h]
theorem ZL (d:Nat) {t:TypeId} {a b c} (h:P.underlying t=some (.func a b c)):(Op.equalIn (d+1) t .nilFunc .nilFunc).run P w = .ok true w:=by
 simp [Op.equalIn,run_underlying h]
theorem Yl0 (d:Nat) {t:TypeId} {a b c} (h:P.underlying t=some (.func a b c)) (f:Fn) (x y:Array Value):(Op.equalIn (d+1) t .nilFunc (.func f x y)).run P w = .ok false w:=by
 simp [Op.equalIn,run_underlying h]
theorem Yjx (d:Nat) {t:TypeId} {a b c} (h:P.underlying t=some (.func a b c)) (f:Fn) (x y:Array Value):(Op.equalIn (d+1) t (.func f x y) .nilFunc).run P w = .ok false w:=by
 simp [Op.equalIn,run_underlying h]
theorem Zo3 (d:Nat) {t:TypeId} {ms:Array (String×TypeId)} (h:P.underlying t=some (.interface ms)) (hm:ms.isEmpty=true):(Op.eqGuardIn (d+1) t .nilIface .nilIface).run P w = .ok false w:=by
 simp [Op.eqGuardIn,run_underlying h,hm]
theorem Zk7 (op:BinOp) {t:TypeId} {ms:Array (String×TypeId)} (ox oy:Operand) (h:P.underlying t=some (.interface ms)) (hm:ms.isEmpty=true):(eqGuard op t ox oy .nilIface .nilIface).run P w = .ok () w:=by
 have h1:(Op.eqGuardIn Op.maxDepth t .nilIface .nilIface).run P w = .ok false w:=Zo3 9999 h hm
 have h2 : ∀ c : Bool, (if c = true then pure () else do if ← Op.eqGuardIn Op.maxDepth t .nilIface .nilIface then unsupported (.noEntry "binop/eql: two nil values of an interface type with methods, neither of them the literal nil") : Sem Unit).run P w = .ok () w := by
  intro c
  cases c
  ·simp only [a8,if_false,Sem.run_bind,h1,Result.andThen_ok];rfl
  ·rfl
 have h3:=h2 ((ox matches .const _)||(oy matches .const _))
 cases op<;>first | exact h3 | rfl
theorem TW {t:TypeId} {x y:ae} {vx vy:Value} (hx:bR w M β vx x) (hy:bR w M β vy y) {b:Bool} (h:tK P t x y=some b) (op:BinOp) (ox oy:Operand) :
  (eqGuard op t ox oy vx vy).run P w = .ok () w∧(Op.equal t vx vy).run P w = .ok b w∧(∀ k n,vx≠.int k n)∧(∀ s,vx≠.string s)∧(∀ k n,vx≠.float k n)∧(∀ k n m,vx≠.complex k n m):=by
 unfold tK at h
 split at h
 ·rename_i a a' hk
  obtain ⟨i,u,h1,h2,h3⟩:=w7 hk
  cases h
  rw [hx.g_,hy.g_]
  refine ⟨by cases op<;>simp [eqGuard],?_,by simp,by simp,by simp,by simp⟩
  exact run_equalIn_bool' w 9999 t a a' (by rw [h2,SE h3])
 ·rename_i hk
  obtain ⟨i,u,h1,h2,h3⟩:=w7 hk
  obtain ⟨e,he⟩:=ZA h3
  rw [he] at h2
  split at h
  ·rename_i b' e1 e2
   cases h
   obtain ⟨p,rfl,hp⟩:=Hk hx e1
   obtain ⟨q,rfl,hq⟩:=Hk hy e2
   obtain rfl:p=none:=Option.isSome_eq_false_iff.1 hp |> Option.isNone_iff_eq_none.1
   refine ⟨by cases op<;>simp [eqGuard],?_,by simp,by simp,by simp,by simp⟩
   refine (YL 9999 h2 q).trans ?_
   rw [← hq];cases q<;>rfl
  ·rename_i e1 e2
   cases h
   obtain ⟨p,rfl,hp⟩:=Hk hx e1
   obtain ⟨q,rfl,hq⟩:=Hk hy e2
   obtain rfl:q=none:=Option.isSome_eq_false_iff.1 hq |> Option.isNone_iff_eq_none.1
   obtain ⟨a,rfl⟩:=n7.1 hp
   refine ⟨by cases op<;>simp [eqGuard],?_,by simp,by simp,by simp,by simp⟩
   exact WD 9999 h2 a
  ·cases h
 ·rename_i hk
  obtain ⟨i,u,h1,h2,h3⟩:=w7 hk
  obtain ⟨k,e,he⟩:=D4 h3
  rw [he] at h2
  rw [aH] at h
  obtain ⟨b',e1,rfl⟩:=h
  obtain ⟨p,rfl,hp⟩:=Zu0 hx e1
  cases hy
  refine ⟨by cases op<;>simp [eqGuard],?_,by simp,by simp,by simp,by simp⟩
  refine (Yjz 9999 h2 p).trans ?_
  rw [← hp];cases p<;>rfl
 ·rename_i hk
  obtain ⟨i,u,h1,h2,h3⟩:=w7 hk
  obtain ⟨e,he⟩:=Zz7 h3
  rw [he] at h2
  split at h
  ·rename_i e1 e2
   cases h
   rcases DE hx e1 with ⟨h4,_⟩ | ⟨_,t1,x1,rfl⟩
   ·cases h4
   rcases DE hy e2 with ⟨_,rfl⟩ | ⟨h4,_⟩
   ·refine ⟨by cases op<;>simp [eqGuard],?_,by simp,by simp,by simp,by simp⟩
    exact Ykt 9999 h2 _ _
   ·cases h4
  ·rename_i e1 e2
   cases h
   rcases DE hy e2 with ⟨h4,_⟩ | ⟨_,t1,x1,rfl⟩
   ·cases h4
   rcases DE hx e1 with ⟨_,rfl⟩ | ⟨h4,_⟩
   ·refine ⟨by cases op<;>simp [eqGuard],?_,by simp,by simp,by simp,by simp⟩
    exact Ymb 9999 h2 _ _
   ·cases h4
  ·rename_i e1 e2
   split at h
   ·rename_i hm
    cases h
    obtain ⟨ms,g1,g2⟩:=Zpf hm
    rcases DE hx e1 with ⟨_,rfl⟩ | ⟨h4,_⟩
    ·rcases DE hy e2 with ⟨_,rfl⟩ | ⟨h4,_⟩
     ·exact ⟨Zk7 op ox oy g1 g2,ZH 9999 h2,by simp,by simp,by simp,by simp⟩
     ·cases h4
    ·cases h4
   ·cases h
  ·cases h
 ·rename_i hk
  obtain ⟨i,u,h1,h2,h3⟩:=w7 hk
  obtain ⟨a1,a2,a3,he⟩:=XS h3
  rw [he] at h2
  split at h
  ·rename_i b' e1 e2
   cases h
   rcases Hh hx e1 with ⟨_,rfl⟩ | ⟨h4,_⟩
   ·rcases Hh hy e2 with ⟨rfl,rfl⟩ | ⟨rfl,f,p,q,rfl⟩
    ·exact ⟨by cases op<;>simp [eqGuard],ZL 9999 h2,by simp,by simp,by simp,by simp⟩
    ·exact ⟨by cases op<;>simp [eqGuard],Yl0 9999 h2 _ _ _,by simp,by simp,by simp,by simp⟩
   ·cases h4
  ·rename_i e1 e2
   cases h
   rcases Hh hx e1 with ⟨h4,_⟩ | ⟨_,f,p,q,rfl⟩
   ·cases h4
   rcases Hh hy e2 with ⟨_,rfl⟩ | ⟨h4,_⟩
   ·exact ⟨by cases op<;>simp [eqGuard],Yjx 9999 h2 _ _ _,by simp,by simp,by simp,by simp⟩
   ·cases h4
  ·cases h
 ·rename_i xs ys hk
  split at h
  ·rename_i hc
   cases h
   obtain ⟨rm,kY⟩:=hc
   unfold tJ at kY
   split at kY
   ·rename_i fs Gb
    simp only [aD,bT] at kY
    obtain ⟨⟨hg,hh⟩,hi⟩:=kY
    cases hx with
    | agg hxn BI =>
     cases hy with
     | agg hyn EB =>
      have U7:P.fieldsOf t=fs:=by simp [Program.fieldsOf,Gb]
      refine ⟨run_eqGuard_agg w op t ox oy _ _ hg,?_,by simp,by simp,by simp,by simp⟩
      refine (run_equalIn_struct w 9999 t _ _ (by rw [U7];exact Gb) hh).trans ?_
      rw [U7]
      exact Zq8 (P:=P) hxn hyn BI EB 9998 fs.toList 0 rm hi
   ·cases kY
  ·cases h
 ·cases h
end
section
variable {P:Program} {X:Nat→Nat→Prop} {base:Nat} {σ:ai} {β:Env} {w:World} {nm:Nat} {M:Nat→Nat→Prop}
theorem Ylk {op:BinOp} {t:TypeId} {x y r:ae} {vx vy:Value} (hx:bR w M β vx x) (hy:bR w M β vy y) (h:lQ P op t x y=some r) (ox oy:Operand) :
  ∃ v,(do eqGuard op t ox oy vx vy;binOp op t vx vy:Sem Value).run P w = .ok v w∧bR w M β v r:=by
 unfold lQ at h
 split at h
 ·obtain ⟨b,h1,rfl⟩:=aH.1 h
  obtain ⟨h2,h3,h4,h5,h6,h7⟩:=TW hx hy h1 .eql ox oy
  refine ⟨.bool b,?_, .bool b⟩
  simp only [Sem.run_bind,h2,Result.andThen_ok]
  clear hx hy
  cases vx<;>first | (exact absurd rfl (h4 _ _)) | (exact absurd rfl (h5 _)) | (exact absurd rfl (h6 _ _)) | (exact absurd rfl (h7 _ _ _)) | (simp only [binOp,Sem.run_bind,h3,Result.andThen_ok,Sem.run_pure])
 ·obtain ⟨b,h1,rfl⟩:=aH.1 h
  obtain ⟨h2,h3,h4,h5,h6,h7⟩:=TW hx hy h1 .neq ox oy
  refine ⟨.bool !b,?_, .bool !b⟩
  simp only [Sem.run_bind,h2,Result.andThen_ok]
  clear hx hy
  cases vx<;>first | (exact absurd rfl (h4 _ _)) | (exact absurd rfl (h5 _)) | (exact absurd rfl (h6 _ _)) | (exact absurd rfl (h7 _ _ _)) | (simp only [binOp,Sem.run_bind,h3,Result.andThen_ok,Sem.run_pure])
 ·cases h
theorem Ykl {op:BinOp} {t:TypeId} {x y r:ae} {vx vy:Value} (hx:bR w M β vx x) (hy:bR w M β vy y) (h:qv P op t x y=some r) (ox oy:Operand) :
  ∃ v,(do eqGuard op t ox oy vx vy;binOp op t vx vy:Sem Value).run P w = .ok v w∧bR w M β v r:=by
 unfold qv at h
 split at h
 ·rename_i k a k' b
  split at h
  ·rename_i hk
   subst hk
   obtain ⟨v,h1,h2⟩:=Zy6 (P:=P) (w:=w) (M:=M) (β:=β) h
   refine ⟨v,?_,h2⟩
   rw [hx.dZ,hy.dZ]
   have hg:(eqGuard op t ox oy (.int k a) (.int k b)).run P w = .ok () w:=by cases op<;>simp [eqGuard]
   simp only [Sem.run_bind,hg,Result.andThen_ok]
   cases op<;>first | (simpa [binOp] using h1) | (simp [iz] at h)
  ·cases h
 ·rename_i a b
  obtain ⟨v,h1,h2⟩:=Zya (P:=P) (w:=w) (M:=M) (β:=β) h
  refine ⟨v,?_,h2⟩
  rw [hx.gy,hy.gy]
  have hg:(eqGuard op t ox oy (.string a) (.string b)).run P w = .ok () w:=by cases op<;>simp [eqGuard]
  simp only [Sem.run_bind,hg,Result.andThen_ok]
  cases op<;>first | (simpa [binOp] using h1) | (simp [ml] at h)
 ·exact Ylk hx hy h ox oy
theorem TN {neg:Bool} {x r:ae} {vx:Value} (hx:bR w M β vx x) (h:rJ neg x=some r):∃ a n c,vx = .slice a n c∧bR w M β (.bool (a.isNone != neg)) r:=by
 have lit:∀ (a:Addr),(some a:Option Addr).isNone=false:=fun _=>rfl
 unfold rJ at h
 split at h<;>cases h
 ·cases hx;exact ⟨_,_,_,rfl, .gZ _⟩
 ·cases hx with
  | @ps a cap sz es cv jd fF hc ha hr =>
   refine ⟨_,_,_,rfl,?_⟩
   split
   ·exact .gZ _
   ·obtain ⟨g,o,rfl⟩:=ha (by omega)
    have e:((some (⟨g,o,none⟩:Addr)).isNone != neg)=neg:=by cases neg<;>rfl
    rw [e];exact .bool neg
 ·cases hx with
  | sd a h=>exact ⟨_,_,_,rfl,by rw [if_pos rfl];exact .gZ _⟩
  | os h h1 h2 =>
   refine ⟨_,_,_,rfl,?_⟩
   split
   ·exact .gZ _
   ·cases neg<;>exact .bool _
 ·cases hx with
  | sc a h=>exact ⟨_,_,_,rfl,by rw [if_pos rfl];exact .gZ _⟩
  | oc h h1 h2 =>
   refine ⟨_,_,_,rfl,?_⟩
   split
   ·exact .gZ _
   ·cases neg<;>exact .bool _
theorem QP (d:Nat) {t e:TypeId} (h:P.underlying t=some (.slice e)) (a:Option Addr) (n c:Nat):(Op.equalIn (d+1) t (.slice a n c) (.slice none 0 0)).run P w = .ok a.isNone w:=by
 cases a<;>simp [Op.equalIn,run_underlying h]
theorem Yr {y:Operand} (h:j3 y=true):y = .const (.slice none 0 0):=by
 unfold j3 at h
 split at h
 ·rfl
 ·cases h
theorem Ylw {op:BinOp} {t:TypeId} {x r:ae} {vx:Value} (hx:bR w M β vx x) (h:uh P op t x=some r) (ox oy:Operand) :
  ∃ v,(do eqGuard op t ox oy vx (.slice none 0 0);binOp op t vx (.slice none 0 0):Sem Value).run P w = .ok v w∧bR w M β v r:=by
 unfold uh at h
 split at h
 ·rename_i hk
  obtain ⟨i,u,h1,h2,h3⟩:=w7 hk
  obtain ⟨e,he⟩:=B4 h3
  rw [he] at h2
  obtain ⟨a,n,c,rfl,hr⟩:=TN hx h
  refine ⟨_,?_,hr⟩
  have:=QP (w:=w) 9999 h2 a n c
  have hg:(eqGuard .eql t ox oy (.slice a n c) (.slice none 0 0)).run P w = .ok () w:=by simp [eqGuard]
  have h5:(Op.equal t (.slice a n c) (.slice none 0 0)).run P w = .ok a.isNone w:=this
  simp only [binOp,Sem.run_bind,hg,Result.andThen_ok,h5,Sem.run_pure]
  cases a<;>rfl
 ·rename_i hk
  obtain ⟨i,u,h1,h2,h3⟩:=w7 hk
  obtain ⟨e,he⟩:=B4 h3
  rw [he] at h2
  obtain ⟨a,n,c,rfl,hr⟩:=TN hx h
  refine ⟨_,?_,hr⟩
  have:=QP (w:=w) 9999 h2 a n c
  have hg:(eqGuard .neq t ox oy (.slice a n c) (.slice none 0 0)).run P w = .ok () w:=by simp [eqGuard]
  have h5:(Op.equal t (.slice a n c) (.slice none 0 0)).run P w = .ok a.isNone w:=this
  simp only [binOp,Sem.run_bind,hg,Result.andThen_ok,h5,Sem.run_pure]
  cases a<;>rfl
 ·cases h
theorem Ypv {op:UnOp} {x r:ae} {vx:Value} (hx:bR w M β vx x) (h:EG op x=some r):∃ v,(Op.unary op vx).run P w = .ok v w∧bR w M β v r:=by
 cases x<;>simp only [EG,reduceCtorEq] at h
 ·rw [hx.g_]
  cases op<;>simp only [reduceCtorEq,aG] at h
  subst h
  exact ⟨_,rfl, .bool _⟩
 ·rw [hx.dZ]
  cases op<;>simp only [reduceCtorEq,aG] at h
  subst h
  exact ⟨_,rfl, .int _ _⟩
theorem Zsr {s d:TypeId} {x r:ae} {vx:Value} (hx:bR w M β vx x) (h:oL P s d x=some r):∃ v,(convert s d vx).run P w = .ok v w∧bR w M β v r:=by
 unfold oL at h
 split at h
 ·rename_i ks k k' n h1 h2
  cases h
  obtain ⟨_,us,_,h3,_⟩:=w7 h1
  obtain ⟨_,ud,_,h4,h5⟩:=w7 h2
  obtain rfl:=Ic h5
  rw [hx.dZ]
  exact ⟨_,by simp only [convert,Sem.run_bind,run_underlying h3,run_underlying h4,Result.andThen_ok,Conv.intToInt];rfl, .int _ _⟩
 ·rename_i y h1 h2
  cases h
  obtain ⟨_,us,_,h3,wK⟩:=w7 h1
  obtain ⟨_,ud,_,h4,h5⟩:=w7 h2
  obtain rfl:=zN h5
  obtain rfl:=zN wK
  rw [hx.gy]
  exact ⟨_,by simp only [convert,Sem.run_bind,run_underlying h3,run_underlying h4,Result.andThen_ok];rfl, .str _⟩
 ·cases h
theorem tx {t:TypeId} {T:jH} (h:bK P t=some T):∃ u,aC P t=some T.lay∧P.underlying t=some u∧iY u=T.kind ∧
  T.oN=(match u with | .struct fs=>fs.toList.map fun f=>(f.offset,aC P f.type) | _=>[]) ∧
  T.elem=(match u with | .slice e=>aC P e | .array _ e=>aC P e | .map _ e=>aC P e | _=>none) ∧
  T.Dm=(match u with | .map k _=>aC P k | _=>none):=by
 unfold bK at h
 split at h
 ·rename_i l u h1 h2
  cases h
  obtain ⟨i,u',z,h3,h4,_,_,_,_,_,h5,_⟩:=pO h1
  obtain rfl:=aM (h2.symm.trans h4)
  exact ⟨u,h1,h2,h5,rfl,rfl,rfl⟩
 ·cases h
theorem RO {lo hi:Nat} {a:ae} {v:Value} {n:Nat} (hv:bR w M β v a) (h:jB lo hi a=some n) :
  ∃ k i,v = .int k i∧(lo:Int)≤i∧i≤hi∧n=i.toNat:=by
 unfold jB at h
 split at h
 ·split at h
  ·rename_i hc;cases h;exact ⟨_,_,hv.dZ,hc.1,hc.2,rfl⟩
  ·cases h
 ·cases h
theorem DV {lo hi:Nat} {a:ae} {v:Value} {n:Nat} (hv:bR w M β v a) (h:jB lo hi a=some n) (code:BoundsCode) :
  (Instr.sliceBound v hi code).run P w = .ok n w∧lo≤n∧n≤hi:=by
 obtain ⟨k,i,rfl,h1,h2,rfl⟩:=RO hv h
 exact ⟨run_sliceBound w k i hi code (by omega) h2,by omega,by omega⟩
inductive kH (w:World) (M:Nat→Nat→Prop) (β:Env):Option Value→Option ae→Prop
 | none:kH w M β none none
 | some {v:Value} {a:ae} (h:bR w M β v a):kH w M β (some v) (some a)
theorem EV {Dl:Bool} {n c:Nat} (hc:n≤c) {lo hi:Option ae} {uw wv:Option Value} (iJ:kH w M β uw lo) (xZ:kH w M β wv hi) {h l:Nat}
  (e1:wN n hi=some h) (e2:qQ h lo=some l):(Instr.sliceBounds Dl n c uw wv none).run P w = .ok (l,h,c) w∧l≤h∧h≤n:=by
 have dP:∀ {a v},bR w M β v a→jB 0 n a=some h→∀ code,(Instr.sliceBound v c code).run P w = .ok h w∧h≤n:=by
  intro a v hv e code
  obtain ⟨k,i,rfl,h1,h2,rfl⟩:=RO hv e
  exact ⟨run_sliceBound w k i c _ (by omega) (by omega),by omega⟩
 have lo':∀ {a v},bR w M β v a→jB 0 h a=some l→∀ code,(Instr.sliceBound v h code).run P w = .ok l w∧l≤h:=by
  intro a v hv e code
  obtain ⟨h1,h2,h3⟩:=DV (P:=P) hv e code
  exact ⟨h1,h3⟩
 cases xZ with
 | none =>
  simp only [wN,aG] at e1
  subst e1
  cases iJ with
  | none =>
   simp only [qQ,aG] at e2
   subst e2
   exact ⟨rfl,by omega,ah _⟩
  | some hl =>
   obtain ⟨h1,h2⟩:=lo' hl e2 .sliceB
   refine ⟨?_,h2,ah _⟩
   simp [Instr.sliceBounds,h1]
 | some hh =>
  obtain ⟨h3,h4⟩:=dP hh e1 (if Dl then .sliceAcap else .sliceAlen)
  cases iJ with
  | none =>
   simp only [qQ,aG] at e2
   subst e2
   refine ⟨?_,by omega,h4⟩
   simp [Instr.sliceBounds,h3]
  | some hl =>
   obtain ⟨h1,h2⟩:=lo' hl e2 .sliceB
   refine ⟨?_,h2,h4⟩
   simp [Instr.sliceBounds,h1,h3]
theorem Ztl {n c:Nat} {lo hi:Option ae} {uw wv:Option Value} (I4:n≤c) (iJ:kH w M β uw lo) (xZ:kH w M β wv hi) {h l:Nat}
  (e1:CR n c hi=some h) (e2:qQ h lo=some l):(Instr.sliceBounds true n c uw wv none).run P w = .ok (l,h,c) w∧l≤h∧h≤c:=by
 have lo':∀ {a v},bR w M β v a→jB 0 h a=some l→∀ code,(Instr.sliceBound v h code).run P w = .ok l w∧l≤h:=by
  intro a v hv e code
  obtain ⟨h1,h2,h3⟩:=DV (P:=P) hv e code
  exact ⟨h1,h3⟩
 cases xZ with
 | none =>
  simp only [CR,aG] at e1
  subst e1
  cases iJ with
  | none =>
   simp only [qQ,aG] at e2
   subst e2
   exact ⟨rfl,by omega,I4⟩
  | some hl =>
   obtain ⟨h1,h2⟩:=lo' hl e2 .sliceB
   exact ⟨by simp [Instr.sliceBounds,h1],h2,I4⟩
 | some hh =>
  obtain ⟨h3,_,h4⟩:=DV (P:=P) hh e1 .sliceAcap
  cases iJ with
  | none =>
   simp only [qQ,aG] at e2
   subst e2
   exact ⟨by simp [Instr.sliceBounds,h3],by omega,h4⟩
  | some hl =>
   obtain ⟨h1,h2⟩:=lo' hl e2 .sliceB
   exact ⟨by simp [Instr.sliceBounds,h1,h3],h2,h4⟩
theorem Zsx {n c m:Nat} {lo:Option ae} {ha ma:ae} {uw:Option Value} {vh vm:Value} (iJ:kH w M β uw lo) (hh:bR w M β vh ha) (hm:bR w M β vm ma) {h l:Nat}
  (e0:jB 0 c ma=some m) (e1:jB 0 m ha=some h) (e2:qQ h lo=some l):(Instr.sliceBounds true n c uw (some vh) (some vm)).run P w = .ok (l,h,m) w∧l≤h∧h≤m∧m≤c:=by
 obtain ⟨h1,_,h2⟩:=DV (P:=P) hm e0 .slice3Acap
 obtain ⟨h3,_,h4⟩:=DV (P:=P) hh e1 .slice3B
 cases iJ with
 | none =>
  simp only [qQ,aG] at e2
  subst e2
  exact ⟨by simp [Instr.sliceBounds,h1,h3],by omega,h4,h2⟩
 | some hl =>
  obtain ⟨h5,_,h6⟩:=DV (P:=P) hl e2 .slice3C
  exact ⟨by simp [Instr.sliceBounds,h1,h3,h5],h6,h4,h2⟩
theorem LJ {ρ:Operand→Value} {gV:Operand→ae} (dJ:∀ x,bR w M β (ρ x) (gV x)) (o:Option Operand):kH w M β (o.map ρ) (o.map gV):=by
 cases o with
 | none=>exact .none
 | some x=>exact .some (dJ x)
theorem DT {α β γ:Type} {x:Option α} {f : α→Option β} {g : α→β→γ} {r : γ} (h:x.bind (fun a=>(f a).bind fun b=>some (g a b))=some r):∃ a b,x=some a∧f a=some b∧g a b=r:=by
 cases x with
 | none=>simp at h
 | some a =>
  simp only [eo] at h
  cases hf:f a with
  | none=>rw [hf] at h;simp at h
  | some b=>rw [hf] at h;simp at h;exact ⟨a,b,rfl,hf,h⟩
theorem tj {t:TypeId} {T:jH} (hT:bK P t=some T) (hk:T.kind = .slice):∃ e,P.underlying t=some (.slice e)∧T.elem=aC P e:=by
 obtain ⟨u,h1,h2,h3,_,h5,_⟩:=tx hT
 obtain ⟨e,rfl⟩:=B4 (h3.trans hk)
 exact ⟨e,h2,h5⟩
theorem He {t e:TypeId} {i:TypeInfo} (ht:P.underlying t=some (.slice e)) (hi:P.info? e=some i) {a:Option Addr} {n c l h:Nat} {uw wv:Option Value}
  (hb:(Instr.sliceBounds true n c uw wv none).run P w = .ok (l,h,c) w) :
  (Instr.sliceAt t (.slice a n c) uw wv none).run P w = .ok (.slice (if c=l then a else a.map (·.add (l*i.size))) (h - l) (c - l)) w:=by
 simp [Instr.sliceAt,Instr.slice,run_underlying ht,hb,tn hi]
theorem PU {t e:TypeId} {i:TypeInfo} (ht:P.underlying t=some (.slice e)) (hi:P.info? e=some i) {a:Option Addr} {n c l h m:Nat} {uw wv G6:Option Value}
  (hb:(Instr.sliceBounds true n c uw wv G6).run P w = .ok (l,h,m) w) :
  (Instr.sliceAt t (.slice a n c) uw wv G6).run P w = .ok (.slice (if m=l then a else a.map (·.add (l*i.size))) (h - l) (m - l)) w:=by
 simp [Instr.sliceAt,Instr.slice,run_underlying ht,hb,tn hi]
theorem P0 {v:Value} {b off n c s l h m:Nat} (hx:bR w M β v (.oc b off n c s)) (h1:l≤h) (h2:h≤m) (h3:m≤c):∃ a,v = .slice a n c∧n≤c ∧
  bR w M β (.slice (if m=l then a else a.map (·.add (l*s))) (h - l) (m - l)) (.oc b (off+l) (h - l) (m - l) s):=by
 cases hx with
 | sc ad hL =>
  refine ⟨_,rfl,ah _,?_⟩
  obtain rfl:l=0:=by omega
  obtain rfl:h=0:=by omega
  obtain rfl:m=0:=by omega
  exact .sc _ hL
 | @oc _ _ _ _ L hL hl hc =>
  refine ⟨_,rfl,hl,?_⟩
  by_cases e:m=l
  ·rw [show h - l=0 by omega,show m - l=0 by omega]
   exact .sc _ hL
  ·rw [if_neg e]
   simp only [bu,Addr.add_lit]
   rw [show L.o+off*L.sz+l*L.sz=L.o+(off+l)*L.sz by rw [bH];omega]
   exact .oc hL (by omega) (by omega)
theorem Cg {e:TypeId} {T:jH} (iR:T.elem=aC P e) {sz:Nat} (h:T.uF=some sz):∃ i,P.info? e=some i∧i.size=sz:=by
 unfold jH.uF at h
 rw [iR] at h
 obtain ⟨l,h1,h2⟩:=aH.1 h
 obtain ⟨i,u,z,h3,_,_,h4,_⟩:=pO h1
 exact ⟨i,h3,h4.trans h2⟩
theorem Zzq {t:TypeId} {T:jH} (hT:bK P t=some T) {vx:Value} {x r:ae} {uw wv G6:Option Value} {lo hi mx:Option ae} (hx:bR w M β vx x)
  (iJ:kH w M β uw lo) (xZ:kH w M β wv hi) (I3:kH w M β G6 mx) (h:iL T x lo hi mx=some r) :
  ∃ v,(Instr.sliceAt t vx uw wv G6).run P w = .ok v w∧bR w M β v r:=by
 unfold iL at h
 cases I3 with
 | some hm =>
  simp only at h
  split at h
  ·rename_i bk off n c sz
   split at h
   ·rename_i hk
    obtain ⟨e,ht,iR⟩:=tj hT hk.1
    obtain ⟨i,dP,hs⟩:=Cg iR hk.2
    obtain ⟨m,e0,h⟩:=au.1 h
    obtain ⟨b,a,e1,e2,rfl⟩:=DT h
    obtain ⟨ha,rfl,e1⟩:=au.1 e1
    cases xZ with
    | some hh =>
     obtain ⟨h4,h5,h6,h7⟩:=Zsx (P:=P) (n:=n) iJ hh hm e0 e1 e2
     obtain ⟨ad,rfl,h8,h9⟩:=P0 hx h5 h6 h7
     exact ⟨_,PU ht dP h4,by rw [hs];exact h9⟩
   ·cases h
  ·cases h
 | none =>
  simp only at h
  split at h
  ·rename_i bk off n c sz
   split at h
   ·rename_i hk
    obtain ⟨e,ht,iR⟩:=tj hT hk.1
    obtain ⟨i,dP,hs⟩:=Cg iR hk.2
    obtain ⟨b,a,e1,e2,rfl⟩:=DT h
    have I4:n≤c:=by
     cases hx with
     | sc=>exact ah _
     | oc _ hl _=>exact hl
    obtain ⟨h4,h5,h6⟩:=Ztl (P:=P) I4 iJ xZ e1 e2
    obtain ⟨ad,rfl,h8,h9⟩:=P0 hx h5 h6 (ah _)
    exact ⟨_,PU ht dP h4,by rw [hs];exact h9⟩
   ·cases h
  ·rename_i s
   split at h
   ·rename_i hk
    obtain ⟨u,h1,h2,h3,_⟩:=tx hT
    obtain rfl:=zN (h3.trans hk)
    obtain ⟨b,a,e1,e2,rfl⟩:=DT h
    obtain ⟨h4,h5,h6⟩:=EV (P:=P) (Dl:=false) (ah _) iJ xZ e1 e2
    rw [hx.gy]
    exact ⟨.string (s.extract a b),by simp [Instr.sliceAt,Instr.slice,run_underlying h2,h4], .str _⟩
   ·cases h
  ·rename_i sz es
   split at h
   ·rename_i hk
    obtain ⟨e,ht,iR⟩:=tj hT hk.1
    obtain ⟨i,dP,hs⟩:=Cg iR hk.2
    obtain ⟨b,a,e1,e2,rfl⟩:=DT h
    cases hx with
    | @ps ad cap _ _ cv jd fF hc ha hr =>
     obtain ⟨h4,h5,h6⟩:=EV (P:=P) (Dl:=true) jd iJ xZ e1 e2
     refine ⟨_,He ht dP h4,?_⟩
     have hl:((es.drop a).take (b - a)).length=b - a:=by simp;omega
     have eE:∀ k,k<b - a→((es.drop a).take (b - a)).getD k ae.undef=es.getD (a+k) .undef:=fun k hk=>by
      simp [List.getD,eZ,hk,dH]
     have key:bR w M β (.slice (if cap=a then ad else ad.map (·.add (a*i.size))) ((es.drop a).take (b - a)).length (cap - a)) (.ps sz ((es.drop a).take (b - a))):=by
      refine .ps (fun k j=>cv (a+k) j) (by omega) (fun k er=>?_) (fun k j er hj=>?_) (fun h0=>?_) (fun k j er hj=>?_)
      ·rw [eE k (by omega)];exact fF _ (by omega)
      ·obtain ⟨g,o,h7,h8,h9⟩:=hc (a+k) j (by omega) hj
       have e3:o+(a+k)*sz+j=o+a*sz+k*sz+j:=by rw [bH];omega
       rw [e3] at h8 h9
       refine ⟨g,o+a*sz,?_,h8,h9⟩
       rw [h7,if_neg (by omega),hs]
       simp [Addr.add_lit]
      ·obtain ⟨g,o,h7⟩:=ha (by omega)
       refine ⟨g,o+a*sz,?_⟩
       rw [h7,if_neg (by omega),hs]
       simp [Addr.add_lit]
      ·rw [eE k (by omega)];exact hr _ j (by omega) hj
     rw [hl] at key
     exact key
   ·cases h
  ·rename_i bk off n sz
   split at h
   ·rename_i hk
    obtain ⟨e,ht,iR⟩:=tj hT hk.1
    obtain ⟨i,dP,hs⟩:=Cg iR hk.2
    obtain ⟨b,a,e1,e2,rfl⟩:=DT h
    cases hx with
    | sd ad hL =>
     obtain ⟨h4,h5,h6⟩:=EV (P:=P) (Dl:=true) (ah 0) iJ xZ e1 e2
     obtain rfl:b=0:=by omega
     obtain rfl:a=0:=by omega
     exact ⟨_,He ht dP h4, .sd _ hL⟩
    | @os _ _ _ cap L hL hl hc =>
     obtain ⟨h4,h5,h6⟩:=EV (P:=P) (Dl:=true) hl iJ xZ e1 e2
     refine ⟨_,He ht dP h4,?_⟩
     by_cases e3:cap=a
     ·rw [if_pos e3]
      rw [show cap - a=0 by omega,show b - a=0 by omega]
      exact .sd _ hL
     ·rw [if_neg e3,hs]
      simp only [bu,Addr.add_lit]
      rw [show L.o+off*L.sz+a*L.sz=L.o+(off+a)*L.sz by rw [bH];omega]
      exact .os hL (by omega) (by omega)
   ·cases h
  ·split at h
   ·rename_i hk
    obtain ⟨e,ht,iR⟩:=tj hT hk.1
    obtain ⟨l',Gj⟩:=n7.1 hk.2
    rw [iR] at Gj
    obtain ⟨i,u,z,dP,_⟩:=pO Gj
    obtain ⟨b,a,e1,e2,rfl⟩:=DT h
    cases hx with
    | aU ad =>
     obtain ⟨h4,h5,h6⟩:=EV (P:=P) (Dl:=true) (ah 0) iJ xZ e1 e2
     obtain rfl:b=0:=by omega
     obtain rfl:a=0:=by omega
     exact ⟨_,He ht dP h4, .aU _⟩
   ·cases h
  ·cases h
theorem Zm5 {t:TypeId} {T:jH} (hT:bK P t=some T) {vx vi:Value} {x i r:ae} (hx:bR w M β vx x) (hi:bR w M β vi i) (h:ff T x i=some r) :
  ∃ v,(Instr.indexAt t vx vi).run P w = .ok v w∧bR w M β v r:=by
 unfold ff at h
 split at h
 ·rename_i k i
  rw [hi.dZ]
  split at h
  ·rename_i b off n sz
   split at h
   ·rename_i hk
    obtain ⟨e,ht,iR⟩:=tj hT hk.1
    obtain ⟨ti,dP,hs⟩:=Cg iR hk.2.1
    cases h
    cases hx with
    | sd ad hL=>exfalso;have:=hk.2.2;omega
    | @os _ _ _ cap L hL hl hc =>
     refine ⟨.pointer (some ⟨L.g,L.o+(off+i.toNat)*L.sz+0,none⟩),?_, .rp hL⟩
     simp only [Instr.indexAt,asIntOf,Sem.run_bind,Sem.run_pure,Result.andThen_ok,run_underlying ht]
     rw [if_pos (by omega)]
     simp only [Sem.run_bind,tn dP,Result.andThen_ok,Sem.run_pure,Addr.add_lit,hs]
     rw [bH,← fc];rfl
   ·cases h
  ·rename_i b off n c sz
   split at h
   ·rename_i hk
    obtain ⟨e,ht,iR⟩:=tj hT hk.1
    obtain ⟨ti,dP,hs⟩:=Cg iR hk.2.1
    cases h
    cases hx with
    | sc ad hL=>exfalso;have:=hk.2.2;omega
    | @oc _ _ _ cap L hL hl hc =>
     refine ⟨.pointer (some ⟨L.g,L.o+(off+i.toNat)*L.sz+0,none⟩),?_, .rp hL⟩
     simp only [Instr.indexAt,asIntOf,Sem.run_bind,Sem.run_pure,Result.andThen_ok,run_underlying ht]
     rw [if_pos (by omega)]
     simp only [Sem.run_bind,tn dP,Result.andThen_ok,Sem.run_pure,Addr.add_lit,hs]
     rw [bH,← fc];rfl
   ·cases h
  ·rename_i sz es
   split at h
   ·rename_i hk
    obtain ⟨e,ht,iR⟩:=tj hT hk.1
    obtain ⟨ti,dP,hs⟩:=Cg iR hk.2.1
    cases h
    cases hx with
    | @ps ad cap _ _ cv jd fF hc ha hr =>
     have bD:i.toNat<es.length:=by omega
     obtain ⟨g,o,h7⟩:=ha (by omega)
     refine ⟨.pointer (some ⟨g,o+i.toNat*sz,none⟩),?_, .pp (fun j=>cv i.toNat j) (fun j hj=>?_) (fun j hj=>?_)⟩
     ·simp only [Instr.indexAt,asIntOf,Sem.run_bind,Sem.run_pure,Result.andThen_ok,run_underlying ht,h7]
      rw [if_pos (by omega)]
      simp only [Sem.run_bind,tn dP,Result.andThen_ok,Sem.run_pure,Addr.add_lit,hs]
     ·rw [fF i.toNat bD] at hj
      obtain ⟨g',o',h8,h9⟩:=hc i.toNat j bD hj
      rw [h7] at h8
      simp only [aG,Addr.mk.injEq,and_true] at h8
      obtain ⟨rfl,rfl⟩:=h8
      exact h9
     ·rw [fF i.toNat bD] at hj
      exact hr i.toNat j bD hj
   ·cases h
  ·rename_i b off
   split at h
   ·rename_i n e hk he
    split at h
    ·rename_i hb
     cases h
     obtain ⟨u,h1,h2,h3,_,h5,_⟩:=tx hT
     obtain ⟨et,rfl⟩:=Hr (h3.trans hk)
     rw [he] at h5
     obtain ⟨ti,_,_,qk,_,_,hs,_⟩:=pO h5.symm
     cases hx with
     | @ptr _ _ L hL =>
      refine ⟨.pointer (some ⟨L.g,L.o+(off+i.toNat*e.sz),none⟩),?_, .ptr hL⟩
      simp only [Instr.indexAt,asIntOf,Sem.run_bind,Sem.run_pure,Result.andThen_ok,run_underlying h2,Instr.sureAddr]
      rw [if_pos hb]
      simp only [Sem.run_bind,tn qk,Result.andThen_ok,Sem.run_pure,Addr.add_lit,hs]
      rw [fc]
    ·cases h
   ·cases h
  ·cases h
 ·cases h
theorem Zz4 {t:TypeId} {T:jH} (hT:bK P t=some T) {vx vi:Value} {x i r:ae} (hx:bR w M β vx x) (hi:bR w M β vi i) (h:pD T x i=some r) :
  ∃ v,(Instr.index t vx vi).run P w = .ok v w∧bR w M β v r:=by
 unfold pD at h
 split at h
 ·rename_i cs k i
  rw [hi.dZ]
  split at h
  ·rename_i n e hk he
   split at h
   ·rename_i hb
    obtain ⟨u,h1,h2,h3,_,h5,_⟩:=tx hT
    obtain ⟨et,rfl⟩:=Hr (h3.trans hk)
    rw [he] at h5
    obtain ⟨ti,_,_,qk,_,_,hs,_⟩:=pO h5.symm
    cases hx with
    | agg hn hr =>
     obtain ⟨v,h6,h7⟩:=Qa (P:=P) h5.symm hn hr h
     refine ⟨v,?_,h7⟩
     simp only [Instr.index,asIntOf,Sem.run_bind,Sem.run_pure,Result.andThen_ok,run_underlying h2]
     rw [if_pos hb]
     simp only [Sem.run_bind,tn qk,Result.andThen_ok,hs,h6]
   ·cases h
  ·cases h
 ·rename_i s k i
  split at h
  ·rename_i hb
   obtain ⟨hb,hk⟩:=hb
   cases h
   rw [hi.dZ,hx.gy]
   obtain ⟨u,h1,h2,h3,_⟩:=tx hT
   obtain rfl:=zN (h3.trans hk)
   refine ⟨_,?_, .int _ _⟩
   simp only [Instr.index,asIntOf,Sem.run_bind,Sem.run_pure,Result.andThen_ok,run_underlying h2]
   rw [if_pos hb.1,getElem?_pos s i.toNat hb.2];rfl
  ·cases h
 ·cases h
theorem Zmc {t:TypeId} {T:jH} (hT:bK P t=some T) {vx:Value} {x r:ae} {i:Nat} (hx:bR w M β vx x) (h:jL T x i=some r) :
  ∃ v,(Instr.fieldAt t vx i).run P w = .ok v w∧bR w M β v r:=by
 unfold jL at h
 split at h
 ·rename_i off l hk hf
  split at h
  ·rename_i fF
   obtain ⟨u,h1,h2,h3,h4,_⟩:=tx hT
   obtain ⟨fs,rfl⟩:=JP (h3.trans hk)
   simp only at h4
   rw [h4,cb] at hf
   obtain ⟨f,uZ,oO⟩:=aH.1 hf
   simp only [bw] at oO
   obtain ⟨rfl,hl⟩:=oO
   obtain ⟨ti,_,_,qk,_,_,hs,_⟩:=pO hl
   have My:fs[i]? = some f:=by simpa using uZ
   have run:∀ g o,(Instr.fieldAt t (.pointer (some ⟨g,o,none⟩)) i).run P w = .ok (.pointer (some ⟨g,o+f.offset,none⟩)) w:=by
    intro g o
    have:¬ ti.size=0:=by omega
    simp [Instr.fieldAt,run_underlying h2,My,Instr.sureAddr,fieldPlace,tn qk,this,Addr.add_lit]
   split at h
   ·cases h
    cases hx with
    | @ptr b o L hL=>exact ⟨_,run _ _,by rw [fc];exact .ptr hL⟩
   ·cases h
    cases hx with
    | @rp b o fo L hL=>exact ⟨_,run _ _,by rw [fc];exact .rp hL⟩
   ·rename_i cs
    cases h
    cases hx with
    | @pp g o _ cv hc hr =>
     refine ⟨_,run _ _, .pp (fun k=>cv (f.offset+k)) (fun k er=>?_) (fun k er=>?_)⟩
     ·simp only [cf] at er
      have:=hc (f.offset+k) (by omega)
      rwa [← fc] at this
     ·simp only [cf] at er
      rw [Jz];exact hr _ (by omega)
   ·cases h
  ·cases h
 ·cases h
theorem Zzv {t:TypeId} {T:jH} (hT:bK P t=some T) {vx:Value} {x r:ae} {i:Nat} (hx:bR w M β vx x) (h:px T x i=some r) :
  ∃ v,(Instr.field t vx i).run P w = .ok v w∧bR w M β v r:=by
 unfold px at h
 split at h
 ·rename_i off l cs hk hf
  obtain ⟨u,h1,h2,h3,h4,_⟩:=tx hT
  obtain ⟨fs,rfl⟩:=JP (h3.trans hk)
  simp only at h4
  rw [h4,cb] at hf
  obtain ⟨f,uZ,oO⟩:=aH.1 hf
  simp only [bw] at oO
  obtain ⟨rfl,hl⟩:=oO
  have My:fs[i]? = some f:=by simpa using uZ
  cases hx with
  | agg hn hr =>
   obtain ⟨v,h6,h7⟩:=Qa (P:=P) hl hn hr h
   exact ⟨v,by simp [Instr.field,run_underlying h2,My,asAgg,h6],h7⟩
 ·cases h
end
section
variable {P:Program} {X:Nat→Nat→Prop} {base:Nat} {σ:ai} {β:Env} {w:World} {nm:Nat} {M:Nat→Nat→Prop}
theorem E_ (k:ae):∀ (ks:List ae) (i j:Nat),eY k ks i=some j→i≤j∧j - i<ks.length
 | [],_,_,h=>by simp [eY] at h
 | x :: xs,i,j,h=>by
  simp only [eY] at h
  split at h
  ·cases h;simp
  ·have:=E_ k xs (i+1) j h;simp;omega
theorem Qu {T:jH} {t:TypeId} (hT:bK P t=some T) (hk:T.kind = .map) {k:ae} (h:nc T k=true) :
  ∃ kt et u,P.underlying t=some (.map kt et)∧T.elem=aC P et∧P.underlying kt=some u ∧
   ((∃ ik n,u = .int ik∧k = .int ik n)∨(∃ s,u = .string∧k = .str s)):=by
 obtain ⟨u,h1,h2,h3,_,h5,h6⟩:=tx hT
 obtain ⟨kt,et,rfl⟩:=D4 (h3.trans hk)
 simp only at h5 h6
 unfold nc at h
 rw [h6] at h
 cases hl:aC P kt with
 | none=>rw [hl] at h;simp at h
 | some l =>
  rw [hl] at h
  simp only [bu] at h
  obtain ⟨_,u,_,_,hu,_,_,_,_,_,CU,_⟩:=pO hl
  refine ⟨kt,et,u,h2,h5,hu,?_⟩
  split at h
  ·rename_i k' ik n e1
   simp only [aG] at e1
   rw [← CU] at e1
   simp only [beq_iff_eq] at h
   subst h
   exact .inl ⟨_,_,Ic e1,rfl⟩
  ·rename_i s e1
   simp only [aG] at e1
   rw [← CU] at e1
   exact .inr ⟨_,zN e1,rfl⟩
  ·cases h
theorem Qe {kt:TypeId} {u:TypeDesc} (hu:P.underlying kt=some u) (h:(∃ ik,u = .int ik)∨u = .string) (e:Bool) (n:Nat) (v:Value) :
  (Instr.checkKey e (n+1) kt v).run P w = .ok () w:=by
 rcases h with ⟨ik,rfl⟩ | rfl<;>simp [Instr.checkKey,run_underlying hu]
theorem V2 {u:TypeDesc} {k x:ae} {vk vx:Value} (hu:(∃ ik n,u = .int ik∧k = .int ik n)∨(∃ s,u = .string∧k = .str s)) (hk:bR w M β vk k) (hx:bR w M β vx x)
  (hs:sameKind k x=true):Instr.sameNow u vk vx=some (e8 k x):=by
 rcases hu with ⟨ik,n,rfl,rfl⟩ | ⟨s,rfl,rfl⟩
 ·cases x<;>simp only [sameKind,reduceCtorEq,a8,beq_iff_eq] at hs
  subst hs
  rw [hk.dZ,hx.dZ]
  simp [Instr.sameNow,e8]
 ·cases x<;>simp only [sameKind,reduceCtorEq,a8] at hs
  rw [hk.gy,hx.gy]
  simp [Instr.sameNow,e8,beq_toListBytes]
theorem JV {u:TypeDesc} {k:ae} {vk:Value} (hu:(∃ ik n,u = .int ik∧k = .int ik n)∨(∃ s,u = .string∧k = .str s)) (hk:bR w M β vk k) :
  ∀ (es:List MapEntry) (ks:List ae) (i:Nat),es.length=ks.length→(∀ j,j<ks.length→bR w M β (es.getD j default).key (ks.getD j .undef))→(∀ x∈ks,sameKind k x=true) →
   Instr.findNow u vk es i=some ((eY k ks i).map fun j=>(j,(es.getD (j - i) default).val))
 | [],[],i,_,_,_=>rfl
 | [],_ :: _,_,h,_,_=>by simp at h
 | _ :: _,[],_,h,_,_=>by simp at h
 | e :: es,x :: xs,i,hl,hr,hs=>by
  have h0:=hr 0 (by simp)
  simp only [bf] at h0
  simp only [Instr.findNow,V2 hu hk h0 (hs x (by simp)),eY]
  cases hc:e8 k x with
  | true=>simp
  | false =>
   have ih:=JV hu hk es xs (i+1) (by simpa using hl) (fun j hj=>by simpa using hr (j+1) (by simpa using hj)) (fun y hy=>hs y (by simp [hy]))
   simp only [a8,if_false]
   rw [ih]
   cases hf:eY k xs (i+1) with
   | none=>rfl
   | some j =>
    have:=E_ k xs (i+1) j hf
    simp only [bu]
    rw [show j - i=(j - (i+1))+1 by omega,bB]
theorem A5 {t:TypeId} {l:eF} (hl:aC P t=some l):∃ z,(zeroValue t).run P w = .ok z w∧bR w M β z (zeroV l)∧z.cells.size=l.sz∧l.zero.length=l.sz ∧
  (∀ k,k<l.sz→bR w M β (z.cells.getD k undef) (l.zero.getD k .undef))∧AU l.ag z=true:=by
 obtain ⟨i,u,z,h1,h2,h3,h4,h5,h6,h7,h8,h9,tO⟩:=pO hl
 have hn:l.zero.length=l.sz:=by rw [← h7];simp [sf];exact tO
 have hz:∀ k,k<l.sz→bR w M β (z.cells.getD k undef) (l.zero.getD k .undef):=by
  intro k hk
  rw [← tO] at hk
  have:(sf z).getD k .undef=ofValue (z.cells.getD k undef):=by simp [sf,List.getD,hk,Array.getD]
  rw [← h7,this]
  exact JJ _
 refine ⟨z,Hd h1 h3,?_,tO,hn,hz,h9⟩
 unfold zeroV
 cases z with
 | agg cs =>
  have ha:l.ag=true:=by simpa [AU] using h9
  rw [if_pos ha]
  exact .agg (by rw [hn,← tO];rfl) (fun k hk=>hz k (by omega))
 | tuple cs=>simp [AU] at h9
 | _ =>
  have ha:¬ l.ag=true:=by intro ha;rw [ha] at h9;simp [AU] at h9
  rw [if_neg ha]
  have e1:l.zero=[ofValue _]:=h7.symm
  rw [e1]
  exact JJ _
theorem E1 {v:Value} {a:ae} (h:bR w M β v a) (hc:a.cells.all ae.cF=true):v.cells.size=a.cells.length∧(∀ k,k<a.cells.length→bR w M β (v.cells.getD k undef) (a.cells.getD k .undef)) ∧
  (cJ a=false→v.oneCell'=true)∧(∀ u∈v.cells.toList,u.oneCell'=true):=by
 have one:∀ {v:Value} {a:ae},bR w M β v a→a.cF=true→v.oneCell'=true:=by
  intro v a h hc
  cases h<;>first | rfl | (simp [ae.cF] at hc)
 cases a with
 | agg l =>
  cases h with
  | @agg cs _ hn hr =>
   refine ⟨hn,hr,fun e=>by simp [cJ] at e,fun u hu=>?_⟩
   obtain ⟨k,hk,rfl⟩:=mo hu
   simp only [Value.cells] at hk
   simp only [bA] at hk
   have h1:=hr k (by omega)
   have h2:(cs.getD k undef)=cs[k]:=by simp [Array.getD,hk]
   rw [h2] at h1
   refine one h1 ?_
   simp only [ae.cells,bp] at hc
   have h3:k<l.length:=by omega
   have:l.getD k .undef=l[k]:=by simp [List.getD,h3]
   rw [this]
   exact hc _ (aE h3)
 | _ =>
  have h1:=one h (by simpa [ae.cells] using hc)
  have h2:v.cells = #[v]:=by cases v<;>first | rfl | (simp [Value.oneCell'] at h1)
  rw [h2]
  refine ⟨rfl,fun k hk=>?_,fun _=>h1,fun u hu=>?_⟩
  ·simp only [ae.cells,dh] at hk
   obtain rfl:k=0:=by omega
   exact h
  ·simp at hu;subst hu;exact h1
theorem JE {t kt et:TypeId} (ht:P.underlying t=some (.map kt et)) {l:eF} (hl:aC P et=some l) {u:TypeDesc} (hu:P.underlying kt=some u) {k:ae} {vk:Value}
  (hk:(∃ ik n,u = .int ik∧k = .int ik n)∨(∃ s,u = .string∧k = .str s)) (sY:bR w M β vk k) {es:Array MapEntry} {ks vs:List ae} (hn:es.size=ks.length) (hv:vs.length=ks.length)
  (oq:∀ j,j<ks.length→bR w M β (es.getD j default).key (ks.getD j .undef)) (nG:∀ j,j<ks.length→bR w M β (es.getD j default).val (vs.getD j .undef)) (hs:∀ x∈ks,sameKind k x=true)
  {vx:Value} (hx:vx = .map none∧es = #[]∨∃ g clk,vx = .map (some g)∧w.heap[g]? = some (.map es clk)) (ok:Bool) :
  ∃ v,(Instr.lookup t vx vk ok).run P w = .ok v w∧bR w M β v (eM ks vs (zeroV l) k ok):=by
 obtain ⟨z,rv,ry,_⟩:=A5 (w:=w) (M:=M) (β:=β) hl
 have rq:=Qe (P:=P) (w:=w) hu (by rcases hk with ⟨ik,_,h,_⟩ | ⟨_,h,_⟩;exact .inl ⟨ik,h⟩;exact .inr h) es.isEmpty 9999 vk
 have eE:∀ j,es.toList.getD j default=es.getD j default:=fun j=>by simp [List.getD,aj]
 have Bs:=JV hk sY es.toList ks 0 (by simpa using hn) (fun j hj=>by rw [eE];exact oq j hj) hs
 have u0:(Instr.findKey kt vk es.toList).run P w = .ok ((eY k ks 0).map fun j=>(j,(es.getD j default).val)) w:=by
  simp only [Instr.findKey,Sem.run_bind,run_underlying hu,Result.andThen_ok,Bs,gG,eE]
  rfl
 refine ⟨match eY k ks 0 with | some j=>if ok then .tuple #[(es.getD j default).val, .bool true] else (es.getD j default).val | none=>if ok then .tuple #[z, .bool false] else z,?_,?_⟩
 ·rcases hx with ⟨rfl,rfl⟩ | ⟨g,clk,rfl,hg⟩
  ·simp only [Instr.lookup,Sem.run_bind,run_underlying ht,Result.andThen_ok,Sem.run_pure]
   rw [show (10000:Nat)=9999+1 from rfl,rq]
   simp only [Result.andThen_ok,u0]
   cases hf:eY k ks 0 with
   | none=>cases ok<;>simp [rv]
   | some j=>cases ok<;>simp
  ·have vd:(getObj g).run P w = .ok (.map es clk) w:=by simp [getObj,Sem.run,hg]
   simp only [Instr.lookup,Sem.run_bind,run_underlying ht,Result.andThen_ok,vd,Sem.run_pure]
   rw [show (10000:Nat)=9999+1 from rfl,rq]
   simp only [Result.andThen_ok,u0]
   cases hf:eY k ks 0 with
   | none=>cases ok<;>simp [rv]
   | some j=>cases ok<;>simp
 ·unfold eM
  cases hf:eY k ks 0 with
  | none =>
   cases ok
   ·exact ry
   ·exact .dz rfl (fun j hj=>by
     match j,hj with
     | 0,_=>exact ry
     | 1,_=>exact .bool _)
  | some j =>
   have hj:=(E_ k ks 0 j hf).2
   cases ok
   ·exact nG j (by omega)
   ·exact .dz rfl (fun i hi=>by
     match i,hi with
     | 0,_=>exact nG j (by omega)
     | 1,_=>exact .bool _)
theorem Zt0 (hr:cC X base σ β w) {t:TypeId} {T:jH} (hT:bK P t=some T) {vx vk:Value} {x k r:ae} {ok:Bool} (hx:bR w (MT X σ β) β vx x) (sY:bR w (MT X σ β) β vk k)
  (h:ll σ T x k ok=some r):∃ v,(Instr.lookup t vx vk ok).run P w = .ok v w∧bR w (MT X σ β) β v r:=by
 unfold ll at h
 split at h
 ·rename_i l hk he
  split at h
  ·rename_i ML
   obtain ⟨kt,et,u,h1,h2,h3,h4⟩:=Qu hT hk ML
   rw [he] at h2
   split at h
   ·cases h
    cases hx
    exact JE h1 h2.symm h3 h4 sY (es:=#[]) rfl rfl (fun j hj=>by simp at hj) (fun j hj=>by simp at hj) (fun x hx=>by simp at hx) (.inl ⟨rfl,rfl⟩) ok
   ·split at h
    ·rename_i hs
     cases h
     cases hx with
     | @pm g clk es _ _ hg hm hn hv oq nG=>exact JE h1 h2.symm h3 h4 sY hn hv oq nG (by simpa using hs) (.inr ⟨g,clk,rfl,hg⟩) ok
    ·cases h
   ·split at h
    ·rename_i ks vs fz hb
     split at h
     ·rename_i hs
      cases h
      obtain ⟨L,h5,_,_,es,clk,h6,hn,hv,oq,nG,_⟩:=hr.cd _ _ (jU hb)
      cases hx with
      | map hL =>
       obtain rfl:=aM (h5.symm.trans hL)
       exact JE h1 h2.symm h3 h4 sY hn hv oq nG (by simpa using hs) (.inr ⟨L.g,clk,rfl,h6⟩) ok
     ·cases h
    ·cases h
   ·cases h
  ·cases h
 ·cases h
end
end Go.c8
