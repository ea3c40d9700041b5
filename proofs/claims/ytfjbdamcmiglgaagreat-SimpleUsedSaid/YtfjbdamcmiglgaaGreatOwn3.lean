/- Part 3 of my own framework and of the walks of functions: AbsD, AbsE, AbsF. -/
import Derived.Test.YtfjbdamcmiglgaaGreatOwn2
import Derived.Laws.Slices
import Derived.Laws.StructEq
abbrev bA:=@Array.length_toList
abbrev aD:=@Bool.and_eq_true
abbrev a8:=@Bool.false_eq_true
abbrev bT:=@Bool.not_eq_true'
abbrev cu:=@Bool.true_and
abbrev bp:=@List.all_eq_true
abbrev gx:=@List.cons.injEq
abbrev bB:=@List.getD_cons_succ
abbrev bg:=@List.getD_cons_zero
abbrev cd:=@List.getElem?_map
abbrev aF:=@List.getElem_mem
abbrev ml:=@List.getElem_of_mem
abbrev di:=@List.length_singleton
abbrev aI:=@List.map_cons
abbrev ff:=@Nat.add_assoc
abbrev bH:=@Nat.add_mul
abbrev aW:=@Nat.mul_le_mul_right
abbrev dv:=@Nat.one_mul
abbrev gE:=@Nat.sub_zero
abbrev bm:=@Nat.zero_add
abbrev ax:=@Option.bind_eq_some_iff
abbrev ew:=@Option.bind_some
abbrev n_:=@Option.isSome_iff_exists
abbrev aG:=@Option.map_eq_some_iff
abbrev bw:=@Option.map_some
abbrev bu:=@Prod.mk.injEq
set_option linter.unusedVariables false
set_option linter.unusedSectionVars false
set_option linter.unusedSimpArgs false
namespace Go.cV
open Go
section
variable {P:Program} {X:Nat→Nat→Prop} {base:Nat} {σ:ai} {β:Env} {w:World} {nm:Nat} {M:Nat→Nat→Prop}
theorem jU {b:Nat} {cf:bE} (h:bF σ b=some cf) : σ[b]? = some (some cf):=by
 unfold bF at h
 cases h1 : σ[b]? with
 | none=>rw [h1] at h;cases h
 | some x=>rw [h1] at h;simp at h;rw [h]
theorem bR.g_ {v:Value} {b:Bool} (h:bR w M β v (.bool b)):v = .bool b:=by cases h;rfl
theorem bR.eg {v:Value} {k:IntKind} {n:Int} (h:bR w M β v (.int k n)):v = .int k n:=by cases h;rfl
theorem bR.gw {v:Value} {s:ByteArray} (h:bR w M β v (.str s)):v = .string s:=by cases h;rfl
def V1 (w:World) (M:Nat→Nat→Prop) (β:Env) (v:Value) (cs:List ae):Prop :=
 ∃ (g o:Nat) (cv:Nat→Value),v = .pointer (some ⟨g,o,none⟩)∧(∀ k,k<cs.length→w.cell? ⟨g,o+k,none⟩=some (cv k))∧∀ k,k<cs.length→bR w M β (cv k) (cs.getD k .undef)
theorem tD {c:Array Value} {k:Nat} (h:k<c.size):c[k]? = some (c.getD k undef):=by
 rw [aj,aB h];rfl
theorem JL (cs:List ae) (o k:Nat):(cs.drop o).getD k ae.undef=cs.getD (o+k) .undef:=by
 simp [List.getD,dJ]
theorem Qs (hr:cF X base σ β w) {l:eI} {p r:ae} {v:Value} (hv:bR w (MT X σ β) β v p) (h:iT σ l p=some r) :
  ∃ cs,V1 w (MT X σ β) β v cs∧jD l cs=some r:=by
 cases p with
 | ptr b off =>
  simp only [iT] at h
  split at h
  ·rename_i cs hb
   obtain ⟨L,h1,_,_,c,e,h2,h3,h4,h5⟩:=hr.cf b _ (jU hb)
   cases hv with
   | ptr h' =>
    obtain rfl:=aM (h1.symm.trans h')
    refine ⟨cs.drop off,⟨L.g,L.o+off,fun k=>c.getD (off+k) undef,rfl,fun k hk=>?_,fun k hk=>?_⟩,h⟩
    ·simp only [cg] at hk
     rw [h3,cell_of_row w L.g _ c e (0,0) h2,bm,tD (by omega)]
    ·simp only [cg] at hk
     rw [JL];exact h5 _ (by omega)
  ·exact absurd h (by simp)
 | rp b i f =>
  simp only [iT] at h
  split at h
  ·rename_i es fz hb
   split at h
   ·rename_i hi
    obtain ⟨L,h1,_,_,c,e,h2,h3,h4,h5,h6⟩:=hr.cf b _ (jU hb)
    cases hv with
    | rp h' =>
     obtain rfl:=aM (h1.symm.trans h')
     have hs:=h5 i hi
     refine ⟨(es.getD i .undef).cells.drop f,⟨L.g,L.o+i*L.sz+f,fun k=>c.getD (L.o+i*L.sz+f+k) undef,rfl,fun k hk=>?_,fun k hk=>?_⟩,h⟩
     ·simp only [cg] at hk
      have h7:(i+1)*L.sz≤L.n*L.sz:=aW _ (by omega)
      rw [bH,dv] at h7
      rw [cell_of_row w L.g _ c e (0,0) h2,tD (by omega)]
     ·simp only [cg] at hk
      show bR _ _ _ (c.getD (L.o+i*L.sz+f+k) undef) _
      rw [JL,ff (L.o+i*L.sz)];exact h6 i (f+k) hi (by omega)
   ·exact absurd h (by simp)
  ·exact absurd h (by simp)
 | pp cs =>
  cases hv with
  | pp cv hc qq=>exact ⟨cs,⟨_,_,cv,rfl,fun k hk=>(hc k hk).1,qq⟩,h⟩
 | _=>cases h
theorem Yiu (hr:cF X base σ β w) {ρ:Operand→Value} {gU:Operand→ae} (dL:∀ x,bR w (MT X σ β) β (ρ x) (gU x)) {o:Oper} {t:TypeId} {x:Operand} (ho:o.op = .load t x)
  {l:eI} (hl:aC P t=some l) {r:ae} (h:iT σ l (gU x)=some r):cO P X base σ β w nm (execOp ρ o) r σ:=by
 obtain ⟨cs,⟨g,of,cv,h1,h2,h3⟩,h4⟩:=Qs hr (dL x) h
 obtain ⟨v,h5,h6⟩:=PZ hl h2 h3 h4
 refine cO.val hr (v:=v) ?_ h6
 simp only [execOp,ho,Instr.loadAt,Instr.sureAddr,h1,Sem.run_bind,Sem.run_pure,Result.andThen_ok,h5]
theorem ZJ (hr:cF X base σ β w) {ρ:Operand→Value} {gU:Operand→ae} (dL:∀ x,bR w (MT X σ β) β (ρ x) (gU x)) {o:Oper} {c a b:Operand} (ho:o.op = .pick c a b)
  {r:ae} (h:oX (gU c) (gU a) (gU b)=some r):cO P X base σ β w nm (execOp ρ o) r σ:=by
 have hc:=dL c;have ha:=dL a;have hb:=dL b
 cases qN : gU c with
 | bool c' =>
  rw [qN] at hc h
  have eO:(execOp ρ o).run P w = .ok (.value (if c' then ρ a else ρ b)) w:=by simp [execOp,ho,hc.g_,asBool]
  refine cO.val hr eO ?_
  unfold oX at h
  split at h
  ·rename_i c2 x y e1 e2 e3
   cases e1
   rw [e2] at ha;rw [e3] at hb
   cases h
   rw [ha.g_,hb.g_];cases c'<;>exact .bool _
  ·rename_i c2 e1 _
   cases e1
   cases h
   cases c'
   ·exact hb
   ·exact ha
  ·cases h
 | _=>rw [qN] at h;simp [oX] at h
theorem Yqb (a b:Int):bR w M β (.bool (a != b)) (.bool (decide (a≠b))):=by
 have:(a != b)=decide (a≠b):=by by_cases e:a=b<;>simp [e]
 rw [this]
 exact .bool _
theorem W4 {op:BinOp} {k:IntKind} {a b:Int} {r:ae} (h:iA op k a b=some r) :
  ∃ v,(match op with
   | .add | .sub | .mul=>Op.intArith op k a b
   | .quo | .rem=>Op.intDiv op k a b
   | .and | .or | .xor | .andNot=>Op.intBits op k a b
   | _=>Op.intCmp op a b).run P w = .ok v w∧bR w M β v r:=by
 cases op<;>simp only [iA,reduceCtorEq] at h <;>
  (try (split at h<;>(try cases h))) <;>
  (try (simp only [aE] at h;subst h)) <;>
  (first
   | exact ⟨_,rfl, .int _ _⟩
   | exact ⟨_,rfl, .bool _⟩
   | exact ⟨_,rfl,Yqb _ _⟩
   | (rename_i hb;refine ⟨_,by simp only [Op.intDiv,if_neg hb];rfl,?_⟩;exact .int _ _))
theorem WA {op:BinOp} {a b:ByteArray} {r:ae} (h:mh op a b=some r):∃ v,(Op.stringOp op a b).run P w = .ok v w∧bR w M β v r:=by
 cases op<;>simp only [mh,reduceCtorEq] at h <;>
  (try (split at h<;>(try cases h))) <;>
  (try (simp only [aE] at h;subst h)) <;>
  (first
   | (rename_i hs
      have:¬ (((a.size+b.size:Nat):Int) > IntKind.i64.max):=by
       have e:IntKind.i64.max=9223372036854775807:=by decide
       rw [e];omega
      refine ⟨.string (a++b),?_, .str _⟩
      simp only [Op.stringOp]
      rw [if_neg this];rfl)
   | exact ⟨_,rfl, .bool _⟩)
theorem H9 {u:TypeDesc} {k:IntKind} (h:i_ u = .int k):u = .int k:=by cases u<;>simp_all [i_]
theorem zR {u:TypeDesc} (h:i_ u = .str):u = .string:=by cases u<;>simp_all [i_]
theorem R7 {u:TypeDesc} (h:i_ u = .bool):u = .bool:=by cases u<;>simp_all [i_]
theorem Ykt {u:TypeDesc} (h:i_ u = .ptr):∃ e,u = .pointer e:=by cases u<;>simp_all [i_]
theorem Cc {u:TypeDesc} (h:i_ u = .slice):∃ e,u = .slice e:=by cases u<;>simp_all [i_]
theorem HE {u:TypeDesc} {n:Nat} (h:i_ u = .array n):∃ e,u = .array n e:=by cases u<;>simp_all [i_]
theorem D_ {u:TypeDesc} (h:i_ u = .map):∃ k e,u = .map k e:=by cases u<;>simp_all [i_]
theorem JR {u:TypeDesc} (h:i_ u = .struct):∃ fs,u = .struct fs:=by cases u<;>simp_all [i_]
theorem Zzv {u:TypeDesc} (h:i_ u = .iface):∃ ms,u = .interface ms:=by cases u<;>simp_all [i_]
theorem WQ {u:TypeDesc} (h:(i_ u).plain=true):qD u=false:=by cases u<;>simp [i_,KA.plain,qD] at h ⊢
theorem Qe {t:TypeId} {u:TypeDesc} (hu:P.underlying t=some u) (ha:qD u=false) {cs:Array Value} {off:Nat} (h:off<cs.size) :
  (part t cs off).run P w = .ok (cs.getD off undef) w:=by
 simp only [part,Sem.run_bind,KJ hu,Result.andThen_ok,ha]
 rw [tD h];rfl
theorem Zqq {xs ys:Array Value} {ck bs:List ae} (hx:xs.size=ck.length) (hy:ys.size=bs.length)
  (BP:∀ k,k<ck.length→bR w M β (xs.getD k undef) (ck.getD k .undef)) (EJ:∀ k,k<bs.length→bR w M β (ys.getD k undef) (bs.getD k .undef)) (d:Nat) :
  ∀ (fs:List Field) (i:Nat),(ck.drop i).map sm=(bs.drop i).map sm→pz P fs i ((ck.drop i).map sm)=true →
   (Op.eqFields (d+1) xs ys fs).run P w = .ok (kj (ck.drop i) (bs.drop i)) w:=by
 intro fs
 induction fs with
 | nil =>
  intro i hk he
  cases ha:ck.drop i with
  | nil=>rw [ha] at hk;cases hb:bs.drop i with
   | nil=>simp [Op.eqFields,kj]
   | cons b LX=>rw [hb] at hk;simp at hk
  | cons a Cz=>rw [ha] at he;simp [pz] at he
 | cons f fs ih =>
  intro i hk he
  cases ha:ck.drop i with
  | nil=>rw [ha] at he;simp [pz] at he
  | cons a Cz =>
   cases hb:bs.drop i with
   | nil=>rw [ha,hb] at hk;simp at hk
   | cons b LX =>
    have hia:i<ck.length:=by have:=congrArg List.length ha;simp at this;omega
    have hib:i<bs.length:=by have:=congrArg List.length hb;simp at this;omega
    have ea:ck.getD i .undef=a:=by simp [List.getD,← List.head?_drop,ha]
    have eb:bs.getD i .undef=b:=by simp [List.getD,← List.head?_drop,hb]
    have L4:ck.drop (i+1)=Cz:=by rw [← List.drop_drop,ha];rfl
    have U2:bs.drop (i+1)=LX:=by rw [← List.drop_drop,hb];rfl
    rw [ha,hb] at hk
    rw [ha] at he
    simp only [aI,gx] at hk
    simp only [aI,pz,aD,beq_iff_eq,bne_iff_ne,decide_eq_true_eq] at he
    obtain ⟨⟨⟨⟨h1,h2⟩,h3⟩,h4⟩,h5⟩:=he
    have Jk:=ih (i+1) (by rw [L4,U2];exact hk.2) (by rw [L4];exact h5)
    rw [L4,U2] at Jk
    have Jf:=BP i hia
    have Jg:=EJ i hib
    rw [ea] at Jf;rw [eb] at Jg
    obtain ⟨u,hu,C6⟩:=aG.1 h4
    have F4:qD u=false:=by
     rw [← C6] at h3
     exact WQ h3
    have p1:=Qe (P:=P) (w:=w) hu F4 (cs:=xs) (off:=f.offset) (by omega)
    have p2:=Qe (P:=P) (w:=w) hu F4 (cs:=ys) (off:=f.offset) (by omega)
    rw [h1] at p1 p2
    simp only [Op.eqFields,if_pos h2,Sem.run_bind,h1,p1,p2,Result.andThen_ok,kj]
    have sN:=hk.1
    have fin:∀ (r:Bool),(Op.equalIn (d+1) f.type (xs.getD i undef) (ys.getD i undef)).run P w = .ok r w→fb a b=r →
      ((Op.equalIn (d+1) f.type (xs.getD i undef) (ys.getD i undef)).run P w).andThen (fun r w'=>(if (!r)=true then pure false else Op.eqFields (d+1) xs ys fs).run P w') =
       .ok (fb a b&&kj Cz LX) w:=by
     intro r hr he
     rw [hr,he,Result.andThen_ok]
     cases r
     ·rfl
     ·simp only [Bool.not_true,a8,if_false,cu];exact Jk
    cases a with
    | int k n =>
     cases b with
     | int k' n' =>
      simp only [sm,KA.int.injEq] at sN
      subst sN
      refine fin (n==n') ?_ rfl
      rw [Jf.eg,Jg.eg]
      exact run_equalIn_int w d f.type k k n n' (by rw [hu,H9 C6])
     | _=>simp [sm] at sN
    | str s =>
     cases b with
     | str s' =>
      refine fin (s.toList==s'.toList) ?_ rfl
      rw [Jf.gw,Jg.gw]
      exact run_equalIn_string w d f.type s s' (by rw [hu,zR C6])
     | _=>simp [sm] at sN
    | bool s =>
     cases b with
     | bool s' =>
      refine fin (s==s') ?_ rfl
      rw [Jf.g_,Jg.g_]
      exact run_equalIn_bool' w d f.type s s' (by rw [hu,R7 C6])
     | _=>simp [sm] at sN
    | _=>simp [sm,KA.plain] at h3
theorem xe {t:TypeId} {k:KA} (h:iB P t=some k):∃ i u,P.info? t=some i∧P.underlying t=some u∧i_ u=k:=by
 unfold iB at h
 obtain ⟨l,h1,h2⟩:=aG.1 h
 obtain ⟨i,u,z,h3,h4,_,_,_,_,_,h5,_⟩:=pW h1
 exact ⟨i,u,h3,h4,h5.trans h2⟩
theorem Hu {v:Value} {a:ae} {b:Bool} (h:bR w M β v a) (hb:ny a=some b):∃ p,v = .pointer p∧p.isSome=b:=by
 cases a<;>simp only [ny,reduceCtorEq,aE] at hb<;>subst hb<;>cases h<;>exact ⟨_,rfl,rfl⟩
theorem DO {v:Value} {a:ae} {b:Bool} (h:bR w M β v a) (hb:kx a=some b):(b=false∧v = .nilIface)∨(b=true∧∃ t x,v = .iface t x):=by
 cases a<;>simp only [kx,reduceCtorEq,aE] at hb<;>subst hb<;>cases h
 ·exact .inl ⟨rfl,rfl⟩
 ·exact .inr ⟨rfl,_,_,rfl⟩
theorem Hn {v:Value} {a:ae} {b:Bool} (h:bR w M β v a) (hb:jW a=some b):(b=false∧v = .nilFunc)∨(b=true∧∃ f x y,v = .func f x y):=by
 cases a<;>simp only [jW,reduceCtorEq,aE] at hb<;>subst hb<;>cases h
 ·exact .inl ⟨rfl,rfl⟩
 ·exact .inr ⟨rfl,_,_,_,rfl⟩
theorem XQ {u:TypeDesc} (h:i_ u = .func):∃ a b c,u = .func a b c:=by
 cases u<;>first | (cases h;done) | exact ⟨_,_,_,rfl⟩
theorem Zrr {t:TypeId} (h:qo P t=true):∃ ms:Array (String×TypeId),P.underlying t=some (.interface ms)∧ms.isEmpty=true:=by
 unfold qo at h
 split at h
 ·rename_i ms e;exact ⟨ms,e,h⟩
 ·cases h
theorem Zuv {v:Value} {a:ae} {b:Bool} (h:bR w M β v a) (hb:ln a=some b):∃ p,v = .map p∧p.isSome=b:=by
 cases a<;>simp only [ln,reduceCtorEq,aE] at hb<;>subst hb<;>cases h<;>exact ⟨_,rfl,rfl⟩
theorem Ykd (d:Nat) {t k e:TypeId} (h:P.underlying t=some (.map k e)) (p:Option Nat):(Op.equalIn (d+1) t (.map p) (.map none)).run P w = .ok p.isNone w:=by
 cases p<;>simp [Op.equalIn,run_underlying h]
theorem Y9 (d:Nat) {t e:TypeId} (h:P.underlying t=some (.pointer e)) (q:Option Addr):(Op.equalIn (d+1) t (.pointer none) (.pointer q)).run P w = .ok q.isNone w:=by
 simp [Op.equalIn,run_underlying h]
theorem XD (d:Nat) {t e:TypeId} (h:P.underlying t=some (.pointer e)) (a:Addr):(Op.equalIn (d+1) t (.pointer (some a)) (.pointer none)).run P w = .ok false w:=by
 simp [Op.equalIn,run_underlying h]
theorem Yj7 (d:Nat) {t:TypeId} {ms} (h:P.underlying t=some (.interface ms)) (u:TypeId) (x:Value):(Op.equalIn (d+1) t (.iface u x) .nilIface).run P w = .ok false w:=by
 simp [Op.equalIn,run_underlying h]
theorem Yml (d:Nat) {t:TypeId} {ms} (h:P.underlying t=some (.interface ms)) (u:TypeId) (x:Value):(Op.equalIn (d+1) t .nilIface (.iface u x)).run P w = .ok false w:=by
 simp [Op.equalIn,run_underlying h]
theorem Yjg (d:Nat) {t:TypeId} {ms} (h:P.underlying t=some (.interface ms)):(Op.equalIn (d+1) t .nilIface .nilIface).run P w = .ok true w:=by
 simp [Op.equalIn,run_underlying h]
theorem Yin (d:Nat) {t:TypeId} {a b c} (h:P.underlying t=some (.func a b c)):(Op.equalIn (d+1) t .nilFunc .nilFunc).run P w = .ok true w:=by
 simp [Op.equalIn,run_underlying h]
theorem Yki (d:Nat) {t:TypeId} {a b c} (h:P.underlying t=some (.func a b c)) (f:Fn) (x y:Array Value):(Op.equalIn (d+1) t .nilFunc (.func f x y)).run P w = .ok false w:=by
 simp [Op.equalIn,run_underlying h]
theorem ZM (d:Nat) {t:TypeId} {a b c} (h:P.underlying t=some (.func a b c)) (f:Fn) (x y:Array Value):(Op.equalIn (d+1) t (.func f x y) .nilFunc).run P w = .ok false w:=by
 simp [Op.equalIn,run_underlying h]
theorem Zoq (d:Nat) {t:TypeId} {ms:Array (String×TypeId)} (h:P.underlying t=some (.interface ms)) (hm:ms.isEmpty=true):(Op.eqGuardIn (d+1) t .nilIface .nilIface).run P w = .ok false w:=by
 simp [Op.eqGuardIn,run_underlying h,hm]
theorem Zl2 (op:BinOp) {t:TypeId} {ms:Array (String×TypeId)} (ox oy:Operand) (h:P.underlying t=some (.interface ms)) (hm:ms.isEmpty=true):(eqGuard op t ox oy .nilIface .nilIface).run P w = .ok () w:=by
 have h1:(Op.eqGuardIn Op.maxDepth t .nilIface .nilIface).run P w = .ok false w:=Zoq 9999 h hm
 have h2 : ∀ c : Bool, (if c = true then pure () else do if ← Op.eqGuardIn Op.maxDepth t .nilIface .nilIface then unsupported (.noEntry "binop/eql: two nil values of an interface type with methods, neither of them the literal nil") : Sem Unit).run P w = .ok () w := by
  intro c
  cases c
  ·simp only [a8,if_false,Sem.run_bind,h1,Result.andThen_ok];rfl
  ·rfl
 have h3:=h2 ((ox matches .const _)||(oy matches .const _))
 cases op<;>first | exact h3 | rfl
theorem Ty {t:TypeId} {x y:ae} {vx vy:Value} (hx:bR w M β vx x) (hy:bR w M β vy y) {b:Bool} (h:tZ P t x y=some b) (op:BinOp) (ox oy:Operand) :
  (eqGuard op t ox oy vx vy).run P w = .ok () w∧(Op.equal t vx vy).run P w = .ok b w∧(∀ k n,vx≠.int k n)∧(∀ s,vx≠.string s)∧(∀ k n,vx≠.float k n)∧(∀ k n m,vx≠.complex k n m):=by
 unfold tZ at h
 split at h
 ·rename_i a a' hk
  obtain ⟨i,u,h1,h2,h3⟩:=xe hk
  cases h
  rw [hx.g_,hy.g_]
  refine ⟨by cases op<;>simp [eqGuard],?_,by simp,by simp,by simp,by simp⟩
  exact run_equalIn_bool' w 9999 t a a' (by rw [h2,R7 h3])
 ·rename_i hk
  obtain ⟨i,u,h1,h2,h3⟩:=xe hk
  obtain ⟨e,he⟩:=Ykt h3
  rw [he] at h2
  split at h
  ·rename_i b' e1 e2
   cases h
   obtain ⟨p,rfl,hp⟩:=Hu hx e1
   obtain ⟨q,rfl,hq⟩:=Hu hy e2
   obtain rfl:p=none:=Option.isSome_eq_false_iff.1 hp |> Option.isNone_iff_eq_none.1
   refine ⟨by cases op<;>simp [eqGuard],?_,by simp,by simp,by simp,by simp⟩
   refine (Y9 9999 h2 q).trans ?_
   rw [← hq];cases q<;>rfl
  ·rename_i e1 e2
   cases h
   obtain ⟨p,rfl,hp⟩:=Hu hx e1
   obtain ⟨q,rfl,hq⟩:=Hu hy e2
   obtain rfl:q=none:=Option.isSome_eq_false_iff.1 hq |> Option.isNone_iff_eq_none.1
   obtain ⟨a,rfl⟩:=n_.1 hp
   refine ⟨by cases op<;>simp [eqGuard],?_,by simp,by simp,by simp,by simp⟩
   exact XD 9999 h2 a
  ·cases h
 ·rename_i hk
  obtain ⟨i,u,h1,h2,h3⟩:=xe hk
  obtain ⟨k,e,he⟩:=D_ h3
  rw [he] at h2
  rw [aG] at h
  obtain ⟨b',e1,rfl⟩:=h
  obtain ⟨p,rfl,hp⟩:=Zuv hx e1
  cases hy
  refine ⟨by cases op<;>simp [eqGuard],?_,by simp,by simp,by simp,by simp⟩
  refine (Ykd 9999 h2 p).trans ?_
  rw [← hp];cases p<;>rfl
 ·rename_i hk
  obtain ⟨i,u,h1,h2,h3⟩:=xe hk
  obtain ⟨e,he⟩:=Zzv h3
  rw [he] at h2
  split at h
  ·rename_i e1 e2
   cases h
   rcases DO hx e1 with ⟨h4,_⟩ | ⟨_,t1,x1,rfl⟩
   ·cases h4
   rcases DO hy e2 with ⟨_,rfl⟩ | ⟨h4,_⟩
   ·refine ⟨by cases op<;>simp [eqGuard],?_,by simp,by simp,by simp,by simp⟩
    exact Yj7 9999 h2 _ _
   ·cases h4
  ·rename_i e1 e2
   cases h
   rcases DO hy e2 with ⟨h4,_⟩ | ⟨_,t1,x1,rfl⟩
   ·cases h4
   rcases DO hx e1 with ⟨_,rfl⟩ | ⟨h4,_⟩
   ·refine ⟨by cases op<;>simp [eqGuard],?_,by simp,by simp,by simp,by simp⟩
    exact Yml 9999 h2 _ _
   ·cases h4
  ·rename_i e1 e2
   split at h
   ·rename_i hm
    cases h
    obtain ⟨ms,g1,g2⟩:=Zrr hm
    rcases DO hx e1 with ⟨_,rfl⟩ | ⟨h4,_⟩
    ·rcases DO hy e2 with ⟨_,rfl⟩ | ⟨h4,_⟩
     ·exact ⟨Zl2 op ox oy g1 g2,Yjg 9999 h2,by simp,by simp,by simp,by simp⟩
     ·cases h4
    ·cases h4
   ·cases h
  ·cases h
 ·rename_i hk
  obtain ⟨i,u,h1,h2,h3⟩:=xe hk
  obtain ⟨a1,a2,a3,he⟩:=XQ h3
  rw [he] at h2
  split at h
  ·rename_i b' e1 e2
   cases h
   rcases Hn hx e1 with ⟨_,rfl⟩ | ⟨h4,_⟩
   ·rcases Hn hy e2 with ⟨rfl,rfl⟩ | ⟨rfl,f,p,q,rfl⟩
    ·exact ⟨by cases op<;>simp [eqGuard],Yin 9999 h2,by simp,by simp,by simp,by simp⟩
    ·exact ⟨by cases op<;>simp [eqGuard],Yki 9999 h2 _ _ _,by simp,by simp,by simp,by simp⟩
   ·cases h4
  ·rename_i e1 e2
   cases h
   rcases Hn hx e1 with ⟨h4,_⟩ | ⟨_,f,p,q,rfl⟩
   ·cases h4
   rcases Hn hy e2 with ⟨_,rfl⟩ | ⟨h4,_⟩
   ·exact ⟨by cases op<;>simp [eqGuard],ZM 9999 h2 _ _ _,by simp,by simp,by simp,by simp⟩
   ·cases h4
  ·cases h
 ·rename_i xs ys hk
  split at h
  ·rename_i hc
   cases h
   obtain ⟨rD,kY⟩:=hc
   unfold tY at kY
   split at kY
   ·rename_i fs Gh
    simp only [aD,bT] at kY
    obtain ⟨⟨hg,hh⟩,hi⟩:=kY
    cases hx with
    | agg hxn BP =>
     cases hy with
     | agg hyn EJ =>
      have Vp:P.fieldsOf t=fs:=by simp [Program.fieldsOf,Gh]
      refine ⟨run_eqGuard_agg w op t ox oy _ _ hg,?_,by simp,by simp,by simp,by simp⟩
      refine (run_equalIn_struct w 9999 t _ _ (by rw [Vp];exact Gh) hh).trans ?_
      rw [Vp]
      exact Zqq (P:=P) hxn hyn BP EJ 9998 fs.toList 0 rD hi
   ·cases kY
  ·cases h
 ·cases h
end
section
variable {P:Program} {X:Nat→Nat→Prop} {base:Nat} {σ:ai} {β:Env} {w:World} {nm:Nat} {M:Nat→Nat→Prop}
theorem ZB {op:BinOp} {t:TypeId} {x y r:ae} {vx vy:Value} (hx:bR w M β vx x) (hy:bR w M β vy y) (h:lN P op t x y=some r) (ox oy:Operand) :
  ∃ v,(do eqGuard op t ox oy vx vy;binOp op t vx vy:Sem Value).run P w = .ok v w∧bR w M β v r:=by
 unfold lN at h
 split at h
 ·obtain ⟨b,h1,rfl⟩:=aG.1 h
  obtain ⟨h2,h3,h4,h5,h6,h7⟩:=Ty hx hy h1 .eql ox oy
  refine ⟨.bool b,?_, .bool b⟩
  simp only [Sem.run_bind,h2,Result.andThen_ok]
  clear hx hy
  cases vx<;>first | (exact absurd rfl (h4 _ _)) | (exact absurd rfl (h5 _)) | (exact absurd rfl (h6 _ _)) | (exact absurd rfl (h7 _ _ _)) | (simp only [binOp,Sem.run_bind,h3,Result.andThen_ok,Sem.run_pure])
 ·obtain ⟨b,h1,rfl⟩:=aG.1 h
  obtain ⟨h2,h3,h4,h5,h6,h7⟩:=Ty hx hy h1 .neq ox oy
  refine ⟨.bool !b,?_, .bool !b⟩
  simp only [Sem.run_bind,h2,Result.andThen_ok]
  clear hx hy
  cases vx<;>first | (exact absurd rfl (h4 _ _)) | (exact absurd rfl (h5 _)) | (exact absurd rfl (h6 _ _)) | (exact absurd rfl (h7 _ _ _)) | (simp only [binOp,Sem.run_bind,h3,Result.andThen_ok,Sem.run_pure])
 ·cases h
theorem ZW {op:BinOp} {t:TypeId} {x y r:ae} {vx vy:Value} (hx:bR w M β vx x) (hy:bR w M β vy y) (h:qE P op t x y=some r) (ox oy:Operand) :
  ∃ v,(do eqGuard op t ox oy vx vy;binOp op t vx vy:Sem Value).run P w = .ok v w∧bR w M β v r:=by
 unfold qE at h
 split at h
 ·rename_i k a k' b
  split at h
  ·rename_i hk
   subst hk
   obtain ⟨v,h1,h2⟩:=W4 (P:=P) (w:=w) (M:=M) (β:=β) h
   refine ⟨v,?_,h2⟩
   rw [hx.eg,hy.eg]
   have hg:(eqGuard op t ox oy (.int k a) (.int k b)).run P w = .ok () w:=by cases op<;>simp [eqGuard]
   simp only [Sem.run_bind,hg,Result.andThen_ok]
   cases op<;>first | (simpa [binOp] using h1) | (simp [iA] at h)
  ·cases h
 ·rename_i a b
  obtain ⟨v,h1,h2⟩:=WA (P:=P) (w:=w) (M:=M) (β:=β) h
  refine ⟨v,?_,h2⟩
  rw [hx.gw,hy.gw]
  have hg:(eqGuard op t ox oy (.string a) (.string b)).run P w = .ok () w:=by cases op<;>simp [eqGuard]
  simp only [Sem.run_bind,hg,Result.andThen_ok]
  cases op<;>first | (simpa [binOp] using h1) | (simp [mh] at h)
 ·exact ZB hx hy h ox oy
theorem T0 {neg:Bool} {x r:ae} {vx:Value} (hx:bR w M β vx x) (h:rT neg x=some r):∃ a n c,vx = .slice a n c∧bR w M β (.bool (a.isNone != neg)) r:=by
 have lit:∀ (a:Addr),(some a:Option Addr).isNone=false:=fun _=>rfl
 unfold rT at h
 split at h<;>cases h
 ·cases hx;exact ⟨_,_,_,rfl, .gZ _⟩
 ·cases hx with
  | @ps a cap sz es cv jf ft hc ha hr =>
   refine ⟨_,_,_,rfl,?_⟩
   split
   ·exact .gZ _
   ·obtain ⟨g,o,rfl⟩:=ha (by omega)
    have e:((some (⟨g,o,none⟩:Addr)).isNone != neg)=neg:=by cases neg<;>rfl
    rw [e];exact .bool neg
 ·cases hx with
  | sv a h=>exact ⟨_,_,_,rfl,by rw [if_pos rfl];exact .gZ _⟩
  | os h h1 h2 =>
   refine ⟨_,_,_,rfl,?_⟩
   split
   ·exact .gZ _
   ·cases neg<;>exact .bool _
 ·cases hx with
  | su a h=>exact ⟨_,_,_,rfl,by rw [if_pos rfl];exact .gZ _⟩
  | oc h h1 h2 =>
   refine ⟨_,_,_,rfl,?_⟩
   split
   ·exact .gZ _
   ·cases neg<;>exact .bool _
theorem Ro (d:Nat) {t e:TypeId} (h:P.underlying t=some (.slice e)) (a:Option Addr) (n c:Nat):(Op.equalIn (d+1) t (.slice a n c) (.slice none 0 0)).run P w = .ok a.isNone w:=by
 cases a<;>simp [Op.equalIn,run_underlying h]
theorem Xo {y:Operand} (h:j3 y=true):y = .const (.slice none 0 0):=by
 unfold j3 at h
 split at h
 ·rfl
 ·cases h
theorem ZU {op:BinOp} {t:TypeId} {x r:ae} {vx:Value} (hx:bR w M β vx x) (h:uA P op t x=some r) (ox oy:Operand) :
  ∃ v,(do eqGuard op t ox oy vx (.slice none 0 0);binOp op t vx (.slice none 0 0):Sem Value).run P w = .ok v w∧bR w M β v r:=by
 unfold uA at h
 split at h
 ·rename_i hk
  obtain ⟨i,u,h1,h2,h3⟩:=xe hk
  obtain ⟨e,he⟩:=Cc h3
  rw [he] at h2
  obtain ⟨a,n,c,rfl,hr⟩:=T0 hx h
  refine ⟨_,?_,hr⟩
  have:=Ro (w:=w) 9999 h2 a n c
  have hg:(eqGuard .eql t ox oy (.slice a n c) (.slice none 0 0)).run P w = .ok () w:=by simp [eqGuard]
  have h5:(Op.equal t (.slice a n c) (.slice none 0 0)).run P w = .ok a.isNone w:=this
  simp only [binOp,Sem.run_bind,hg,Result.andThen_ok,h5,Sem.run_pure]
  cases a<;>rfl
 ·rename_i hk
  obtain ⟨i,u,h1,h2,h3⟩:=xe hk
  obtain ⟨e,he⟩:=Cc h3
  rw [he] at h2
  obtain ⟨a,n,c,rfl,hr⟩:=T0 hx h
  refine ⟨_,?_,hr⟩
  have:=Ro (w:=w) 9999 h2 a n c
  have hg:(eqGuard .neq t ox oy (.slice a n c) (.slice none 0 0)).run P w = .ok () w:=by simp [eqGuard]
  have h5:(Op.equal t (.slice a n c) (.slice none 0 0)).run P w = .ok a.isNone w:=this
  simp only [binOp,Sem.run_bind,hg,Result.andThen_ok,h5,Sem.run_pure]
  cases a<;>rfl
 ·cases h
theorem Ysh {op:UnOp} {x r:ae} {vx:Value} (hx:bR w M β vx x) (h:EO op x=some r):∃ v,(Op.unary op vx).run P w = .ok v w∧bR w M β v r:=by
 cases x<;>simp only [EO,reduceCtorEq] at h
 ·rw [hx.g_]
  cases op<;>simp only [reduceCtorEq,aE] at h
  subst h
  exact ⟨_,rfl, .bool _⟩
 ·rw [hx.eg]
  cases op<;>simp only [reduceCtorEq,aE] at h
  subst h
  exact ⟨_,rfl, .int _ _⟩
theorem Zrd {s d:TypeId} {x r:ae} {vx:Value} (hx:bR w M β vx x) (h:oM P s d x=some r):∃ v,(convert s d vx).run P w = .ok v w∧bR w M β v r:=by
 unfold oM at h
 split at h
 ·rename_i ks k k' n h1 h2
  cases h
  obtain ⟨_,us,_,h3,_⟩:=xe h1
  obtain ⟨_,ud,_,h4,h5⟩:=xe h2
  obtain rfl:=H9 h5
  rw [hx.eg]
  exact ⟨_,by simp only [convert,Sem.run_bind,run_underlying h3,run_underlying h4,Result.andThen_ok,Conv.intToInt];rfl, .int _ _⟩
 ·rename_i y h1 h2
  cases h
  obtain ⟨_,us,_,h3,wR⟩:=xe h1
  obtain ⟨_,ud,_,h4,h5⟩:=xe h2
  obtain rfl:=zR h5
  obtain rfl:=zR wR
  rw [hx.gw]
  exact ⟨_,by simp only [convert,Sem.run_bind,run_underlying h3,run_underlying h4,Result.andThen_ok];rfl, .str _⟩
 ·cases h
theorem tH {t:TypeId} {T:jH} (h:bJ P t=some T):∃ u,aC P t=some T.lay∧P.underlying t=some u∧i_ u=T.kind ∧
  T.oO=(match u with | .struct fs=>fs.toList.map fun f=>(f.offset,aC P f.type) | _=>[]) ∧
  T.elem=(match u with | .slice e=>aC P e | .array _ e=>aC P e | .map _ e=>aC P e | _=>none) ∧
  T.Dy=(match u with | .map k _=>aC P k | _=>none):=by
 unfold bJ at h
 split at h
 ·rename_i l u h1 h2
  cases h
  obtain ⟨i,u',z,h3,h4,_,_,_,_,_,h5,_⟩:=pW h1
  obtain rfl:=aM (h2.symm.trans h4)
  exact ⟨u,h1,h2,h5,rfl,rfl,rfl⟩
 ·cases h
theorem RL {lo hi:Nat} {a:ae} {v:Value} {n:Nat} (hv:bR w M β v a) (h:jB lo hi a=some n) :
  ∃ k i,v = .int k i∧(lo:Int)≤i∧i≤hi∧n=i.toNat:=by
 unfold jB at h
 split at h
 ·split at h
  ·rename_i hc;cases h;exact ⟨_,_,hv.eg,hc.1,hc.2,rfl⟩
  ·cases h
 ·cases h
theorem D4 {lo hi:Nat} {a:ae} {v:Value} {n:Nat} (hv:bR w M β v a) (h:jB lo hi a=some n) (code:BoundsCode) :
  (Instr.sliceBound v hi code).run P w = .ok n w∧lo≤n∧n≤hi:=by
 obtain ⟨k,i,rfl,h1,h2,rfl⟩:=RL hv h
 exact ⟨run_sliceBound w k i hi code (by omega) h2,by omega,by omega⟩
inductive kF (w:World) (M:Nat→Nat→Prop) (β:Env):Option Value→Option ae→Prop
 | none:kF w M β none none
 | some {v:Value} {a:ae} (h:bR w M β v a):kF w M β (some v) (some a)
theorem EY {Dx:Bool} {n c:Nat} (hc:n≤c) {lo hi:Option ae} {uI wD:Option Value} (iL:kF w M β uI lo) (yf:kF w M β wD hi) {h l:Nat}
  (e1:wU n hi=some h) (e2:rh h lo=some l):(Instr.sliceBounds Dx n c uI wD none).run P w = .ok (l,h,c) w∧l≤h∧h≤n:=by
 have dR:∀ {a v},bR w M β v a→jB 0 n a=some h→∀ code,(Instr.sliceBound v c code).run P w = .ok h w∧h≤n:=by
  intro a v hv e code
  obtain ⟨k,i,rfl,h1,h2,rfl⟩:=RL hv e
  exact ⟨run_sliceBound w k i c _ (by omega) (by omega),by omega⟩
 have lo':∀ {a v},bR w M β v a→jB 0 h a=some l→∀ code,(Instr.sliceBound v h code).run P w = .ok l w∧l≤h:=by
  intro a v hv e code
  obtain ⟨h1,h2,h3⟩:=D4 (P:=P) hv e code
  exact ⟨h1,h3⟩
 cases yf with
 | none =>
  simp only [wU,aE] at e1
  subst e1
  cases iL with
  | none =>
   simp only [rh,aE] at e2
   subst e2
   exact ⟨rfl,by omega,ah _⟩
  | some hl =>
   obtain ⟨h1,h2⟩:=lo' hl e2 .sliceB
   refine ⟨?_,h2,ah _⟩
   simp [Instr.sliceBounds,h1]
 | some hh =>
  obtain ⟨h3,h4⟩:=dR hh e1 (if Dx then .sliceAcap else .sliceAlen)
  cases iL with
  | none =>
   simp only [rh,aE] at e2
   subst e2
   refine ⟨?_,by omega,h4⟩
   simp [Instr.sliceBounds,h3]
  | some hl =>
   obtain ⟨h1,h2⟩:=lo' hl e2 .sliceB
   refine ⟨?_,h2,h4⟩
   simp [Instr.sliceBounds,h1,h3]
theorem Zuq {n c:Nat} {lo hi:Option ae} {uI wD:Option Value} (Jb:n≤c) (iL:kF w M β uI lo) (yf:kF w M β wD hi) {h l:Nat}
  (e1:C2 n c hi=some h) (e2:rh h lo=some l):(Instr.sliceBounds true n c uI wD none).run P w = .ok (l,h,c) w∧l≤h∧h≤c:=by
 have lo':∀ {a v},bR w M β v a→jB 0 h a=some l→∀ code,(Instr.sliceBound v h code).run P w = .ok l w∧l≤h:=by
  intro a v hv e code
  obtain ⟨h1,h2,h3⟩:=D4 (P:=P) hv e code
  exact ⟨h1,h3⟩
 cases yf with
 | none =>
  simp only [C2,aE] at e1
  subst e1
  cases iL with
  | none =>
   simp only [rh,aE] at e2
   subst e2
   exact ⟨rfl,by omega,Jb⟩
  | some hl =>
   obtain ⟨h1,h2⟩:=lo' hl e2 .sliceB
   exact ⟨by simp [Instr.sliceBounds,h1],h2,Jb⟩
 | some hh =>
  obtain ⟨h3,_,h4⟩:=D4 (P:=P) hh e1 .sliceAcap
  cases iL with
  | none =>
   simp only [rh,aE] at e2
   subst e2
   exact ⟨by simp [Instr.sliceBounds,h3],by omega,h4⟩
  | some hl =>
   obtain ⟨h1,h2⟩:=lo' hl e2 .sliceB
   exact ⟨by simp [Instr.sliceBounds,h1,h3],h2,h4⟩
theorem Zua {n c m:Nat} {lo:Option ae} {ha ma:ae} {uI:Option Value} {vh vm:Value} (iL:kF w M β uI lo) (hh:bR w M β vh ha) (hm:bR w M β vm ma) {h l:Nat}
  (e0:jB 0 c ma=some m) (e1:jB 0 m ha=some h) (e2:rh h lo=some l):(Instr.sliceBounds true n c uI (some vh) (some vm)).run P w = .ok (l,h,m) w∧l≤h∧h≤m∧m≤c:=by
 obtain ⟨h1,_,h2⟩:=D4 (P:=P) hm e0 .slice3Acap
 obtain ⟨h3,_,h4⟩:=D4 (P:=P) hh e1 .slice3B
 cases iL with
 | none =>
  simp only [rh,aE] at e2
  subst e2
  exact ⟨by simp [Instr.sliceBounds,h1,h3],by omega,h4,h2⟩
 | some hl =>
  obtain ⟨h5,_,h6⟩:=D4 (P:=P) hl e2 .slice3C
  exact ⟨by simp [Instr.sliceBounds,h1,h3,h5],h6,h4,h2⟩
theorem LL {ρ:Operand→Value} {gU:Operand→ae} (dL:∀ x,bR w M β (ρ x) (gU x)) (o:Option Operand):kF w M β (o.map ρ) (o.map gU):=by
 cases o with
 | none=>exact .none
 | some x=>exact .some (dL x)
theorem D3 {α β γ:Type} {x:Option α} {f : α→Option β} {g : α→β→γ} {r : γ} (h:x.bind (fun a=>(f a).bind fun b=>some (g a b))=some r):∃ a b,x=some a∧f a=some b∧g a b=r:=by
 cases x with
 | none=>simp at h
 | some a =>
  simp only [ew] at h
  cases hf:f a with
  | none=>rw [hf] at h;simp at h
  | some b=>rw [hf] at h;simp at h;exact ⟨a,b,rfl,hf,h⟩
theorem tE {t:TypeId} {T:jH} (hT:bJ P t=some T) (hk:T.kind = .slice):∃ e,P.underlying t=some (.slice e)∧T.elem=aC P e:=by
 obtain ⟨u,h1,h2,h3,_,h5,_⟩:=tH hT
 obtain ⟨e,rfl⟩:=Cc (h3.trans hk)
 exact ⟨e,h2,h5⟩
theorem Hm {t e:TypeId} {i:TypeInfo} (ht:P.underlying t=some (.slice e)) (hi:P.info? e=some i) {a:Option Addr} {n c l h:Nat} {uI wD:Option Value}
  (hb:(Instr.sliceBounds true n c uI wD none).run P w = .ok (l,h,c) w) :
  (Instr.sliceAt t (.slice a n c) uI wD none).run P w = .ok (.slice (if c=l then a else a.map (·.add (l*i.size))) (h - l) (c - l)) w:=by
 simp [Instr.sliceAt,Instr.slice,run_underlying ht,hb,tF hi]
theorem P0 {t e:TypeId} {i:TypeInfo} (ht:P.underlying t=some (.slice e)) (hi:P.info? e=some i) {a:Option Addr} {n c l h m:Nat} {uI wD Hd:Option Value}
  (hb:(Instr.sliceBounds true n c uI wD Hd).run P w = .ok (l,h,m) w) :
  (Instr.sliceAt t (.slice a n c) uI wD Hd).run P w = .ok (.slice (if m=l then a else a.map (·.add (l*i.size))) (h - l) (m - l)) w:=by
 simp [Instr.sliceAt,Instr.slice,run_underlying ht,hb,tF hi]
theorem Qi {v:Value} {b off n c s l h m:Nat} (hx:bR w M β v (.oc b off n c s)) (h1:l≤h) (h2:h≤m) (h3:m≤c):∃ a,v = .slice a n c∧n≤c ∧
  bR w M β (.slice (if m=l then a else a.map (·.add (l*s))) (h - l) (m - l)) (.oc b (off+l) (h - l) (m - l) s):=by
 cases hx with
 | su ad hL =>
  refine ⟨_,rfl,ah _,?_⟩
  obtain rfl:l=0:=by omega
  obtain rfl:h=0:=by omega
  obtain rfl:m=0:=by omega
  exact .su _ hL
 | @oc _ _ _ _ L hL hl hc =>
  refine ⟨_,rfl,hl,?_⟩
  by_cases e:m=l
  ·rw [show h - l=0 by omega,show m - l=0 by omega]
   exact .su _ hL
  ·rw [if_neg e]
   simp only [bw,Addr.add_lit]
   rw [show L.o+off*L.sz+l*L.sz=L.o+(off+l)*L.sz by rw [bH];omega]
   exact .oc hL (by omega) (by omega)
theorem Cr {e:TypeId} {T:jH} (iS:T.elem=aC P e) {sz:Nat} (h:T.uR=some sz):∃ i,P.info? e=some i∧i.size=sz:=by
 unfold jH.uR at h
 rw [iS] at h
 obtain ⟨l,h1,h2⟩:=aG.1 h
 obtain ⟨i,u,z,h3,_,_,h4,_⟩:=pW h1
 exact ⟨i,h3,h4.trans h2⟩
theorem Zyy {t:TypeId} {T:jH} (hT:bJ P t=some T) {vx:Value} {x r:ae} {uI wD Hd:Option Value} {lo hi mx:Option ae} (hx:bR w M β vx x)
  (iL:kF w M β uI lo) (yf:kF w M β wD hi) (Ja:kF w M β Hd mx) (h:iN T x lo hi mx=some r) :
  ∃ v,(Instr.sliceAt t vx uI wD Hd).run P w = .ok v w∧bR w M β v r:=by
 unfold iN at h
 cases Ja with
 | some hm =>
  simp only at h
  split at h
  ·rename_i bk off n c sz
   split at h
   ·rename_i hk
    obtain ⟨e,ht,iS⟩:=tE hT hk.1
    obtain ⟨i,dR,hs⟩:=Cr iS hk.2
    obtain ⟨m,e0,h⟩:=ax.1 h
    obtain ⟨b,a,e1,e2,rfl⟩:=D3 h
    obtain ⟨ha,rfl,e1⟩:=ax.1 e1
    cases yf with
    | some hh =>
     obtain ⟨h4,h5,h6,h7⟩:=Zua (P:=P) (n:=n) iL hh hm e0 e1 e2
     obtain ⟨ad,rfl,h8,h9⟩:=Qi hx h5 h6 h7
     exact ⟨_,P0 ht dR h4,by rw [hs];exact h9⟩
   ·cases h
  ·cases h
 | none =>
  simp only at h
  split at h
  ·rename_i bk off n c sz
   split at h
   ·rename_i hk
    obtain ⟨e,ht,iS⟩:=tE hT hk.1
    obtain ⟨i,dR,hs⟩:=Cr iS hk.2
    obtain ⟨b,a,e1,e2,rfl⟩:=D3 h
    have Jb:n≤c:=by
     cases hx with
     | su=>exact ah _
     | oc _ hl _=>exact hl
    obtain ⟨h4,h5,h6⟩:=Zuq (P:=P) Jb iL yf e1 e2
    obtain ⟨ad,rfl,h8,h9⟩:=Qi hx h5 h6 (ah _)
    exact ⟨_,P0 ht dR h4,by rw [hs];exact h9⟩
   ·cases h
  ·rename_i s
   split at h
   ·rename_i hk
    obtain ⟨u,h1,h2,h3,_⟩:=tH hT
    obtain rfl:=zR (h3.trans hk)
    obtain ⟨b,a,e1,e2,rfl⟩:=D3 h
    obtain ⟨h4,h5,h6⟩:=EY (P:=P) (Dx:=false) (ah _) iL yf e1 e2
    rw [hx.gw]
    exact ⟨.string (s.extract a b),by simp [Instr.sliceAt,Instr.slice,run_underlying h2,h4], .str _⟩
   ·cases h
  ·rename_i sz es
   split at h
   ·rename_i hk
    obtain ⟨e,ht,iS⟩:=tE hT hk.1
    obtain ⟨i,dR,hs⟩:=Cr iS hk.2
    obtain ⟨b,a,e1,e2,rfl⟩:=D3 h
    cases hx with
    | @ps ad cap _ _ cv jf ft hc ha hr =>
     obtain ⟨h4,h5,h6⟩:=EY (P:=P) (Dx:=true) jf iL yf e1 e2
     refine ⟨_,Hm ht dR h4,?_⟩
     have hl:((es.drop a).take (b - a)).length=b - a:=by simp;omega
     have eH:∀ k,k<b - a→((es.drop a).take (b - a)).getD k ae.undef=es.getD (a+k) .undef:=fun k hk=>by
      simp [List.getD,e9,hk,dJ]
     have key:bR w M β (.slice (if cap=a then ad else ad.map (·.add (a*i.size))) ((es.drop a).take (b - a)).length (cap - a)) (.ps sz ((es.drop a).take (b - a))):=by
      refine .ps (fun k j=>cv (a+k) j) (by omega) (fun k eA=>?_) (fun k j eA hj=>?_) (fun h0=>?_) (fun k j eA hj=>?_)
      ·rw [eH k (by omega)];exact ft _ (by omega)
      ·obtain ⟨g,o,h7,h8,h9⟩:=hc (a+k) j (by omega) hj
       have e3:o+(a+k)*sz+j=o+a*sz+k*sz+j:=by rw [bH];omega
       rw [e3] at h8 h9
       refine ⟨g,o+a*sz,?_,h8,h9⟩
       rw [h7,if_neg (by omega),hs]
       simp [Addr.add_lit]
      ·obtain ⟨g,o,h7⟩:=ha (by omega)
       refine ⟨g,o+a*sz,?_⟩
       rw [h7,if_neg (by omega),hs]
       simp [Addr.add_lit]
      ·rw [eH k (by omega)];exact hr _ j (by omega) hj
     rw [hl] at key
     exact key
   ·cases h
  ·rename_i bk off n sz
   split at h
   ·rename_i hk
    obtain ⟨e,ht,iS⟩:=tE hT hk.1
    obtain ⟨i,dR,hs⟩:=Cr iS hk.2
    obtain ⟨b,a,e1,e2,rfl⟩:=D3 h
    cases hx with
    | sv ad hL =>
     obtain ⟨h4,h5,h6⟩:=EY (P:=P) (Dx:=true) (ah 0) iL yf e1 e2
     obtain rfl:b=0:=by omega
     obtain rfl:a=0:=by omega
     exact ⟨_,Hm ht dR h4, .sv _ hL⟩
    | @os _ _ _ cap L hL hl hc =>
     obtain ⟨h4,h5,h6⟩:=EY (P:=P) (Dx:=true) hl iL yf e1 e2
     refine ⟨_,Hm ht dR h4,?_⟩
     by_cases e3:cap=a
     ·rw [if_pos e3]
      rw [show cap - a=0 by omega,show b - a=0 by omega]
      exact .sv _ hL
     ·rw [if_neg e3,hs]
      simp only [bw,Addr.add_lit]
      rw [show L.o+off*L.sz+a*L.sz=L.o+(off+a)*L.sz by rw [bH];omega]
      exact .os hL (by omega) (by omega)
   ·cases h
  ·split at h
   ·rename_i hk
    obtain ⟨e,ht,iS⟩:=tE hT hk.1
    obtain ⟨l',Gq⟩:=n_.1 hk.2
    rw [iS] at Gq
    obtain ⟨i,u,z,dR,_⟩:=pW Gq
    obtain ⟨b,a,e1,e2,rfl⟩:=D3 h
    cases hx with
    | aU ad =>
     obtain ⟨h4,h5,h6⟩:=EY (P:=P) (Dx:=true) (ah 0) iL yf e1 e2
     obtain rfl:b=0:=by omega
     obtain rfl:a=0:=by omega
     exact ⟨_,Hm ht dR h4, .aU _⟩
   ·cases h
  ·cases h
theorem Zmd {t:TypeId} {T:jH} (hT:bJ P t=some T) {vx vi:Value} {x i r:ae} (hx:bR w M β vx x) (hi:bR w M β vi i) (h:fg T x i=some r) :
  ∃ v,(Instr.indexAt t vx vi).run P w = .ok v w∧bR w M β v r:=by
 unfold fg at h
 split at h
 ·rename_i k i
  rw [hi.eg]
  split at h
  ·rename_i b off n sz
   split at h
   ·rename_i hk
    obtain ⟨e,ht,iS⟩:=tE hT hk.1
    obtain ⟨ti,dR,hs⟩:=Cr iS hk.2.1
    cases h
    cases hx with
    | sv ad hL=>exfalso;have:=hk.2.2;omega
    | @os _ _ _ cap L hL hl hc =>
     refine ⟨.pointer (some ⟨L.g,L.o+(off+i.toNat)*L.sz+0,none⟩),?_, .rp hL⟩
     simp only [Instr.indexAt,asIntOf,Sem.run_bind,Sem.run_pure,Result.andThen_ok,run_underlying ht]
     rw [if_pos (by omega)]
     simp only [Sem.run_bind,tF dR,Result.andThen_ok,Sem.run_pure,Addr.add_lit,hs]
     rw [bH,← ff];rfl
   ·cases h
  ·rename_i b off n c sz
   split at h
   ·rename_i hk
    obtain ⟨e,ht,iS⟩:=tE hT hk.1
    obtain ⟨ti,dR,hs⟩:=Cr iS hk.2.1
    cases h
    cases hx with
    | su ad hL=>exfalso;have:=hk.2.2;omega
    | @oc _ _ _ cap L hL hl hc =>
     refine ⟨.pointer (some ⟨L.g,L.o+(off+i.toNat)*L.sz+0,none⟩),?_, .rp hL⟩
     simp only [Instr.indexAt,asIntOf,Sem.run_bind,Sem.run_pure,Result.andThen_ok,run_underlying ht]
     rw [if_pos (by omega)]
     simp only [Sem.run_bind,tF dR,Result.andThen_ok,Sem.run_pure,Addr.add_lit,hs]
     rw [bH,← ff];rfl
   ·cases h
  ·rename_i sz es
   split at h
   ·rename_i hk
    obtain ⟨e,ht,iS⟩:=tE hT hk.1
    obtain ⟨ti,dR,hs⟩:=Cr iS hk.2.1
    cases h
    cases hx with
    | @ps ad cap _ _ cv jf ft hc ha hr =>
     have bD:i.toNat<es.length:=by omega
     obtain ⟨g,o,h7⟩:=ha (by omega)
     refine ⟨.pointer (some ⟨g,o+i.toNat*sz,none⟩),?_, .pp (fun j=>cv i.toNat j) (fun j hj=>?_) (fun j hj=>?_)⟩
     ·simp only [Instr.indexAt,asIntOf,Sem.run_bind,Sem.run_pure,Result.andThen_ok,run_underlying ht,h7]
      rw [if_pos (by omega)]
      simp only [Sem.run_bind,tF dR,Result.andThen_ok,Sem.run_pure,Addr.add_lit,hs]
     ·rw [ft i.toNat bD] at hj
      obtain ⟨g',o',h8,h9⟩:=hc i.toNat j bD hj
      rw [h7] at h8
      simp only [aE,Addr.mk.injEq,and_true] at h8
      obtain ⟨rfl,rfl⟩:=h8
      exact h9
     ·rw [ft i.toNat bD] at hj
      exact hr i.toNat j bD hj
   ·cases h
  ·rename_i b off
   split at h
   ·rename_i n e hk he
    split at h
    ·rename_i hb
     cases h
     obtain ⟨u,h1,h2,h3,_,h5,_⟩:=tH hT
     obtain ⟨et,rfl⟩:=HE (h3.trans hk)
     rw [he] at h5
     obtain ⟨ti,_,_,qs,_,_,hs,_⟩:=pW h5.symm
     cases hx with
     | @ptr _ _ L hL =>
      refine ⟨.pointer (some ⟨L.g,L.o+(off+i.toNat*e.sz),none⟩),?_, .ptr hL⟩
      simp only [Instr.indexAt,asIntOf,Sem.run_bind,Sem.run_pure,Result.andThen_ok,run_underlying h2,Instr.sureAddr]
      rw [if_pos hb]
      simp only [Sem.run_bind,tF qs,Result.andThen_ok,Sem.run_pure,Addr.add_lit,hs]
      rw [ff]
    ·cases h
   ·cases h
  ·cases h
 ·cases h
theorem Zzk {t:TypeId} {T:jH} (hT:bJ P t=some T) {vx vi:Value} {x i r:ae} (hx:bR w M β vx x) (hi:bR w M β vi i) (h:pJ T x i=some r) :
  ∃ v,(Instr.index t vx vi).run P w = .ok v w∧bR w M β v r:=by
 unfold pJ at h
 split at h
 ·rename_i cs k i
  rw [hi.eg]
  split at h
  ·rename_i n e hk he
   split at h
   ·rename_i hb
    obtain ⟨u,h1,h2,h3,_,h5,_⟩:=tH hT
    obtain ⟨et,rfl⟩:=HE (h3.trans hk)
    rw [he] at h5
    obtain ⟨ti,_,_,qs,_,_,hs,_⟩:=pW h5.symm
    cases hx with
    | agg hn hr =>
     obtain ⟨v,h6,h7⟩:=Ql (P:=P) h5.symm hn hr h
     refine ⟨v,?_,h7⟩
     simp only [Instr.index,asIntOf,Sem.run_bind,Sem.run_pure,Result.andThen_ok,run_underlying h2]
     rw [if_pos hb]
     simp only [Sem.run_bind,tF qs,Result.andThen_ok,hs,h6]
   ·cases h
  ·cases h
 ·rename_i s k i
  split at h
  ·rename_i hb
   obtain ⟨hb,hk⟩:=hb
   cases h
   rw [hi.eg,hx.gw]
   obtain ⟨u,h1,h2,h3,_⟩:=tH hT
   obtain rfl:=zR (h3.trans hk)
   refine ⟨_,?_, .int _ _⟩
   simp only [Instr.index,asIntOf,Sem.run_bind,Sem.run_pure,Result.andThen_ok,run_underlying h2]
   rw [if_pos hb.1,getElem?_pos s i.toNat hb.2];rfl
  ·cases h
 ·cases h
theorem Zmb {t:TypeId} {T:jH} (hT:bJ P t=some T) {vx:Value} {x r:ae} {i:Nat} (hx:bR w M β vx x) (h:jL T x i=some r) :
  ∃ v,(Instr.fieldAt t vx i).run P w = .ok v w∧bR w M β v r:=by
 unfold jL at h
 split at h
 ·rename_i off l hk hf
  split at h
  ·rename_i ft
   obtain ⟨u,h1,h2,h3,h4,_⟩:=tH hT
   obtain ⟨fs,rfl⟩:=JR (h3.trans hk)
   simp only at h4
   rw [h4,cd] at hf
   obtain ⟨f,vq,oP⟩:=aG.1 hf
   simp only [bu] at oP
   obtain ⟨rfl,hl⟩:=oP
   obtain ⟨ti,_,_,qs,_,_,hs,_⟩:=pW hl
   have MN:fs[i]? = some f:=by simpa using vq
   have run:∀ g o,(Instr.fieldAt t (.pointer (some ⟨g,o,none⟩)) i).run P w = .ok (.pointer (some ⟨g,o+f.offset,none⟩)) w:=by
    intro g o
    have:¬ ti.size=0:=by omega
    simp [Instr.fieldAt,run_underlying h2,MN,Instr.sureAddr,fieldPlace,tF qs,this,Addr.add_lit]
   split at h
   ·cases h
    cases hx with
    | @ptr b o L hL=>exact ⟨_,run _ _,by rw [ff];exact .ptr hL⟩
   ·cases h
    cases hx with
    | @rp b o fo L hL=>exact ⟨_,run _ _,by rw [ff];exact .rp hL⟩
   ·rename_i cs
    cases h
    cases hx with
    | @pp g o _ cv hc hr =>
     refine ⟨_,run _ _, .pp (fun k=>cv (f.offset+k)) (fun k eA=>?_) (fun k eA=>?_)⟩
     ·simp only [cg] at eA
      have:=hc (f.offset+k) (by omega)
      rwa [← ff] at this
     ·simp only [cg] at eA
      rw [JL];exact hr _ (by omega)
   ·cases h
  ·cases h
 ·cases h
theorem W2 {t:TypeId} {T:jH} (hT:bJ P t=some T) {vx:Value} {x r:ae} {i:Nat} (hx:bR w M β vx x) (h:pD T x i=some r) :
  ∃ v,(Instr.field t vx i).run P w = .ok v w∧bR w M β v r:=by
 unfold pD at h
 split at h
 ·rename_i off l cs hk hf
  obtain ⟨u,h1,h2,h3,h4,_⟩:=tH hT
  obtain ⟨fs,rfl⟩:=JR (h3.trans hk)
  simp only at h4
  rw [h4,cd] at hf
  obtain ⟨f,vq,oP⟩:=aG.1 hf
  simp only [bu] at oP
  obtain ⟨rfl,hl⟩:=oP
  have MN:fs[i]? = some f:=by simpa using vq
  cases hx with
  | agg hn hr =>
   obtain ⟨v,h6,h7⟩:=Ql (P:=P) hl hn hr h
   exact ⟨v,by simp [Instr.field,run_underlying h2,MN,asAgg,h6],h7⟩
 ·cases h
end
section
variable {P:Program} {X:Nat→Nat→Prop} {base:Nat} {σ:ai} {β:Env} {w:World} {nm:Nat} {M:Nat→Nat→Prop}
theorem Fh (k:ae):∀ (ks:List ae) (i j:Nat),e8 k ks i=some j→i≤j∧j - i<ks.length
 | [],_,_,h=>by simp [e8] at h
 | x :: xs,i,j,h=>by
  simp only [e8] at h
  split at h
  ·cases h;simp
  ·have:=Fh k xs (i+1) j h;simp;omega
theorem QF {T:jH} {t:TypeId} (hT:bJ P t=some T) (hk:T.kind = .map) {k:ae} (h:nc T k=true) :
  ∃ kt et u,P.underlying t=some (.map kt et)∧T.elem=aC P et∧P.underlying kt=some u ∧
   ((∃ ik n,u = .int ik∧k = .int ik n)∨(∃ s,u = .string∧k = .str s)):=by
 obtain ⟨u,h1,h2,h3,_,h5,h6⟩:=tH hT
 obtain ⟨kt,et,rfl⟩:=D_ (h3.trans hk)
 simp only at h5 h6
 unfold nc at h
 rw [h6] at h
 cases hl:aC P kt with
 | none=>rw [hl] at h;simp at h
 | some l =>
  rw [hl] at h
  simp only [bw] at h
  obtain ⟨_,u,_,_,hu,_,_,_,_,_,C6,_⟩:=pW hl
  refine ⟨kt,et,u,h2,h5,hu,?_⟩
  split at h
  ·rename_i k' ik n e1
   simp only [aE] at e1
   rw [← C6] at e1
   simp only [beq_iff_eq] at h
   subst h
   exact .inl ⟨_,_,H9 e1,rfl⟩
  ·rename_i s e1
   simp only [aE] at e1
   rw [← C6] at e1
   exact .inr ⟨_,zR e1,rfl⟩
  ·cases h
theorem Qj {kt:TypeId} {u:TypeDesc} (hu:P.underlying kt=some u) (h:(∃ ik,u = .int ik)∨u = .string) (e:Bool) (n:Nat) (v:Value) :
  (Instr.checkKey e (n+1) kt v).run P w = .ok () w:=by
 rcases h with ⟨ik,rfl⟩ | rfl<;>simp [Instr.checkKey,run_underlying hu]
theorem Zyz {u:TypeDesc} {k x:ae} {vk vx:Value} (hu:(∃ ik n,u = .int ik∧k = .int ik n)∨(∃ s,u = .string∧k = .str s)) (hk:bR w M β vk k) (hx:bR w M β vx x)
  (hs:sameKind k x=true):Instr.sameNow u vk vx=some (fb k x):=by
 rcases hu with ⟨ik,n,rfl,rfl⟩ | ⟨s,rfl,rfl⟩
 ·cases x<;>simp only [sameKind,reduceCtorEq,a8,beq_iff_eq] at hs
  subst hs
  rw [hk.eg,hx.eg]
  simp [Instr.sameNow,fb]
 ·cases x<;>simp only [sameKind,reduceCtorEq,a8] at hs
  rw [hk.gw,hx.gw]
  simp [Instr.sameNow,fb,beq_toListBytes]
theorem Zip {u:TypeDesc} {k:ae} {vk:Value} (hu:(∃ ik n,u = .int ik∧k = .int ik n)∨(∃ s,u = .string∧k = .str s)) (hk:bR w M β vk k) :
  ∀ (es:List MapEntry) (ks:List ae) (i:Nat),es.length=ks.length→(∀ j,j<ks.length→bR w M β (es.getD j default).key (ks.getD j .undef))→(∀ x∈ks,sameKind k x=true) →
   Instr.findNow u vk es i=some ((e8 k ks i).map fun j=>(j,(es.getD (j - i) default).val))
 | [],[],i,_,_,_=>rfl
 | [],_ :: _,_,h,_,_=>by simp at h
 | _ :: _,[],_,h,_,_=>by simp at h
 | e :: es,x :: xs,i,hl,hr,hs=>by
  have h0:=hr 0 (by simp)
  simp only [bg] at h0
  simp only [Instr.findNow,Zyz hu hk h0 (hs x (by simp)),e8]
  cases hc:fb k x with
  | true=>simp
  | false =>
   have ih:=Zip hu hk es xs (i+1) (by simpa using hl) (fun j hj=>by simpa using hr (j+1) (by simpa using hj)) (fun y hy=>hs y (by simp [hy]))
   simp only [a8,if_false]
   rw [ih]
   cases hf:e8 k xs (i+1) with
   | none=>rfl
   | some j =>
    have:=Fh k xs (i+1) j hf
    simp only [bw]
    rw [show j - i=(j - (i+1))+1 by omega,bB]
theorem Be {t:TypeId} {l:eI} (hl:aC P t=some l):∃ z,(zeroValue t).run P w = .ok z w∧bR w M β z (zeroV l)∧z.cells.size=l.sz∧l.zero.length=l.sz ∧
  (∀ k,k<l.sz→bR w M β (z.cells.getD k undef) (l.zero.getD k .undef))∧A0 l.ag z=true:=by
 obtain ⟨i,u,z,h1,h2,h3,h4,h5,h6,h7,h8,h9,ub⟩:=pW hl
 have hn:l.zero.length=l.sz:=by rw [← h7];simp [sA];exact ub
 have hz:∀ k,k<l.sz→bR w M β (z.cells.getD k undef) (l.zero.getD k .undef):=by
  intro k hk
  rw [← ub] at hk
  have:(sA z).getD k .undef=ofValue (z.cells.getD k undef):=by simp [sA,List.getD,hk,Array.getD]
  rw [← h7,this]
  exact JT _
 refine ⟨z,Hl h1 h3,?_,ub,hn,hz,h9⟩
 unfold zeroV
 cases z with
 | agg cs =>
  have ha:l.ag=true:=by simpa [A0] using h9
  rw [if_pos ha]
  exact .agg (by rw [hn,← ub];rfl) (fun k hk=>hz k (by omega))
 | tuple cs=>simp [A0] at h9
 | _ =>
  have ha:¬ l.ag=true:=by intro ha;rw [ha] at h9;simp [A0] at h9
  rw [if_neg ha]
  have e1:l.zero=[ofValue _]:=h7.symm
  rw [e1]
  exact JT _
theorem E6 {v:Value} {a:ae} (h:bR w M β v a) (hc:a.cells.all ae.cI=true):v.cells.size=a.cells.length∧(∀ k,k<a.cells.length→bR w M β (v.cells.getD k undef) (a.cells.getD k .undef)) ∧
  (cL a=false→v.oneCell'=true)∧(∀ u∈v.cells.toList,u.oneCell'=true):=by
 have one:∀ {v:Value} {a:ae},bR w M β v a→a.cI=true→v.oneCell'=true:=by
  intro v a h hc
  cases h<;>first | rfl | (simp [ae.cI] at hc)
 cases a with
 | agg l =>
  cases h with
  | @agg cs _ hn hr =>
   refine ⟨hn,hr,fun e=>by simp [cL] at e,fun u hu=>?_⟩
   obtain ⟨k,hk,rfl⟩:=ml hu
   simp only [Value.cells] at hk
   simp only [bA] at hk
   have h1:=hr k (by omega)
   have h2:(cs.getD k undef)=cs[k]:=by simp [Array.getD,hk]
   rw [h2] at h1
   refine one h1 ?_
   simp only [ae.cells,bp] at hc
   have h3:k<l.length:=by omega
   have:l.getD k .undef=l[k]:=by simp [List.getD,h3]
   rw [this]
   exact hc _ (aF h3)
 | _ =>
  have h1:=one h (by simpa [ae.cells] using hc)
  have h2:v.cells = #[v]:=by cases v<;>first | rfl | (simp [Value.oneCell'] at h1)
  rw [h2]
  refine ⟨rfl,fun k hk=>?_,fun _=>h1,fun u hu=>?_⟩
  ·simp only [ae.cells,di] at hk
   obtain rfl:k=0:=by omega
   exact h
  ·simp at hu;subst hu;exact h1
theorem JN {t kt et:TypeId} (ht:P.underlying t=some (.map kt et)) {l:eI} (hl:aC P et=some l) {u:TypeDesc} (hu:P.underlying kt=some u) {k:ae} {vk:Value}
  (hk:(∃ ik n,u = .int ik∧k = .int ik n)∨(∃ s,u = .string∧k = .str s)) (tu:bR w M β vk k) {es:Array MapEntry} {ks vs:List ae} (hn:es.size=ks.length) (hv:vs.length=ks.length)
  (ou:∀ j,j<ks.length→bR w M β (es.getD j default).key (ks.getD j .undef)) (nH:∀ j,j<ks.length→bR w M β (es.getD j default).val (vs.getD j .undef)) (hs:∀ x∈ks,sameKind k x=true)
  {vx:Value} (hx:vx = .map none∧es = #[]∨∃ g clk,vx = .map (some g)∧w.heap[g]? = some (.map es clk)) (ok:Bool) :
  ∃ v,(Instr.lookup t vx vk ok).run P w = .ok v w∧bR w M β v (eQ ks vs (zeroV l) k ok):=by
 obtain ⟨z,rH,rI,_⟩:=Be (w:=w) (M:=M) (β:=β) hl
 have rE:=Qj (P:=P) (w:=w) hu (by rcases hk with ⟨ik,_,h,_⟩ | ⟨_,h,_⟩;exact .inl ⟨ik,h⟩;exact .inr h) es.isEmpty 9999 vk
 have eH:∀ j,es.toList.getD j default=es.getD j default:=fun j=>by simp [List.getD,aj]
 have Bz:=Zip hk tu es.toList ks 0 (by simpa using hn) (fun j hj=>by rw [eH];exact ou j hj) hs
 have vt:(Instr.findKey kt vk es.toList).run P w = .ok ((e8 k ks 0).map fun j=>(j,(es.getD j default).val)) w:=by
  simp only [Instr.findKey,Sem.run_bind,run_underlying hu,Result.andThen_ok,Bz,gE,eH]
  rfl
 refine ⟨match e8 k ks 0 with | some j=>if ok then .tuple #[(es.getD j default).val, .bool true] else (es.getD j default).val | none=>if ok then .tuple #[z, .bool false] else z,?_,?_⟩
 ·rcases hx with ⟨rfl,rfl⟩ | ⟨g,clk,rfl,hg⟩
  ·simp only [Instr.lookup,Sem.run_bind,run_underlying ht,Result.andThen_ok,Sem.run_pure]
   rw [show (10000:Nat)=9999+1 from rfl,rE]
   simp only [Result.andThen_ok,vt]
   cases hf:e8 k ks 0 with
   | none=>cases ok<;>simp [rH]
   | some j=>cases ok<;>simp
  ·have vu:(getObj g).run P w = .ok (.map es clk) w:=by simp [getObj,Sem.run,hg]
   simp only [Instr.lookup,Sem.run_bind,run_underlying ht,Result.andThen_ok,vu,Sem.run_pure]
   rw [show (10000:Nat)=9999+1 from rfl,rE]
   simp only [Result.andThen_ok,vt]
   cases hf:e8 k ks 0 with
   | none=>cases ok<;>simp [rH]
   | some j=>cases ok<;>simp
 ·unfold eQ
  cases hf:e8 k ks 0 with
  | none =>
   cases ok
   ·exact rI
   ·exact .dy rfl (fun j hj=>by
     match j,hj with
     | 0,_=>exact rI
     | 1,_=>exact .bool _)
  | some j =>
   have hj:=(Fh k ks 0 j hf).2
   cases ok
   ·exact nH j (by omega)
   ·exact .dy rfl (fun i hi=>by
     match i,hi with
     | 0,_=>exact nH j (by omega)
     | 1,_=>exact .bool _)
theorem Zvh (hr:cF X base σ β w) {t:TypeId} {T:jH} (hT:bJ P t=some T) {vx vk:Value} {x k r:ae} {ok:Bool} (hx:bR w (MT X σ β) β vx x) (tu:bR w (MT X σ β) β vk k)
  (h:ll σ T x k ok=some r):∃ v,(Instr.lookup t vx vk ok).run P w = .ok v w∧bR w (MT X σ β) β v r:=by
 unfold ll at h
 split at h
 ·rename_i l hk he
  split at h
  ·rename_i M3
   obtain ⟨kt,et,u,h1,h2,h3,h4⟩:=QF hT hk M3
   rw [he] at h2
   split at h
   ·cases h
    cases hx
    exact JN h1 h2.symm h3 h4 tu (es:=#[]) rfl rfl (fun j hj=>by simp at hj) (fun j hj=>by simp at hj) (fun x hx=>by simp at hx) (.inl ⟨rfl,rfl⟩) ok
   ·split at h
    ·rename_i hs
     cases h
     cases hx with
     | @pm g clk es _ _ hg hm hn hv ou nH=>exact JN h1 h2.symm h3 h4 tu hn hv ou nH (by simpa using hs) (.inr ⟨g,clk,rfl,hg⟩) ok
    ·cases h
   ·split at h
    ·rename_i ks vs fz hb
     split at h
     ·rename_i hs
      cases h
      obtain ⟨L,h5,_,_,es,clk,h6,hn,hv,ou,nH,_⟩:=hr.cf _ _ (jU hb)
      cases hx with
      | map hL =>
       obtain rfl:=aM (h5.symm.trans hL)
       exact JN h1 h2.symm h3 h4 tu hn hv ou nH (by simpa using hs) (.inr ⟨L.g,clk,rfl,h6⟩) ok
     ·cases h
    ·cases h
   ·cases h
  ·cases h
 ·cases h
end
end Go.cV
