/- Part 3 of my own framework and of the walks of functions: AbsD, AbsE, AbsF. -/
import Derived.Test.YtfjbdamcmiglgaaGreatOwn2
import Derived.Laws.Slices
import Derived.Laws.StructEq
abbrev bB:=@Array.length_toList
abbrev aC:=@Bool.and_eq_true
abbrev a_:=@Bool.false_eq_true
abbrev bU:=@Bool.not_eq_true'
abbrev cy:=@Bool.true_and
abbrev bj:=@List.all_eq_true
abbrev gJ:=@List.cons.injEq
abbrev bC:=@List.getD_cons_succ
abbrev bm:=@List.getD_cons_zero
abbrev cf:=@List.getElem?_map
abbrev aE:=@List.getElem_mem
abbrev mF:=@List.getElem_of_mem
abbrev dm:=@List.length_singleton
abbrev aB:=@List.map_cons
abbrev fw:=@Nat.add_assoc
abbrev bI:=@Nat.add_mul
abbrev aX:=@Nat.mul_le_mul_right
abbrev dx:=@Nat.one_mul
abbrev gR:=@Nat.sub_zero
abbrev bp:=@Nat.zero_add
abbrev au:=@Option.bind_eq_some_iff
abbrev eA:=@Option.bind_some
abbrev oA:=@Option.isSome_iff_exists
abbrev aH:=@Option.map_eq_some_iff
abbrev bu:=@Option.map_some
abbrev bx:=@Prod.mk.injEq
set_option linter.unusedVariables false
set_option linter.unusedSectionVars false
set_option linter.unusedSimpArgs false
namespace Go.c8
open Go
section
variable {P:Program} {X:Nat→Nat→Prop} {base:Nat} {σ:ai} {β:Env} {w:World} {nm:Nat} {M:Nat→Nat→Prop}
theorem j_ {b:Nat} {cg:bE} (h:bH σ b=some cg) : σ[b]? = some (some cg):=by
 unfold bH at h
 cases h1 : σ[b]? with
 | none=>rw [h1] at h;cases h
 | some x=>rw [h1] at h;simp at h;rw [h]
theorem bS.ij {v:Value} {b:Bool} (h:bS w M β v (.bool b)):v = .bool b:=by cases h;rfl
theorem bS.ek {v:Value} {k:IntKind} {n:Int} (h:bS w M β v (.int k n)):v = .int k n:=by cases h;rfl
theorem bS.gI {v:Value} {s:ByteArray} (h:bS w M β v (.str s)):v = .string s:=by cases h;rfl
def W8 (w:World) (M:Nat→Nat→Prop) (β:Env) (v:Value) (cs:List ae):Prop :=
 ∃ (g o:Nat) (cv:Nat→Value),v = .pointer (some ⟨g,o,none⟩)∧(∀ k,k<cs.length→w.cell? ⟨g,o+k,none⟩=some (cv k))∧∀ k,k<cs.length→bS w M β (cv k) (cs.getD k .undef)
theorem tM {c:Array Value} {k:Nat} (h:k<c.size):c[k]? = some (c.getD k undef):=by
 rw [aj,aD h];rfl
theorem J9 (cs:List ae) (o k:Nat):(cs.drop o).getD k ae.undef=cs.getD (o+k) .undef:=by
 simp [List.getD,dM]
theorem Rx (hr:cH X base σ β w) {l:eM} {p r:ae} {v:Value} (hv:bS w (MT X σ β) β v p) (h:jf σ l p=some r) :
  ∃ cs,W8 w (MT X σ β) β v cs∧jQ l cs=some r:=by
 cases p with
 | ptr b off =>
  simp only [jf] at h
  split at h
  ·rename_i cs hb
   obtain ⟨L,h1,_,_,c,e,h2,h3,h4,h5⟩:=hr.cg b _ (j_ hb)
   cases hv with
   | ptr h' =>
    obtain rfl:=aN (h1.symm.trans h')
    refine ⟨cs.drop off,⟨L.g,L.o+off,fun k=>c.getD (off+k) undef,rfl,fun k hk=>?_,fun k hk=>?_⟩,h⟩
    ·simp only [cj] at hk
     rw [h3,cell_of_row w L.g _ c e (0,0) h2,bp,tM (by omega)]
    ·simp only [cj] at hk
     rw [J9];exact h5 _ (by omega)
  ·exact absurd h (by simp)
 | rp b i f =>
  simp only [jf] at h
  split at h
  ·rename_i es fz hb
   split at h
   ·rename_i hi
    obtain ⟨L,h1,_,_,c,e,h2,h3,h4,h5,h6⟩:=hr.cg b _ (j_ hb)
    cases hv with
    | rp h' =>
     obtain rfl:=aN (h1.symm.trans h')
     have hs:=h5 i hi
     refine ⟨(es.getD i .undef).cells.drop f,⟨L.g,L.o+i*L.sz+f,fun k=>c.getD (L.o+i*L.sz+f+k) undef,rfl,fun k hk=>?_,fun k hk=>?_⟩,h⟩
     ·simp only [cj] at hk
      have h7:(i+1)*L.sz≤L.n*L.sz:=aX _ (by omega)
      rw [bI,dx] at h7
      rw [cell_of_row w L.g _ c e (0,0) h2,tM (by omega)]
     ·simp only [cj] at hk
      show bS _ _ _ (c.getD (L.o+i*L.sz+f+k) undef) _
      rw [J9,fw (L.o+i*L.sz)];exact h6 i (f+k) hi (by omega)
   ·exact absurd h (by simp)
  ·exact absurd h (by simp)
 | pp cs =>
  cases hv with
  | pp cv hc qA=>exact ⟨cs,⟨_,_,cv,rfl,fun k hk=>(hc k hk).1,qA⟩,h⟩
 | _=>cases h
theorem Yld (hr:cH X base σ β w) {ρ:Operand→Value} {ia:Operand→ae} (dO:∀ x,bS w (MT X σ β) β (ρ x) (ia x)) {o:Oper} {t:TypeId} {x:Operand} (ho:o.op = .load t x)
  {l:eM} (hl:aF P t=some l) {r:ae} (h:jf σ l (ia x)=some r):cR P X base σ β w nm (execOp ρ o) r σ:=by
 obtain ⟨cs,⟨g,of,cv,h1,h2,h3⟩,h4⟩:=Rx hr (dO x) h
 obtain ⟨v,h5,h6⟩:=QO hl h2 h3 h4
 refine cR.val hr (v:=v) ?_ h6
 simp only [execOp,ho,Instr.loadAt,Instr.sureAddr,h1,Sem.run_bind,Sem.run_pure,Result.andThen_ok,h5]
theorem Ykj (hr:cH X base σ β w) {ρ:Operand→Value} {ia:Operand→ae} (dO:∀ x,bS w (MT X σ β) β (ρ x) (ia x)) {o:Oper} {c a b:Operand} (ho:o.op = .pick c a b)
  {r:ae} (h:po (ia c) (ia a) (ia b)=some r):cR P X base σ β w nm (execOp ρ o) r σ:=by
 have hc:=dO c;have ha:=dO a;have hb:=dO b
 cases qW : ia c with
 | bool c' =>
  rw [qW] at hc h
  have eS:(execOp ρ o).run P w = .ok (.value (if c' then ρ a else ρ b)) w:=by simp [execOp,ho,hc.ij,asBool]
  refine cR.val hr eS ?_
  unfold po at h
  split at h
  ·rename_i c2 x y e1 e2 e3
   cases e1
   rw [e2] at ha;rw [e3] at hb
   cases h
   rw [ha.ij,hb.ij];cases c'<;>exact .bool _
  ·rename_i c2 e1 _
   cases e1
   cases h
   cases c'
   ·exact hb
   ·exact ha
  ·cases h
 | _=>rw [qW] at h;simp [po] at h
theorem Yt1 (a b:Int):bS w M β (.bool (a != b)) (.bool (decide (a≠b))):=by
 have:(a != b)=decide (a≠b):=by by_cases e:a=b<;>simp [e]
 rw [this]
 exact .bool _
theorem YD {op:BinOp} {k:IntKind} {a b:Int} {r:ae} (h:iJ op k a b=some r) :
  ∃ v,(match op with
   | .add | .sub | .mul=>Op.intArith op k a b
   | .quo | .rem=>Op.intDiv op k a b
   | .and | .or | .xor | .andNot=>Op.intBits op k a b
   | _=>Op.intCmp op a b).run P w = .ok v w∧bS w M β v r:=by
 cases op<;>simp only [iJ,reduceCtorEq] at h <;>
  (try (split at h<;>(try cases h))) <;>
  (try (simp only [aG] at h;subst h)) <;>
  (first
   | exact ⟨_,rfl, .int _ _⟩
   | exact ⟨_,rfl, .bool _⟩
   | exact ⟨_,rfl,Yt1 _ _⟩
   | (rename_i hb;refine ⟨_,by simp only [Op.intDiv,if_neg hb];rfl,?_⟩;exact .int _ _))
theorem Y_ {op:BinOp} {a b:ByteArray} {r:ae} (h:mE op a b=some r):∃ v,(Op.stringOp op a b).run P w = .ok v w∧bS w M β v r:=by
 cases op<;>simp only [mE,reduceCtorEq] at h <;>
  (try (split at h<;>(try cases h))) <;>
  (try (simp only [aG] at h;subst h)) <;>
  (first
   | (rename_i hs
      have:¬ (((a.size+b.size:Nat):Int) > IntKind.i64.max):=by
       have e:IntKind.i64.max=9223372036854775807:=by decide
       rw [e];omega
      refine ⟨.string (a++b),?_, .str _⟩
      simp only [Op.stringOp]
      rw [if_neg this];rfl)
   | exact ⟨_,rfl, .bool _⟩)
theorem IA {u:TypeDesc} {k:IntKind} (h:jl u = .int k):u = .int k:=by cases u<;>simp_all [jl]
theorem z_ {u:TypeDesc} (h:jl u = .str):u = .string:=by cases u<;>simp_all [jl]
theorem SW {u:TypeDesc} (h:jl u = .bool):u = .bool:=by cases u<;>simp_all [jl]
theorem Yma {u:TypeDesc} (h:jl u = .ptr):∃ e,u = .pointer e:=by cases u<;>simp_all [jl]
theorem Cj {u:TypeDesc} (h:jl u = .slice):∃ e,u = .slice e:=by cases u<;>simp_all [jl]
theorem HW {u:TypeDesc} {n:Nat} (h:jl u = .array n):∃ e,u = .array n e:=by cases u<;>simp_all [jl]
theorem Eo {u:TypeDesc} (h:jl u = .map):∃ k e,u = .map k e:=by cases u<;>simp_all [jl]
theorem Kn {u:TypeDesc} (h:jl u = .struct):∃ fs,u = .struct fs:=by cases u<;>simp_all [jl]
theorem YW {u:TypeDesc} (h:jl u = .iface):∃ ms,u = .interface ms:=by cases u<;>simp_all [jl]
theorem Zzz {u:TypeDesc} (h:(jl u).plain=true):qM u=false:=by cases u<;>simp [jl,KA.plain,qM] at h ⊢
theorem Ra {t:TypeId} {u:TypeDesc} (hu:P.underlying t=some u) (ha:qM u=false) {cs:Array Value} {off:Nat} (h:off<cs.size) :
  (part t cs off).run P w = .ok (cs.getD off undef) w:=by
 simp only [part,Sem.run_bind,KO hu,Result.andThen_ok,ha]
 rw [tM h];rfl
theorem Zsz {xs ys:Array Value} {cm bs:List ae} (hx:xs.size=cm.length) (hy:ys.size=bs.length)
  (BZ:∀ k,k<cm.length→bS w M β (xs.getD k undef) (cm.getD k .undef)) (EZ:∀ k,k<bs.length→bS w M β (ys.getD k undef) (bs.getD k .undef)) (d:Nat) :
  ∀ (fs:List Field) (i:Nat),(cm.drop i).map sE=(bs.drop i).map sE→pI P fs i ((cm.drop i).map sE)=true →
   (Op.eqFields (d+1) xs ys fs).run P w = .ok (kC (cm.drop i) (bs.drop i)) w:=by
 intro fs
 induction fs with
 | nil =>
  intro i hk he
  cases ha:cm.drop i with
  | nil=>rw [ha] at hk;cases hb:bs.drop i with
   | nil=>simp [Op.eqFields,kC]
   | cons b Mt=>rw [hb] at hk;simp at hk
  | cons a CL=>rw [ha] at he;simp [pI] at he
 | cons f fs ih =>
  intro i hk he
  cases ha:cm.drop i with
  | nil=>rw [ha] at he;simp [pI] at he
  | cons a CL =>
   cases hb:bs.drop i with
   | nil=>rw [ha,hb] at hk;simp at hk
   | cons b Mt =>
    have hia:i<cm.length:=by have:=congrArg List.length ha;simp at this;omega
    have hib:i<bs.length:=by have:=congrArg List.length hb;simp at this;omega
    have ea:cm.getD i .undef=a:=by simp [List.getD,← List.head?_drop,ha]
    have eb:bs.getD i .undef=b:=by simp [List.getD,← List.head?_drop,hb]
    have Mx:cm.drop (i+1)=CL:=by rw [← List.drop_drop,ha];rfl
    have V2:bs.drop (i+1)=Mt:=by rw [← List.drop_drop,hb];rfl
    rw [ha,hb] at hk
    rw [ha] at he
    simp only [aB,gJ] at hk
    simp only [aB,pI,aC,beq_iff_eq,bne_iff_ne,decide_eq_true_eq] at he
    obtain ⟨⟨⟨⟨h1,h2⟩,h3⟩,h4⟩,h5⟩:=he
    have JM:=ih (i+1) (by rw [Mx,V2];exact hk.2) (by rw [Mx];exact h5)
    rw [Mx,V2] at JM
    have JG:=BZ i hia
    have JH:=EZ i hib
    rw [ea] at JG;rw [eb] at JH
    obtain ⟨u,hu,Df⟩:=aH.1 h4
    have BI:qM u=false:=by
     rw [← Df] at h3
     exact Zzz h3
    have p1:=Ra (P:=P) (w:=w) hu BI (cs:=xs) (off:=f.offset) (by omega)
    have p2:=Ra (P:=P) (w:=w) hu BI (cs:=ys) (off:=f.offset) (by omega)
    rw [h1] at p1 p2
    simp only [Op.eqFields,if_pos h2,Sem.run_bind,h1,p1,p2,Result.andThen_ok,kC]
    have sY:=hk.1
    have fin:∀ (r:Bool),(Op.equalIn (d+1) f.type (xs.getD i undef) (ys.getD i undef)).run P w = .ok r w→fq a b=r →
      ((Op.equalIn (d+1) f.type (xs.getD i undef) (ys.getD i undef)).run P w).andThen (fun r w'=>(if (!r)=true then pure false else Op.eqFields (d+1) xs ys fs).run P w') =
       .ok (fq a b&&kC CL Mt) w:=by
     intro r hr he
     rw [hr,he,Result.andThen_ok]
     cases r
     ·rfl
     ·simp only [Bool.not_true,a_,if_false,cy];exact JM
    cases a with
    | int k n =>
     cases b with
     | int k' n' =>
      simp only [sE,KA.int.injEq] at sY
      subst sY
      refine fin (n==n') ?_ rfl
      rw [JG.ek,JH.ek]
      exact run_equalIn_int w d f.type k k n n' (by rw [hu,IA Df])
     | _=>simp [sE] at sY
    | str s =>
     cases b with
     | str s' =>
      refine fin (s.toList==s'.toList) ?_ rfl
      rw [JG.gI,JH.gI]
      exact run_equalIn_string w d f.type s s' (by rw [hu,z_ Df])
     | _=>simp [sE] at sY
    | bool s =>
     cases b with
     | bool s' =>
      refine fin (s==s') ?_ rfl
      rw [JG.ij,JH.ij]
      exact run_equalIn_bool' w d f.type s s' (by rw [hu,SW Df])
     | _=>simp [sE] at sY
    | _=>simp [sE,KA.plain] at h3
theorem xo {t:TypeId} {k:KA} (h:iK P t=some k):∃ i u,P.info? t=some i∧P.underlying t=some u∧jl u=k:=by
 unfold iK at h
 obtain ⟨l,h1,h2⟩:=aH.1 h
 obtain ⟨i,u,z,h3,h4,_,_,_,_,_,h5,_⟩:=p6 h1
 exact ⟨i,u,h3,h4,h5.trans h2⟩
theorem HQ {v:Value} {a:ae} {b:Bool} (h:bS w M β v a) (hb:nI a=some b):∃ p,v = .pointer p∧p.isSome=b:=by
 cases a<;>simp only [nI,reduceCtorEq,aG] at hb<;>subst hb<;>cases h<;>exact ⟨_,rfl,rfl⟩
theorem D1 {v:Value} {a:ae} {b:Bool} (h:bS w M β v a) (hb:kM a=some b):(b=false∧v = .nilIface)∨(b=true∧∃ t x,v = .iface t x):=by
 cases a<;>simp only [kM,reduceCtorEq,aG] at hb<;>subst hb<;>cases h
 ·exact .inl ⟨rfl,rfl⟩
 ·exact .inr ⟨rfl,_,_,rfl⟩
theorem HN {v:Value} {a:ae} {b:Bool} (h:bS w M β v a) (hb:kb a=some b):(b=false∧v = .nilFunc)∨(b=true∧∃ f x y,v = .func f x y):=by
 cases a<;>simp only [kb,reduceCtorEq,aG] at hb<;>subst hb<;>cases h
 ·exact .inl ⟨rfl,rfl⟩
 ·exact .inr ⟨rfl,_,_,_,rfl⟩
theorem ZK {u:TypeDesc} (h:jl u = .func):∃ a b c,u = .func a b c:=by
 cases u<;>first | (cases h;done) | exact ⟨_,_,_,rfl⟩
theorem Zrh {t:TypeId} (h:qy P t=true):∃ ms:Array (String×TypeId),P.underlying t=some (.interface ms)∧ms.isEmpty=true:=by
 unfold qy at h
 split at h
 ·rename_i ms e;exact ⟨ms,e,h⟩
 ·cases h
theorem Ztv {v:Value} {a:ae} {b:Bool} (h:bS w M β v a) (hb:lI a=some b):∃ p,v = .map p∧p.isSome=b:=by
 cases a<;>simp only [lI,reduceCtorEq,aG] at hb<;>subst hb<;>cases h<;>exact ⟨_,rfl,rfl⟩
theorem Yji (d:Nat) {t k e:TypeId} (h:P.underlying t=some (.map k e)) (p:Option Nat):(Op.equalIn (d+1) t (.map p) (.map none)).run P w = .ok p.isNone w:=by
 cases p<;>simp [Op.equalIn,run_underlying h]
theorem Yi2 (d:Nat) {t e:TypeId} (h:P.underlying t=some (.pointer e)) (q:Option Addr):(Op.equalIn (d+1) t (.pointer none) (.pointer q)).run P w = .ok q.isNone w:=by
 simp [Op.equalIn,run_underlying h]
theorem Ze (d:Nat) {t e:TypeId} (h:P.underlying t=some (.pointer e)) (a:Addr):(Op.equalIn (d+1) t (.pointer (some a)) (.pointer none)).run P w = .ok false w:=by
 simp [Op.equalIn,run_underlying h]
theorem Yk4 (d:Nat) {t:TypeId} {ms} (h:P.underlying t=some (.interface ms)) (u:TypeId) (x:Value):(Op.equalIn (d+1) t (.iface u x) .nilIface).run P w = .ok false w:=by
 simp [Op.equalIn,run_underlying h]
theorem Ymh (d:Nat) {t:TypeId} {ms} (h:P.underlying t=some (.interface ms)) (u:TypeId) (x:Value):(Op.equalIn (d+1) t .nilIface (.iface u x)).run P w = .ok false w:=by
 simp [Op.equalIn,run_underlying h]
theorem Ym2 (d:Nat) {t:TypeId} {ms} (h:P.underlying t=some (.interface ms)):(Op.equalIn (d+1) t .nilIface .nilIface).run P w = .ok true w:=by
 simp [Op.equalIn,run_underlying h]
theorem Yk0 (d:Nat) {t:TypeId} {a b c} (h:P.underlying t=some (.func a b c)):(Op.equalIn (d+1) t .nilFunc .nilFunc).run P w = .ok true w:=by
 simp [Op.equalIn,run_underlying h]
theorem Ymk (d:Nat) {t:TypeId} {a b c} (h:P.underlying t=some (.func a b c)) (f:Fn) (x y:Array Value):(Op.equalIn (d+1) t .nilFunc (.func f x y)).run P w = .ok false w:=by
 simp [Op.equalIn,run_underlying h]
theorem Ymt (d:Nat) {t:TypeId} {a b c} (h:P.underlying t=some (.func a b c)) (f:Fn) (x y:Array Value):(Op.equalIn (d+1) t (.func f x y) .nilFunc).run P w = .ok false w:=by
 simp [Op.equalIn,run_underlying h]
theorem Zom (d:Nat) {t:TypeId} {ms:Array (String×TypeId)} (h:P.underlying t=some (.interface ms)) (hm:ms.isEmpty=true):(Op.eqGuardIn (d+1) t .nilIface .nilIface).run P w = .ok false w:=by
 simp [Op.eqGuardIn,run_underlying h,hm]
theorem Zmj (op:BinOp) {t:TypeId} {ms:Array (String×TypeId)} (ox oy:Operand) (h:P.underlying t=some (.interface ms)) (hm:ms.isEmpty=true):(eqGuard op t ox oy .nilIface .nilIface).run P w = .ok () w:=by
 have h1:(Op.eqGuardIn Op.maxDepth t .nilIface .nilIface).run P w = .ok false w:=Zom 9999 h hm
 have h2 : ∀ c : Bool, (if c = true then pure () else do if ← Op.eqGuardIn Op.maxDepth t .nilIface .nilIface then unsupported (.noEntry "binop/eql: two nil values of an interface type with methods, neither of them the literal nil") : Sem Unit).run P w = .ok () w := by
  intro c
  cases c
  ·simp only [a_,if_false,Sem.run_bind,h1,Result.andThen_ok];rfl
  ·rfl
 have h3:=h2 ((ox matches .const _)||(oy matches .const _))
 cases op<;>first | exact h3 | rfl
theorem UG {t:TypeId} {x y:ae} {vx vy:Value} (hx:bS w M β vx x) (hy:bS w M β vy y) {b:Bool} (h:uk P t x y=some b) (op:BinOp) (ox oy:Operand) :
  (eqGuard op t ox oy vx vy).run P w = .ok () w∧(Op.equal t vx vy).run P w = .ok b w∧(∀ k n,vx≠.int k n)∧(∀ s,vx≠.string s)∧(∀ k n,vx≠.float k n)∧(∀ k n m,vx≠.complex k n m):=by
 unfold uk at h
 split at h
 ·rename_i a a' hk
  obtain ⟨i,u,h1,h2,h3⟩:=xo hk
  cases h
  rw [hx.ij,hy.ij]
  refine ⟨by cases op<;>simp [eqGuard],?_,by simp,by simp,by simp,by simp⟩
  exact run_equalIn_bool' w 9999 t a a' (by rw [h2,SW h3])
 ·rename_i hk
  obtain ⟨i,u,h1,h2,h3⟩:=xo hk
  obtain ⟨e,he⟩:=Yma h3
  rw [he] at h2
  split at h
  ·rename_i b' e1 e2
   cases h
   obtain ⟨p,rfl,hp⟩:=HQ hx e1
   obtain ⟨q,rfl,hq⟩:=HQ hy e2
   obtain rfl:p=none:=Option.isSome_eq_false_iff.1 hp |> Option.isNone_iff_eq_none.1
   refine ⟨by cases op<;>simp [eqGuard],?_,by simp,by simp,by simp,by simp⟩
   refine (Yi2 9999 h2 q).trans ?_
   rw [← hq];cases q<;>rfl
  ·rename_i e1 e2
   cases h
   obtain ⟨p,rfl,hp⟩:=HQ hx e1
   obtain ⟨q,rfl,hq⟩:=HQ hy e2
   obtain rfl:q=none:=Option.isSome_eq_false_iff.1 hq |> Option.isNone_iff_eq_none.1
   obtain ⟨a,rfl⟩:=oA.1 hp
   refine ⟨by cases op<;>simp [eqGuard],?_,by simp,by simp,by simp,by simp⟩
   exact Ze 9999 h2 a
  ·cases h
 ·rename_i hk
  obtain ⟨i,u,h1,h2,h3⟩:=xo hk
  obtain ⟨k,e,he⟩:=Eo h3
  rw [he] at h2
  rw [aH] at h
  obtain ⟨b',e1,rfl⟩:=h
  obtain ⟨p,rfl,hp⟩:=Ztv hx e1
  cases hy
  refine ⟨by cases op<;>simp [eqGuard],?_,by simp,by simp,by simp,by simp⟩
  refine (Yji 9999 h2 p).trans ?_
  rw [← hp];cases p<;>rfl
 ·rename_i hk
  obtain ⟨i,u,h1,h2,h3⟩:=xo hk
  obtain ⟨e,he⟩:=YW h3
  rw [he] at h2
  split at h
  ·rename_i e1 e2
   cases h
   rcases D1 hx e1 with ⟨h4,_⟩ | ⟨_,t1,x1,rfl⟩
   ·cases h4
   rcases D1 hy e2 with ⟨_,rfl⟩ | ⟨h4,_⟩
   ·refine ⟨by cases op<;>simp [eqGuard],?_,by simp,by simp,by simp,by simp⟩
    exact Yk4 9999 h2 _ _
   ·cases h4
  ·rename_i e1 e2
   cases h
   rcases D1 hy e2 with ⟨h4,_⟩ | ⟨_,t1,x1,rfl⟩
   ·cases h4
   rcases D1 hx e1 with ⟨_,rfl⟩ | ⟨h4,_⟩
   ·refine ⟨by cases op<;>simp [eqGuard],?_,by simp,by simp,by simp,by simp⟩
    exact Ymh 9999 h2 _ _
   ·cases h4
  ·rename_i e1 e2
   split at h
   ·rename_i hm
    cases h
    obtain ⟨ms,g1,g2⟩:=Zrh hm
    rcases D1 hx e1 with ⟨_,rfl⟩ | ⟨h4,_⟩
    ·rcases D1 hy e2 with ⟨_,rfl⟩ | ⟨h4,_⟩
     ·exact ⟨Zmj op ox oy g1 g2,Ym2 9999 h2,by simp,by simp,by simp,by simp⟩
     ·cases h4
    ·cases h4
   ·cases h
  ·cases h
 ·rename_i hk
  obtain ⟨i,u,h1,h2,h3⟩:=xo hk
  obtain ⟨a1,a2,a3,he⟩:=ZK h3
  rw [he] at h2
  split at h
  ·rename_i b' e1 e2
   cases h
   rcases HN hx e1 with ⟨_,rfl⟩ | ⟨h4,_⟩
   ·rcases HN hy e2 with ⟨rfl,rfl⟩ | ⟨rfl,f,p,q,rfl⟩
    ·exact ⟨by cases op<;>simp [eqGuard],Yk0 9999 h2,by simp,by simp,by simp,by simp⟩
    ·exact ⟨by cases op<;>simp [eqGuard],Ymk 9999 h2 _ _ _,by simp,by simp,by simp,by simp⟩
   ·cases h4
  ·rename_i e1 e2
   cases h
   rcases HN hx e1 with ⟨h4,_⟩ | ⟨_,f,p,q,rfl⟩
   ·cases h4
   rcases HN hy e2 with ⟨_,rfl⟩ | ⟨h4,_⟩
   ·exact ⟨by cases op<;>simp [eqGuard],Ymt 9999 h2 _ _ _,by simp,by simp,by simp,by simp⟩
   ·cases h4
  ·cases h
 ·rename_i xs ys hk
  split at h
  ·rename_i hc
   cases h
   obtain ⟨rM,lq⟩:=hc
   unfold uj at lq
   split at lq
   ·rename_i fs GI
    simp only [aC,bU] at lq
    obtain ⟨⟨hg,hh⟩,hi⟩:=lq
    cases hx with
    | agg hxn BZ =>
     cases hy with
     | agg hyn EZ =>
      have Wv:P.fieldsOf t=fs:=by simp [Program.fieldsOf,GI]
      refine ⟨run_eqGuard_agg w op t ox oy _ _ hg,?_,by simp,by simp,by simp,by simp⟩
      refine (run_equalIn_struct w 9999 t _ _ (by rw [Wv];exact GI) hh).trans ?_
      rw [Wv]
      exact Zsz (P:=P) hxn hyn BZ EZ 9998 fs.toList 0 rM hi
   ·cases lq
  ·cases h
 ·cases h
end
section
variable {P:Program} {X:Nat→Nat→Prop} {base:Nat} {σ:ai} {β:Env} {w:World} {nm:Nat} {M:Nat→Nat→Prop}
theorem Ylg {op:BinOp} {t:TypeId} {x y r:ae} {vx vy:Value} (hx:bS w M β vx x) (hy:bS w M β vy y) (h:l6 P op t x y=some r) (ox oy:Operand) :
  ∃ v,(do eqGuard op t ox oy vx vy;binOp op t vx vy:Sem Value).run P w = .ok v w∧bS w M β v r:=by
 unfold l6 at h
 split at h
 ·obtain ⟨b,h1,rfl⟩:=aH.1 h
  obtain ⟨h2,h3,h4,h5,h6,h7⟩:=UG hx hy h1 .eql ox oy
  refine ⟨.bool b,?_, .bool b⟩
  simp only [Sem.run_bind,h2,Result.andThen_ok]
  clear hx hy
  cases vx<;>first | (exact absurd rfl (h4 _ _)) | (exact absurd rfl (h5 _)) | (exact absurd rfl (h6 _ _)) | (exact absurd rfl (h7 _ _ _)) | (simp only [binOp,Sem.run_bind,h3,Result.andThen_ok,Sem.run_pure])
 ·obtain ⟨b,h1,rfl⟩:=aH.1 h
  obtain ⟨h2,h3,h4,h5,h6,h7⟩:=UG hx hy h1 .neq ox oy
  refine ⟨.bool !b,?_, .bool !b⟩
  simp only [Sem.run_bind,h2,Result.andThen_ok]
  clear hx hy
  cases vx<;>first | (exact absurd rfl (h4 _ _)) | (exact absurd rfl (h5 _)) | (exact absurd rfl (h6 _ _)) | (exact absurd rfl (h7 _ _ _)) | (simp only [binOp,Sem.run_bind,h3,Result.andThen_ok,Sem.run_pure])
 ·cases h
theorem Ynv {op:BinOp} {t:TypeId} {x y r:ae} {vx vy:Value} (hx:bS w M β vx x) (hy:bS w M β vy y) (h:qN P op t x y=some r) (ox oy:Operand) :
  ∃ v,(do eqGuard op t ox oy vx vy;binOp op t vx vy:Sem Value).run P w = .ok v w∧bS w M β v r:=by
 unfold qN at h
 split at h
 ·rename_i k a k' b
  split at h
  ·rename_i hk
   subst hk
   obtain ⟨v,h1,h2⟩:=YD (P:=P) (w:=w) (M:=M) (β:=β) h
   refine ⟨v,?_,h2⟩
   rw [hx.ek,hy.ek]
   have hg:(eqGuard op t ox oy (.int k a) (.int k b)).run P w = .ok () w:=by cases op<;>simp [eqGuard]
   simp only [Sem.run_bind,hg,Result.andThen_ok]
   cases op<;>first | (simpa [binOp] using h1) | (simp [iJ] at h)
  ·cases h
 ·rename_i a b
  obtain ⟨v,h1,h2⟩:=Y_ (P:=P) (w:=w) (M:=M) (β:=β) h
  refine ⟨v,?_,h2⟩
  rw [hx.gI,hy.gI]
  have hg:(eqGuard op t ox oy (.string a) (.string b)).run P w = .ok () w:=by cases op<;>simp [eqGuard]
  simp only [Sem.run_bind,hg,Result.andThen_ok]
  cases op<;>first | (simpa [binOp] using h1) | (simp [mE] at h)
 ·exact Ylg hx hy h ox oy
theorem Vg {neg:Bool} {x r:ae} {vx:Value} (hx:bS w M β vx x) (h:r_ neg x=some r):∃ a n c,vx = .slice a n c∧bS w M β (.bool (a.isNone != neg)) r:=by
 have lit:∀ (a:Addr),(some a:Option Addr).isNone=false:=fun _=>rfl
 unfold r_ at h
 split at h<;>cases h
 ·cases hx;exact ⟨_,_,_,rfl, .ig _⟩
 ·cases hx with
  | @ps a cap sz es cv jr fH hc ha hr =>
   refine ⟨_,_,_,rfl,?_⟩
   split
   ·exact .ig _
   ·obtain ⟨g,o,rfl⟩:=ha (by omega)
    have e:((some (⟨g,o,none⟩:Addr)).isNone != neg)=neg:=by cases neg<;>rfl
    rw [e];exact .bool neg
 ·cases hx with
  | sJ a h=>exact ⟨_,_,_,rfl,by rw [if_pos rfl];exact .ig _⟩
  | os h h1 h2 =>
   refine ⟨_,_,_,rfl,?_⟩
   split
   ·exact .ig _
   ·cases neg<;>exact .bool _
 ·cases hx with
  | sI a h=>exact ⟨_,_,_,rfl,by rw [if_pos rfl];exact .ig _⟩
  | oc h h1 h2 =>
   refine ⟨_,_,_,rfl,?_⟩
   split
   ·exact .ig _
   ·cases neg<;>exact .bool _
theorem Sr (d:Nat) {t e:TypeId} (h:P.underlying t=some (.slice e)) (a:Option Addr) (n c:Nat):(Op.equalIn (d+1) t (.slice a n c) (.slice none 0 0)).run P w = .ok a.isNone w:=by
 cases a<;>simp [Op.equalIn,run_underlying h]
theorem ZO {y:Operand} (h:ki y=true):y = .const (.slice none 0 0):=by
 unfold ki at h
 split at h
 ·rfl
 ·cases h
theorem Ymx {op:BinOp} {t:TypeId} {x r:ae} {vx:Value} (hx:bS w M β vx x) (h:uH P op t x=some r) (ox oy:Operand) :
  ∃ v,(do eqGuard op t ox oy vx (.slice none 0 0);binOp op t vx (.slice none 0 0):Sem Value).run P w = .ok v w∧bS w M β v r:=by
 unfold uH at h
 split at h
 ·rename_i hk
  obtain ⟨i,u,h1,h2,h3⟩:=xo hk
  obtain ⟨e,he⟩:=Cj h3
  rw [he] at h2
  obtain ⟨a,n,c,rfl,hr⟩:=Vg hx h
  refine ⟨_,?_,hr⟩
  have:=Sr (w:=w) 9999 h2 a n c
  have hg:(eqGuard .eql t ox oy (.slice a n c) (.slice none 0 0)).run P w = .ok () w:=by simp [eqGuard]
  have h5:(Op.equal t (.slice a n c) (.slice none 0 0)).run P w = .ok a.isNone w:=this
  simp only [binOp,Sem.run_bind,hg,Result.andThen_ok,h5,Sem.run_pure]
  cases a<;>rfl
 ·rename_i hk
  obtain ⟨i,u,h1,h2,h3⟩:=xo hk
  obtain ⟨e,he⟩:=Cj h3
  rw [he] at h2
  obtain ⟨a,n,c,rfl,hr⟩:=Vg hx h
  refine ⟨_,?_,hr⟩
  have:=Sr (w:=w) 9999 h2 a n c
  have hg:(eqGuard .neq t ox oy (.slice a n c) (.slice none 0 0)).run P w = .ok () w:=by simp [eqGuard]
  have h5:(Op.equal t (.slice a n c) (.slice none 0 0)).run P w = .ok a.isNone w:=this
  simp only [binOp,Sem.run_bind,hg,Result.andThen_ok,h5,Sem.run_pure]
  cases a<;>rfl
 ·cases h
theorem Yq0 {op:UnOp} {x r:ae} {vx:Value} (hx:bS w M β vx x) (h:E4 op x=some r):∃ v,(Op.unary op vx).run P w = .ok v w∧bS w M β v r:=by
 cases x<;>simp only [E4,reduceCtorEq] at h
 ·rw [hx.ij]
  cases op<;>simp only [reduceCtorEq,aG] at h
  subst h
  exact ⟨_,rfl, .bool _⟩
 ·rw [hx.ek]
  cases op<;>simp only [reduceCtorEq,aG] at h
  subst h
  exact ⟨_,rfl, .int _ _⟩
theorem Zqe {s d:TypeId} {x r:ae} {vx:Value} (hx:bS w M β vx x) (h:oZ P s d x=some r):∃ v,(convert s d vx).run P w = .ok v w∧bS w M β v r:=by
 unfold oZ at h
 split at h
 ·rename_i ks k k' n h1 h2
  cases h
  obtain ⟨_,us,_,h3,_⟩:=xo h1
  obtain ⟨_,ud,_,h4,h5⟩:=xo h2
  obtain rfl:=IA h5
  rw [hx.ek]
  exact ⟨_,by simp only [convert,Sem.run_bind,run_underlying h3,run_underlying h4,Result.andThen_ok,Conv.intToInt];rfl, .int _ _⟩
 ·rename_i y h1 h2
  cases h
  obtain ⟨_,us,_,h3,w6⟩:=xo h1
  obtain ⟨_,ud,_,h4,h5⟩:=xo h2
  obtain rfl:=z_ h5
  obtain rfl:=z_ w6
  rw [hx.gI]
  exact ⟨_,by simp only [convert,Sem.run_bind,run_underlying h3,run_underlying h4,Result.andThen_ok];rfl, .str _⟩
 ·cases h
theorem tQ {t:TypeId} {T:jV} (h:bL P t=some T):∃ u,aF P t=some T.lay∧P.underlying t=some u∧jl u=T.kind ∧
  T.o9=(match u with | .struct fs=>fs.toList.map fun f=>(f.offset,aF P f.type) | _=>[]) ∧
  T.elem=(match u with | .slice e=>aF P e | .array _ e=>aF P e | .map _ e=>aF P e | _=>none) ∧
  T.DN=(match u with | .map k _=>aF P k | _=>none):=by
 unfold bL at h
 split at h
 ·rename_i l u h1 h2
  cases h
  obtain ⟨i,u',z,h3,h4,_,_,_,_,_,h5,_⟩:=p6 h1
  obtain rfl:=aN (h2.symm.trans h4)
  exact ⟨u,h1,h2,h5,rfl,rfl,rfl⟩
 ·cases h
theorem Tr {lo hi:Nat} {a:ae} {v:Value} {n:Nat} (hv:bS w M β v a) (h:jO lo hi a=some n) :
  ∃ k i,v = .int k i∧(lo:Int)≤i∧i≤hi∧n=i.toNat:=by
 unfold jO at h
 split at h
 ·split at h
  ·rename_i hc;cases h;exact ⟨_,_,hv.ek,hc.1,hc.2,rfl⟩
  ·cases h
 ·cases h
theorem Ed {lo hi:Nat} {a:ae} {v:Value} {n:Nat} (hv:bS w M β v a) (h:jO lo hi a=some n) (code:BoundsCode) :
  (Instr.sliceBound v hi code).run P w = .ok n w∧lo≤n∧n≤hi:=by
 obtain ⟨k,i,rfl,h1,h2,rfl⟩:=Tr hv h
 exact ⟨run_sliceBound w k i hi code (by omega) h2,by omega,by omega⟩
inductive kV (w:World) (M:Nat→Nat→Prop) (β:Env):Option Value→Option ae→Prop
 | none:kV w M β none none
 | some {v:Value} {a:ae} (h:bS w M β v a):kV w M β (some v) (some a)
theorem Fj {DM:Bool} {n c:Nat} (hc:n≤c) {lo hi:Option ae} {uO wO:Option Value} (iU:kV w M β uO lo) (yr:kV w M β wO hi) {h l:Nat}
  (e1:w9 n hi=some h) (e2:rq h lo=some l):(Instr.sliceBounds DM n c uO wO none).run P w = .ok (l,h,c) w∧l≤h∧h≤n:=by
 have dV:∀ {a v},bS w M β v a→jO 0 n a=some h→∀ code,(Instr.sliceBound v c code).run P w = .ok h w∧h≤n:=by
  intro a v hv e code
  obtain ⟨k,i,rfl,h1,h2,rfl⟩:=Tr hv e
  exact ⟨run_sliceBound w k i c _ (by omega) (by omega),by omega⟩
 have lo':∀ {a v},bS w M β v a→jO 0 h a=some l→∀ code,(Instr.sliceBound v h code).run P w = .ok l w∧l≤h:=by
  intro a v hv e code
  obtain ⟨h1,h2,h3⟩:=Ed (P:=P) hv e code
  exact ⟨h1,h3⟩
 cases yr with
 | none =>
  simp only [w9,aG] at e1
  subst e1
  cases iU with
  | none =>
   simp only [rq,aG] at e2
   subst e2
   exact ⟨rfl,by omega,ah _⟩
  | some hl =>
   obtain ⟨h1,h2⟩:=lo' hl e2 .sliceB
   refine ⟨?_,h2,ah _⟩
   simp [Instr.sliceBounds,h1]
 | some hh =>
  obtain ⟨h3,h4⟩:=dV hh e1 (if DM then .sliceAcap else .sliceAlen)
  cases iU with
  | none =>
   simp only [rq,aG] at e2
   subst e2
   refine ⟨?_,by omega,h4⟩
   simp [Instr.sliceBounds,h3]
  | some hl =>
   obtain ⟨h1,h2⟩:=lo' hl e2 .sliceB
   refine ⟨?_,h2,h4⟩
   simp [Instr.sliceBounds,h1,h3]
theorem Zuc {n c:Nat} {lo hi:Option ae} {uO wO:Option Value} (JC:n≤c) (iU:kV w M β uO lo) (yr:kV w M β wO hi) {h l:Nat}
  (e1:Dc n c hi=some h) (e2:rq h lo=some l):(Instr.sliceBounds true n c uO wO none).run P w = .ok (l,h,c) w∧l≤h∧h≤c:=by
 have lo':∀ {a v},bS w M β v a→jO 0 h a=some l→∀ code,(Instr.sliceBound v h code).run P w = .ok l w∧l≤h:=by
  intro a v hv e code
  obtain ⟨h1,h2,h3⟩:=Ed (P:=P) hv e code
  exact ⟨h1,h3⟩
 cases yr with
 | none =>
  simp only [Dc,aG] at e1
  subst e1
  cases iU with
  | none =>
   simp only [rq,aG] at e2
   subst e2
   exact ⟨rfl,by omega,JC⟩
  | some hl =>
   obtain ⟨h1,h2⟩:=lo' hl e2 .sliceB
   exact ⟨by simp [Instr.sliceBounds,h1],h2,JC⟩
 | some hh =>
  obtain ⟨h3,_,h4⟩:=Ed (P:=P) hh e1 .sliceAcap
  cases iU with
  | none =>
   simp only [rq,aG] at e2
   subst e2
   exact ⟨by simp [Instr.sliceBounds,h3],by omega,h4⟩
  | some hl =>
   obtain ⟨h1,h2⟩:=lo' hl e2 .sliceB
   exact ⟨by simp [Instr.sliceBounds,h1,h3],h2,h4⟩
theorem Zux {n c m:Nat} {lo:Option ae} {ha ma:ae} {uO:Option Value} {vh vm:Value} (iU:kV w M β uO lo) (hh:bS w M β vh ha) (hm:bS w M β vm ma) {h l:Nat}
  (e0:jO 0 c ma=some m) (e1:jO 0 m ha=some h) (e2:rq h lo=some l):(Instr.sliceBounds true n c uO (some vh) (some vm)).run P w = .ok (l,h,m) w∧l≤h∧h≤m∧m≤c:=by
 obtain ⟨h1,_,h2⟩:=Ed (P:=P) hm e0 .slice3Acap
 obtain ⟨h3,_,h4⟩:=Ed (P:=P) hh e1 .slice3B
 cases iU with
 | none =>
  simp only [rq,aG] at e2
  subst e2
  exact ⟨by simp [Instr.sliceBounds,h1,h3],by omega,h4,h2⟩
 | some hl =>
  obtain ⟨h5,_,h6⟩:=Ed (P:=P) hl e2 .slice3C
  exact ⟨by simp [Instr.sliceBounds,h1,h3,h5],h6,h4,h2⟩
theorem LZ {ρ:Operand→Value} {ia:Operand→ae} (dO:∀ x,bS w M β (ρ x) (ia x)) (o:Option Operand):kV w M β (o.map ρ) (o.map ia):=by
 cases o with
 | none=>exact .none
 | some x=>exact .some (dO x)
theorem Ec {α β γ:Type} {x:Option α} {f : α→Option β} {g : α→β→γ} {r : γ} (h:x.bind (fun a=>(f a).bind fun b=>some (g a b))=some r):∃ a b,x=some a∧f a=some b∧g a b=r:=by
 cases x with
 | none=>simp at h
 | some a =>
  simp only [eA] at h
  cases hf:f a with
  | none=>rw [hf] at h;simp at h
  | some b=>rw [hf] at h;simp at h;exact ⟨a,b,rfl,hf,h⟩
theorem tO {t:TypeId} {T:jV} (hT:bL P t=some T) (hk:T.kind = .slice):∃ e,P.underlying t=some (.slice e)∧T.elem=aF P e:=by
 obtain ⟨u,h1,h2,h3,_,h5,_⟩:=tQ hT
 obtain ⟨e,rfl⟩:=Cj (h3.trans hk)
 exact ⟨e,h2,h5⟩
theorem HK {t e:TypeId} {i:TypeInfo} (ht:P.underlying t=some (.slice e)) (hi:P.info? e=some i) {a:Option Addr} {n c l h:Nat} {uO wO:Option Value}
  (hb:(Instr.sliceBounds true n c uO wO none).run P w = .ok (l,h,c) w) :
  (Instr.sliceAt t (.slice a n c) uO wO none).run P w = .ok (.slice (if c=l then a else a.map (·.add (l*i.size))) (h - l) (c - l)) w:=by
 simp [Instr.sliceAt,Instr.slice,run_underlying ht,hb,tP hi]
theorem QR {t e:TypeId} {i:TypeInfo} (ht:P.underlying t=some (.slice e)) (hi:P.info? e=some i) {a:Option Addr} {n c l h m:Nat} {uO wO Hz:Option Value}
  (hb:(Instr.sliceBounds true n c uO wO Hz).run P w = .ok (l,h,m) w) :
  (Instr.sliceAt t (.slice a n c) uO wO Hz).run P w = .ok (.slice (if m=l then a else a.map (·.add (l*i.size))) (h - l) (m - l)) w:=by
 simp [Instr.sliceAt,Instr.slice,run_underlying ht,hb,tP hi]
theorem Q8 {v:Value} {b off n c s l h m:Nat} (hx:bS w M β v (.oc b off n c s)) (h1:l≤h) (h2:h≤m) (h3:m≤c):∃ a,v = .slice a n c∧n≤c ∧
  bS w M β (.slice (if m=l then a else a.map (·.add (l*s))) (h - l) (m - l)) (.oc b (off+l) (h - l) (m - l) s):=by
 cases hx with
 | sI ad hL =>
  refine ⟨_,rfl,ah _,?_⟩
  obtain rfl:l=0:=by omega
  obtain rfl:h=0:=by omega
  obtain rfl:m=0:=by omega
  exact .sI _ hL
 | @oc _ _ _ _ L hL hl hc =>
  refine ⟨_,rfl,hl,?_⟩
  by_cases e:m=l
  ·rw [show h - l=0 by omega,show m - l=0 by omega]
   exact .sI _ hL
  ·rw [if_neg e]
   simp only [bu,Addr.add_lit]
   rw [show L.o+off*L.sz+l*L.sz=L.o+(off+l)*L.sz by rw [bI];omega]
   exact .oc hL (by omega) (by omega)
theorem Cx {e:TypeId} {T:jV} (je:T.elem=aF P e) {sz:Nat} (h:T.uX=some sz):∃ i,P.info? e=some i∧i.size=sz:=by
 unfold jV.uX at h
 rw [je] at h
 obtain ⟨l,h1,h2⟩:=aH.1 h
 obtain ⟨i,u,z,h3,_,_,h4,_⟩:=p6 h1
 exact ⟨i,h3,h4.trans h2⟩
theorem Zzd {t:TypeId} {T:jV} (hT:bL P t=some T) {vx:Value} {x r:ae} {uO wO Hz:Option Value} {lo hi mx:Option ae} (hx:bS w M β vx x)
  (iU:kV w M β uO lo) (yr:kV w M β wO hi) (JB:kV w M β Hz mx) (h:iX T x lo hi mx=some r) :
  ∃ v,(Instr.sliceAt t vx uO wO Hz).run P w = .ok v w∧bS w M β v r:=by
 unfold iX at h
 cases JB with
 | some hm =>
  simp only at h
  split at h
  ·rename_i bk off n c sz
   split at h
   ·rename_i hk
    obtain ⟨e,ht,je⟩:=tO hT hk.1
    obtain ⟨i,dV,hs⟩:=Cx je hk.2
    obtain ⟨m,e0,h⟩:=au.1 h
    obtain ⟨b,a,e1,e2,rfl⟩:=Ec h
    obtain ⟨ha,rfl,e1⟩:=au.1 e1
    cases yr with
    | some hh =>
     obtain ⟨h4,h5,h6,h7⟩:=Zux (P:=P) (n:=n) iU hh hm e0 e1 e2
     obtain ⟨ad,rfl,h8,h9⟩:=Q8 hx h5 h6 h7
     exact ⟨_,QR ht dV h4,by rw [hs];exact h9⟩
   ·cases h
  ·cases h
 | none =>
  simp only at h
  split at h
  ·rename_i bk off n c sz
   split at h
   ·rename_i hk
    obtain ⟨e,ht,je⟩:=tO hT hk.1
    obtain ⟨i,dV,hs⟩:=Cx je hk.2
    obtain ⟨b,a,e1,e2,rfl⟩:=Ec h
    have JC:n≤c:=by
     cases hx with
     | sI=>exact ah _
     | oc _ hl _=>exact hl
    obtain ⟨h4,h5,h6⟩:=Zuc (P:=P) JC iU yr e1 e2
    obtain ⟨ad,rfl,h8,h9⟩:=Q8 hx h5 h6 (ah _)
    exact ⟨_,QR ht dV h4,by rw [hs];exact h9⟩
   ·cases h
  ·rename_i s
   split at h
   ·rename_i hk
    obtain ⟨u,h1,h2,h3,_⟩:=tQ hT
    obtain rfl:=z_ (h3.trans hk)
    obtain ⟨b,a,e1,e2,rfl⟩:=Ec h
    obtain ⟨h4,h5,h6⟩:=Fj (P:=P) (DM:=false) (ah _) iU yr e1 e2
    rw [hx.gI]
    exact ⟨.string (s.extract a b),by simp [Instr.sliceAt,Instr.slice,run_underlying h2,h4], .str _⟩
   ·cases h
  ·rename_i sz es
   split at h
   ·rename_i hk
    obtain ⟨e,ht,je⟩:=tO hT hk.1
    obtain ⟨i,dV,hs⟩:=Cx je hk.2
    obtain ⟨b,a,e1,e2,rfl⟩:=Ec h
    cases hx with
    | @ps ad cap _ _ cv jr fH hc ha hr =>
     obtain ⟨h4,h5,h6⟩:=Fj (P:=P) (DM:=true) jr iU yr e1 e2
     refine ⟨_,HK ht dV h4,?_⟩
     have hl:((es.drop a).take (b - a)).length=b - a:=by simp;omega
     have eL:∀ k,k<b - a→((es.drop a).take (b - a)).getD k ae.undef=es.getD (a+k) .undef:=fun k hk=>by
      simp [List.getD,fj,hk,dM]
     have key:bS w M β (.slice (if cap=a then ad else ad.map (·.add (a*i.size))) ((es.drop a).take (b - a)).length (cap - a)) (.ps sz ((es.drop a).take (b - a))):=by
      refine .ps (fun k j=>cv (a+k) j) (by omega) (fun k eE=>?_) (fun k j eE hj=>?_) (fun h0=>?_) (fun k j eE hj=>?_)
      ·rw [eL k (by omega)];exact fH _ (by omega)
      ·obtain ⟨g,o,h7,h8,h9⟩:=hc (a+k) j (by omega) hj
       have e3:o+(a+k)*sz+j=o+a*sz+k*sz+j:=by rw [bI];omega
       rw [e3] at h8 h9
       refine ⟨g,o+a*sz,?_,h8,h9⟩
       rw [h7,if_neg (by omega),hs]
       simp [Addr.add_lit]
      ·obtain ⟨g,o,h7⟩:=ha (by omega)
       refine ⟨g,o+a*sz,?_⟩
       rw [h7,if_neg (by omega),hs]
       simp [Addr.add_lit]
      ·rw [eL k (by omega)];exact hr _ j (by omega) hj
     rw [hl] at key
     exact key
   ·cases h
  ·rename_i bk off n sz
   split at h
   ·rename_i hk
    obtain ⟨e,ht,je⟩:=tO hT hk.1
    obtain ⟨i,dV,hs⟩:=Cx je hk.2
    obtain ⟨b,a,e1,e2,rfl⟩:=Ec h
    cases hx with
    | sJ ad hL =>
     obtain ⟨h4,h5,h6⟩:=Fj (P:=P) (DM:=true) (ah 0) iU yr e1 e2
     obtain rfl:b=0:=by omega
     obtain rfl:a=0:=by omega
     exact ⟨_,HK ht dV h4, .sJ _ hL⟩
    | @os _ _ _ cap L hL hl hc =>
     obtain ⟨h4,h5,h6⟩:=Fj (P:=P) (DM:=true) hl iU yr e1 e2
     refine ⟨_,HK ht dV h4,?_⟩
     by_cases e3:cap=a
     ·rw [if_pos e3]
      rw [show cap - a=0 by omega,show b - a=0 by omega]
      exact .sJ _ hL
     ·rw [if_neg e3,hs]
      simp only [bu,Addr.add_lit]
      rw [show L.o+off*L.sz+a*L.sz=L.o+(off+a)*L.sz by rw [bI];omega]
      exact .os hL (by omega) (by omega)
   ·cases h
  ·split at h
   ·rename_i hk
    obtain ⟨e,ht,je⟩:=tO hT hk.1
    obtain ⟨l',GQ⟩:=oA.1 hk.2
    rw [je] at GQ
    obtain ⟨i,u,z,dV,_⟩:=p6 GQ
    obtain ⟨b,a,e1,e2,rfl⟩:=Ec h
    cases hx with
    | aU ad =>
     obtain ⟨h4,h5,h6⟩:=Fj (P:=P) (DM:=true) (ah 0) iU yr e1 e2
     obtain rfl:b=0:=by omega
     obtain rfl:a=0:=by omega
     exact ⟨_,HK ht dV h4, .aU _⟩
   ·cases h
  ·cases h
theorem Zmr {t:TypeId} {T:jV} (hT:bL P t=some T) {vx vi:Value} {x i r:ae} (hx:bS w M β vx x) (hi:bS w M β vi i) (h:fB T x i=some r) :
  ∃ v,(Instr.indexAt t vx vi).run P w = .ok v w∧bS w M β v r:=by
 unfold fB at h
 split at h
 ·rename_i k i
  rw [hi.ek]
  split at h
  ·rename_i b off n sz
   split at h
   ·rename_i hk
    obtain ⟨e,ht,je⟩:=tO hT hk.1
    obtain ⟨ti,dV,hs⟩:=Cx je hk.2.1
    cases h
    cases hx with
    | sJ ad hL=>exfalso;have:=hk.2.2;omega
    | @os _ _ _ cap L hL hl hc =>
     refine ⟨.pointer (some ⟨L.g,L.o+(off+i.toNat)*L.sz+0,none⟩),?_, .rp hL⟩
     simp only [Instr.indexAt,asIntOf,Sem.run_bind,Sem.run_pure,Result.andThen_ok,run_underlying ht]
     rw [if_pos (by omega)]
     simp only [Sem.run_bind,tP dV,Result.andThen_ok,Sem.run_pure,Addr.add_lit,hs]
     rw [bI,← fw];rfl
   ·cases h
  ·rename_i b off n c sz
   split at h
   ·rename_i hk
    obtain ⟨e,ht,je⟩:=tO hT hk.1
    obtain ⟨ti,dV,hs⟩:=Cx je hk.2.1
    cases h
    cases hx with
    | sI ad hL=>exfalso;have:=hk.2.2;omega
    | @oc _ _ _ cap L hL hl hc =>
     refine ⟨.pointer (some ⟨L.g,L.o+(off+i.toNat)*L.sz+0,none⟩),?_, .rp hL⟩
     simp only [Instr.indexAt,asIntOf,Sem.run_bind,Sem.run_pure,Result.andThen_ok,run_underlying ht]
     rw [if_pos (by omega)]
     simp only [Sem.run_bind,tP dV,Result.andThen_ok,Sem.run_pure,Addr.add_lit,hs]
     rw [bI,← fw];rfl
   ·cases h
  ·rename_i sz es
   split at h
   ·rename_i hk
    obtain ⟨e,ht,je⟩:=tO hT hk.1
    obtain ⟨ti,dV,hs⟩:=Cx je hk.2.1
    cases h
    cases hx with
    | @ps ad cap _ _ cv jr fH hc ha hr =>
     have bG:i.toNat<es.length:=by omega
     obtain ⟨g,o,h7⟩:=ha (by omega)
     refine ⟨.pointer (some ⟨g,o+i.toNat*sz,none⟩),?_, .pp (fun j=>cv i.toNat j) (fun j hj=>?_) (fun j hj=>?_)⟩
     ·simp only [Instr.indexAt,asIntOf,Sem.run_bind,Sem.run_pure,Result.andThen_ok,run_underlying ht,h7]
      rw [if_pos (by omega)]
      simp only [Sem.run_bind,tP dV,Result.andThen_ok,Sem.run_pure,Addr.add_lit,hs]
     ·rw [fH i.toNat bG] at hj
      obtain ⟨g',o',h8,h9⟩:=hc i.toNat j bG hj
      rw [h7] at h8
      simp only [aG,Addr.mk.injEq,and_true] at h8
      obtain ⟨rfl,rfl⟩:=h8
      exact h9
     ·rw [fH i.toNat bG] at hj
      exact hr i.toNat j bG hj
   ·cases h
  ·rename_i b off
   split at h
   ·rename_i n e hk he
    split at h
    ·rename_i hb
     cases h
     obtain ⟨u,h1,h2,h3,_,h5,_⟩:=tQ hT
     obtain ⟨et,rfl⟩:=HW (h3.trans hk)
     rw [he] at h5
     obtain ⟨ti,_,_,qB,_,_,hs,_⟩:=p6 h5.symm
     cases hx with
     | @ptr _ _ L hL =>
      refine ⟨.pointer (some ⟨L.g,L.o+(off+i.toNat*e.sz),none⟩),?_, .ptr hL⟩
      simp only [Instr.indexAt,asIntOf,Sem.run_bind,Sem.run_pure,Result.andThen_ok,run_underlying h2,Instr.sureAddr]
      rw [if_pos hb]
      simp only [Sem.run_bind,tP qB,Result.andThen_ok,Sem.run_pure,Addr.add_lit,hs]
      rw [fw]
    ·cases h
   ·cases h
  ·cases h
 ·cases h
theorem Y8 {t:TypeId} {T:jV} (hT:bL P t=some T) {vx vi:Value} {x i r:ae} (hx:bS w M β vx x) (hi:bS w M β vi i) (h:pR T x i=some r) :
  ∃ v,(Instr.index t vx vi).run P w = .ok v w∧bS w M β v r:=by
 unfold pR at h
 split at h
 ·rename_i cs k i
  rw [hi.ek]
  split at h
  ·rename_i n e hk he
   split at h
   ·rename_i hb
    obtain ⟨u,h1,h2,h3,_,h5,_⟩:=tQ hT
    obtain ⟨et,rfl⟩:=HW (h3.trans hk)
    rw [he] at h5
    obtain ⟨ti,_,_,qB,_,_,hs,_⟩:=p6 h5.symm
    cases hx with
    | agg hn hr =>
     obtain ⟨v,h6,h7⟩:=Q7 (P:=P) h5.symm hn hr h
     refine ⟨v,?_,h7⟩
     simp only [Instr.index,asIntOf,Sem.run_bind,Sem.run_pure,Result.andThen_ok,run_underlying h2]
     rw [if_pos hb]
     simp only [Sem.run_bind,tP qB,Result.andThen_ok,hs,h6]
   ·cases h
  ·cases h
 ·rename_i s k i
  split at h
  ·rename_i hb
   obtain ⟨hb,hk⟩:=hb
   cases h
   rw [hi.ek,hx.gI]
   obtain ⟨u,h1,h2,h3,_⟩:=tQ hT
   obtain rfl:=z_ (h3.trans hk)
   refine ⟨_,?_, .int _ _⟩
   simp only [Instr.index,asIntOf,Sem.run_bind,Sem.run_pure,Result.andThen_ok,run_underlying h2]
   rw [if_pos hb.1,getElem?_pos s i.toNat hb.2];rfl
  ·cases h
 ·cases h
theorem Zmq {t:TypeId} {T:jV} (hT:bL P t=some T) {vx:Value} {x r:ae} {i:Nat} (hx:bS w M β vx x) (h:jZ T x i=some r) :
  ∃ v,(Instr.fieldAt t vx i).run P w = .ok v w∧bS w M β v r:=by
 unfold jZ at h
 split at h
 ·rename_i off l hk hf
  split at h
  ·rename_i fH
   obtain ⟨u,h1,h2,h3,h4,_⟩:=tQ hT
   obtain ⟨fs,rfl⟩:=Kn (h3.trans hk)
   simp only at h4
   rw [h4,cf] at hf
   obtain ⟨f,vE,pb⟩:=aH.1 hf
   simp only [bx] at pb
   obtain ⟨rfl,hl⟩:=pb
   obtain ⟨ti,_,_,qB,_,_,hs,_⟩:=p6 hl
   have Nc:fs[i]? = some f:=by simpa using vE
   have run:∀ g o,(Instr.fieldAt t (.pointer (some ⟨g,o,none⟩)) i).run P w = .ok (.pointer (some ⟨g,o+f.offset,none⟩)) w:=by
    intro g o
    have:¬ ti.size=0:=by omega
    simp [Instr.fieldAt,run_underlying h2,Nc,Instr.sureAddr,fieldPlace,tP qB,this,Addr.add_lit]
   split at h
   ·cases h
    cases hx with
    | @ptr b o L hL=>exact ⟨_,run _ _,by rw [fw];exact .ptr hL⟩
   ·cases h
    cases hx with
    | @rp b o fo L hL=>exact ⟨_,run _ _,by rw [fw];exact .rp hL⟩
   ·rename_i cs
    cases h
    cases hx with
    | @pp g o _ cv hc hr =>
     refine ⟨_,run _ _, .pp (fun k=>cv (f.offset+k)) (fun k eE=>?_) (fun k eE=>?_)⟩
     ·simp only [cj] at eE
      have:=hc (f.offset+k) (by omega)
      rwa [← fw] at this
     ·simp only [cj] at eE
      rw [J9];exact hr _ (by omega)
   ·cases h
  ·cases h
 ·cases h
theorem Zzr {t:TypeId} {T:jV} (hT:bL P t=some T) {vx:Value} {x r:ae} {i:Nat} (hx:bS w M β vx x) (h:pL T x i=some r) :
  ∃ v,(Instr.field t vx i).run P w = .ok v w∧bS w M β v r:=by
 unfold pL at h
 split at h
 ·rename_i off l cs hk hf
  obtain ⟨u,h1,h2,h3,h4,_⟩:=tQ hT
  obtain ⟨fs,rfl⟩:=Kn (h3.trans hk)
  simp only at h4
  rw [h4,cf] at hf
  obtain ⟨f,vE,pb⟩:=aH.1 hf
  simp only [bx] at pb
  obtain ⟨rfl,hl⟩:=pb
  have Nc:fs[i]? = some f:=by simpa using vE
  cases hx with
  | agg hn hr =>
   obtain ⟨v,h6,h7⟩:=Q7 (P:=P) hl hn hr h
   exact ⟨v,by simp [Instr.field,run_underlying h2,Nc,asAgg,h6],h7⟩
 ·cases h
end
section
variable {P:Program} {X:Nat→Nat→Prop} {base:Nat} {σ:ai} {β:Env} {w:World} {nm:Nat} {M:Nat→Nat→Prop}
theorem FA (k:ae):∀ (ks:List ae) (i j:Nat),fe k ks i=some j→i≤j∧j - i<ks.length
 | [],_,_,h=>by simp [fe] at h
 | x :: xs,i,j,h=>by
  simp only [fe] at h
  split at h
  ·cases h;simp
  ·have:=FA k xs (i+1) j h;simp;omega
theorem Rv {T:jV} {t:TypeId} (hT:bL P t=some T) (hk:T.kind = .map) {k:ae} (h:nw T k=true) :
  ∃ kt et u,P.underlying t=some (.map kt et)∧T.elem=aF P et∧P.underlying kt=some u ∧
   ((∃ ik n,u = .int ik∧k = .int ik n)∨(∃ s,u = .string∧k = .str s)):=by
 obtain ⟨u,h1,h2,h3,_,h5,h6⟩:=tQ hT
 obtain ⟨kt,et,rfl⟩:=Eo (h3.trans hk)
 simp only at h5 h6
 unfold nw at h
 rw [h6] at h
 cases hl:aF P kt with
 | none=>rw [hl] at h;simp at h
 | some l =>
  rw [hl] at h
  simp only [bu] at h
  obtain ⟨_,u,_,_,hu,_,_,_,_,_,Df,_⟩:=p6 hl
  refine ⟨kt,et,u,h2,h5,hu,?_⟩
  split at h
  ·rename_i k' ik n e1
   simp only [aG] at e1
   rw [← Df] at e1
   simp only [beq_iff_eq] at h
   subst h
   exact .inl ⟨_,_,IA e1,rfl⟩
  ·rename_i s e1
   simp only [aG] at e1
   rw [← Df] at e1
   exact .inr ⟨_,z_ e1,rfl⟩
  ·cases h
theorem QX {kt:TypeId} {u:TypeDesc} (hu:P.underlying kt=some u) (h:(∃ ik,u = .int ik)∨u = .string) (e:Bool) (n:Nat) (v:Value) :
  (Instr.checkKey e (n+1) kt v).run P w = .ok () w:=by
 rcases h with ⟨ik,rfl⟩ | rfl<;>simp [Instr.checkKey,run_underlying hu]
theorem Y0 {u:TypeDesc} {k x:ae} {vk vx:Value} (hu:(∃ ik n,u = .int ik∧k = .int ik n)∨(∃ s,u = .string∧k = .str s)) (hk:bS w M β vk k) (hx:bS w M β vx x)
  (hs:sameKind k x=true):Instr.sameNow u vk vx=some (fq k x):=by
 rcases hu with ⟨ik,n,rfl,rfl⟩ | ⟨s,rfl,rfl⟩
 ·cases x<;>simp only [sameKind,reduceCtorEq,a_,beq_iff_eq] at hs
  subst hs
  rw [hk.ek,hx.ek]
  simp [Instr.sameNow,fq]
 ·cases x<;>simp only [sameKind,reduceCtorEq,a_] at hs
  rw [hk.gI,hx.gI]
  simp [Instr.sameNow,fq,beq_toListBytes]
theorem KD {u:TypeDesc} {k:ae} {vk:Value} (hu:(∃ ik n,u = .int ik∧k = .int ik n)∨(∃ s,u = .string∧k = .str s)) (hk:bS w M β vk k) :
  ∀ (es:List MapEntry) (ks:List ae) (i:Nat),es.length=ks.length→(∀ j,j<ks.length→bS w M β (es.getD j default).key (ks.getD j .undef))→(∀ x∈ks,sameKind k x=true) →
   Instr.findNow u vk es i=some ((fe k ks i).map fun j=>(j,(es.getD (j - i) default).val))
 | [],[],i,_,_,_=>rfl
 | [],_ :: _,_,h,_,_=>by simp at h
 | _ :: _,[],_,h,_,_=>by simp at h
 | e :: es,x :: xs,i,hl,hr,hs=>by
  have h0:=hr 0 (by simp)
  simp only [bm] at h0
  simp only [Instr.findNow,Y0 hu hk h0 (hs x (by simp)),fe]
  cases hc:fq k x with
  | true=>simp
  | false =>
   have ih:=KD hu hk es xs (i+1) (by simpa using hl) (fun j hj=>by simpa using hr (j+1) (by simpa using hj)) (fun y hy=>hs y (by simp [hy]))
   simp only [a_,if_false]
   rw [ih]
   cases hf:fe k xs (i+1) with
   | none=>rfl
   | some j =>
    have:=FA k xs (i+1) j hf
    simp only [bu]
    rw [show j - i=(j - (i+1))+1 by omega,bC]
theorem Bq {t:TypeId} {l:eM} (hl:aF P t=some l):∃ z,(zeroValue t).run P w = .ok z w∧bS w M β z (zeroV l)∧z.cells.size=l.sz∧l.zero.length=l.sz ∧
  (∀ k,k<l.sz→bS w M β (z.cells.getD k undef) (l.zero.getD k .undef))∧Ba l.ag z=true:=by
 obtain ⟨i,u,z,h1,h2,h3,h4,h5,h6,h7,h8,h9,ur⟩:=p6 hl
 have hn:l.zero.length=l.sz:=by rw [← h7];simp [sK];exact ur
 have hz:∀ k,k<l.sz→bS w M β (z.cells.getD k undef) (l.zero.getD k .undef):=by
  intro k hk
  rw [← ur] at hk
  have:(sK z).getD k .undef=ofValue (z.cells.getD k undef):=by simp [sK,List.getD,hk,Array.getD]
  rw [← h7,this]
  exact Kk _
 refine ⟨z,HL h1 h3,?_,ur,hn,hz,h9⟩
 unfold zeroV
 cases z with
 | agg cs =>
  have ha:l.ag=true:=by simpa [Ba] using h9
  rw [if_pos ha]
  exact .agg (by rw [hn,← ur];rfl) (fun k hk=>hz k (by omega))
 | tuple cs=>simp [Ba] at h9
 | _ =>
  have ha:¬ l.ag=true:=by intro ha;rw [ha] at h9;simp [Ba] at h9
  rw [if_neg ha]
  have e1:l.zero=[ofValue _]:=h7.symm
  rw [e1]
  exact Kk _
theorem Ft {v:Value} {a:ae} (h:bS w M β v a) (hc:a.cells.all ae.cK=true):v.cells.size=a.cells.length∧(∀ k,k<a.cells.length→bS w M β (v.cells.getD k undef) (a.cells.getD k .undef)) ∧
  (cN a=false→v.oneCell'=true)∧(∀ u∈v.cells.toList,u.oneCell'=true):=by
 have one:∀ {v:Value} {a:ae},bS w M β v a→a.cK=true→v.oneCell'=true:=by
  intro v a h hc
  cases h<;>first | rfl | (simp [ae.cK] at hc)
 cases a with
 | agg l =>
  cases h with
  | @agg cs _ hn hr =>
   refine ⟨hn,hr,fun e=>by simp [cN] at e,fun u hu=>?_⟩
   obtain ⟨k,hk,rfl⟩:=mF hu
   simp only [Value.cells] at hk
   simp only [bB] at hk
   have h1:=hr k (by omega)
   have h2:(cs.getD k undef)=cs[k]:=by simp [Array.getD,hk]
   rw [h2] at h1
   refine one h1 ?_
   simp only [ae.cells,bj] at hc
   have h3:k<l.length:=by omega
   have:l.getD k .undef=l[k]:=by simp [List.getD,h3]
   rw [this]
   exact hc _ (aE h3)
 | _ =>
  have h1:=one h (by simpa [ae.cells] using hc)
  have h2:v.cells = #[v]:=by cases v<;>first | rfl | (simp [Value.oneCell'] at h1)
  rw [h2]
  refine ⟨rfl,fun k hk=>?_,fun _=>h1,fun u hu=>?_⟩
  ·simp only [ae.cells,dm] at hk
   obtain rfl:k=0:=by omega
   exact h
  ·simp at hu;subst hu;exact h1
theorem Kd {t kt et:TypeId} (ht:P.underlying t=some (.map kt et)) {l:eM} (hl:aF P et=some l) {u:TypeDesc} (hu:P.underlying kt=some u) {k:ae} {vk:Value}
  (hk:(∃ ik n,u = .int ik∧k = .int ik n)∨(∃ s,u = .string∧k = .str s)) (tF:bS w M β vk k) {es:Array MapEntry} {ks vs:List ae} (hn:es.size=ks.length) (hv:vs.length=ks.length)
  (oJ:∀ j,j<ks.length→bS w M β (es.getD j default).key (ks.getD j .undef)) (nS:∀ j,j<ks.length→bS w M β (es.getD j default).val (vs.getD j .undef)) (hs:∀ x∈ks,sameKind k x=true)
  {vx:Value} (hx:vx = .map none∧es = #[]∨∃ g clk,vx = .map (some g)∧w.heap[g]? = some (.map es clk)) (ok:Bool) :
  ∃ v,(Instr.lookup t vx vk ok).run P w = .ok v w∧bS w M β v (eT ks vs (zeroV l) k ok):=by
 obtain ⟨z,rS,rT,_⟩:=Bq (w:=w) (M:=M) (β:=β) hl
 have rN:=QX (P:=P) (w:=w) hu (by rcases hk with ⟨ik,_,h,_⟩ | ⟨_,h,_⟩;exact .inl ⟨ik,h⟩;exact .inr h) es.isEmpty 9999 vk
 have eL:∀ j,es.toList.getD j default=es.getD j default:=fun j=>by simp [List.getD,aj]
 have BN:=KD hk tF es.toList ks 0 (by simpa using hn) (fun j hj=>by rw [eL];exact oJ j hj) hs
 have vF:(Instr.findKey kt vk es.toList).run P w = .ok ((fe k ks 0).map fun j=>(j,(es.getD j default).val)) w:=by
  simp only [Instr.findKey,Sem.run_bind,run_underlying hu,Result.andThen_ok,BN,gR,eL]
  rfl
 refine ⟨match fe k ks 0 with | some j=>if ok then .tuple #[(es.getD j default).val, .bool true] else (es.getD j default).val | none=>if ok then .tuple #[z, .bool false] else z,?_,?_⟩
 ·rcases hx with ⟨rfl,rfl⟩ | ⟨g,clk,rfl,hg⟩
  ·simp only [Instr.lookup,Sem.run_bind,run_underlying ht,Result.andThen_ok,Sem.run_pure]
   rw [show (10000:Nat)=9999+1 from rfl,rN]
   simp only [Result.andThen_ok,vF]
   cases hf:fe k ks 0 with
   | none=>cases ok<;>simp [rS]
   | some j=>cases ok<;>simp
  ·have vI:(getObj g).run P w = .ok (.map es clk) w:=by simp [getObj,Sem.run,hg]
   simp only [Instr.lookup,Sem.run_bind,run_underlying ht,Result.andThen_ok,vI,Sem.run_pure]
   rw [show (10000:Nat)=9999+1 from rfl,rN]
   simp only [Result.andThen_ok,vF]
   cases hf:fe k ks 0 with
   | none=>cases ok<;>simp [rS]
   | some j=>cases ok<;>simp
 ·unfold eT
  cases hf:fe k ks 0 with
  | none =>
   cases ok
   ·exact rT
   ·exact .dA rfl (fun j hj=>by
     match j,hj with
     | 0,_=>exact rT
     | 1,_=>exact .bool _)
  | some j =>
   have hj:=(FA k ks 0 j hf).2
   cases ok
   ·exact nS j (by omega)
   ·exact .dA rfl (fun i hi=>by
     match i,hi with
     | 0,_=>exact nS j (by omega)
     | 1,_=>exact .bool _)
theorem Zvx (hr:cH X base σ β w) {t:TypeId} {T:jV} (hT:bL P t=some T) {vx vk:Value} {x k r:ae} {ok:Bool} (hx:bS w (MT X σ β) β vx x) (tF:bS w (MT X σ β) β vk k)
  (h:lH σ T x k ok=some r):∃ v,(Instr.lookup t vx vk ok).run P w = .ok v w∧bS w (MT X σ β) β v r:=by
 unfold lH at h
 split at h
 ·rename_i l hk he
  split at h
  ·rename_i Ns
   obtain ⟨kt,et,u,h1,h2,h3,h4⟩:=Rv hT hk Ns
   rw [he] at h2
   split at h
   ·cases h
    cases hx
    exact Kd h1 h2.symm h3 h4 tF (es:=#[]) rfl rfl (fun j hj=>by simp at hj) (fun j hj=>by simp at hj) (fun x hx=>by simp at hx) (.inl ⟨rfl,rfl⟩) ok
   ·split at h
    ·rename_i hs
     cases h
     cases hx with
     | @pm g clk es _ _ hg hm hn hv oJ nS=>exact Kd h1 h2.symm h3 h4 tF hn hv oJ nS (by simpa using hs) (.inr ⟨g,clk,rfl,hg⟩) ok
    ·cases h
   ·split at h
    ·rename_i ks vs fz hb
     split at h
     ·rename_i hs
      cases h
      obtain ⟨L,h5,_,_,es,clk,h6,hn,hv,oJ,nS,_⟩:=hr.cg _ _ (j_ hb)
      cases hx with
      | map hL =>
       obtain rfl:=aN (h5.symm.trans hL)
       exact Kd h1 h2.symm h3 h4 tF hn hv oJ nS (by simpa using hs) (.inr ⟨L.g,clk,rfl,h6⟩) ok
     ·cases h
    ·cases h
   ·cases h
  ·cases h
 ·cases h
end
end Go.c8
