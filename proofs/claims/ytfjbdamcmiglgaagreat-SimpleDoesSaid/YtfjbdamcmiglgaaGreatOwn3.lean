/- Part 3 of what the claim rests on. -/
import Derived.Test.YtfjbdamcmiglgaaGreatOwn2
import Derived.Laws.Slices
import Derived.Laws.StructEq
set_option linter.all false
abbrev bR:=@Array.length_toList
abbrev aG:=@Bool.and_eq_true
abbrev aX:=@Bool.false_eq_true
abbrev bX:=@Bool.not_eq_true'
abbrev bO:=@Bool.true_and
abbrev bu:=@List.all_eq_true
abbrev gG:=@List.cons.injEq
abbrev bE:=@List.getD_cons_succ
abbrev aV:=@List.getD_cons_zero
abbrev cE:=@List.getElem?_map
abbrev ay:=@List.getElem_mem
abbrev n6:=@List.getElem_of_mem
abbrev dN:=@List.length_singleton
abbrev aI:=@List.map_cons
abbrev fY:=@Nat.add_assoc
abbrev bY:=@Nat.add_mul
abbrev aZ:=@Nat.mul_le_mul_right
abbrev dX:=@Nat.one_mul
abbrev gU:=@Nat.sub_zero
abbrev br:=@Nat.zero_add
abbrev aB:=@Option.bind_eq_some_iff
abbrev fq:=@Option.bind_some
abbrev pS:=@Option.isSome_iff_exists
abbrev aP:=@Option.map_eq_some_iff
abbrev bD:=@Option.map_some
abbrev bM:=@Prod.mk.injEq
namespace Go.dq
open Go
section
variable {P:Program}{X:Nat->Nat->Prop}{base:Nat}{σ:av}{β:Env}{w:World}{nm:Nat}{M:Nat->Nat->Prop}
theorem la {b:Nat}{cG:bS}(h:bW σ b=some cG): σ[b]? = some (some cG):=by
 unfold bW at h;cases h1 : σ[b]? with
 |none=>rw[h1]at h;cases h
 |some x=>rw[h1]at h;simp at h;rw[h]
theorem cn.jj {v:Value}{b:Bool}(h:cn w M β v (.bool b)):v=.bool b:=by cases h;rfl
theorem cn.e7 {v:Value}{k:IntKind}{n:Int}(h:cn w M β v (.int k n)):v=.int k n:=by cases h;rfl
theorem cn.iM {v:Value}{s:ByteArray}(h:cn w M β v (.str s)):v=.string s:=by cases h;rfl
def Pts (w:World)(M:Nat->Nat->Prop)(β:Env)(v:Value)(cs:List ah):Prop :=
 ∃(g o:Nat) (cv:Nat->Value),v=.pointer (some ⟨g,o,none⟩)/\(∀k,k<cs.length->w.cell? ⟨g,o+k,none⟩=some (cv k))/\∀k,k<cs.length->cn w M β (cv k) (cs.getD k .undef)
theorem wm {c:Array Value}{k:Nat}(h:k<c.size):c[k]? = some (c.getD k undef):=by
 rw[au,aE h];rfl
theorem Nj (cs:List ah)(o k:Nat):(cs.drop o).getD k ah.undef=cs.getD (o+k) .undef:=by
 simp[List.getD,dZ]
theorem VX (hr:c8 X base σ β w) {l:fL} {p r:ah} {v:Value} (hv:cn w (MT X σ β) β v p) (h:jW σ l p=some r) :
  ∃cs,Pts w (MT X σ β) β v cs/\lq l cs=some r:=by
 cases p with
 | ptr b off =>
  simp only[jW]at h;split at h
  ·rename_i cs hb;obtain⟨L,h1,_,_,c,e,h2,h3,h4,h5⟩:=hr.cG b _ (la hb);cases hv with
   |ptr h' =>
    obtain rfl:=aS (h1.symm.trans h');refine⟨cs.drop off,⟨L.g,L.o+off,λk=>c.getD (off+k) undef,rfl,λk hk=>?_,λk hk=>?_⟩,h⟩
    ·simp only[cr]at hk;rw[h3,cell_of_row w L.g _ c e (0,0) h2,br,wm (by omega)]
    ·simp only[cr]at hk;rw[Nj];exact h5 _ (by omega)
  ·exact absurd h (by simp)
 | rp b i f =>
  simp only[jW]at h;split at h
  ·rename_i es fz hb;split at h
   ·rename_i hi;obtain⟨L,h1,_,_,c,e,h2,h3,h4,h5,h6⟩:=hr.cG b _ (la hb);cases hv with
    |rp h' =>
     obtain rfl:=aS (h1.symm.trans h');have hs:=h5 i hi;refine⟨(es.getD i .undef).cells.drop f,⟨L.g,L.o+i*L.sz+f,λk=>c.getD (L.o+i*L.sz+f+k) undef,rfl,λk hk=>?_,λk hk=>?_⟩,h⟩
     ·simp only[cr]at hk;have h7:(i+1)*L.sz<=L.n*L.sz:=aZ _ (by omega);rw[bY,dX]at h7;rw[cell_of_row w L.g _ c e (0,0) h2,wm (by omega)]
     ·simp only[cr]at hk;show cn _ _ _ (c.getD (L.o+i*L.sz+f+k) undef) _;rw[Nj,fY (L.o+i*L.sz)];exact h6 i (f+k) hi (by omega)
   ·exact absurd h (by simp)
  ·exact absurd h (by simp)
 |pp cs =>
  cases hv with
  |pp cv hc sU=>exact⟨cs,⟨_,_,cv,rfl,λk hk=>(hc k hk).1,sU⟩,h⟩
 |_=>cases h
theorem Ykn (hr:c8 X base σ β w) {ρ:Operand->Value} {je:Operand->ah} (eI:∀x,cn w (MT X σ β) β (ρ x) (je x)) {o:Oper} {t:TypeId} {x:Operand} (ho:o.op=.load t x)
  {l:fL} (hl:cC P t=some l) {r:ah} (h:jW σ l (je x)=some r):dh P X base σ β w nm (execOp ρ o) r σ:=by
 obtain⟨cs,⟨g,of,cv,h1,h2,h3⟩,h4⟩:=VX hr (eI x) h;obtain⟨v,h5,h6⟩:=Vg hl h2 h3 h4;refine dh.val hr (v:=v) ?_ h6;simp only[execOp,ho,Instr.loadAt,Instr.sureAddr,h1,Sem.run_bind,Sem.run_pure,Result.andThen_ok,h5]
theorem Ynd (hr:c8 X base σ β w) {ρ:Operand->Value} {je:Operand->ah} (eI:∀x,cn w (MT X σ β) β (ρ x) (je x)) {o:Oper} {c a b:Operand} (ho:o.op=.pick c a b)
  {r:ah} (h:tW (je c) (je a) (je b)=some r):dh P X base σ β w nm (execOp ρ o) r σ:=by
 have hc:=eI c;have ha:=eI a;have hb:=eI b;cases tx : je c with
 | bool c' =>
  rw[tx]at hc h;have fE:(execOp ρ o).run P w=.ok (.value (if c' then ρ a else ρ b)) w:=by simp[execOp,ho,hc.jj,asBool]
  refine dh.val hr fE ?_;unfold tW at h;split at h
  ·rename_i c2 x y e1 e2 e3;cases e1;rw[e2]at ha;rw[e3]at hb;cases h;rw[ha.jj,hb.jj];cases c'<;>exact .bool _
  ·rename_i c2 e1 _;cases e1;cases h;cases c'
   ·exact hb
   ·exact ha
  ·cases h
 |_=>rw[tx]at h;simp[tW]at h
theorem Ysj (a b:Int):cn w M β (.bool (a != b)) (.bool (decide (a≠b))):=by
 have:(a != b)=decide (a≠b):=by by_cases e:a=b<;>simp[e]
 rw[this];exact .bool _
theorem Yb8 {op:BinOp} {k:IntKind} {a b:Int} {r:ah} (h:kb op k a b=some r) :
  ∃v,(match op with
   |.add|.sub|.mul=>Op.intArith op k a b
   |.quo|.rem=>Op.intDiv op k a b
   |.and|.or|.xor|.andNot=>Op.intBits op k a b
   |_=>Op.intCmp op a b).run P w=.ok v w/\cn w M β v r:=by
 cases op<;>simp only[kb,reduceCtorEq]at h <;>
  (try (split at h<;>(try cases h))) <;>
  (try (simp only[aM]at h;subst h)) <;>
  (first
   |exact⟨_,rfl,.int _ _⟩
   |exact⟨_,rfl,.bool _⟩
   |exact⟨_,rfl,Ysj _ _⟩
   |(rename_i hb;refine⟨_,by simp only[Op.intDiv,if_neg hb];rfl,?_⟩;exact .int _ _))
theorem Yck {op:BinOp} {a b:ByteArray} {r:ah} (h:rN op a b=some r):∃v,(Op.stringOp op a b).run P w=.ok v w/\cn w M β v r:=by
 cases op<;>simp only[rN,reduceCtorEq]at h <;>
  (try (split at h<;>(try cases h))) <;>
  (try (simp only[aM]at h;subst h)) <;>
  (first
   | (rename_i hs
      have:¬(((a.size+b.size:Nat):Int) > IntKind.i64.max):=by
       have e:IntKind.i64.max=9223372036854775807:=by decide
       rw[e];omega
      refine⟨.string (a++b),?_,.str _⟩;simp only[Op.stringOp];rw[if_neg this];rfl)
   |exact⟨_,rfl,.bool _⟩)
theorem Lu {u:TypeDesc}{k:IntKind}(h:j4 u=.int k):u=.int k:=by cases u<;>simp_all [j4]
theorem Cv {u:TypeDesc}(h:j4 u=.str):u=.string:=by cases u<;>simp_all [j4]
theorem Yz {u:TypeDesc}(h:j4 u=.bool):u=.bool:=by cases u<;>simp_all [j4]
theorem Ymj {u:TypeDesc}(h:j4 u=.ptr):∃e,u=.pointer e:=by cases u<;>simp_all [j4]
theorem EJ {u:TypeDesc}(h:j4 u=.slice):∃e,u=.slice e:=by cases u<;>simp_all [j4]
theorem KP {u:TypeDesc}{n:Nat}(h:j4 u=.array n):∃e,u=.array n e:=by cases u<;>simp_all [j4]
theorem G1 {u:TypeDesc}(h:j4 u=.map):∃k e,u=.map k e:=by cases u<;>simp_all [j4]
theorem NG {u:TypeDesc}(h:j4 u=.struct):∃fs,u=.struct fs:=by cases u<;>simp_all [j4]
theorem Yco {u:TypeDesc}(h:j4 u=.iface):∃ms,u=.interface ms:=by cases u<;>simp_all [j4]
theorem Ydh {u:TypeDesc}(h:(j4 u).plain=true):td u=false:=by cases u<;>simp[j4,KA.plain,td]at h ⊢
theorem Vt {t:TypeId} {u:TypeDesc} (hu:P.underlying t=some u) (ha:td u=false) {cs:Array Value} {off:Nat} (h:off<cs.size) :
  (part t cs off).run P w=.ok (cs.getD off undef) w:=by
 simp only[part,Sem.run_bind,Oy hu,Result.andThen_ok,ha];rw[wm h];rfl
theorem Zsd {xs ys:Array Value} {cI bs:List ah} (hx:xs.size=cI.length) (hy:ys.size=bs.length)
  (Ce:∀k,k<cI.length->cn w M β (xs.getD k undef) (cI.getD k .undef)) (Hz:∀k,k<bs.length->cn w M β (ys.getD k undef) (bs.getD k .undef)) (d:Nat) :
  ∀(fs:List Field) (i:Nat),(cI.drop i).map va=(bs.drop i).map va->rm P fs i ((cI.drop i).map va)=true ->
   (Op.eqFields (d+1) xs ys fs).run P w=.ok (kS (cI.drop i) (bs.drop i)) w:=by
 intro fs
 induction fs with
 | nil =>
  intro i hk he;cases ha:cI.drop i with
  |nil=>rw[ha]at hk;cases hb:bs.drop i with
   |nil=>simp[Op.eqFields,kS]
   |cons b Qq=>rw[hb]at hk;simp at hk
  |cons a E8=>rw[ha]at he;simp[rm]at he
 | cons f fs ih =>
  intro i hk he;cases ha:cI.drop i with
  |nil=>rw[ha]at he;simp[rm]at he
  | cons a E8 =>
   cases hb:bs.drop i with
   |nil=>rw[ha,hb]at hk;simp at hk
   | cons b Qq =>
    have Mv:i<cI.length:=by have:=congrArg List.length ha;simp at this;omega
    have hib:i<bs.length:=by have:=congrArg List.length hb;simp at this;omega
    have ea:cI.getD i .undef=a:=by simp[List.getD,<-List.head?_drop,ha]
    have eb:bs.getD i .undef=b:=by simp[List.getD,<-List.head?_drop,hb]
    have Qv:cI.drop (i+1)=E8:=by rw[<-List.drop_drop,ha];rfl
    have ZK:bs.drop (i+1)=Qq:=by rw[<-List.drop_drop,hb];rfl
    rw[ha,hb]at hk;rw[ha]at he;simp only[aI,gG]at hk;simp only[aI,rm,aG,beq_iff_eq,bne_iff_ne,decide_eq_true_eq]at he;obtain⟨⟨⟨⟨h1,h2⟩,h3⟩,h4⟩,h5⟩:=he;have MP:=ih (i+1) (by rw[Qv,ZK];exact hk.2) (by rw[Qv];exact h5);rw[Qv,ZK]at MP;have MG:=Ce i Mv;have MH:=Hz i hib;rw[ea]at MG;rw[eb]at MH;obtain⟨u,hu,FE⟩:=aP.1 h4;have Hh:td u=false:=by
     rw[<-FE]at h3;exact Ydh h3
    have p1:=Vt (P:=P) (w:=w) hu Hh (cs:=xs) (off:=f.offset) (by omega);have p2:=Vt (P:=P) (w:=w) hu Hh (cs:=ys) (off:=f.offset) (by omega);rw[h1]at p1 p2;simp only[Op.eqFields,if_pos h2,Sem.run_bind,h1,p1,p2,Result.andThen_ok,kS];have tB:=hk.1;have fin:∀(r:Bool),(Op.equalIn (d+1) f.type (xs.getD i undef) (ys.getD i undef)).run P w=.ok r w->fP a b=r ->
      ((Op.equalIn (d+1) f.type (xs.getD i undef) (ys.getD i undef)).run P w).andThen (λr w'=>(if (!r)=true then pure false else Op.eqFields (d+1) xs ys fs).run P w') =
       .ok (fP a b&&kS E8 Qq) w:=by
     intro r hr he;rw[hr,he,Result.andThen_ok];cases r
     ·rfl
     ·simp only[Bool.not_true,aX,if_false,bO];exact MP
    cases a with
    | int k n =>
     cases b with
     |int k' n' =>
      simp only[va,KA.int.injEq]at tB;subst tB;refine fin (n==n') ?_ rfl;rw[MG.e7,MH.e7];exact run_equalIn_int w d f.type k k n n' (by rw[hu,Lu FE])
     |_=>simp[va]at tB
    | str s =>
     cases b with
     |str s' =>
      refine fin (s.toList==s'.toList) ?_ rfl;rw[MG.iM,MH.iM];exact run_equalIn_string w d f.type s s' (by rw[hu,Cv FE])
     |_=>simp[va]at tB
    | bool s =>
     cases b with
     |bool s' =>
      refine fin (s==s') ?_ rfl;rw[MG.jj,MH.jj];exact run_equalIn_bool' w d f.type s s' (by rw[hu,Yz FE])
     |_=>simp[va]at tB
    |_=>simp[va,KA.plain]at h3
theorem zB {t:TypeId}{k:KA}(h:kc P t=some k):∃i u,P.info? t=some i/\P.underlying t=some u/\j4 u=k:=by
 unfold kc at h;obtain⟨l,h1,h2⟩:=aP.1 h;obtain⟨i,u,z,h3,h4,_,_,_,_,_,h5,_⟩:=rS h1;exact⟨i,u,h3,h4,h5.trans h2⟩
theorem KK {v:Value}{a:ah}{b:Bool}(h:cn w M β v a)(hb:pc a=some b):∃p,v=.pointer p/\p.isSome=b:=by
 cases a<;>simp only[pc,reduceCtorEq,aM]at hb<;>subst hb<;>cases h<;>exact⟨_,rfl,rfl⟩
theorem Gq {v:Value}{a:ah}{b:Bool}(h:cn w M β v a)(hb:lY a=some b):(b=false/\v=.nilIface)\/(b=true/\∃t x,v=.iface t x):=by
 cases a<;>simp only[lY,reduceCtorEq,aM]at hb<;>subst hb<;>cases h
 ·exact .inl ⟨rfl,rfl⟩
 ·exact .inr ⟨rfl,_,_,rfl⟩
theorem KB {v:Value}{a:ah}{b:Bool}(h:cn w M β v a)(hb:nu a=some b):(b=false/\v=.nilFunc)\/(b=true/\∃f x y,v=.func f x y):=by
 cases a<;>simp only[nu,reduceCtorEq,aM]at hb<;>subst hb<;>cases h
 ·exact .inl ⟨rfl,rfl⟩
 ·exact .inr ⟨rfl,_,_,_,rfl⟩
theorem Yj4 {u:TypeDesc}(h:j4 u=.func):∃a b c,u=.func a b c:=by
 cases u<;>first | (cases h;done) | exact⟨_,_,_,rfl⟩
theorem Zut {t:TypeId}(h:sR P t=true):∃ms:Array (String×TypeId),P.underlying t=some (.interface ms)/\ms.isEmpty=true:=by
 unfold sR at h;split at h
 ·rename_i ms e;exact⟨ms,e,h⟩
 ·cases h
theorem Zwb {v:Value}{a:ah}{b:Bool}(h:cn w M β v a)(hb:nU a=some b):∃p,v=.map p/\p.isSome=b:=by
 cases a<;>simp only[nU,reduceCtorEq,aM]at hb<;>subst hb<;>cases h<;>exact⟨_,rfl,rfl⟩
theorem Ym8 (d:Nat){t k e:TypeId}(h:P.underlying t=some (.map k e))(p:Option Nat):(Op.equalIn (d+1) t (.map p) (.map none)).run P w=.ok p.isNone w:=by
 cases p<;>simp[Op.equalIn,run_underlying h]
theorem Yjq (d:Nat){t e:TypeId}(h:P.underlying t=some (.pointer e))(q:Option Addr):(Op.equalIn (d+1) t (.pointer none) (.pointer q)).run P w=.ok q.isNone w:=by
 simp[Op.equalIn,run_underlying h]
theorem Yfx (d:Nat){t e:TypeId}(h:P.underlying t=some (.pointer e))(a:Addr):(Op.equalIn (d+1) t (.pointer (some a)) (.pointer none)).run P w=.ok false w:=by
 simp[Op.equalIn,run_underlying h]
theorem Yo9 (d:Nat){t:TypeId}{ms}(h:P.underlying t=some (.interface ms))(u:TypeId)(x:Value):(Op.equalIn (d+1) t (.iface u x) .nilIface).run P w=.ok false w:=by
 simp[Op.equalIn,run_underlying h]
theorem Ynl (d:Nat){t:TypeId}{ms}(h:P.underlying t=some (.interface ms))(u:TypeId)(x:Value):(Op.equalIn (d+1) t .nilIface (.iface u x)).run P w=.ok false w:=by
 simp[Op.equalIn,run_underlying h]
theorem Yow (d:Nat){t:TypeId}{ms}(h:P.underlying t=some (.interface ms)):(Op.equalIn (d+1) t .nilIface .nilIface).run P w=.ok true w:=by
 simp[Op.equalIn,run_underlying h]
theorem Ynz (d:Nat){t:TypeId}{a b c}(h:P.underlying t=some (.func a b c)):(Op.equalIn (d+1) t .nilFunc .nilFunc).run P w=.ok true w:=by
 simp[Op.equalIn,run_underlying h]
theorem Yl3 (d:Nat){t:TypeId}{a b c}(h:P.underlying t=some (.func a b c))(f:Fn)(x y:Array Value):(Op.equalIn (d+1) t .nilFunc (.func f x y)).run P w=.ok false w:=by
 simp[Op.equalIn,run_underlying h]
theorem Yky (d:Nat){t:TypeId}{a b c}(h:P.underlying t=some (.func a b c))(f:Fn)(x y:Array Value):(Op.equalIn (d+1) t (.func f x y) .nilFunc).run P w=.ok false w:=by
 simp[Op.equalIn,run_underlying h]
theorem Zpp (d:Nat){t:TypeId}{ms:Array (String×TypeId)}(h:P.underlying t=some (.interface ms))(hm:ms.isEmpty=true):(Op.eqGuardIn (d+1) t .nilIface .nilIface).run P w=.ok false w:=by
 simp[Op.eqGuardIn,run_underlying h,hm]
theorem Zm9 (op:BinOp) {t:TypeId} {ms:Array (String×TypeId)} (ox oy:Operand) (h:P.underlying t=some (.interface ms)) (hm:ms.isEmpty=true):(eqGuard op t ox oy .nilIface .nilIface).run P w=.ok () w:=by
 have h1:(Op.eqGuardIn Op.maxDepth t .nilIface .nilIface).run P w=.ok false w:=Zpp 9999 h hm
 have h2 : ∀ c : Bool, (if c = true then pure () else do if ← Op.eqGuardIn Op.maxDepth t .nilIface .nilIface then unsupported (.noEntry "binop/eql: two nil values of an interface type with methods, neither of them the literal nil") : Sem Unit).run P w = .ok () w := by
  intro c;cases c
  ·simp only[aX,if_false,Sem.run_bind,h1,Result.andThen_ok];rfl
  ·rfl
 have h3:=h2 ((ox matches .const _)||(oy matches .const _));cases op<;>first|exact h3|rfl
theorem SU {t:TypeId} {x y:ah} {vx vy:Value} (hx:cn w M β vx x) (hy:cn w M β vy y) {b:Bool} (h:wH P t x y=some b) (op:BinOp) (ox oy:Operand) :
  (eqGuard op t ox oy vx vy).run P w=.ok () w/\(Op.equal t vx vy).run P w=.ok b w/\(∀k n,vx≠.int k n)/\(∀s,vx≠.string s)/\(∀k n,vx≠.float k n)/\(∀k n m,vx≠.complex k n m):=by
 unfold wH at h;split at h
 ·rename_i a a' hk;obtain⟨i,u,h1,h2,h3⟩:=zB hk;cases h;rw[hx.jj,hy.jj];refine⟨by cases op<;>simp[eqGuard],?_,by simp,by simp,by simp,by simp⟩;exact run_equalIn_bool' w 9999 t a a' (by rw[h2,Yz h3])
 ·rename_i hk;obtain⟨i,u,h1,h2,h3⟩:=zB hk;obtain⟨e,he⟩:=Ymj h3;rw[he]at h2;split at h
  ·rename_i b' e1 e2;cases h;obtain⟨p,rfl,hp⟩:=KK hx e1;obtain⟨q,rfl,hq⟩:=KK hy e2;obtain rfl:p=none:=Option.isSome_eq_false_iff.1 hp |> Option.isNone_iff_eq_none.1;refine⟨by cases op<;>simp[eqGuard],?_,by simp,by simp,by simp,by simp⟩;refine(Yjq 9999 h2 q).trans ?_;rw[<-hq];cases q<;>rfl
  ·rename_i e1 e2;cases h;obtain⟨p,rfl,hp⟩:=KK hx e1;obtain⟨q,rfl,hq⟩:=KK hy e2;obtain rfl:q=none:=Option.isSome_eq_false_iff.1 hq |> Option.isNone_iff_eq_none.1;obtain⟨a,rfl⟩:=pS.1 hp;refine⟨by cases op<;>simp[eqGuard],?_,by simp,by simp,by simp,by simp⟩;exact Yfx 9999 h2 a
  ·cases h
 ·rename_i hk;obtain⟨i,u,h1,h2,h3⟩:=zB hk;obtain⟨k,e,he⟩:=G1 h3;rw[he]at h2;rw[aP]at h;obtain⟨b',e1,rfl⟩:=h;obtain⟨p,rfl,hp⟩:=Zwb hx e1;cases hy;refine⟨by cases op<;>simp[eqGuard],?_,by simp,by simp,by simp,by simp⟩;refine(Ym8 9999 h2 p).trans ?_;rw[<-hp];cases p<;>rfl
 ·rename_i hk;obtain⟨i,u,h1,h2,h3⟩:=zB hk;obtain⟨e,he⟩:=Yco h3;rw[he]at h2;split at h
  ·rename_i e1 e2;cases h;rcases Gq hx e1 with⟨h4,_⟩|⟨_,t1,x1,rfl⟩
   ·cases h4
   rcases Gq hy e2 with⟨_,rfl⟩|⟨h4,_⟩
   ·refine⟨by cases op<;>simp[eqGuard],?_,by simp,by simp,by simp,by simp⟩;exact Yo9 9999 h2 _ _
   ·cases h4
  ·rename_i e1 e2;cases h;rcases Gq hy e2 with⟨h4,_⟩|⟨_,t1,x1,rfl⟩
   ·cases h4
   rcases Gq hx e1 with⟨_,rfl⟩|⟨h4,_⟩
   ·refine⟨by cases op<;>simp[eqGuard],?_,by simp,by simp,by simp,by simp⟩;exact Ynl 9999 h2 _ _
   ·cases h4
  ·rename_i e1 e2;split at h
   ·rename_i hm;cases h;obtain⟨ms,g1,g2⟩:=Zut hm;rcases Gq hx e1 with⟨_,rfl⟩|⟨h4,_⟩
    ·rcases Gq hy e2 with⟨_,rfl⟩|⟨h4,_⟩
     ·exact⟨Zm9 op ox oy g1 g2,Yow 9999 h2,by simp,by simp,by simp,by simp⟩
     ·cases h4
    ·cases h4
   ·cases h
  ·cases h
 ·rename_i hk;obtain⟨i,u,h1,h2,h3⟩:=zB hk;obtain⟨a1,a2,a3,he⟩:=Yj4 h3;rw[he]at h2;split at h
  ·rename_i b' e1 e2;cases h;rcases KB hx e1 with⟨_,rfl⟩|⟨h4,_⟩
   ·rcases KB hy e2 with⟨rfl,rfl⟩|⟨rfl,f,p,q,rfl⟩
    ·exact⟨by cases op<;>simp[eqGuard],Ynz 9999 h2,by simp,by simp,by simp,by simp⟩
    ·exact⟨by cases op<;>simp[eqGuard],Yl3 9999 h2 _ _ _,by simp,by simp,by simp,by simp⟩
   ·cases h4
  ·rename_i e1 e2;cases h;rcases KB hx e1 with⟨h4,_⟩|⟨_,f,p,q,rfl⟩
   ·cases h4
   rcases KB hy e2 with⟨_,rfl⟩|⟨h4,_⟩
   ·exact⟨by cases op<;>simp[eqGuard],Yky 9999 h2 _ _ _,by simp,by simp,by simp,by simp⟩
   ·cases h4
  ·cases h
 ·rename_i xs ys hk;split at h
  ·rename_i hc;cases h;obtain⟨uu,lS⟩:=hc;unfold Aq at lS;split at lS
   ·rename_i fs C8;simp only[aG,bX]at lS;obtain⟨⟨hg,hh⟩,hi⟩:=lS;cases hx with
    | agg hxn Ce =>
     cases hy with
     |agg hyn Hz =>
      have hfo:P.fieldsOf t=fs:=by simp[Program.fieldsOf,C8]
      refine⟨run_eqGuard_agg w op t ox oy _ _ hg,?_,by simp,by simp,by simp,by simp⟩;refine(run_equalIn_struct w 9999 t _ _ (by rw[hfo];exact C8) hh).trans ?_;rw[hfo];exact Zsd (P:=P) hxn hyn Ce Hz 9998 fs.toList 0 uu hi
   ·cases lS
  ·cases h
 ·cases h
end
section
variable {P:Program}{X:Nat->Nat->Prop}{base:Nat}{σ:av}{β:Env}{w:World}{nm:Nat}{M:Nat->Nat->Prop}
theorem Ynj {op:BinOp} {t:TypeId} {x y r:ah} {vx vy:Value} (hx:cn w M β vx x) (hy:cn w M β vy y) (h:nL P op t x y=some r) (ox oy:Operand) :
  ∃v,(do eqGuard op t ox oy vx vy;binOp op t vx vy:Sem Value).run P w=.ok v w/\cn w M β v r:=by
 unfold nL at h;split at h
 ·obtain⟨b,h1,rfl⟩:=aP.1 h;obtain⟨h2,h3,h4,h5,h6,h7⟩:=SU hx hy h1 .eql ox oy;refine⟨.bool b,?_,.bool b⟩;simp only[Sem.run_bind,h2,Result.andThen_ok];clear hx hy;cases vx<;>first | (exact absurd rfl (h4 _ _)) | (exact absurd rfl (h5 _)) | (exact absurd rfl (h6 _ _)) | (exact absurd rfl (h7 _ _ _)) | (simp only[binOp,Sem.run_bind,h3,Result.andThen_ok,Sem.run_pure])
 ·obtain⟨b,h1,rfl⟩:=aP.1 h;obtain⟨h2,h3,h4,h5,h6,h7⟩:=SU hx hy h1 .neq ox oy;refine⟨.bool !b,?_,.bool !b⟩;simp only[Sem.run_bind,h2,Result.andThen_ok];clear hx hy;cases vx<;>first | (exact absurd rfl (h4 _ _)) | (exact absurd rfl (h5 _)) | (exact absurd rfl (h6 _ _)) | (exact absurd rfl (h7 _ _ _)) | (simp only[binOp,Sem.run_bind,h3,Result.andThen_ok,Sem.run_pure])
 ·cases h
theorem Yol {op:BinOp} {t:TypeId} {x y r:ah} {vx vy:Value} (hx:cn w M β vx x) (hy:cn w M β vy y) (h:uA P op t x y=some r) (ox oy:Operand) :
  ∃v,(do eqGuard op t ox oy vx vy;binOp op t vx vy:Sem Value).run P w=.ok v w/\cn w M β v r:=by
 unfold uA at h;split at h
 ·rename_i k a k' b;split at h
  ·rename_i hk;subst hk;obtain⟨v,h1,h2⟩:=Yb8 (P:=P) (w:=w) (M:=M) (β:=β) h;refine⟨v,?_,h2⟩;rw[hx.e7,hy.e7];have hg:(eqGuard op t ox oy (.int k a) (.int k b)).run P w=.ok () w:=by cases op<;>simp[eqGuard]
   simp only[Sem.run_bind,hg,Result.andThen_ok];cases op<;>first | (simpa[binOp] using h1) | (simp[kb]at h)
  ·cases h
 ·rename_i a b;obtain⟨v,h1,h2⟩:=Yck (P:=P) (w:=w) (M:=M) (β:=β) h;refine⟨v,?_,h2⟩;rw[hx.iM,hy.iM];have hg:(eqGuard op t ox oy (.string a) (.string b)).run P w=.ok () w:=by cases op<;>simp[eqGuard]
  simp only[Sem.run_bind,hg,Result.andThen_ok];cases op<;>first | (simpa[binOp] using h1) | (simp[rN]at h)
 ·exact Ynj hx hy h ox oy
theorem YT {neg:Bool} {x r:ah} {vx:Value} (hx:cn w M β vx x) (h:xX neg x=some r):∃a n c,vx=.slice a n c/\cn w M β (.bool (a.isNone != neg)) r:=by
 have lit:∀(a:Addr),(some a:Option Addr).isNone=false:=λ_=>rfl;unfold xX at h;split at h<;>cases h
 ·cases hx;exact⟨_,_,_,rfl,.jL _⟩
 ·cases hx with
  | @ps a cap sz es cv j8 eM hc ha hr =>
   refine⟨_,_,_,rfl,?_⟩;split
   ·exact .jL _
   ·obtain⟨g,o,rfl⟩:=ha (by omega);have e:((some (⟨g,o,none⟩:Addr)).isNone != neg)=neg:=by cases neg<;>rfl
    rw[e];exact .bool neg
 ·cases hx with
  |vg a h=>exact⟨_,_,_,rfl,by rw[if_pos rfl];exact .jL _⟩
  |os h h1 h2 =>
   refine⟨_,_,_,rfl,?_⟩;split
   ·exact .jL _
   ·cases neg<;>exact .bool _
 ·cases hx with
  |ve a h=>exact⟨_,_,_,rfl,by rw[if_pos rfl];exact .jL _⟩
  |oc h h1 h2 =>
   refine⟨_,_,_,rfl,?_⟩;split
   ·exact .jL _
   ·cases neg<;>exact .bool _
theorem WN (d:Nat){t e:TypeId}(h:P.underlying t=some (.slice e))(a:Option Addr)(n c:Nat):(Op.equalIn (d+1) t (.slice a n c) (.slice none 0 0)).run P w=.ok a.isNone w:=by
 cases a<;>simp[Op.equalIn,run_underlying h]
theorem Yie {y:Operand}(h:qG y=true):y=.const (.slice none 0 0):=by
 unfold qG at h;split at h
 ·rfl
 ·cases h
theorem Ypl {op:BinOp} {t:TypeId} {x r:ah} {vx:Value} (hx:cn w M β vx x) (h:zr P op t x=some r) (ox oy:Operand) :
  ∃v,(do eqGuard op t ox oy vx (.slice none 0 0);binOp op t vx (.slice none 0 0):Sem Value).run P w=.ok v w/\cn w M β v r:=by
 unfold zr at h;split at h
 ·rename_i hk;obtain⟨i,u,h1,h2,h3⟩:=zB hk;obtain⟨e,he⟩:=EJ h3;rw[he]at h2;obtain⟨a,n,c,rfl,hr⟩:=YT hx h;refine⟨_,?_,hr⟩;have:=WN (w:=w) 9999 h2 a n c;have hg:(eqGuard .eql t ox oy (.slice a n c) (.slice none 0 0)).run P w=.ok () w:=by simp[eqGuard]
  have h5:(Op.equal t (.slice a n c) (.slice none 0 0)).run P w=.ok a.isNone w:=this;simp only[binOp,Sem.run_bind,hg,Result.andThen_ok,h5,Sem.run_pure];cases a<;>rfl
 ·rename_i hk;obtain⟨i,u,h1,h2,h3⟩:=zB hk;obtain⟨e,he⟩:=EJ h3;rw[he]at h2;obtain⟨a,n,c,rfl,hr⟩:=YT hx h;refine⟨_,?_,hr⟩;have:=WN (w:=w) 9999 h2 a n c;have hg:(eqGuard .neq t ox oy (.slice a n c) (.slice none 0 0)).run P w=.ok () w:=by simp[eqGuard]
  have h5:(Op.equal t (.slice a n c) (.slice none 0 0)).run P w=.ok a.isNone w:=this;simp only[binOp,Sem.run_bind,hg,Result.andThen_ok,h5,Sem.run_pure];cases a<;>rfl
 ·cases h
theorem Ysy {op:UnOp}{x r:ah}{vx:Value}(hx:cn w M β vx x)(h:Kj op x=some r):∃v,(Op.unary op vx).run P w=.ok v w/\cn w M β v r:=by
 cases x<;>simp only[Kj,reduceCtorEq]at h
 ·rw[hx.jj];cases op<;>simp only[reduceCtorEq,aM]at h;subst h;exact⟨_,rfl,.bool _⟩
 ·rw[hx.e7];cases op<;>simp only[reduceCtorEq,aM]at h;subst h;exact⟨_,rfl,.int _ _⟩
theorem Zt8 {s d:TypeId}{x r:ah}{vx:Value}(hx:cn w M β vx x)(h:tj P s d x=some r):∃v,(convert s d vx).run P w=.ok v w/\cn w M β v r:=by
 unfold tj at h;split at h
 ·rename_i ks k k' n h1 h2;cases h;obtain⟨_,us,_,h3,_⟩:=zB h1;obtain⟨_,ud,_,h4,h5⟩:=zB h2;obtain rfl:=Lu h5;rw[hx.e7];exact⟨_,by simp only[convert,Sem.run_bind,run_underlying h3,run_underlying h4,Result.andThen_ok,Conv.intToInt];rfl,.int _ _⟩
 ·rename_i y h1 h2;cases h;obtain⟨_,us,_,h3,y8⟩:=zB h1;obtain⟨_,ud,_,h4,h5⟩:=zB h2;obtain rfl:=Cv h5;obtain rfl:=Cv y8;rw[hx.iM];exact⟨_,by simp only[convert,Sem.run_bind,run_underlying h3,run_underlying h4,Result.andThen_ok];rfl,.str _⟩
 ·cases h
theorem wz {t:TypeId} {T:kG} (h:gF P t=some T):∃u,cC P t=some T.lay/\P.underlying t=some u/\j4 u=T.kind /\
  T.qx=(match u with|.struct fs=>fs.toList.map λf=>(f.offset,cC P f.type) | _=>[]) /\
  T.elem=(match u with|.slice e=>cC P e|.array _ e=>cC P e|.map _ e=>cC P e|_=>none) /\
  T.F9=(match u with|.map k _=>cC P k|_=>none):=by
 unfold gF at h;split at h
 ·rename_i l u h1 h2;cases h;obtain⟨i,u',z,h3,h4,_,_,_,_,_,h5,_⟩:=rS h1;obtain rfl:=aS (h2.symm.trans h4);exact⟨u,h1,h2,h5,rfl,rfl,rfl⟩
 ·cases h
theorem W7 {lo hi:Nat} {a:ah} {v:Value} {n:Nat} (hv:cn w M β v a) (h:kz lo hi a=some n) :
  ∃k i,v=.int k i/\(lo:Int)<=i/\i<=hi/\n=i.toNat:=by
 unfold kz at h;split at h
 ·split at h
  ·rename_i hc;cases h;exact⟨_,_,hv.e7,hc.1,hc.2,rfl⟩
  ·cases h
 ·cases h
theorem GF {lo hi:Nat} {a:ah} {v:Value} {n:Nat} (hv:cn w M β v a) (h:kz lo hi a=some n) (code:BoundsCode) :
  (Instr.sliceBound v hi code).run P w=.ok n w/\lo<=n/\n<=hi:=by
 obtain⟨k,i,rfl,h1,h2,rfl⟩:=W7 hv h;exact⟨run_sliceBound w k i hi code (by omega) h2,by omega,by omega⟩
inductive me (w:World) (M:Nat->Nat->Prop) (β:Env):Option Value->Option ah->Prop
 |none:me w M β none none
 |some {v:Value} {a:ah} (h:cn w M β v a):me w M β (some v) (some a)
theorem HR {F8:Bool} {n c:Nat} (hc:n<=c) {lo hi:Option ah} {xa yQ:Option Value} (iG:me w M β xa lo) (AQ:me w M β yQ hi) {h l:Nat}
  (e1:zT n hi=some h) (e2:uw h lo=some l):(Instr.sliceBounds F8 n c xa yQ none).run P w=.ok (l,h,c) w/\l<=h/\h<=n:=by
 have dm:∀ {a v},cn w M β v a->kz 0 n a=some h->∀code,(Instr.sliceBound v c code).run P w=.ok h w/\h<=n:=by
  intro a v hv e code;obtain⟨k,i,rfl,h1,h2,rfl⟩:=W7 hv e;exact⟨run_sliceBound w k i c _ (by omega) (by omega),by omega⟩
 have lo':∀ {a v},cn w M β v a->kz 0 h a=some l->∀code,(Instr.sliceBound v h code).run P w=.ok l w/\l<=h:=by
  intro a v hv e code;obtain⟨h1,h2,h3⟩:=GF (P:=P) hv e code;exact⟨h1,h3⟩
 cases AQ with
 | none =>
  simp only[zT,aM]at e1;subst e1;cases iG with
  |none =>
   simp only[uw,aM]at e2;subst e2;exact⟨rfl,by omega,ae _⟩
  |some hl =>
   obtain⟨h1,h2⟩:=lo' hl e2 .sliceB;refine⟨?_,h2,ae _⟩;simp[Instr.sliceBounds,h1]
 | some hh =>
  obtain⟨h3,h4⟩:=dm hh e1 (if F8 then .sliceAcap else .sliceAlen)
  cases iG with
  |none =>
   simp only[uw,aM]at e2;subst e2;refine⟨?_,by omega,h4⟩;simp[Instr.sliceBounds,h3]
  |some hl =>
   obtain⟨h1,h2⟩:=lo' hl e2 .sliceB;refine⟨?_,h2,h4⟩;simp[Instr.sliceBounds,h1,h3]
theorem Zvl {n c:Nat} {lo hi:Option ah} {xa yQ:Option Value} (MB:n<=c) (iG:me w M β xa lo) (AQ:me w M β yQ hi) {h l:Nat}
  (e1:FB n c hi=some h) (e2:uw h lo=some l):(Instr.sliceBounds true n c xa yQ none).run P w=.ok (l,h,c) w/\l<=h/\h<=c:=by
 have lo':∀ {a v},cn w M β v a->kz 0 h a=some l->∀code,(Instr.sliceBound v h code).run P w=.ok l w/\l<=h:=by
  intro a v hv e code;obtain⟨h1,h2,h3⟩:=GF (P:=P) hv e code;exact⟨h1,h3⟩
 cases AQ with
 | none =>
  simp only[FB,aM]at e1;subst e1;cases iG with
  |none =>
   simp only[uw,aM]at e2;subst e2;exact⟨rfl,by omega,MB⟩
  |some hl =>
   obtain⟨h1,h2⟩:=lo' hl e2 .sliceB;exact⟨by simp[Instr.sliceBounds,h1],h2,MB⟩
 | some hh =>
  obtain⟨h3,_,h4⟩:=GF (P:=P) hh e1 .sliceAcap;cases iG with
  |none =>
   simp only[uw,aM]at e2;subst e2;exact⟨by simp[Instr.sliceBounds,h3],by omega,h4⟩
  |some hl =>
   obtain⟨h1,h2⟩:=lo' hl e2 .sliceB;exact⟨by simp[Instr.sliceBounds,h1,h3],h2,h4⟩
theorem Zvi {n c m:Nat} {lo:Option ah} {ha ma:ah} {xa:Option Value} {vh vm:Value} (iG:me w M β xa lo) (hh:cn w M β vh ha) (hm:cn w M β vm ma) {h l:Nat}
  (e0:kz 0 c ma=some m) (e1:kz 0 m ha=some h) (e2:uw h lo=some l):(Instr.sliceBounds true n c xa (some vh) (some vm)).run P w=.ok (l,h,m) w/\l<=h/\h<=m/\m<=c:=by
 obtain⟨h1,_,h2⟩:=GF (P:=P) hm e0 .slice3Acap;obtain⟨h3,_,h4⟩:=GF (P:=P) hh e1 .slice3B;cases iG with
 |none =>
  simp only[uw,aM]at e2;subst e2;exact⟨by simp[Instr.sliceBounds,h1,h3],by omega,h4,h2⟩
 |some hl =>
  obtain⟨h5,_,h6⟩:=GF (P:=P) hl e2 .slice3C;exact⟨by simp[Instr.sliceBounds,h1,h3,h5],h6,h4,h2⟩
theorem Qg {ρ:Operand->Value}{je:Operand->ah}(eI:∀x,cn w M β (ρ x) (je x))(o:Option Operand):me w M β (o.map ρ) (o.map je):=by
 cases o with
 |none=>exact .none
 |some x=>exact .some (eI x)
theorem GM {α β γ:Type} {x:Option α} {f : α->Option β} {g : α->β->γ} {r : γ} (h:x.bind (λa=>(f a).bind λb=>some (g a b))=some r):∃a b,x=some a/\f a=some b/\g a b=r:=by
 cases x with
 |none=>simp at h
 |some a =>
  simp only[fq]at h;cases hf:f a with
  |none=>rw[hf]at h;simp at h
  |some b=>rw[hf]at h;simp at h;exact⟨a,b,rfl,hf,h⟩
theorem wo {t:TypeId}{T:kG}(hT:gF P t=some T)(hk:T.kind=.slice):∃e,P.underlying t=some (.slice e)/\T.elem=cC P e:=by
 obtain⟨u,h1,h2,h3,_,h5,_⟩:=wz hT;obtain⟨e,rfl⟩:=EJ (h3.trans hk);exact⟨e,h2,h5⟩
theorem Kx {t e:TypeId} {i:TypeInfo} (ht:P.underlying t=some (.slice e)) (hi:P.info? e=some i) {a:Option Addr} {n c l h:Nat} {xa yQ:Option Value}
  (hb:(Instr.sliceBounds true n c xa yQ none).run P w=.ok (l,h,c) w) :
  (Instr.sliceAt t (.slice a n c) xa yQ none).run P w=.ok (.slice (if c=l then a else a.map (·.add (l*i.size))) (h-l) (c-l)) w:=by
 simp[Instr.sliceAt,Instr.slice,run_underlying ht,hb,wq hi]
theorem Vh {t e:TypeId} {i:TypeInfo} (ht:P.underlying t=some (.slice e)) (hi:P.info? e=some i) {a:Option Addr} {n c l h m:Nat} {xa yQ Kk:Option Value}
  (hb:(Instr.sliceBounds true n c xa yQ Kk).run P w=.ok (l,h,m) w) :
  (Instr.sliceAt t (.slice a n c) xa yQ Kk).run P w=.ok (.slice (if m=l then a else a.map (·.add (l*i.size))) (h-l) (m-l)) w:=by
 simp[Instr.sliceAt,Instr.slice,run_underlying ht,hb,wq hi]
theorem Vz {v:Value} {b off n c s l h m:Nat} (hx:cn w M β v (.oc b off n c s)) (h1:l<=h) (h2:h<=m) (h3:m<=c):∃a,v=.slice a n c/\n<=c /\
  cn w M β (.slice (if m=l then a else a.map (·.add (l*s))) (h-l) (m-l)) (.oc b (off+l) (h-l) (m-l) s):=by
 cases hx with
 |ve ad hL =>
  refine⟨_,rfl,ae _,?_⟩;obtain rfl:l=0:=by omega
  obtain rfl:h=0:=by omega
  obtain rfl:m=0:=by omega
  exact .ve _ hL
 | @oc _ _ _ _ L hL hl hc =>
  refine⟨_,rfl,hl,?_⟩;by_cases e:m=l
  ·rw[show h-l=0 by omega,show m-l=0 by omega];exact .ve _ hL
  ·rw[if_neg e];simp only[bD,Addr.add_lit];rw[show L.o+off*L.sz+l*L.sz=L.o+(off+l)*L.sz by rw[bY];omega];exact .oc hL (by omega) (by omega)
theorem EW {e:TypeId}{T:kG}(jD:T.elem=cC P e){sz:Nat}(h:T.xh=some sz):∃i,P.info? e=some i/\i.size=sz:=by
 unfold kG.xh at h;rw[jD]at h;obtain⟨l,h1,h2⟩:=aP.1 h;obtain⟨i,u,z,h3,_,_,h4,_⟩:=rS h1;exact⟨i,h3,h4.trans h2⟩
theorem Yd6 {t:TypeId} {T:kG} (hT:gF P t=some T) {vx:Value} {x r:ah} {xa yQ Kk:Option Value} {lo hi mx:Option ah} (hx:cn w M β vx x)
  (iG:me w M β xa lo) (AQ:me w M β yQ hi) (Mz:me w M β Kk mx) (h:kh T x lo hi mx=some r) :
  ∃v,(Instr.sliceAt t vx xa yQ Kk).run P w=.ok v w/\cn w M β v r:=by
 unfold kh at h;cases Mz with
 | some hm =>
  simp only at h;split at h
  ·rename_i bk off n c sz;split at h
   ·rename_i hk;obtain⟨e,ht,jD⟩:=wo hT hk.1;obtain⟨i,dm,hs⟩:=EW jD hk.2;obtain⟨m,e0,h⟩:=aB.1 h;obtain⟨b,a,e1,e2,rfl⟩:=GM h;obtain⟨ha,rfl,e1⟩:=aB.1 e1;cases AQ with
    |some hh =>
     obtain⟨h4,h5,h6,h7⟩:=Zvi (P:=P) (n:=n) iG hh hm e0 e1 e2;obtain⟨ad,rfl,h8,h9⟩:=Vz hx h5 h6 h7;exact⟨_,Vh ht dm h4,by rw[hs];exact h9⟩
   ·cases h
  ·cases h
 | none =>
  simp only at h;split at h
  ·rename_i bk off n c sz;split at h
   ·rename_i hk;obtain⟨e,ht,jD⟩:=wo hT hk.1;obtain⟨i,dm,hs⟩:=EW jD hk.2;obtain⟨b,a,e1,e2,rfl⟩:=GM h;have MB:n<=c:=by
     cases hx with
     |ve=>exact ae _
     |oc _ hl _=>exact hl
    obtain⟨h4,h5,h6⟩:=Zvl (P:=P) MB iG AQ e1 e2;obtain⟨ad,rfl,h8,h9⟩:=Vz hx h5 h6 (ae _);exact⟨_,Vh ht dm h4,by rw[hs];exact h9⟩
   ·cases h
  ·rename_i s;split at h
   ·rename_i hk;obtain⟨u,h1,h2,h3,_⟩:=wz hT;obtain rfl:=Cv (h3.trans hk);obtain⟨b,a,e1,e2,rfl⟩:=GM h;obtain⟨h4,h5,h6⟩:=HR (P:=P) (F8:=false) (ae _) iG AQ e1 e2;rw[hx.iM];exact⟨.string (s.extract a b),by simp[Instr.sliceAt,Instr.slice,run_underlying h2,h4],.str _⟩
   ·cases h
  ·rename_i sz es;split at h
   ·rename_i hk;obtain⟨e,ht,jD⟩:=wo hT hk.1;obtain⟨i,dm,hs⟩:=EW jD hk.2;obtain⟨b,a,e1,e2,rfl⟩:=GM h;cases hx with
    | @ps ad cap _ _ cv j8 eM hc ha hr =>
     obtain⟨h4,h5,h6⟩:=HR (P:=P) (F8:=true) j8 iG AQ e1 e2;refine⟨_,Kx ht dm h4,?_⟩;have hl:((es.drop a).take (b-a)).length=b-a:=by simp;omega
     have fc:∀k,k<b-a->((es.drop a).take (b-a)).getD k ah.undef=es.getD (a+k) .undef:=λk hk=>by
      simp[List.getD,fh,hk,dZ]
     have key:cn w M β (.slice (if cap=a then ad else ad.map (·.add (a*i.size))) ((es.drop a).take (b-a)).length (cap-a)) (.ps sz ((es.drop a).take (b-a))):=by
      refine .ps (λk j=>cv (a+k) j) (by omega) (λk eZ=>?_) (λk j eZ hj=>?_) (λh0=>?_) (λk j eZ hj=>?_)
      ·rw[fc k (by omega)];exact eM _ (by omega)
      ·obtain⟨g,o,h7,h8,h9⟩:=hc (a+k) j (by omega) hj;have e3:o+(a+k)*sz+j=o+a*sz+k*sz+j:=by rw[bY];omega
       rw[e3]at h8 h9;refine⟨g,o+a*sz,?_,h8,h9⟩;rw[h7,if_neg (by omega),hs];simp[Addr.add_lit]
      ·obtain⟨g,o,h7⟩:=ha (by omega);refine⟨g,o+a*sz,?_⟩;rw[h7,if_neg (by omega),hs];simp[Addr.add_lit]
      ·rw[fc k (by omega)];exact hr _ j (by omega) hj
     rw[hl]at key;exact key
   ·cases h
  ·rename_i bk off n sz;split at h
   ·rename_i hk;obtain⟨e,ht,jD⟩:=wo hT hk.1;obtain⟨i,dm,hs⟩:=EW jD hk.2;obtain⟨b,a,e1,e2,rfl⟩:=GM h;cases hx with
    |vg ad hL =>
     obtain⟨h4,h5,h6⟩:=HR (P:=P) (F8:=true) (ae 0) iG AQ e1 e2;obtain rfl:b=0:=by omega
     obtain rfl:a=0:=by omega
     exact⟨_,Kx ht dm h4,.vg _ hL⟩
    | @os _ _ _ cap L hL hl hc =>
     obtain⟨h4,h5,h6⟩:=HR (P:=P) (F8:=true) hl iG AQ e1 e2;refine⟨_,Kx ht dm h4,?_⟩;by_cases e3:cap=a
     ·rw[if_pos e3];rw[show cap-a=0 by omega,show b-a=0 by omega];exact .vg _ hL
     ·rw[if_neg e3,hs];simp only[bD,Addr.add_lit];rw[show L.o+off*L.sz+a*L.sz=L.o+(off+a)*L.sz by rw[bY];omega];exact .os hL (by omega) (by omega)
   ·cases h
  ·split at h
   ·rename_i hk;obtain⟨e,ht,jD⟩:=wo hT hk.1;obtain⟨l',Jt⟩:=pS.1 hk.2;rw[jD]at Jt;obtain⟨i,u,z,dm,_⟩:=rS Jt;obtain⟨b,a,e1,e2,rfl⟩:=GM h;cases hx with
    |a8 ad =>
     obtain⟨h4,h5,h6⟩:=HR (P:=P) (F8:=true) (ae 0) iG AQ e1 e2;obtain rfl:b=0:=by omega
     obtain rfl:a=0:=by omega
     exact⟨_,Kx ht dm h4,.a8 _⟩
   ·cases h
  ·cases h
theorem Zo4 {t:TypeId} {T:kG} (hT:gF P t=some T) {vx vi:Value} {x i r:ah} (hx:cn w M β vx x) (hi:cn w M β vi i) (h:gw T x i=some r) :
  ∃v,(Instr.indexAt t vx vi).run P w=.ok v w/\cn w M β v r:=by
 unfold gw at h;split at h
 ·rename_i k i;rw[hi.e7];split at h
  ·rename_i b off n sz;split at h
   ·rename_i hk;obtain⟨e,ht,jD⟩:=wo hT hk.1;obtain⟨ti,dm,hs⟩:=EW jD hk.2.1;cases h;cases hx with
    |vg ad hL=>exfalso;have:=hk.2.2;omega
    | @os _ _ _ cap L hL hl hc =>
     refine⟨.pointer (some ⟨L.g,L.o+(off+i.toNat)*L.sz+0,none⟩),?_,.rp hL⟩;simp only[Instr.indexAt,asIntOf,Sem.run_bind,Sem.run_pure,Result.andThen_ok,run_underlying ht];rw[if_pos (by omega)];simp only[Sem.run_bind,wq dm,Result.andThen_ok,Sem.run_pure,Addr.add_lit,hs];rw[bY,<-fY];rfl
   ·cases h
  ·rename_i b off n c sz;split at h
   ·rename_i hk;obtain⟨e,ht,jD⟩:=wo hT hk.1;obtain⟨ti,dm,hs⟩:=EW jD hk.2.1;cases h;cases hx with
    |ve ad hL=>exfalso;have:=hk.2.2;omega
    | @oc _ _ _ cap L hL hl hc =>
     refine⟨.pointer (some ⟨L.g,L.o+(off+i.toNat)*L.sz+0,none⟩),?_,.rp hL⟩;simp only[Instr.indexAt,asIntOf,Sem.run_bind,Sem.run_pure,Result.andThen_ok,run_underlying ht];rw[if_pos (by omega)];simp only[Sem.run_bind,wq dm,Result.andThen_ok,Sem.run_pure,Addr.add_lit,hs];rw[bY,<-fY];rfl
   ·cases h
  ·rename_i sz es;split at h
   ·rename_i hk;obtain⟨e,ht,jD⟩:=wo hT hk.1;obtain⟨ti,dm,hs⟩:=EW jD hk.2.1;cases h;cases hx with
    | @ps ad cap _ _ cv j8 eM hc ha hr =>
     have bx:i.toNat<es.length:=by omega
     obtain⟨g,o,h7⟩:=ha (by omega);refine⟨.pointer (some ⟨g,o+i.toNat*sz,none⟩),?_,.pp (λj=>cv i.toNat j) (λj hj=>?_) (λj hj=>?_)⟩
     ·simp only[Instr.indexAt,asIntOf,Sem.run_bind,Sem.run_pure,Result.andThen_ok,run_underlying ht,h7];rw[if_pos (by omega)];simp only[Sem.run_bind,wq dm,Result.andThen_ok,Sem.run_pure,Addr.add_lit,hs]
     ·rw[eM i.toNat bx]at hj;obtain⟨g',o',h8,h9⟩:=hc i.toNat j bx hj;rw[h7]at h8;simp only[aM,Addr.mk.injEq,and_true]at h8;obtain⟨rfl,rfl⟩:=h8;exact h9
     ·rw[eM i.toNat bx]at hj;exact hr i.toNat j bx hj
   ·cases h
  ·rename_i b off;split at h
   ·rename_i n e hk he;split at h
    ·rename_i hb;cases h;obtain⟨u,h1,h2,h3,_,h5,_⟩:=wz hT;obtain⟨et,rfl⟩:=KP (h3.trans hk);rw[he]at h5;obtain⟨ti,_,_,rX,_,_,hs,_⟩:=rS h5.symm;cases hx with
     | @ptr _ _ L hL =>
      refine⟨.pointer (some ⟨L.g,L.o+(off+i.toNat*e.sz),none⟩),?_,.ptr hL⟩;simp only[Instr.indexAt,asIntOf,Sem.run_bind,Sem.run_pure,Result.andThen_ok,run_underlying h2,Instr.sureAddr];rw[if_pos hb];simp only[Sem.run_bind,wq rX,Result.andThen_ok,Sem.run_pure,Addr.add_lit,hs];rw[fY]
    ·cases h
   ·cases h
  ·cases h
 ·cases h
theorem Yca {t:TypeId} {T:kG} (hT:gF P t=some T) {vx vi:Value} {x i r:ah} (hx:cn w M β vx x) (hi:cn w M β vi i) (h:xW T x i=some r) :
  ∃v,(Instr.index t vx vi).run P w=.ok v w/\cn w M β v r:=by
 unfold xW at h;split at h
 ·rename_i cs k i;rw[hi.e7];split at h
  ·rename_i n e hk he;split at h
   ·rename_i hb;obtain⟨u,h1,h2,h3,_,h5,_⟩:=wz hT;obtain⟨et,rfl⟩:=KP (h3.trans hk);rw[he]at h5;obtain⟨ti,_,_,rX,_,_,hs,_⟩:=rS h5.symm;cases hx with
    |agg hn hr =>
     obtain⟨v,h6,h7⟩:=VD (P:=P) h5.symm hn hr h;refine⟨v,?_,h7⟩;simp only[Instr.index,asIntOf,Sem.run_bind,Sem.run_pure,Result.andThen_ok,run_underlying h2];rw[if_pos hb];simp only[Sem.run_bind,wq rX,Result.andThen_ok,hs,h6]
   ·cases h
  ·cases h
 ·rename_i s k i;split at h
  ·rename_i hb;obtain⟨hb,hk⟩:=hb;cases h;rw[hi.e7,hx.iM];obtain⟨u,h1,h2,h3,_⟩:=wz hT;obtain rfl:=Cv (h3.trans hk);refine⟨_,?_,.int _ _⟩;simp only[Instr.index,asIntOf,Sem.run_bind,Sem.run_pure,Result.andThen_ok,run_underlying h2];rw[if_pos hb.1,getElem?_pos s i.toNat hb.2];rfl
  ·cases h
 ·cases h
theorem Zo3 {t:TypeId} {T:kG} (hT:gF P t=some T) {vx:Value} {x r:ah} {i:Nat} (hx:cn w M β vx x) (h:kK T x i=some r) :
  ∃v,(Instr.fieldAt t vx i).run P w=.ok v w/\cn w M β v r:=by
 unfold kK at h;split at h
 ·rename_i off l hk hf;split at h
  ·rename_i eM;obtain⟨u,h1,h2,h3,h4,_⟩:=wz hT;obtain⟨fs,rfl⟩:=NG (h3.trans hk);simp only at h4;rw[h4,cE]at hf;obtain⟨f,xI,p9⟩:=aP.1 hf;simp only[bM]at p9;obtain⟨rfl,hl⟩:=p9;obtain⟨ti,_,_,rX,_,_,hs,_⟩:=rS hl;have Re:fs[i]? = some f:=by simpa using xI
   have run:∀g o,(Instr.fieldAt t (.pointer (some ⟨g,o,none⟩)) i).run P w=.ok (.pointer (some ⟨g,o+f.offset,none⟩)) w:=by
    intro g o;have:¬ti.size=0:=by omega
    simp[Instr.fieldAt,run_underlying h2,Re,Instr.sureAddr,fieldPlace,wq rX,this,Addr.add_lit]
   split at h
   ·cases h;cases hx with
    | @ptr b o L hL=>exact⟨_,run _ _,by rw[fY];exact .ptr hL⟩
   ·cases h;cases hx with
    | @rp b o fo L hL=>exact⟨_,run _ _,by rw[fY];exact .rp hL⟩
   ·rename_i cs;cases h;cases hx with
    | @pp g o _ cv hc hr =>
     refine⟨_,run _ _,.pp (λk=>cv (f.offset+k)) (λk eZ=>?_) (λk eZ=>?_)⟩
     ·simp only[cr]at eZ;have:=hc (f.offset+k) (by omega)
      rwa [<-fY]at this
     ·simp only[cr]at eZ;rw[Nj];exact hr _ (by omega)
   ·cases h
  ·cases h
 ·cases h
theorem Ydb {t:TypeId} {T:kG} (hT:gF P t=some T) {vx:Value} {x r:ah} {i:Nat} (hx:cn w M β vx x) (h:ru T x i=some r) :
  ∃v,(Instr.field t vx i).run P w=.ok v w/\cn w M β v r:=by
 unfold ru at h;split at h
 ·rename_i off l cs hk hf;obtain⟨u,h1,h2,h3,h4,_⟩:=wz hT;obtain⟨fs,rfl⟩:=NG (h3.trans hk);simp only at h4;rw[h4,cE]at hf;obtain⟨f,xI,p9⟩:=aP.1 hf;simp only[bM]at p9;obtain⟨rfl,hl⟩:=p9;have Re:fs[i]? = some f:=by simpa using xI
  cases hx with
  |agg hn hr =>
   obtain⟨v,h6,h7⟩:=VD (P:=P) hl hn hr h;exact⟨v,by simp[Instr.field,run_underlying h2,Re,asAgg,h6],h7⟩
 ·cases h
end
section
variable {P:Program}{X:Nat->Nat->Prop}{base:Nat}{σ:av}{β:Env}{w:World}{nm:Nat}{M:Nat->Nat->Prop}
theorem H7 (k:ah):∀(ks:List ah) (i j:Nat),fR k ks i=some j->i<=j/\j-i<ks.length
 |[],_,_,h=>by simp[fR]at h
 |x :: xs,i,j,h=>by
  simp only[fR]at h;split at h
  ·cases h;simp
  ·have:=H7 k xs (i+1) j h;simp;omega
theorem VT {T:kG} {t:TypeId} (hT:gF P t=some T) (hk:T.kind=.map) {k:ah} (h:qE T k=true) :
  ∃kt et u,P.underlying t=some (.map kt et)/\T.elem=cC P et/\P.underlying kt=some u /\
   ((∃ik n,u=.int ik/\k=.int ik n)\/(∃s,u=.string/\k=.str s)):=by
 obtain⟨u,h1,h2,h3,_,h5,h6⟩:=wz hT;obtain⟨kt,et,rfl⟩:=G1 (h3.trans hk);simp only at h5 h6;unfold qE at h;rw[h6]at h;cases hl:cC P kt with
 |none=>rw[hl]at h;simp at h
 |some l =>
  rw[hl]at h;simp only[bD]at h;obtain⟨_,u,_,_,hu,_,_,_,_,_,FE,_⟩:=rS hl;refine⟨kt,et,u,h2,h5,hu,?_⟩;split at h
  ·rename_i k' ik n e1;simp only[aM]at e1;rw[<-FE]at e1;simp only[beq_iff_eq]at h;subst h;exact .inl ⟨_,_,Lu e1,rfl⟩
  ·rename_i s e1;simp only[aM]at e1;rw[<-FE]at e1;exact .inr ⟨_,Cv e1,rfl⟩
  ·cases h
theorem Vq {kt:TypeId} {u:TypeDesc} (hu:P.underlying kt=some u) (h:(∃ik,u=.int ik)\/u=.string) (e:Bool) (n:Nat) (v:Value) :
  (Instr.checkKey e (n+1) kt v).run P w=.ok () w:=by
 rcases h with⟨ik,rfl⟩|rfl<;>simp[Instr.checkKey,run_underlying hu]
theorem Ycv {u:TypeDesc} {k x:ah} {vk vx:Value} (hu:(∃ik n,u=.int ik/\k=.int ik n)\/(∃s,u=.string/\k=.str s)) (hk:cn w M β vk k) (hx:cn w M β vx x)
  (hs:sameKind k x=true):Instr.sameNow u vk vx=some (fP k x):=by
 rcases hu with⟨ik,n,rfl,rfl⟩|⟨s,rfl,rfl⟩
 ·cases x<;>simp only[sameKind,reduceCtorEq,aX,beq_iff_eq]at hs;subst hs;rw[hk.e7,hx.e7];simp[Instr.sameNow,fP]
 ·cases x<;>simp only[sameKind,reduceCtorEq,aX]at hs;rw[hk.iM,hx.iM];simp[Instr.sameNow,fP,beq_toListBytes]
theorem N4 {u:TypeDesc} {k:ah} {vk:Value} (hu:(∃ik n,u=.int ik/\k=.int ik n)\/(∃s,u=.string/\k=.str s)) (hk:cn w M β vk k) :
  ∀(es:List MapEntry) (ks:List ah) (i:Nat),es.length=ks.length->(∀j,j<ks.length->cn w M β (es.getD j default).key (ks.getD j .undef))->(∀x∈ks,sameKind k x=true) ->
   Instr.findNow u vk es i=some ((fR k ks i).map λj=>(j,(es.getD (j-i) default).val))
 |[],[],i,_,_,_=>rfl
 |[],_ :: _,_,h,_,_=>by simp at h
 |_ :: _,[],_,h,_,_=>by simp at h
 | e :: es,x :: xs,i,hl,hr,hs=>by
  have h0:=hr 0 (by simp);simp only[aV]at h0;simp only[Instr.findNow,Ycv hu hk h0 (hs x (by simp)),fR];cases hc:fP k x with
  |true=>simp
  | false =>
   have ih:=N4 hu hk es xs (i+1) (by simpa using hl) (λj hj=>by simpa using hr (j+1) (by simpa using hj)) (λy hy=>hs y (by simp[hy]));simp only[aX,if_false];rw[ih];cases hf:fR k xs (i+1) with
   |none=>rfl
   |some j =>
    have:=H7 k xs (i+1) j hf;simp only[bD];rw[show j-i=(j-(i+1))+1 by omega,bE]
theorem DM {t:TypeId} {l:fL} (hl:cC P t=some l):∃z,(zeroValue t).run P w=.ok z w/\cn w M β z (zeroV l)/\z.cells.size=l.sz/\l.zero.length=l.sz /\
  (∀k,k<l.sz->cn w M β (z.cells.getD k undef) (l.zero.getD k .undef))/\Dz l.ag z=true:=by
 obtain⟨i,u,z,h1,h2,h3,h4,h5,h6,h7,h8,h9,wL⟩:=rS hl;have hn:l.zero.length=l.sz:=by rw[<-h7];simp[vo];exact wL
 have hz:∀k,k<l.sz->cn w M β (z.cells.getD k undef) (l.zero.getD k .undef):=by
  intro k hk;rw[<-wL]at hk;have:(vo z).getD k .undef=ofValue (z.cells.getD k undef):=by simp[vo,List.getD,hk,Array.getD]
  rw[<-h7,this];exact NA _
 refine⟨z,Ky h1 h3,?_,wL,hn,hz,h9⟩;unfold zeroV;cases z with
 |agg cs =>
  have ha:l.ag=true:=by simpa[Dz] using h9
  rw[if_pos ha];exact .agg (by rw[hn,<-wL];rfl) (λk hk=>hz k (by omega))
 |tuple cs=>simp[Dz]at h9
 |_ =>
  have ha:¬l.ag=true:=by intro ha;rw[ha]at h9;simp[Dz]at h9
  rw[if_neg ha];have e1:l.zero=[ofValue _]:=h7.symm;rw[e1];exact NA _
theorem H0 {v:Value} {a:ah} (h:cn w M β v a) (hc:a.cells.all ah.dy=true):v.cells.size=a.cells.length/\(∀k,k<a.cells.length->cn w M β (v.cells.getD k undef) (a.cells.getD k .undef)) /\
  (c_ a=false->v.oneCell'=true)/\(∀u∈v.cells.toList,u.oneCell'=true):=by
 have one:∀ {v:Value} {a:ah},cn w M β v a->a.dy=true->v.oneCell'=true:=by
  intro v a h hc;cases h<;>first|rfl | (simp[ah.dy]at hc)
 cases a with
 | agg l =>
  cases h with
  | @agg cs _ hn hr =>
   refine⟨hn,hr,λe=>by simp[c_]at e,λu hu=>?_⟩;obtain⟨k,hk,rfl⟩:=n6 hu;simp only[Value.cells]at hk;simp only[bR]at hk;have h1:=hr k (by omega);have h2:(cs.getD k undef)=cs[k]:=by simp[Array.getD,hk]
   rw[h2]at h1;refine one h1 ?_;simp only[ah.cells,bu]at hc;have h3:k<l.length:=by omega
   have:l.getD k .undef=l[k]:=by simp[List.getD,h3]
   rw[this];exact hc _ (ay h3)
 | _ =>
  have h1:=one h (by simpa[ah.cells] using hc);have h2:v.cells = #[v]:=by cases v<;>first|rfl | (simp[Value.oneCell']at h1)
  rw[h2];refine⟨rfl,λk hk=>?_,λ_=>h1,λu hu=>?_⟩
  ·simp only[ah.cells,dN]at hk;obtain rfl:k=0:=by omega
   exact h
  ·simp at hu;subst hu;exact h1
theorem Ns {t kt et:TypeId} (ht:P.underlying t=some (.map kt et)) {l:fL} (hl:cC P et=some l) {u:TypeDesc} (hu:P.underlying kt=some u) {k:ah} {vk:Value}
  (hk:(∃ik n,u=.int ik/\k=.int ik n)\/(∃s,u=.string/\k=.str s)) (wc:cn w M β vk k) {es:Array MapEntry} {ks vs:List ah} (hn:es.size=ks.length) (hv:vs.length=ks.length)
  (qa:∀j,j<ks.length->cn w M β (es.getD j default).key (ks.getD j .undef)) (po:∀j,j<ks.length->cn w M β (es.getD j default).val (vs.getD j .undef)) (hs:∀x∈ks,sameKind k x=true)
  {vx:Value} (hx:vx=.map none/\es = #[]\/∃g clk,vx=.map (some g)/\w.heap[g]? = some (.map es clk)) (ok:Bool) :
  ∃v,(Instr.lookup t vx vk ok).run P w=.ok v w/\cn w M β v (fT ks vs (zeroV l) k ok):=by
 obtain⟨z,rY,rE,_⟩:=DM (w:=w) (M:=M) (β:=β) hl;have p7:=Vq (P:=P) (w:=w) hu (by rcases hk with⟨ik,_,h,_⟩|⟨_,h,_⟩;exact .inl ⟨ik,h⟩;exact .inr h) es.isEmpty 9999 vk;have fc:∀j,es.toList.getD j default=es.getD j default:=λj=>by simp[List.getD,au]
 have Ec:=N4 hk wc es.toList ks 0 (by simpa using hn) (λj hj=>by rw[fc];exact qa j hj) hs;have kV:(Instr.findKey kt vk es.toList).run P w=.ok ((fR k ks 0).map λj=>(j,(es.getD j default).val)) w:=by
  simp only[Instr.findKey,Sem.run_bind,run_underlying hu,Result.andThen_ok,Ec,gU,fc];rfl
 refine⟨match fR k ks 0 with|some j=>if ok then .tuple #[(es.getD j default).val,.bool true] else (es.getD j default).val|none=>if ok then .tuple #[z,.bool false] else z,?_,?_⟩
 ·rcases hx with⟨rfl,rfl⟩|⟨g,clk,rfl,hg⟩
  ·simp only[Instr.lookup,Sem.run_bind,run_underlying ht,Result.andThen_ok,Sem.run_pure];rw[show(10000:Nat)=9999+1 from rfl,p7]
   simp only[Result.andThen_ok,kV];cases hf:fR k ks 0 with
   |none=>cases ok<;>simp[rY]
   |some j=>cases ok<;>simp
  ·have wQ:(getObj g).run P w=.ok (.map es clk) w:=by simp[getObj,Sem.run,hg]
   simp only[Instr.lookup,Sem.run_bind,run_underlying ht,Result.andThen_ok,wQ,Sem.run_pure];rw[show(10000:Nat)=9999+1 from rfl,p7]
   simp only[Result.andThen_ok,kV];cases hf:fR k ks 0 with
   |none=>cases ok<;>simp[rY]
   |some j=>cases ok<;>simp
 ·unfold fT;cases hf:fR k ks 0 with
  | none =>
   cases ok
   ·exact rE
   ·exact .dw rfl (λj hj=>by
     match j,hj with
     |0,_=>exact rE
     |1,_=>exact .bool _)
  | some j =>
   have hj:=(H7 k ks 0 j hf).2;cases ok
   ·exact po j (by omega)
   ·exact .dw rfl (λi hi=>by
     match i,hi with
     |0,_=>exact po j (by omega)
     |1,_=>exact .bool _)
theorem Zx1 (hr:c8 X base σ β w) {t:TypeId} {T:kG} (hT:gF P t=some T) {vx vk:Value} {x k r:ah} {ok:Bool} (hx:cn w (MT X σ β) β vx x) (wc:cn w (MT X σ β) β vk k)
  (h:nT σ T x k ok=some r):∃v,(Instr.lookup t vx vk ok).run P w=.ok v w/\cn w (MT X σ β) β v r:=by
 unfold nT at h;split at h
 ·rename_i l hk he;split at h
  ·rename_i Rr;obtain⟨kt,et,u,h1,h2,h3,h4⟩:=VT hT hk Rr;rw[he]at h2;split at h
   ·cases h;cases hx;exact Ns h1 h2.symm h3 h4 wc (es:=#[]) rfl rfl (λj hj=>by simp at hj) (λj hj=>by simp at hj) (λx hx=>by simp at hx) (.inl ⟨rfl,rfl⟩) ok
   ·split at h
    ·rename_i hs;cases h;cases hx with
     | @pm g clk es _ _ hg hm hn hv qa po=>exact Ns h1 h2.symm h3 h4 wc hn hv qa po (by simpa using hs) (.inr ⟨g,clk,rfl,hg⟩) ok
    ·cases h
   ·split at h
    ·rename_i ks vs fz hb;split at h
     ·rename_i hs;cases h;obtain⟨L,h5,_,_,es,clk,h6,hn,hv,qa,po,_⟩:=hr.cG _ _ (la hb);cases hx with
      |map hL =>
       obtain rfl:=aS (h5.symm.trans hL);exact Ns h1 h2.symm h3 h4 wc hn hv qa po (by simpa using hs) (.inr ⟨L.g,clk,rfl,h6⟩) ok
     ·cases h
    ·cases h
   ·cases h
  ·cases h
 ·cases h
end
end Go.dq
