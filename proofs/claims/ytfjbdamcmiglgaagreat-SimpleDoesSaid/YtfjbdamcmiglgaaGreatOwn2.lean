/- Part 2 of what the claim rests on. -/
import Derived.Test.YtfjbdamcmiglgaaGreatOwn1
import Derived.AtR
import Derived.Below
set_option linter.all false
abbrev au:=@Array.getD_eq_getD_getElem?
abbrev aE:=@Array.getElem?_eq_getElem
abbrev aQ:=@Array.getElem?_eq_some_iff
abbrev jH:=@Array.getElem?_modify
abbrev gK:=@Array.getElem?_push
abbrev dZ:=@List.getElem?_drop
abbrev aN:=@List.getElem?_eq_some_iff
abbrev fh:=@List.getElem?_take
abbrev cr:=@List.length_drop
abbrev cF:=@Nat.add_zero
abbrev ae:=@Nat.le_refl
abbrev dg:=@Nat.le_trans
abbrev di:=@Nat.lt_of_lt_of_le
abbrev cQ:=@Nat.lt_succ_self
abbrev aS:=@Option.some.inj
abbrev aM:=@Option.some.injEq
namespace Go.dq
open Go
inductive ah:Type where
 |undef
 |bool (b:Bool)
 |jL
 |int (k:IntKind) (n:Int)
 |str (s:ByteArray)
 |gJ
 |ptr (b off:Nat)
 |rp (b i f:Nat)
 |pp (cs:List ah)
 |a8
 |ps (sz:Nat) (es:List ah)
 |os (b off len sz:Nat)
 |oc (b off len cap sz:Nat)
 |fU
 |fn (f:FuncId) (first captured:List ah)
 |ni (b:Nat)
 |dj
 |map (b:Nat)
 |pm (ks vs:List ah)
 |it (b:Nat)
 |agg (cs:List ah)
 |dw (vs:List ah)
 |jv
 |iface (t:TypeId) (v:ah)
 |qf (v:Value)
 deriving Inhabited
def ah.cells:ah->List ah
 |.agg cs=>cs
 |a=>[a]
structure Loc where
 g:Nat
 o:Nat
 n:Nat
 sz:Nat
abbrev Env:=Nat->Option Loc
def jI (es:Array MapEntry)(clk:Nat):Prop :=
 (∀i,i<es.size->(es.getD i default).born<clk)/\∀i j,i<es.size->j<es.size->(es.getD i default).born=(es.getD j default).born->i=j
theorem Yle:jI #[] 0:=⟨λi hi=>by simp at hi,λi j hi=>by simp at hi⟩
theorem Yj6 {es:Array MapEntry} {clk:Nat} (h:jI es clk) (k v:Value):jI (es.push { key:=k,val:=v,born:=clk }) (clk+1):=by
 have e:∀i,(es.push { key:=k,val:=v,born:=clk }).getD i default=if i=es.size then { key:=k,val:=v,born:=clk } else es.getD i default:=λi=>by
  simp only[au,gK];split<;>rfl
 constructor
 ·intro i hi;rw[e];simp only[Array.size_push]at hi;split
  ·exact cQ _
  ·exact Nat.lt_succ_of_lt (h.1 i (by omega))
 ·intro i j hi hj yw;rw[e,e]at yw;simp only[Array.size_push]at hi hj;split at yw<;>split at yw
  ·omega
  ·have:=h.1 j (by omega);simp only at yw;omega
  ·have:=h.1 i (by omega);simp only at yw;omega
  ·exact h.2 i j (by omega) (by omega) yw
theorem Zxq {es:Array MapEntry} {clk:Nat} (h:jI es clk) (i:Nat) (k v:Value):jI (es.modify i λe=>{ e with key:=k,val:=v }) clk:=by
 have e:∀j,j<es.size->((es.modify i λe=>{ e with key:=k,val:=v }).getD j default).born=(es.getD j default).born:=λj hj=>by
  simp only[au,jH];split
  ·rename_i h;subst h;rw[aE hj];rfl
  ·rfl
 constructor
 ·intro j hj;rw[Array.size_modify]at hj;rw[e j hj];exact h.1 j hj
 ·intro j j' hj qh hjj;rw[Array.size_modify]at hj qh;rw[e j hj,e j' qh]at hjj;exact h.2 j j' hj qh hjj
inductive cn (w:World) (M:Nat->Nat->Prop) (β:Env):Value->ah->Prop
 |undef (v:Value):cn w M β v .undef
 |bool (b:Bool):cn w M β (.bool b) (.bool b)
 |jL (b:Bool):cn w M β (.bool b) .jL
 |int (k:IntKind) (n:Int):cn w M β (.int k n) (.int k n)
 |str (s:ByteArray):cn w M β (.string s) (.str s)
 |gJ:cn w M β (.pointer none) .gJ
 |ptr {b off:Nat} {L:Loc} (h : β b=some L):cn w M β (.pointer (some ⟨L.g,L.o+off,none⟩)) (.ptr b off)
 |rp {b i f:Nat} {L:Loc} (h : β b=some L):cn w M β (.pointer (some ⟨L.g,L.o+i*L.sz+f,none⟩)) (.rp b i f)
 | pp {g o:Nat} {cs:List ah} (cv:Nat->Value)
   (hc:∀k,k<cs.length->w.cell? ⟨g,o+k,none⟩=some (cv k)/\¬M g (o+k))
   (hr:∀k,k<cs.length->cn w M β (cv k) (cs.getD k .undef)):cn w M β (.pointer (some ⟨g,o,none⟩)) (.pp cs)
 |a8 (a:Option Addr):cn w M β (.slice a 0 0) .a8
 | ps {a:Option Addr} {cap sz:Nat} {es:List ah} (cv:Nat->Nat->Value) (j8:es.length<=cap)
   (eM:∀i,i<es.length->(es.getD i .undef).cells.length=sz)
   (hc:∀i j,i<es.length->j<sz->∃g o,a=some ⟨g,o,none⟩/\w.cell? ⟨g,o+i*sz+j,none⟩=some (cv i j)/\¬M g (o+i*sz+j))
   (ha : 0<es.length->∃g o,a=some ⟨g,o,none⟩)
   (hr:∀i j,i<es.length->j<sz->cn w M β (cv i j) ((es.getD i .undef).cells.getD j .undef)):cn w M β (.slice a es.length cap) (.ps sz es)
 |vg (a:Option Addr) {b off:Nat} {L:Loc} (h : β b=some L):cn w M β (.slice a 0 0) (.os b off 0 L.sz)
 |os {b off len cap:Nat} {L:Loc} (h : β b=some L) (hl:len<=cap) (hc:off+cap<=L.n):cn w M β (.slice (some ⟨L.g,L.o+off*L.sz,none⟩) len cap) (.os b off len L.sz)
 |ve (a:Option Addr) {b off:Nat} {L:Loc} (h : β b=some L):cn w M β (.slice a 0 0) (.oc b off 0 0 L.sz)
 |oc {b off len cap:Nat} {L:Loc} (h : β b=some L) (hl:len<=cap) (hc:off+cap<=L.n):cn w M β (.slice (some ⟨L.g,L.o+off*L.sz,none⟩) len cap) (.oc b off len cap L.sz)
 |fU:cn w M β .nilFunc .fU
 | fn {f:FuncId} {fa ca:Array Value} {first captured:List ah} (h1:fa.size=first.length) (h2:ca.size=captured.length)
   (qa:∀k,k<first.length->cn w M β (fa.getD k undef) (first.getD k .undef))
   (po:∀k,k<captured.length->cn w M β (ca.getD k undef) (captured.getD k .undef)):cn w M β (.func (.func f) fa ca) (.fn f first captured)
 |ni {b:Nat} {L:Loc} (h : β b=some L):cn w M β (.func (.yield L.g) #[] #[]) (.ni b)
 |dj:cn w M β (.map none) .dj
 |map {b:Nat} {L:Loc} (h : β b=some L):cn w M β (.map (some L.g)) (.map b)
 | pm {g clk:Nat} {es:Array MapEntry} {ks vs:List ah} (hg:w.heap[g]? = some (.map es clk)) (hm:¬M g 0) (hk:es.size=ks.length) (hv:vs.length=ks.length)
   (qa:∀k,k<ks.length->cn w M β (es.getD k default).key (ks.getD k .undef))
   (po:∀k,k<ks.length->cn w M β (es.getD k default).val (vs.getD k .undef)) (hb:jI es clk):cn w M β (.map (some g)) (.pm ks vs)
 |it {b:Nat} {L:Loc} (h : β b=some L):cn w M β (.pointer (some ⟨L.g,0,none⟩)) (.it b)
 |agg {cs:Array Value} {l:List ah} (h:cs.size=l.length) (hr:∀k,k<l.length->cn w M β (cs.getD k Go.undef) (l.getD k .undef)):cn w M β (.agg cs) (.agg l)
 |dw {cs:Array Value} {l:List ah} (h:cs.size=l.length) (hr:∀k,k<l.length->cn w M β (cs.getD k Go.undef) (l.getD k .undef)):cn w M β (.tuple cs) (.dw l)
 |jv:cn w M β .nilIface .jv
 |iface {t:TypeId} {v:Value} {a:ah} (h:cn w M β v a):cn w M β (.iface t v) (.iface t a)
 |qf (v:Value):cn w M β v (.qf v)
structure dK (w:World)(M:Nat->Nat->Prop)(w':World)(M':Nat->Nat->Prop):Prop where
 cell:∀g o v,w.cell? ⟨g,o,none⟩=some v->¬M g o->w'.cell? ⟨g,o,none⟩=some v/\¬M' g o
 map:∀g es c,w.heap[g]? = some (.map es c)->¬M g 0->w'.heap[g]? = some (.map es c)/\¬M' g 0
theorem dK.nr {w:World}{M M':Nat->Nat->Prop}(h:∀g o,M' g o->M g o):dK w M w M' :=
 ⟨λg o _ hc hn=>⟨hc,λhm=>hn (h g o hm)⟩,λg _ _ hc hn=>⟨hc,λhm=>hn (h g 0 hm)⟩⟩
theorem cn.mono {w w':World} {M M':Nat->Nat->Prop} {β β':Env} (hk:dK w M w' M') (hβ:∀b L,β b=some L->β' b=some L) {v:Value} {a:ah}
  (h:cn w M β v a):cn w' M' β' v a:=by
 induction h with
 |undef v=>exact .undef v
 |bool b=>exact .bool b
 |jL b=>exact .jL b
 |int k n=>exact .int k n
 |str s=>exact .str s
 |gJ=>exact .gJ
 |ptr h=>exact .ptr (hβ _ _ h)
 |rp h=>exact .rp (hβ _ _ h)
 |pp cv hc _ ih=>exact .pp cv (λk eZ=>hk.cell _ _ _ (hc k eZ).1 (hc k eZ).2) ih
 |a8 a=>exact .a8 a
 |ps cv j8 eM hc ha _ ih =>
  refine .ps cv j8 eM (λi j hi hj=>?_) ha ih;obtain⟨g,o,h1,h2,h3⟩:=hc i j hi hj;exact⟨g,o,h1,hk.cell _ _ _ h2 h3⟩
 |vg a h=>exact .vg a (hβ _ _ h)
 |os h hl hc=>exact .os (hβ _ _ h) hl hc
 |ve a h=>exact .ve a (hβ _ _ h)
 |oc h hl hc=>exact .oc (hβ _ _ h) hl hc
 |fU=>exact .fU
 |fn h1 h2 _ _ lZ qj=>exact .fn h1 h2 lZ qj
 |ni h=>exact .ni (hβ _ _ h)
 |dj=>exact .dj
 |map h=>exact .map (hβ _ _ h)
 |pm hg hm h1 h2 _ _ hb lZ qj=>exact .pm (hk.map _ _ _ hg hm).1 (hk.map _ _ _ hg hm).2 h1 h2 lZ qj hb
 |it h=>exact .it (hβ _ _ h)
 |agg h _ ih=>exact .agg h ih
 |dw h _ ih=>exact .dw h ih
 |jv=>exact .jv
 |iface _ ih=>exact .iface ih
 |qf v=>exact .qf v
inductive il where
 |ready
 |busy
 |done (c:Code)
structure iR where
 tm:List ah
 params:Array Tmp
 assign:Code
 body:Code
 st:il
inductive bS:Type where
 |var (cs:List ah)
 |row (es:List ah) (fz:Nat)
 |map (ks vs:List ah) (fz:Bool)
 |iter (s:ByteArray) (pos:Nat)
 |mC (ks vs:List ah) (seen:List Nat)
 |loop (r:iR)
abbrev av:=List (Option bS)
def bS.mut (L:Loc):bS->Nat->Prop
 |.row _ fz,off=>L.o+fz*L.sz<=off
 |.map _ _ fz,_=>fz=false
 |_,_=>True
def jR (σ:av)(β:Env)(g off:Nat):Prop :=
 ∃b cG L,σ[b]? = some (some cG)/\β b=some L/\L.g=g/\cG.mut L off
def MT (X:Nat->Nat->Prop)(σ:av)(β:Env)(g o:Nat):Prop:=X g o\/jR σ β g o
def il.of:il->LoopState×Option Code
 |.ready=>(.ready,none)
 |.busy=>(.busy,none)
 |.done c=>(.done,some c)
def ig (w:World) (M:Nat->Nat->Prop) (β:Env) (L:Loc):bS->Prop
 | .var cs=>∃c e,w.heap[L.g]? = some (.cells c e (0,0))/\L.o=0/\c.size=cs.length /\
   ∀k,k<cs.length->cn w M β (c.getD k undef) (cs.getD k .undef)
 | .row es _=>∃c e,w.heap[L.g]? = some (.cells c e (0,0))/\L.o+L.n*L.sz<=c.size/\es.length<=L.n /\
   (∀i,i<es.length->(es.getD i .undef).cells.length=L.sz) /\
   ∀i j,i<es.length->j<L.sz->cn w M β (c.getD (L.o+i*L.sz+j) undef) ((es.getD i .undef).cells.getD j .undef)
 | .map ks vs _=>∃es clk,w.heap[L.g]? = some (.map es clk)/\es.size=ks.length/\vs.length=ks.length /\
   (∀k,k<ks.length->cn w M β (es.getD k default).key (ks.getD k .undef))/\(∀k,k<ks.length->cn w M β (es.getD k default).val (vs.getD k .undef))/\jI es clk
 |.iter s pos=>w.heap[L.g]? = some (.stringIter s pos)
 | .mC ks vs seen=>∃m es clk,w.heap[L.g]? = some (.mapIter (some m) clk (seen.map λi=>(es.getD i default).born).toArray clk)/\w.heap[m]? = some (.map es clk)/\¬M m 0/\es.size=ks.length/\vs.length=ks.length /\
   (∀k,k<ks.length->cn w M β (es.getD k default).key (ks.getD k .undef))/\(∀k,k<ks.length->cn w M β (es.getD k default).val (vs.getD k .undef))/\jI es clk/\∀i∈seen,i<ks.length
 | .loop r=>∃tmps dr fn,w.heap[L.g]? = some (.loop { state:=r.st.of.1,pending:=r.st.of.2,fn,tmps,params:=r.params,assign:=r.assign,body:=r.body,defers:=dr }) /\
   tmps.size=r.tm.length/\∀k,k<r.tm.length->cn w M β (tmps.getD k undef) (r.tm.getD k .undef)
theorem ig.mono {w w':World} {M M':Nat->Nat->Prop} {β β':Env} (hk:dK w M w' M') (hβ:∀b L,β b=some L->β' b=some L) {L:Loc} {cG:bS}
  (hg:w'.heap[L.g]? = w.heap[L.g]?) (h:ig w M β L cG):ig w' M' β' L cG:=by
 cases cG with
 |var cs=>obtain⟨c,e,h1,h0,h2,h3⟩:=h;exact⟨c,e,hg.trans h1,h0,h2,λk eZ=>(h3 k eZ).mono hk hβ⟩
 |row es fz=>obtain⟨c,e,h1,h2,h3,h4,h5⟩:=h;exact⟨c,e,hg.trans h1,h2,h3,h4,λi j hi hj=>(h5 i j hi hj).mono hk hβ⟩
 |map ks vs fz=>obtain⟨es,clk,h1,h2,h3,h4,h5,h6⟩:=h;exact⟨es,clk,hg.trans h1,h2,h3,λk eZ=>(h4 k eZ).mono hk hβ,λk eZ=>(h5 k eZ).mono hk hβ,h6⟩
 |iter s pos=>exact hg.trans h
 |mC ks vs seen=>obtain⟨m,es,clk,h1,h2,h3,h4,h5,h6,h7,h8⟩:=h;exact⟨m,es,clk,hg.trans h1,(hk.map _ _ _ h2 h3).1,(hk.map _ _ _ h2 h3).2,h4,h5,λk eZ=>(h6 k eZ).mono hk hβ,λk eZ=>(h7 k eZ).mono hk hβ,h8⟩
 |loop r=>obtain⟨t,d,f,h1,h2,h3⟩:=h;exact⟨t,d,f,hg.trans h1,h2,λk eZ=>(h3 k eZ).mono hk hβ⟩
def xu (base:Nat)(w:World):Prop:=∀x∈CZ,x.1<base/\∃v,w.cell? ⟨x.1,x.2.1,none⟩=some v/\x.2.2 v
structure c8 (X:Nat->Nat->Prop)(base:Nat)(σ:av)(β:Env)(w:World):Prop where
 o_:∀b,σ.length<=b->β b=none
 cG:∀b cG,σ[b]? = some (some cG)->∃L,β b=some L/\base<=L.g/\(∀o,¬X L.g o)/\ig w (MT X σ β) β L cG
 inj:∀b b' cG mf L L',σ[b]? = some (some cG)->σ[b']? = some (some mf)->β b=some L->β b'=some L'->L.g=L'.g->b=b'
 size:base<=w.heap.size
 sc:∀g o,X g o->g<w.heap.size
 gl:xu base w
structure Ext (lo:Nat)(σ:av)(β:Env)(w:World)(σ':av)(β':Env)(w':World):Prop where
 os:w'.os=w.os
 tape:w'.tape=w.tape
 output:w'.output=w.output
 size:w.heap.size<=w'.heap.size
 cell:∀g o v,w.cell? ⟨g,o,none⟩=some v->¬jR σ β g o->w'.cell? ⟨g,o,none⟩=some v
 block:∀g,g<w.heap.size->(∀o,¬jR σ β g o)->w'.heap[g]? = w.heap[g]?
 jq:∀g o,jR σ' β' g o->jR σ β g o\/w.heap.size<=g
 env:∀b,b<lo->β' b = β b
theorem Ae {w:World}{g o:Nat}{v:Value}(h:w.cell? ⟨g,o,none⟩=some v):g<w.heap.size:=World.block_lt_of_cell? w ⟨g,o,none⟩ h
theorem Ext.refl (lo:Nat)(σ:av)(β:Env)(w:World):Ext lo σ β w σ β w :=
 ⟨rfl,rfl,rfl,ae _,λ_ _ _ h _=>h,λ_ _ _=>rfl,λ_ _ h=>.inl h,λ_ _=>rfl⟩
theorem Ext.trans {lo:Nat} {σ σ1 jO:av} {β fI nZ:Env} {w w1 w2:World} (h:Ext lo σ β w σ1 fI w1) (k:Ext lo σ1 fI w1 jO nZ w2):Ext lo σ β w jO nZ w2:=by
 refine⟨k.os.trans h.os,k.tape.trans h.tape,k.output.trans h.output,dg h.size k.size,?_,?_,?_,λb hb=>(k.env b hb).trans (h.env b hb)⟩
 ·intro g o v hc hn;have h1:=h.cell g o v hc hn;refine k.cell g o v h1 λhm=>?_;rcases h.jq g o hm with h2|h2
  ·exact hn h2
  ·have:=Ae hc;omega
 ·intro g hg hn;have h1:=h.block g hg hn;rw[<-h1];refine k.block g (di hg h.size) λo hm=>?_;rcases h.jq g o hm with h2|h2
  ·exact hn o h2
  ·omega
 ·intro g o hm;rcases k.jq g o hm with h2|h2
  ·exact h.jq g o h2
  ·exact .inr (dg h.size h2)
theorem Ext.lower {lo lo':Nat}{σ σ':av}{β β':Env}{w w':World}(h:Ext lo σ β w σ' β' w')(hl:lo'<=lo):Ext lo' σ β w σ' β' w' :=
 ⟨h.os,h.tape,h.output,h.size,h.cell,h.block,h.jq,λb hb=>h.env b (di hb hl)⟩
theorem c8.Dm {X:Nat->Nat->Prop} {base:Nat} {σ:av} {β:Env} {w:World} (h:c8 X base σ β w) {g clk:Nat} {es:Array MapEntry}
  (hg:w.heap[g]? = some (.map es clk)) (hn:¬jR σ β g 0):∀o,¬jR σ β g o:=by
 rintro o ⟨b,cG,L,h1,h2,rfl,h4⟩;refine hn ⟨b,cG,L,h1,h2,rfl,?_⟩;obtain⟨L',xi,_,_,jB⟩:=h.cG b cG h1;obtain rfl:L=L':=aS (h2.symm.trans xi);cases cG with
 |row es fz=>obtain⟨c,e,h5,_⟩:=jB;rw[hg]at h5;cases h5
 |map ks vs fz=>exact h4
 |var cs=>trivial
 |iter s p=>trivial
 |mC ks vs seen=>trivial
 |loop r=>trivial
theorem Ext.keeps {X:Nat->Nat->Prop} {base lo:Nat} {σ σ':av} {β β':Env} {w w':World} (hr:c8 X base σ β w) (h:Ext lo σ β w σ' β' w') :
  dK w (MT X σ β) w' (MT X σ' β'):=by
 constructor
 ·intro g o v hc hn;have hx:¬X g o:=λhx=>hn (.inl hx);have hm:¬jR σ β g o:=λhm=>hn (.inr hm);refine⟨h.cell g o v hc hm,?_⟩;rintro(u9|Db)
  ·exact hx u9
  ·rcases h.jq g o Db with h2|h2
   ·exact hm h2
   ·have:=Ae hc;omega
 ·intro g es c hg hn;have hx:¬X g 0:=λhx=>hn (.inl hx);have hm:¬jR σ β g 0:=λhm=>hn (.inr hm);have bx:g<w.heap.size:=(aQ.1 hg).1;refine⟨(h.block g bx (hr.Dm hg hm)).trans hg,?_⟩;rintro(u9|Db)
  ·exact hx u9
  ·rcases h.jq g 0 Db with h2|h2
   ·exact hm h2
   ·omega
theorem c8.Fg {X:Nat->Nat->Prop}{base lo:Nat}{σ σ':av}{β β':Env}{w w':World}(hr:c8 X base σ β w)(h:Ext lo σ β w σ' β' w'):xu base w':=λx hx=>by
 obtain⟨g1,v,g2,g3⟩:=hr.gl x hx;refine⟨g1,v,h.cell _ _ _ g2 ?_,g3⟩;rintro⟨b,cG,L,m1,m2,m3,_⟩;obtain⟨L',q1,q2,_⟩:=hr.cG b cG m1;obtain rfl:=aS (q1.symm.trans m2);omega
theorem xu.same {base:Nat}{w w':World}(hg:xu base w)(h:∀g,g<w.heap.size->w'.heap[g]? = w.heap[g]?):xu base w':=λx hx=>by
 obtain⟨g1,v,g2,g3⟩:=hg x hx;exact⟨g1,v,by rw[World.cell?_of_block (w:=w) (a:=⟨x.1,x.2.1,none⟩) (h x.1 (Ae g2))];exact g2,g3⟩
inductive KA where
 |bool|int (k:IntKind) | str|ptr|slice|array (n:Nat) | map|struct|func|iface|other
 deriving DecidableEq
def j4:TypeDesc->KA
 |.bool=>.bool|.int k=>.int k|.string=>.str|.pointer _=>.ptr|.slice _=>.slice|.array n _=>.array n
 |.map _ _=>.map|.struct _=>.struct|.func _ _ _=>.func|.interface _=>.iface|_=>.other
def td:TypeDesc->Bool
 |.struct _|.array _ _=>true
 |_=>false
def ofValue:Value->ah
 |.bool b=>.bool b
 |.int k n=>.int k n
 |.string s=>.str s
 |.pointer none=>.gJ
 |.slice none 0 0=>.a8
 |.map none=>.dj
 |.nilFunc=>.fU
 |.nilIface=>.jv
 |v=>.qf v
def vo (z:Value):List ah:=z.cells.toList.map ofValue
structure fL where
 sz:Nat
 ag:Bool
 bytes:Nat
 zero:List ah
 key:KA
def Dz (ag:Bool):Value->Bool
 |.agg _=>ag
 |.tuple _=>false
 |_=>!ag
def cC (P:Program) (t:TypeId):Option fL :=
 match P.info? t,P.underlying t with
 |some i,some u=>match i.zero with
  |some z=>if Dz (td u) z=true/\z.cells.size=i.size then some { sz:=i.size,ag:=td u,bytes:=i.bytes,zero:=vo z,key:=j4 u } else none
  |none=>none
 |_,_=>none
structure kG where
 lay:fL
 qx:List (Nat×Option fL)
 elem:Option fL
 F9:Option fL
def gF (P:Program) (t:TypeId):Option kG :=
 match cC P t,P.underlying t with
 | some l,some u=>some
  {lay:=l
   qx:=match u with|.struct fs=>fs.toList.map λf=>(f.offset,cC P f.type) | _=>[]
   elem:=match u with|.slice e=>cC P e|.array _ e=>cC P e|.map _ e=>cC P e|_=>none
   F9:=match u with|.map k _=>cC P k|_=>none }
 |_,_=>none
def kG.kind (T:kG):KA:=T.lay.key
def kc (P:Program)(t:TypeId):Option KA:=(cC P t).map (·.key)
def va:ah->KA
 |.int k _=>.int k
 |.str _=>.str
 |.bool _=>.bool
 |_=>.other
def KA.plain:KA->Bool
 |.int _|.str|.bool=>true
 |_=>false
def rm (P:Program):List Field->Nat->List KA->Bool
 |[],_,[]=>true
 | f :: fs, i, k :: ks => f.offset == i && f.name != "_" && k.plain && decide ((P.underlying f.type).map j4 = some k) && rm P fs (i + 1) ks
 |_,_,_=>false
def Aq (P:Program)(t:TypeId)(ks:List KA):Bool :=
 match P.underlying t with
 |some (.struct fs)=>!P.eqGuardType P.depth t && !P.stoodInHeld t&&rm P fs.toList 0 ks
 |_=>false
def ah.dy:ah->Bool
 |.undef|.agg _|.dw _|.qf _=>false
 |_=>true
def lq (l:fL)(cs:List ah):Option ah :=
 if l.ag then (if l.sz<=cs.length then some (.agg (cs.take l.sz)) else none) else cs.head?
def zeroV (l:fL):ah:=if l.ag then .agg l.zero else l.zero.headD .undef
def cO:List ah->Nat->List ah->List ah
 |cs,_,[]=>cs
 |cs,o,v :: vs=>cO (cs.set o v) (o+1) vs
def cJ (σ:av)(nm:Nat)(b:bS):av :=
 if nm < σ.length then σ.set nm (some b) else σ++List.replicate (nm-σ.length) none++[some b]
def bW (σ:av)(b:Nat):Option bS:=(σ[b]?).join
def jW (σ:av) (l:fL):ah->Option ah
 |.ptr b off=>match bW σ b with
  |some (.var cs)=>lq l (cs.drop off)
  |_=>none
 |.rp b i f=>match bW σ b with
  |some (.row es _)=>if i<es.length then lq l ((es.getD i .undef).cells.drop f) else none
  |_=>none
 |.pp cs=>lq l cs
 |_=>none
def jl (ag:Bool)(cs:List ah):ah:=if ag then .agg cs else cs.headD .undef
def c_:ah->Bool
 |.agg _=>true
 |_=>false
def nX (σ:av) (l:fL) (p v:ah):Option av :=
 if v.cells.length=l.sz/\v.cells.all ah.dy then
  match p with
  |.ptr b off=>match bW σ b with
   |some (.var cs)=>if off+l.sz<=cs.length then some (cJ σ b (.var (cO cs off v.cells))) else none
   |_=>none
  | .rp b i f=>match bW σ b with
   | some (.row es fz) =>
    if fz<=i/\i<es.length/\f+l.sz<=(es.getD i .undef).cells.length/\0<l.sz then
     some (cJ σ b (.row (es.set i (jl (c_ (es.getD i .undef)) (cO (es.getD i .undef).cells f v.cells))) fz))
    else none
   |_=>none
  |_=>none
 else none
def tW:ah->ah->ah->Option ah
 |.bool c,.bool x,.bool y=>some (.bool (if c then x else y))
 |.bool c,x,y=>some (if c then x else y)
 |_,_,_=>none
def fP:ah->ah->Bool
 |.int _ a,.int _ b=>a==b
 |.str a,.str b=>a.toList==b.toList
 |.bool a,.bool b=>a==b
 |_,_=>false
def kS:List ah->List ah->Bool
 |[],[]=>true
 |a :: cI,b :: bs=>fP a b&&kS cI bs
 |_,_=>false
def sameKind:ah->ah->Bool
 |.int k _,.int k' _=>k==k'
 |.str _,.str _=>true
 |.bool _,.bool _=>true
 |_,_=>false
def kb (op:BinOp)(k:IntKind)(a b:Int):Option ah :=
 match op with
 |.add=>some (.int k (k.wrap (a+b)))
 |.sub=>some (.int k (k.wrap (a-b)))
 |.mul=>some (.int k (k.wrap (a*b)))
 |.quo=>if b≠0 then some (.int k (k.wrap (a.tdiv b))) else none
 |.rem=>if b≠0 then some (.int k (a.tmod b)) else none
 |.eql=>some (.bool (decide (a=b)))
 |.neq=>some (.bool (decide (a≠b)))
 |.lss=>some (.bool (decide (a<b)))
 |.leq=>some (.bool (decide (a<=b)))
 |.gtr=>some (.bool (decide (b<a)))
 |.geq=>some (.bool (decide (b<=a)))
 |_=>none
def rN (op:BinOp)(a b:ByteArray):Option ah :=
 match op with
 |.add=>if a.size+b.size<=1000000000 then some (.str (a++b)) else none
 |.eql=>some (.bool (a.toList==b.toList))
 |.neq=>some (.bool !(a.toList==b.toList))
 |.lss=>some (.bool (Op.bytesLess a.toList b.toList))
 |.leq=>some (.bool (Op.bytesLess a.toList b.toList||a.toList==b.toList))
 |.gtr=>some (.bool !(Op.bytesLess a.toList b.toList||a.toList==b.toList))
 |.geq=>some (.bool !(Op.bytesLess a.toList b.toList))
 |_=>none
def pc:ah->Option Bool
 |.gJ=>some false
 |.ptr _ _|.rp _ _ _|.pp _=>some true
 |_=>none
def nU:ah->Option Bool
 |.dj=>some false
 |.map _|.pm _ _=>some true
 |_=>none
def lY:ah->Option Bool
 |.jv=>some false
 |.iface _ _=>some true
 |_=>none
def nu:ah->Option Bool
 |.fU=>some false
 |.fn _ _ _=>some true
 |_=>none
def sR (P:Program)(t:TypeId):Bool :=
 match P.underlying t with
 |some (.interface ms)=>ms.isEmpty
 |_=>false
def wH (P:Program) (t:TypeId) (x y:ah):Option Bool :=
 match kc P t,x,y with
 |some .bool,.bool a,.bool b=>some (a==b)
 |some .ptr,x,y=>match pc x,pc y with
  |some false,some b=>some (!b)
  |some true,some false=>some false
  |_,_=>none
 |some .map,x,.dj=>(nU x).map (!·)
 |some .iface,x,y=>match lY x,lY y with
  |some true,some false|some false,some true=>some false
  |some false,some false=>if sR P t=true then some true else none
  |_,_=>none
 |some .func,x,y=>match nu x,nu y with
  |some false,some b=>some (!b)
  |some true,some false=>some false
  |_,_=>none
 |some .struct,.agg xs,.agg ys=>if xs.map va=ys.map va/\Aq P t (xs.map va)=true then some (kS xs ys) else none
 |_,_,_=>none
def nL (P:Program)(op:BinOp)(t:TypeId)(x y:ah):Option ah :=
 match op with
 |.eql=>(wH P t x y).map .bool
 |.neq=>(wH P t x y).map λb=>.bool !b
 |_=>none
def uA (P:Program)(op:BinOp)(t:TypeId)(x y:ah):Option ah :=
 match x,y with
 |.int k a,.int k' b=>if k=k' then kb op k a b else none
 |.str a,.str b=>rN op a b
 |x,y=>nL P op t x y
def qG:Operand->Bool
 |.const (.slice none 0 0)=>true
 |_=>false
def xX (neg:Bool):ah->Option ah
 |.a8=>some .jL
 |.ps _ es=>some (if es.length=0 then .jL else .bool neg)
 |.os _ _ n _=>some (if n=0 then .jL else .bool neg)
 |.oc _ _ n _ _=>some (if n=0 then .jL else .bool neg)
 |_=>none
def zr (P:Program)(op:BinOp)(t:TypeId)(x:ah):Option ah :=
 match kc P t,op with
 |some .slice,.eql=>xX false x
 |some .slice,.neq=>xX true x
 |_,_=>none
def Ai (P:Program)(op:BinOp)(t:TypeId)(x y:ah)(nl:Bool):Option ah:=if nl then zr P op t x else uA P op t x y
def Kj (op:UnOp):ah->Option ah
 |.bool b=>match op with
  |.not=>some (.bool !b)
  |_=>none
 |.int k n=>match op with
  |.neg=>some (.int k (k.wrap (0-n)))
  |_=>none
 |_=>none
def kz (lo hi:Nat):ah->Option Nat
 |.int _ i=>if (lo:Int)<=i/\i<=hi then some i.toNat else none
 |_=>none
def qd (k:KA) (σ:av) (x:ah):Option Nat :=
 match k,x with
 |.str,.str s=>some s.size
 |.slice,.ps _ es=>some es.length
 |.slice,.a8=>some 0
 |.slice,.os _ _ n _=>some n
 |.slice,.oc _ _ n _ _=>some n
 |.map,.dj=>some 0
 |.map,.pm ks _=>some ks.length
 |.map,.map b=>match bW σ b with
  |some (.map ks _ _)=>some ks.length
  |_=>none
 |_,_=>none
def fO (σ:av) (sz:Nat):ah->Option (List ah)
 |.ps s es=>if s=sz then some es else none
 |.a8=>some []
 |.os b off n s=>if s=sz then match bW σ b with
  |some (.row es _)=>if off+n<=es.length then some ((es.drop off).take n) else none
  |_=>none
  else none
 |.oc b off n _ s=>if s=sz then match bW σ b with
  |some (.row es _)=>if off+n<=es.length then some ((es.drop off).take n) else none
  |_=>none
  else none
 |_=>none
def bytesOf (s:ByteArray):List ah:=s.data.toList.map λb=>.int .u8 b.toNat
def zT (n:Nat):Option ah->Option Nat
 |some h=>kz 0 n h
 |none=>some n
def FB (n c:Nat):Option ah->Option Nat
 |some h=>kz 0 c h
 |none=>some n
def uw (h:Nat):Option ah->Option Nat
 |some l=>kz 0 h l
 |none=>some 0
def kG.xh (T:kG):Option Nat:=T.elem.map fL.sz
def kh (T:kG) (x:ah) (lo hi mx:Option ah):Option ah :=
 match mx with
 |some m=>match x with
  |.oc b off n c sz=>if T.kind=.slice/\T.xh=some sz then (kz 0 c m).bind λm=>(hi.bind (kz 0 m)).bind λh=>(uw h lo).bind λl=>some (.oc b (off+l) (h-l) (m-l) sz) else none
  |_=>none
 |none =>
  match x with
  |.oc b off n c sz=>if T.kind=.slice/\T.xh=some sz then (FB n c hi).bind λh=>(uw h lo).bind λl=>some (.oc b (off+l) (h-l) (c-l) sz) else none
  |.str s=>if T.kind=.str then (zT s.size hi).bind λh=>(uw h lo).bind λl=>some (.str (s.extract l h)) else none
  |.ps sz es=>if T.kind=.slice/\T.xh=some sz then (zT es.length hi).bind λh=>(uw h lo).bind λl=>some (.ps sz ((es.drop l).take (h-l))) else none
  |.os b off n sz=>if T.kind=.slice/\T.xh=some sz then (zT n hi).bind λh=>(uw h lo).bind λl=>some (.os b (off+l) (h-l) sz) else none
  |.a8=>if T.kind=.slice/\T.elem.isSome then (zT 0 hi).bind λh=>(uw h lo).bind λ_=>some .a8 else none
  |_=>none
def gw (T:kG) (x i:ah):Option ah :=
 match i with
 | .int _ i =>
  match x with
  |.os b off n sz=>if T.kind=.slice/\T.xh=some sz/\0<=i/\i<n then some (.rp b (off+i.toNat) 0) else none
  |.oc b off n _ sz=>if T.kind=.slice/\T.xh=some sz/\0<=i/\i<n then some (.rp b (off+i.toNat) 0) else none
  |.ps sz es=>if T.kind=.slice/\T.xh=some sz/\0<=i/\i<es.length then some (.pp (es.getD i.toNat .undef).cells) else none
  |.ptr b off=>match T.kind,T.elem with
   |.array n,some e=>if 0<=i/\i<n then some (.ptr b (off+i.toNat*e.sz)) else none
   |_,_=>none
  |_=>none
 |_=>none
def yM (l:fL)(cs:List ah)(off:Nat):Option ah:=lq l (cs.drop off)
def xW (T:kG) (x i:ah):Option ah :=
 match x,i with
 |.agg cs,.int _ i=>match T.kind,T.elem with
  |.array n,some e=>if 0<=i/\i<n then yM e cs (i.toNat*e.sz) else none
  |_,_=>none
 |.str s,.int _ i=>if h:(0<=i/\i.toNat<s.size)/\T.kind=.str then some (.int .u8 (s[i.toNat]'h.1.2).toNat) else none
 |_,_=>none
def kK (T:kG) (x:ah) (i:Nat):Option ah :=
 match T.kind,T.qx[i]? with
 | .struct,some (off,some l)=>if l.sz≠0 then
   match x with
   |.ptr b o=>some (.ptr b (o+off))
   |.rp b i f=>some (.rp b i (f+off))
   |.pp cs=>some (.pp (cs.drop off))
   |_=>none
  else none
 |_,_=>none
def ru (T:kG)(x:ah)(i:Nat):Option ah :=
 match T.kind,T.qx[i]?,x with
 |.struct,some (off,some l),.agg cs=>yM l cs off
 |_,_,_=>none
def qE (T:kG)(k:ah):Bool :=
 match (T.F9.map fL.key:Option KA),k with
 |some (KA.int k'),.int k _=>k==k'
 |some KA.str,.str _=>true
 |_,_=>false
def fR (k:ah):List ah->Nat->Option Nat
 |[],_=>none
 |x :: xs,i=>if fP k x then some i else fR k xs (i+1)
def fT (ks vs:List ah)(z k:ah)(ok:Bool):ah :=
 match fR k ks 0 with
 |some i=>if ok then .dw [vs.getD i .undef,.bool true] else vs.getD i .undef
 |none=>if ok then .dw [z,.bool false] else z
def nT (σ:av) (T:kG) (x k:ah) (ok:Bool):Option ah :=
 match T.kind,T.elem with
 | .map,some e =>
  if qE T k then
   match x with
   |.dj=>some (fT [] [] (zeroV e) k ok)
   |.pm ks vs=>if ks.all (sameKind k) then some (fT ks vs (zeroV e) k ok) else none
   |.map b=>match bW σ b with
    |some (.map ks vs _)=>if ks.all (sameKind k) then some (fT ks vs (zeroV e) k ok) else none
    |_=>none
   |_=>none
  else none
 |_,_=>none
def jN (ks vs:List ah)(k v:ah):List ah×List ah :=
 match fR k ks 0 with
 |some i=>(ks,vs.set i v)
 |none=>(ks++[k],vs++[v])
def jk (σ:av) (T:kG) (m k v:ah):Option av :=
 match T.kind,T.elem,m with
 |.map,some e,.map b=>match bW σ b with
  |some (.map ks vs false)=>if qE T k&&ks.all (sameKind k)&&decide (v.cells.length=e.sz) then some (cJ σ b (.map (jN ks vs k v).1 (jN ks vs k v).2 false)) else none
  |_=>none
 |_,_,_=>none
def lI (qx:List (Nat×Option fL)) (ρ:Operand->ah):List ah->List (Nat×Operand)->Option (List ah)
 |cs,[]=>some cs
 |cs,(i,x):: rest=>match qx[i]? with
  |some (off,some l)=>if (ρ x).cells.length=l.sz/\off+l.sz<=cs.length/\(ρ x).cells.all ah.dy=true then lI qx ρ (cO cs off (ρ x).cells) rest else none
  |_=>none
def pX (T:kG)(ρ:Operand->ah)(parts:List (Nat×Operand)):Option ah :=
 match T.kind,T.elem with
 |.struct,_=>if T.qx.all (·.2.isSome) then (lI T.qx ρ T.lay.zero parts).map .agg else none
 |.array n,some e=>(lI ((List.range n).map λi=>(i*e.sz,some e)) ρ T.lay.zero parts).map .agg
 |_,_=>none
def rM (e:fL)(ρ:Operand->ah):Nat->List (Nat×Operand)->Option (List ah)
 |_,[]=>some []
 |k,(i,x):: rest=>if i=k/\(ρ x).cells.length=e.sz/\c_ (ρ x)=e.ag/\(ρ x).cells.all ah.dy then (rM e ρ (k+1) rest).map ((ρ x):: ·) else none
def dc (bytes:Nat):Nat:=if bytes<=32 then 6000000000000 else 1000000000
theorem XD (b:Nat):dc b<=6000000000000:=by unfold dc;split<;>omega
theorem Wj {n b:Nat}(h:n<=dc b)(hb:b<=65536):(n+n / 4+192)*b<=281474976710656:=by
 unfold dc at h;split at h
 ·exact dg (Nat.mul_le_mul (show n+n / 4+192<=7500000000192 by omega) (by assumption)) (by decide)
 ·exact dg (Nat.mul_le_mul (show n+n / 4+192<=1250000192 by omega) hb) (by decide)
def nK (σ:av) (nm:Nat) (e:fL) (s:ah) (xs:List ah):Option (ah×av) :=
 if xs.all (λx=>x.cells.length==e.sz&&x.cells.all ah.dy)/\0<e.sz/\e.bytes<=65536/\e.zero.length=e.sz then
  match s with
  |.a8=>if xs.length=0 then some (.a8,σ) else if xs.length<=dc e.bytes then some (.os nm 0 xs.length e.sz,cJ σ nm (.row xs 0)) else none
  | .os b off n sz=>match bW σ b with
   | some (.row es fz) =>
    if sz=e.sz/\fz<=off+n/\off+n<=es.length/\n+xs.length<=dc e.bytes then
     some (.os nm 0 (n+xs.length) sz,cJ (σ.set b none) nm (.row ((es.drop off).take n++xs) (fz-off)))
    else none
   |_=>none
  |_=>none
 else none
def o9 (σ:av) (nm:Nat) (e:fL) (b off n c sz:Nat) (xs:List ah):Option (ah×av) :=
 if xs.all (λx=>x.cells.length==e.sz&&x.cells.all ah.dy)/\0<e.sz/\e.bytes<=65536/\e.zero.length=e.sz then
  match bW σ b with
  | some (.row es fz) =>
   if sz=e.sz/\off+n<=es.length then
    if n+xs.length<=c then (if fz<=off+n/\off+n+xs.length<=es.length then some (.oc b off (n+xs.length) c sz,cJ σ b (.row (cO es (off+n) xs) fz)) else none)
    else if n+xs.length<=dc e.bytes then some (.os nm 0 (n+xs.length) sz,cJ σ nm (.row ((es.drop off).take n++xs) 0)) else none
   else none
  |_=>none
 else none
def fm (σ:av)(nm:Nat)(e:fL)(s:ah)(xs:List ah):Option (ah×av) :=
 match s with
 |.oc b off n c sz=>o9 σ nm e b off n c sz xs
 |s=>nK σ nm e s xs
def lK (σ:av) (sz:Nat) (s:ah) (xs:List ah):Option av :=
 match s with
 |.oc b off n _ zz|.os b off n zz=>match bW σ b with
  |some (.row es fz)=>if zz=sz/\0<sz/\fz<=off/\xs.length<=n/\off+n<=es.length/\xs.all (λx=>x.cells.length==sz&&x.cells.all ah.dy)=true then some (cJ σ b (.row (cO es off xs) fz)) else none
  |_=>none
 |_=>none
def mB:ah->Option Nat
 |.a8=>some 0
 |.os _ _ n _=>some n
 |.oc _ _ n _ _=>some n
 |.ps _ es=>some es.length
 |_=>none
def xA:ah->Option Nat
 |.a8=>some 0
 |.oc _ _ _ c _=>some c
 |_=>none
def kM (σ:av) (nm:Nat) (T:kG) (l c:ah):Option (ah×av) :=
 match T.kind,T.elem,l,c with
 |.slice,some e,.int .i64 l,.int .i64 c =>
  if 0<=l/\l<=c/\c<=1000000000/\e.bytes<=65536/\0<e.sz/\e.zero.length=e.sz then some (.os nm 0 l.toNat e.sz,cJ σ nm (.row (List.replicate l.toNat (zeroV e)) 0)) else none
 |_,_,_,_=>none
def iy (f:Int->Int->Int):ah->List ah->Option ah
 |x,[]=>some x
 |.int k a,.int _ b :: rest=>iy f (.int k (f a b)) rest
 |_,_=>none
def gp (P:Program) (σ:av) (nm:Nat) (b:Builtin) (ts:List TypeId) (args:List ah):Option (ah×av) :=
 match b,ts,args with
 |.len,[t],[x]=>(gF P t).bind λT=>match T.kind with
  |.array n=>some (.int .i64 n,σ)
  |.str|.slice|.map=>(qd T.kind σ x).map λ(n:Nat)=>(ah.int .i64 (n:Int),σ)
  |_=>none
 | .append,[t,u],[s,x]=>(gF P t).bind λT=>(gF P u).bind λU=>match T.kind,T.elem,U.kind with
  |.slice,some e,.slice=>(fO σ e.sz x).bind λxs=>fm σ nm e s xs
  |.slice,some e,.str=>match x with
   |.str y=>if e.sz=1 then fm σ nm e s (bytesOf y) else none
   |_=>none
  |.slice,some e,.int _=>match x with
   |.int .i64 n=>if 0<=n/\n<=1000000000/\IntKind.i64.wrap n=n then fm σ nm e s (List.replicate n.toNat (zeroV e)) else none
   |_=>none
  |_,_,_=>none
 |.cap,[t],[x]=>(gF P t).bind λT=>match T.kind with
  |.slice=>(xA x).map λ(n:Nat)=>(ah.int .i64 (n:Int),σ)
  |_=>none
 |.clear,[t],[x]=>(gF P t).bind λT=>match T.kind,T.elem with
  |.slice,some e=>(mB x).bind λn=>if n=0 then some (.dw [],σ) else (lK σ e.sz x (List.replicate n (zeroV e))).map (.dw [], ·)
  |_,_=>none
 |.copy,[t,u],[d,x]=>(gF P t).bind λT=>(gF P u).bind λU=>match T.kind,T.elem,U.kind with
  |.slice,some e,.slice=>(mB d).bind λn=>(fO σ e.sz x).bind λxs=>(lK σ e.sz d (xs.take n)).map (ah.int .i64 ((xs.take n).length:Int), ·)
  |_,_,_=>none
 |.max,_,x :: rest=>(iy (λa b=>if a<b then b else a) x rest).map (·,σ)
 |.min,_,x :: rest=>(iy (λa b=>if b<a then b else a) x rest).map (·,σ)
 |_,_,_=>none
def tj (P:Program)(s d:TypeId)(x:ah):Option ah :=
 match kc P s,kc P d,x with
 |some _,some (.int k),.int _ n=>some (.int k (k.wrap n))
 |some .str,some .str,.str y=>some (.str y)
 |_,_,_=>none
def jY (P:Program) (x:ah) (asserted:TypeId) (ok:Bool):Option ah :=
 match gF P asserted,x with
 |some T,.iface t v=>match T.kind with
  |.iface=>none
  |_=>if t=asserted then some (if ok then .dw [v,.bool true] else v) else if ok then some (.dw [zeroV T.lay,.bool false]) else none
 |some T,.jv=>match T.kind with
  |.iface=>none
  |_=>if ok then some (.dw [zeroV T.lay,.bool false]) else none
 |_,_=>none
def qD (σ:av):ah->Option (ah×av)
 |.it b=>match bW σ b with
  |some (.iter s pos)=>if pos<s.size then some (.dw [.bool true,.int .i64 pos,.int .i32 (Utf8.decode s pos).1],cJ σ b (.iter s (pos+(Utf8.decode s pos).2))) else some (.dw [.bool false],σ)
  |_=>none
 |_=>none
def p0 (σ:av):ah->Option (ah×av)
 | .it b=>match bW σ b with
  |some (.mC ks vs seen)=>match seen.getLast? with
   |some i=>some (.dw [ks.getD i .undef,vs.getD i .undef],σ)
   |none=>none
  |_=>none
 |_=>none
def dJ (P:Program) (σ:av) (nm:Nat) (ρ:Operand->ah):Op->Option (ah×av)
 |.move x=>some (ρ x,σ)
 |.assign x=>some (ρ x,σ)
 |.pick c a b=>(tW (ρ c) (ρ a) (ρ b)).map (·,σ)
 |.alloc t=>(cC P t).bind λl=>some (.ptr nm 0,cJ σ nm (.var l.zero))
 |.box t x=>(cC P t).bind λl=>if (ρ x).cells.length=l.sz/\(ρ x).cells.all ah.dy then some (.ptr nm 0,cJ σ nm (.var (ρ x).cells)) else none
 |.build t parts=>(gF P t).bind λT=>(pX T ρ parts.toList).map (·,σ)
 | .buildSlice t n parts=>(gF P t).bind λT=>T.elem.bind λe=>(rM e ρ 0 parts.toList).bind λes =>
   if es.length=n/\T.kind=.slice/\n*e.sz<=16777216/\e.zero.length=e.sz/\0<e.sz then some (.os nm 0 n e.sz,cJ σ nm (.row es 0)) else none
 |.load t x=>(cC P t).bind λl=>(jW σ l (ρ x)).map (·,σ)
 |.store t x v=>(cC P t).bind λl=>(nX σ l (ρ x) (ρ v)).map (.undef, ·)
 |.nilCheck x=>match ρ x with
  |.ptr b o=>some (.ptr b o,σ)
  |.rp b i f=>some (.rp b i f,σ)
  |.pp cs=>some (.pp cs,σ)
  |.fn f a c=>some (.fn f a c,σ)
  |_=>none
 |.binOp op t x y _=>(Ai P op t (ρ x) (ρ y) (qG y)).map (·,σ)
 |.unOp op _ x=>(Kj op (ρ x)).map (·,σ)
 |.convert s d x=>(tj P s d (ρ x)).map (·,σ)
 |.makeInterface t x=>match kc P t with
  |some .iface=>none
  |some _=>some (.iface t (ρ x),σ)
  |none=>none
 |.makeFunc (.func f) first captured=>some (.fn f (first.toList.map ρ) (captured.toList.map ρ),σ)
 |.makeMap t none=>some (.map nm,cJ σ nm (.map [] [] false))
 |.makeSlice t l c=>(gF P t).bind λT=>kM σ nm T (ρ l) (ρ c)
 |.slice t x lo hi mx=>(gF P t).bind λT=>(kh T (ρ x) (lo.map ρ) (hi.map ρ) (mx.map ρ)).map (·,σ)
 |.fieldAddr t x i=>(gF P t).bind λT=>(kK T (ρ x) i).map (·,σ)
 |.field t x i=>(gF P t).bind λT=>(ru T (ρ x) i).map (·,σ)
 |.indexAddr t x i=>(gF P t).bind λT=>(gw T (ρ x) (ρ i)).map (·,σ)
 |.index t x i=>(gF P t).bind λT=>(xW T (ρ x) (ρ i)).map (·,σ)
 |.lookup t x i ok=>(gF P t).bind λT=>(nT σ T (ρ x) (ρ i) ok).map (·,σ)
 |.mapUpdate t m k v=>(gF P t).bind λT=>(jk σ T (ρ m) (ρ k) (ρ v)).map (.undef, ·)
 |.insert t m k v=>(gF P t).bind λT=>(jk σ T (ρ m) (ρ k) (ρ v)).map (.undef, ·)
 |.range t x=>(gF P t).bind λT=>match T.kind,ρ x with
  |.str,.str s=>some (.it nm,cJ σ nm (.iter s 0))
  |.map,.pm ks vs=>some (.it nm,cJ σ nm (.mC ks vs []))
  |_,_=>none
 |.entry x=>p0 σ (ρ x)
 |.next it true=>qD σ (ρ it)
 |.typeAssert x _ u ok=>(jY P (ρ x) u ok).map (·,σ)
 |.extract x i=>match ρ x with
  |.dw vs=>(vs[i]?).map (·,σ)
  |_=>none
 |.call { callee:=.builtin b,args,argTypes }=>gp P σ nm b argTypes.toList (args.toList.map ρ)
 |_=>none
structure St where
 tm:List ah
 σ:av
def ev (tm:List ah):Operand->ah
 |.tmp t=>tm.getD t .undef
 |.const v=>ofValue v
 |.global g=>.qf (.pointer (some ⟨g,0,none⟩))
 |.func f=>.fn f [] []
def put (tm:List ah)(dst:Option Tmp)(v:ah):List ah :=
 match dst with
 |some d=>tm.set d v
 |none=>tm
theorem GR {X:Nat->Nat->Prop} {base:Nat} {σ σ':av} {β β':Env} {w w':World} (hr:c8 X base σ β w) (nm:Nat) (L':Loc) (mf:bS)
  (F7 : σ'[nm]? = some (some mf))
  (j3:∀c x,c≠nm->σ'[c]? = some (some x)->σ[c]? = some (some x)/\∀Lc,β c=some Lc->Lc.g≠L'.g)
  (hlen : σ.length<=σ'.length)
  (xT : β' nm=some L') (xU:∀c,c≠nm->β' c = β c) (Se : β nm=none\/β nm=some L')
  (A5:w'.os=w.os) (tP:w'.tape=w.tape) (ow:w'.output=w.output) (qB:w.heap.size<=w'.heap.size)
  (tH:∀g,g<w.heap.size->g≠L'.g->w'.heap[g]? = w.heap[g]?)
  (oQ:∀off v,w.cell? ⟨L'.g,off,none⟩=some v->¬jR σ β L'.g off->w'.cell? ⟨L'.g,off,none⟩=some v)
  (AH:L'.g<w.heap.size->(∀o,¬jR σ β L'.g o)->w'.heap[L'.g]? = w.heap[L'.g]?)
  (FO:∀off,mf.mut L' off->jR σ β L'.g off\/w.heap.size<=L'.g)
  (hX:∀o,¬X L'.g o) (wO:base<=L'.g) :
  Ext 0 σ β w σ' β' w'/\dK w (MT X σ β) w' (MT X σ' β')/\(∀b L,β b=some L->β' b=some L) /\
   (ig w' (MT X σ' β') β' L' mf->c8 X base σ' β' w'):=by
 have FX:∀b L,β b=some L->β' b=some L:=by
  intro b L hb;by_cases e:b=nm
  ·subst e;rcases Se with h|h
   ·rw[h]at hb;cases hb
   ·rw[xT,<-h,hb]
  ·rw[xU b e,hb]
 have p_:∀g o,jR σ' β' g o->jR σ β g o\/w.heap.size<=g:=by
  rintro g o ⟨b,cG,L,h1,h2,rfl,h4⟩;by_cases e:b=nm
  ·subst e;obtain rfl:mf=cG:=aS (aS (F7.symm.trans h1));obtain rfl:L'=L:=aS (xT.symm.trans h2);exact FO o h4
  ·exact .inl ⟨b,cG,L,(j3 b cG e h1).1,(xU b e).symm.trans h2,rfl,h4⟩
 have rB:Ext 0 σ β w σ' β' w':=by
  refine⟨A5,tP,ow,qB,?_,?_,p_,λb hb=>absurd hb (Nat.not_lt_zero _)⟩
  ·intro g o v hc hn;by_cases e:g=L'.g
   ·subst e;exact oQ o v hc hn
   ·have:=tH g (Ae hc) e;rw[World.cell?_of_block (w:=w) (a:=⟨g,o,none⟩) this];exact hc
  ·intro g hg hn;by_cases e:g=L'.g
   ·subst e;exact AH hg hn
   ·exact tH g hg e
 have Eh:=rB.keeps hr;refine⟨rB,Eh,FX,λjB=>⟨?_,?_,?_,dg hr.size qB,λg o hx=>di (hr.sc g o hx) qB,hr.Fg rB⟩⟩
 ·intro b hb;have bx:nm < σ'.length:=(aN.1 F7).1;rw[xU b (by omega)];exact hr.o_ b (by omega)
 ·intro b cG hb;by_cases e:b=nm
  ·subst e;obtain rfl:mf=cG:=aS (aS (F7.symm.trans hb));exact⟨L',xT,wO,hX,jB⟩
  ·obtain ⟨h1,h2⟩:=j3 b cG e hb;obtain⟨L,h3,h4,h5,h6⟩:=hr.cG b cG h1;have bx:L.g<w.heap.size:=by
    cases cG with
    |var cs=>obtain⟨c,e,h,_⟩:=h6;exact(aQ.1 h).1
    |row es fz=>obtain⟨c,e,h,_⟩:=h6;exact(aQ.1 h).1
    |map ks vs fz=>obtain⟨c,e,h,_⟩:=h6;exact(aQ.1 h).1
    |iter s p=>exact(aQ.1 h6).1
    |mC ks vs seen=>obtain⟨m,es,c,h,_⟩:=h6;exact(aQ.1 h).1
    |loop r=>obtain⟨c,e,f,h,_⟩:=h6;exact(aQ.1 h).1
   exact⟨L,FX _ _ h3,h4,h5,h6.mono Eh FX (tH L.g bx (h2 L h3))⟩
 ·intro b b' cG E_ L L2 h1 h2 h3 h4 hg;by_cases e:b=nm
  ·by_cases e':b'=nm
   ·rw[e,e']
   ·exfalso;subst e;obtain rfl:L'=L:=aS (xT.symm.trans h3);exact(j3 b' E_ e' h2).2 L2 ((xU b' e').symm.trans h4) hg.symm
  ·by_cases e':b'=nm
   ·exfalso;subst e';obtain rfl:L'=L2:=aS (xT.symm.trans h4);exact(j3 b cG e h1).2 L ((xU b e).symm.trans h3) hg
   ·exact hr.inj b b' cG E_ L L2 (j3 b cG e h1).1 (j3 b' E_ e' h2).1 ((xU b e).symm.trans h3) ((xU b' e').symm.trans h4) hg
theorem ig.lt {w:World}{M:Nat->Nat->Prop}{β:Env}{L:Loc}{cG:bS}(h6:ig w M β L cG):L.g<w.heap.size:=by
 cases cG with
 |var cs=>obtain⟨c,e,h,_⟩:=h6;exact(aQ.1 h).1
 |row es fz=>obtain⟨c,e,h,_⟩:=h6;exact(aQ.1 h).1
 |map ks vs fz=>obtain⟨c,e,h,_⟩:=h6;exact(aQ.1 h).1
 |iter s p=>exact(aQ.1 h6).1
 |mC ks vs seen=>obtain⟨m,es,c,h,_⟩:=h6;exact(aQ.1 h).1
 |loop r=>obtain⟨c,e,f,h,_⟩:=h6;exact(aQ.1 h).1
def dh (P:Program) (X:Nat->Nat->Prop) (base:Nat) (σ:av) (β:Env) (w:World) (nm:Nat) (s:Sem Next) (r:ah) (σ':av):Prop :=
 ∃v w' β',(s.run P w=.ok (.value v) w'\/(s.run P w=.ok .skip w'/\v=undef))/\c8 X base σ' β' w'/\cn w' (MT X σ' β') β' v r /\
  Ext 0 σ β w σ' β' w'/\(∀b,b≠nm->β' b = β b)/\∀b L,β b=some L->β' b=some L
section
variable {P:Program}{X:Nat->Nat->Prop}{base:Nat}{σ:av}{β:Env}{w:World}{nm:Nat}
theorem dh.val (hr:c8 X base σ β w){s:Sem Next}{v:Value}{r:ah}(h:s.run P w=.ok (.value v) w)(hv:cn w (MT X σ β) β v r):dh P X base σ β w nm s r σ :=
 ⟨v,w,β,.inl h,hr,hv,Ext.refl _ _ _ _,λ_ _=>rfl,λ_ _ h=>h⟩
theorem NA {M:Nat->Nat->Prop}(v:Value):cn w M β v (ofValue v):=by
 unfold ofValue;split<;>first|exact .qf _|constructor
theorem rS {t:TypeId} {l:fL} (h:cC P t=some l):∃i u z,P.info? t=some i/\P.underlying t=some u/\i.zero=some z /\
  i.size=l.sz/\td u=l.ag/\i.bytes=l.bytes/\vo z=l.zero/\j4 u=l.key/\Dz l.ag z=true/\z.cells.size=l.sz:=by
 unfold cC at h;split at h
 ·rename_i i u h1 h2;split at h
  ·rename_i z hz;split at h
   ·rename_i hc;cases h;exact⟨i,u,z,h1,h2,hz,rfl,rfl,rfl,rfl,rfl,hc.1,hc.2⟩
   ·cases h
  ·cases h
 ·cases h
theorem Oy {t:TypeId}{u:TypeDesc}(h:P.underlying t=some u):(isAgg t).run P w=.ok (td u) w:=by
 simp only[isAgg,Sem.run_bind,run_underlying h,Result.andThen_ok];cases u<;>rfl
theorem wq {t:TypeId}{i:TypeInfo}(h:P.info? t=some i):(sizeOf t).run P w=.ok i.size w:=by
 simp[sizeOf,typeInfo,h]
theorem Ky {t:TypeId}{i:TypeInfo}{z:Value}(h:P.info? t=some i)(hz:i.zero=some z):(zeroValue t).run P w=.ok z w:=by
 simp[zeroValue,typeInfo,h,hz]
theorem Vj {α:Type}(f:Nat->α)(n k:Nat)(d : α)(h:k<n):(((List.range n).map f).toArray).getD k d=f k:=by
 simp[Array.getD,h]
theorem Vg {M:Nat->Nat->Prop} {t:TypeId} {l:fL} (hl:cC P t=some l) {g o:Nat} {cs:List ah} {cv:Nat->Value}
  (hc:∀k,k<cs.length->w.cell? ⟨g,o+k,none⟩=some (cv k)) (hv:∀k,k<cs.length->cn w M β (cv k) (cs.getD k .undef)) {r:ah} (ht:lq l cs=some r) :
  ∃v,(loadVar t ⟨g,o,none⟩).run P w=.ok v w/\cn w M β v r:=by
 obtain⟨i,u,z,h1,h2,h3,h4,h5,_⟩:=rS hl;unfold lq at ht;simp only[loadVar,Sem.run_bind,Oy h2,Result.andThen_ok,h5];by_cases ha:l.ag=true
 ·rw [if_pos ha]at ht;rw[if_pos ha];split at ht
  ·rename_i hle;cases ht;have:=run_loadCells (P:=P) w ⟨g,o,none⟩ i.size cv (λj hj=>by rw[Addr.add_lit];exact hc j (by omega));refine⟨.agg ((List.range i.size).map cv).toArray,by simp[wq h1,this],?_⟩;refine .agg (by simp;omega) λk hk=>?_;have eZ:k<i.size:=by simp at hk;omega
   rw[Vj cv i.size k _ eZ];have:=hv k (by omega)
   rwa [show(List.take l.sz cs).getD k ah.undef=cs.getD k .undef by simp[List.getD,fh,show k<l.sz by omega]]
  ·cases ht
 ·rw [if_neg ha]at ht;rw[if_neg ha];cases cs with
  |nil=>simp at ht
  |cons c cs =>
   simp only[List.head?_cons,aM]at ht;subst ht;have h0:=hc 0 (by simp);simp only[cF]at h0;exact⟨cv 0,by simp[run_load,h0],hv 0 (by simp)⟩
theorem VD {M:Nat->Nat->Prop} {t:TypeId} {l:fL} (hl:cC P t=some l) {cs:Array Value} {cI:List ah} (hn:cs.size=cI.length)
  (hv:∀k,k<cI.length->cn w M β (cs.getD k undef) (cI.getD k .undef)) {off:Nat} {r:ah} (ht:yM l cI off=some r) :
  ∃v,(part t cs off).run P w=.ok v w/\cn w M β v r:=by
 obtain⟨i,u,z,h1,h2,h3,h4,h5,_⟩:=rS hl;unfold yM lq at ht;simp only[part,Sem.run_bind,Oy h2,Result.andThen_ok,h5];by_cases ha:l.ag=true
 ·rw [if_pos ha]at ht;rw[if_pos ha];split at ht
  ·rename_i hle;cases ht;simp only[cr]at hle;refine⟨.agg (cs.extract off (off+i.size)),by simp[wq h1],?_⟩;refine .agg (by simp;omega) λk hk=>?_;have eZ:k<l.sz:=by simp at hk;omega
   have:=hv (off+k) (by omega);have e1:(cs.extract off (off+i.size)).getD k undef=cs.getD (off+k) undef:=by
    rw[au,au,Array.getElem?_extract];rw[if_pos (by omega)]
   have e2:(List.take l.sz (List.drop off cI)).getD k ah.undef=cI.getD (off+k) .undef:=by
    simp[List.getD,fh,eZ,dZ]
   rw[e1,e2];exact this
  ·cases ht
 ·rw [if_neg ha]at ht;rw[if_neg ha];simp only[List.head?_drop]at ht;obtain⟨bx,he⟩:=aN.1 ht;have:=hv off bx;refine⟨cs.getD off undef,?_,?_⟩
  ·have:cs[off]? = some (cs.getD off undef):=by
    rw[au,aE (by omega)];rfl
   rw[this];rfl
  ·rwa [show cI.getD off ah.undef=r by simp[List.getD,ht]]at this
end
end Go.dq
