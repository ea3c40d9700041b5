/- Part 2 of my own framework and of the walks of functions: AbsA, AbsB, AbsC. -/
import Derived.Test.YtfjbdamcmiglgaaGreatOwn1
import Derived.AtR
import Derived.Below
abbrev ak:=@Array.getD_eq_getD_getElem?
abbrev aE:=@Array.getElem?_eq_getElem
abbrev aO:=@Array.getElem?_eq_some_iff
abbrev jl:=@Array.getElem?_modify
abbrev fY:=@Array.getElem?_push
abbrev eo:=@List.getElem?_drop
abbrev aJ:=@List.getElem?_eq_some_iff
abbrev fI:=@List.getElem?_take
abbrev cz:=@List.length_drop
abbrev cC:=@Nat.add_zero
abbrev ae:=@Nat.le_refl
abbrev c_:=@Nat.le_trans
abbrev de:=@Nat.lt_of_lt_of_le
abbrev cN:=@Nat.lt_succ_self
abbrev aP:=@Option.some.inj
abbrev aH:=@Option.some.injEq
set_option linter.unusedVariables false
set_option linter.unusedSectionVars false
set_option linter.unusedSimpArgs false
namespace Go.dm
open Go
inductive ah:Type where
 | undef
 | bool (b:Bool)
 | iH
 | int (k:IntKind) (n:Int)
 | str (s:ByteArray)
 | bY
 | ptr (b off:Nat)
 | rp (b i f:Nat)
 | pp (cs:List ah)
 | aW
 | ps (sz:Nat) (es:List ah)
 | os (b off len sz:Nat)
 | oc (b off len cap sz:Nat)
 | aA
 | fn (f:FuncId) (first captured:List ah)
 | lN (b:Nat)
 | cM
 | map (b:Nat)
 | pm (ks vs:List ah)
 | it (b:Nat)
 | agg (cs:List ah)
 | dT (vs:List ah)
 | gk
 | iface (t:TypeId) (v:ah)
 | oD (v:Value)
 deriving Inhabited
def ah.cells:ah→List ah
 | .agg cs=>cs
 | a=>[a]
structure Loc where
 g:Nat
 o:Nat
 n:Nat
 sz:Nat
abbrev Env:=Nat→Option Loc
def jm (es:Array MapEntry) (clk:Nat):Prop :=
 (∀ i,i<es.size→(es.getD i default).born<clk)∧∀ i j,i<es.size→j<es.size→(es.getD i default).born=(es.getD j default).born→i=j
theorem Yl9:jm #[] 0:=⟨fun i hi=>by simp at hi,fun i j hi=>by simp at hi⟩
theorem Ygl {es:Array MapEntry} {clk:Nat} (h:jm es clk) (k v:Value):jm (es.push { key:=k,val:=v,born:=clk }) (clk+1):=by
 have e:∀ i,(es.push { key:=k,val:=v,born:=clk }).getD i default=if i=es.size then { key:=k,val:=v,born:=clk } else es.getD i default:=fun i=>by
  simp only [ak,fY];split<;>rfl
 constructor
 ·intro i hi;rw [e];simp only [Array.size_push] at hi;split
  ·exact cN _
  ·exact Nat.lt_succ_of_lt (h.1 i (by omega))
 ·intro i j hi hj xd;rw [e,e] at xd;simp only [Array.size_push] at hi hj;split at xd<;>split at xd
  ·omega
  ·have:=h.1 j (by omega);simp only at xd;omega
  ·have:=h.1 i (by omega);simp only at xd;omega
  ·exact h.2 i j (by omega) (by omega) xd
theorem Zw4 {es:Array MapEntry} {clk:Nat} (h:jm es clk) (i:Nat) (k v:Value):jm (es.modify i fun e=>{ e with key:=k,val:=v }) clk:=by
 have e:∀ j,j<es.size→((es.modify i fun e=>{ e with key:=k,val:=v }).getD j default).born=(es.getD j default).born:=fun j hj=>by
  simp only [ak,jl];split
  ·rename_i h;subst h;rw [aE hj];rfl
  ·rfl
 constructor
 ·intro j hj;rw [Array.size_modify] at hj;rw [e j hj];exact h.1 j hj
 ·intro j j' hj sS X0;rw [Array.size_modify] at hj sS;rw [e j hj,e j' sS] at X0;exact h.2 j j' hj sS X0
inductive cf (w:World) (M:Nat→Nat→Prop) (β:Env):Value→ah→Prop
 | undef (v:Value):cf w M β v .undef
 | bool (b:Bool):cf w M β (.bool b) (.bool b)
 | iH (b:Bool):cf w M β (.bool b) .iH
 | int (k:IntKind) (n:Int):cf w M β (.int k n) (.int k n)
 | str (s:ByteArray):cf w M β (.string s) (.str s)
 | bY:cf w M β (.pointer none) .bY
 | ptr {b off:Nat} {L:Loc} (h : β b=some L):cf w M β (.pointer (some ⟨L.g,L.o+off,none⟩)) (.ptr b off)
 | rp {b i f:Nat} {L:Loc} (h : β b=some L):cf w M β (.pointer (some ⟨L.g,L.o+i*L.sz+f,none⟩)) (.rp b i f)
 | pp {g o:Nat} {cs:List ah} (cv:Nat→Value)
   (hc:∀ k,k<cs.length→w.cell? ⟨g,o+k,none⟩=some (cv k)∧¬ M g (o+k))
   (hr:∀ k,k<cs.length→cf w M β (cv k) (cs.getD k .undef)):cf w M β (.pointer (some ⟨g,o,none⟩)) (.pp cs)
 | aW (a:Option Addr):cf w M β (.slice a 0 0) .aW
 | ps {a:Option Addr} {cap sz:Nat} {es:List ah} (cv:Nat→Nat→Value) (jH:es.length≤cap)
   (fJ:∀ i,i<es.length→(es.getD i .undef).cells.length=sz)
   (hc:∀ i j,i<es.length→j<sz→∃ g o,a=some ⟨g,o,none⟩∧w.cell? ⟨g,o+i*sz+j,none⟩=some (cv i j)∧¬ M g (o+i*sz+j))
   (ha : 0<es.length→∃ g o,a=some ⟨g,o,none⟩)
   (hr:∀ i j,i<es.length→j<sz→cf w M β (cv i j) ((es.getD i .undef).cells.getD j .undef)):cf w M β (.slice a es.length cap) (.ps sz es)
 | tU (a:Option Addr) {b off:Nat} {L:Loc} (h : β b=some L):cf w M β (.slice a 0 0) (.os b off 0 L.sz)
 | os {b off len cap:Nat} {L:Loc} (h : β b=some L) (hl:len≤cap) (hc:off+cap≤L.n):cf w M β (.slice (some ⟨L.g,L.o+off*L.sz,none⟩) len cap) (.os b off len L.sz)
 | tQ (a:Option Addr) {b off:Nat} {L:Loc} (h : β b=some L):cf w M β (.slice a 0 0) (.oc b off 0 0 L.sz)
 | oc {b off len cap:Nat} {L:Loc} (h : β b=some L) (hl:len≤cap) (hc:off+cap≤L.n):cf w M β (.slice (some ⟨L.g,L.o+off*L.sz,none⟩) len cap) (.oc b off len cap L.sz)
 | aA:cf w M β .nilFunc .aA
 | fn {f:FuncId} {fa ca:Array Value} {first captured:List ah} (h1:fa.size=first.length) (h2:ca.size=captured.length)
   (ov:∀ k,k<first.length→cf w M β (fa.getD k undef) (first.getD k .undef))
   (nP:∀ k,k<captured.length→cf w M β (ca.getD k undef) (captured.getD k .undef)):cf w M β (.func (.func f) fa ca) (.fn f first captured)
 | lN {b:Nat} {L:Loc} (h : β b=some L):cf w M β (.func (.yield L.g) #[] #[]) (.lN b)
 | cM:cf w M β (.map none) .cM
 | map {b:Nat} {L:Loc} (h : β b=some L):cf w M β (.map (some L.g)) (.map b)
 | pm {g clk:Nat} {es:Array MapEntry} {ks vs:List ah} (hg:w.heap[g]? = some (.map es clk)) (hm:¬ M g 0) (hk:es.size=ks.length) (hv:vs.length=ks.length)
   (ov:∀ k,k<ks.length→cf w M β (es.getD k default).key (ks.getD k .undef))
   (nP:∀ k,k<ks.length→cf w M β (es.getD k default).val (vs.getD k .undef)) (hb:jm es clk):cf w M β (.map (some g)) (.pm ks vs)
 | it {b:Nat} {L:Loc} (h : β b=some L):cf w M β (.pointer (some ⟨L.g,0,none⟩)) (.it b)
 | agg {cs:Array Value} {l:List ah} (h:cs.size=l.length) (hr:∀ k,k<l.length→cf w M β (cs.getD k Go.undef) (l.getD k .undef)):cf w M β (.agg cs) (.agg l)
 | dT {cs:Array Value} {l:List ah} (h:cs.size=l.length) (hr:∀ k,k<l.length→cf w M β (cs.getD k Go.undef) (l.getD k .undef)):cf w M β (.tuple cs) (.dT l)
 | gk:cf w M β .nilIface .gk
 | iface {t:TypeId} {v:Value} {a:ah} (h:cf w M β v a):cf w M β (.iface t v) (.iface t a)
 | oD (v:Value):cf w M β v (.oD v)
structure dD (w:World) (M:Nat→Nat→Prop) (w':World) (M':Nat→Nat→Prop):Prop where
 cell:∀ g o v,w.cell? ⟨g,o,none⟩=some v→¬ M g o→w'.cell? ⟨g,o,none⟩=some v∧¬ M' g o
 map:∀ g es c,w.heap[g]? = some (.map es c)→¬ M g 0→w'.heap[g]? = some (.map es c)∧¬ M' g 0
theorem dD.mh {w:World} {M M':Nat→Nat→Prop} (h:∀ g o,M' g o→M g o):dD w M w M' :=
 ⟨fun g o _ hc hn=>⟨hc,fun hm=>hn (h g o hm)⟩,fun g _ _ hc hn=>⟨hc,fun hm=>hn (h g 0 hm)⟩⟩
theorem cf.mono {w w':World} {M M':Nat→Nat→Prop} {β β':Env} (hk:dD w M w' M') (hβ:∀ b L,β b=some L→β' b=some L) {v:Value} {a:ah}
  (h:cf w M β v a):cf w' M' β' v a:=by
 induction h with
 | undef v=>exact .undef v
 | bool b=>exact .bool b
 | iH b=>exact .iH b
 | int k n=>exact .int k n
 | str s=>exact .str s
 | bY=>exact .bY
 | ptr h=>exact .ptr (hβ _ _ h)
 | rp h=>exact .rp (hβ _ _ h)
 | pp cv hc _ ih=>exact .pp cv (fun k e7=>hk.cell _ _ _ (hc k e7).1 (hc k e7).2) ih
 | aW a=>exact .aW a
 | ps cv jH fJ hc ha _ ih =>
  refine .ps cv jH fJ (fun i j hi hj=>?_) ha ih;obtain ⟨g,o,h1,h2,h3⟩:=hc i j hi hj;exact ⟨g,o,h1,hk.cell _ _ _ h2 h3⟩
 | tU a h=>exact .tU a (hβ _ _ h)
 | os h hl hc=>exact .os (hβ _ _ h) hl hc
 | tQ a h=>exact .tQ a (hβ _ _ h)
 | oc h hl hc=>exact .oc (hβ _ _ h) hl hc
 | aA=>exact .aA
 | fn h1 h2 _ _ lh pq=>exact .fn h1 h2 lh pq
 | lN h=>exact .lN (hβ _ _ h)
 | cM=>exact .cM
 | map h=>exact .map (hβ _ _ h)
 | pm hg hm h1 h2 _ _ hb lh pq=>exact .pm (hk.map _ _ _ hg hm).1 (hk.map _ _ _ hg hm).2 h1 h2 lh pq hb
 | it h=>exact .it (hβ _ _ h)
 | agg h _ ih=>exact .agg h ih
 | dT h _ ih=>exact .dT h ih
 | gk=>exact .gk
 | iface _ ih=>exact .iface ih
 | oD v=>exact .oD v
inductive gJ where
 | ready
 | busy
 | done (c:Code)
structure ic where
 tm:List ah
 params:Array Tmp
 assign:Code
 body:Code
 st:gJ
inductive bO:Type where
 | var (cs:List ah)
 | row (es:List ah) (fz:Nat)
 | map (ks vs:List ah) (fz:Bool)
 | iter (s:ByteArray) (pos:Nat)
 | lL (ks vs:List ah) (seen:List Nat)
 | loop (r:ic)
abbrev ai:=List (Option bO)
def bO.mut (L:Loc):bO→Nat→Prop
 | .row _ fz,off=>L.o+fz*L.sz≤off
 | .map _ _ fz,_=>fz=false
 | _,_=>True
def jr (σ:ai) (β:Env) (g off:Nat):Prop :=
 ∃ b cw L,σ[b]? = some (some cw)∧β b=some L∧L.g=g∧cw.mut L off
def MT (X:Nat→Nat→Prop) (σ:ai) (β:Env) (g o:Nat):Prop:=X g o∨jr σ β g o
def gJ.of:gJ→LoopState×Option Code
 | .ready=>(.ready,none)
 | .busy=>(.busy,none)
 | .done c=>(.done,some c)
def gI (w:World) (M:Nat→Nat→Prop) (β:Env) (L:Loc):bO→Prop
 | .var cs=>∃ c e,w.heap[L.g]? = some (.cells c e (0,0))∧L.o=0∧c.size=cs.length ∧
   ∀ k,k<cs.length→cf w M β (c.getD k undef) (cs.getD k .undef)
 | .row es _=>∃ c e,w.heap[L.g]? = some (.cells c e (0,0))∧L.o+L.n*L.sz≤c.size∧es.length≤L.n ∧
   (∀ i,i<es.length→(es.getD i .undef).cells.length=L.sz) ∧
   ∀ i j,i<es.length→j<L.sz→cf w M β (c.getD (L.o+i*L.sz+j) undef) ((es.getD i .undef).cells.getD j .undef)
 | .map ks vs _=>∃ es clk,w.heap[L.g]? = some (.map es clk)∧es.size=ks.length∧vs.length=ks.length ∧
   (∀ k,k<ks.length→cf w M β (es.getD k default).key (ks.getD k .undef))∧(∀ k,k<ks.length→cf w M β (es.getD k default).val (vs.getD k .undef))∧jm es clk
 | .iter s pos=>w.heap[L.g]? = some (.stringIter s pos)
 | .lL ks vs seen=>∃ m es clk,w.heap[L.g]? = some (.mapIter (some m) clk (seen.map fun i=>(es.getD i default).born).toArray clk)∧w.heap[m]? = some (.map es clk)∧¬ M m 0∧es.size=ks.length∧vs.length=ks.length ∧
   (∀ k,k<ks.length→cf w M β (es.getD k default).key (ks.getD k .undef))∧(∀ k,k<ks.length→cf w M β (es.getD k default).val (vs.getD k .undef))∧jm es clk∧∀ i∈seen,i<ks.length
 | .loop r=>∃ tmps dr fn,w.heap[L.g]? = some (.loop { state:=r.st.of.1,pending:=r.st.of.2,fn,tmps,params:=r.params,assign:=r.assign,body:=r.body,defers:=dr }) ∧
   tmps.size=r.tm.length∧∀ k,k<r.tm.length→cf w M β (tmps.getD k undef) (r.tm.getD k .undef)
theorem gI.mono {w w':World} {M M':Nat→Nat→Prop} {β β':Env} (hk:dD w M w' M') (hβ:∀ b L,β b=some L→β' b=some L) {L:Loc} {cw:bO}
  (hg:w'.heap[L.g]? = w.heap[L.g]?) (h:gI w M β L cw):gI w' M' β' L cw:=by
 cases cw with
 | var cs=>obtain ⟨c,e,h1,h0,h2,h3⟩:=h;exact ⟨c,e,hg.trans h1,h0,h2,fun k e7=>(h3 k e7).mono hk hβ⟩
 | row es fz=>obtain ⟨c,e,h1,h2,h3,h4,h5⟩:=h;exact ⟨c,e,hg.trans h1,h2,h3,h4,fun i j hi hj=>(h5 i j hi hj).mono hk hβ⟩
 | map ks vs fz=>obtain ⟨es,clk,h1,h2,h3,h4,h5,h6⟩:=h;exact ⟨es,clk,hg.trans h1,h2,h3,fun k e7=>(h4 k e7).mono hk hβ,fun k e7=>(h5 k e7).mono hk hβ,h6⟩
 | iter s pos=>exact hg.trans h
 | lL ks vs seen=>obtain ⟨m,es,clk,h1,h2,h3,h4,h5,h6,h7,h8⟩:=h;exact ⟨m,es,clk,hg.trans h1,(hk.map _ _ _ h2 h3).1,(hk.map _ _ _ h2 h3).2,h4,h5,fun k e7=>(h6 k e7).mono hk hβ,fun k e7=>(h7 k e7).mono hk hβ,h8⟩
 | loop r=>obtain ⟨t,d,f,h1,h2,h3⟩:=h;exact ⟨t,d,f,hg.trans h1,h2,fun k e7=>(h3 k e7).mono hk hβ⟩
def wk (base:Nat) (w:World):Prop:=∀ x∈Bv,x.1<base∧∃ v,w.cell? ⟨x.1,x.2.1,none⟩=some v∧x.2.2 v
structure cS (X:Nat→Nat→Prop) (base:Nat) (σ:ai) (β:Env) (w:World):Prop where
 oo:∀ b,σ.length≤b→β b=none
 cw:∀ b cw,σ[b]? = some (some cw)→∃ L,β b=some L∧base≤L.g∧(∀ o, ¬ X L.g o)∧gI w (MT X σ β) β L cw
 inj:∀ b b' cw lu L L',σ[b]? = some (some cw)→σ[b']? = some (some lu)→β b=some L→β b'=some L'→L.g=L'.g→b=b'
 size:base≤w.heap.size
 qL:∀ g o,X g o→g<w.heap.size
 gl:wk base w
structure Ext (lo:Nat) (σ:ai) (β:Env) (w:World) (σ':ai) (β':Env) (w':World):Prop where
 os:w'.os=w.os
 tape:w'.tape=w.tape
 output:w'.output=w.output
 size:w.heap.size≤w'.heap.size
 cell:∀ g o v,w.cell? ⟨g,o,none⟩=some v→¬ jr σ β g o→w'.cell? ⟨g,o,none⟩=some v
 block:∀ g,g<w.heap.size→(∀ o, ¬ jr σ β g o)→w'.heap[g]? = w.heap[g]?
 jb:∀ g o,jr σ' β' g o→jr σ β g o∨w.heap.size≤g
 env:∀ b,b<lo→β' b = β b
theorem yP {w:World} {g o:Nat} {v:Value} (h:w.cell? ⟨g,o,none⟩=some v):g<w.heap.size:=World.block_lt_of_cell? w ⟨g,o,none⟩ h
theorem Ext.refl (lo:Nat) (σ:ai) (β:Env) (w:World):Ext lo σ β w σ β w :=
 ⟨rfl,rfl,rfl,ae _,fun _ _ _ h _=>h,fun _ _ _=>rfl,fun _ _ h=>.inl h,fun _ _=>rfl⟩
theorem Ext.trans {lo:Nat} {σ dA jq:ai} {β fy nx:Env} {w w1 w2:World} (h:Ext lo σ β w dA fy w1) (k:Ext lo dA fy w1 jq nx w2):Ext lo σ β w jq nx w2:=by
 refine ⟨k.os.trans h.os,k.tape.trans h.tape,k.output.trans h.output,c_ h.size k.size,?_,?_,?_,fun b hb=>(k.env b hb).trans (h.env b hb)⟩
 ·intro g o v hc hn;have h1:=h.cell g o v hc hn;refine k.cell g o v h1 fun hm=>?_;rcases h.jb g o hm with h2 | h2
  ·exact hn h2
  ·have:=yP hc;omega
 ·intro g hg hn;have h1:=h.block g hg hn;rw [← h1];refine k.block g (de hg h.size) fun o hm=>?_;rcases h.jb g o hm with h2 | h2
  ·exact hn o h2
  ·omega
 ·intro g o hm;rcases k.jb g o hm with h2 | h2
  ·exact h.jb g o h2
  ·exact .inr (c_ h.size h2)
theorem Ext.lower {lo lo':Nat} {σ σ':ai} {β β':Env} {w w':World} (h:Ext lo σ β w σ' β' w') (hl:lo'≤lo):Ext lo' σ β w σ' β' w' :=
 ⟨h.os,h.tape,h.output,h.size,h.cell,h.block,h.jb,fun b hb=>h.env b (de hb hl)⟩
theorem cS.BW {X:Nat→Nat→Prop} {base:Nat} {σ:ai} {β:Env} {w:World} (h:cS X base σ β w) {g clk:Nat} {es:Array MapEntry}
  (hg:w.heap[g]? = some (.map es clk)) (hn:¬ jr σ β g 0):∀ o, ¬ jr σ β g o:=by
 rintro o ⟨b,cw,L,h1,h2,rfl,h4⟩;refine hn ⟨b,cw,L,h1,h2,rfl,?_⟩;obtain ⟨L',uH,_,_,jA⟩:=h.cw b cw h1;obtain rfl:L=L':=aP (h2.symm.trans uH);cases cw with
 | row es fz=>obtain ⟨c,e,h5,_⟩:=jA;rw [hg] at h5;cases h5
 | map ks vs fz=>exact h4
 | var cs=>trivial
 | iter s p=>trivial
 | lL ks vs seen=>trivial
 | loop r=>trivial
theorem Ext.keeps {X:Nat→Nat→Prop} {base lo:Nat} {σ σ':ai} {β β':Env} {w w':World} (hr:cS X base σ β w) (h:Ext lo σ β w σ' β' w') :
  dD w (MT X σ β) w' (MT X σ' β'):=by
 constructor
 ·intro g o v hc hn;have hx:¬ X g o:=fun hx=>hn (.inl hx);have hm:¬ jr σ β g o:=fun hm=>hn (.inr hm);refine ⟨h.cell g o v hc hm,?_⟩;rintro (tK | BL)
  ·exact hx tK
  ·rcases h.jb g o BL with h2 | h2
   ·exact hm h2
   ·have:=yP hc;omega
 ·intro g es c hg hn;have hx:¬ X g 0:=fun hx=>hn (.inl hx);have hm:¬ jr σ β g 0:=fun hm=>hn (.inr hm);have bA:g<w.heap.size:=(aO.1 hg).1;refine ⟨(h.block g bA (hr.BW hg hm)).trans hg,?_⟩;rintro (tK | BL)
  ·exact hx tK
  ·rcases h.jb g 0 BL with h2 | h2
   ·exact hm h2
   ·omega
theorem cS.DL {X:Nat→Nat→Prop} {base lo:Nat} {σ σ':ai} {β β':Env} {w w':World} (hr:cS X base σ β w) (h:Ext lo σ β w σ' β' w'):wk base w':=fun x hx=>by
 obtain ⟨g1,v,g2,g3⟩:=hr.gl x hx;refine ⟨g1,v,h.cell _ _ _ g2 ?_,g3⟩;rintro ⟨b,cw,L,m1,m2,m3,_⟩;obtain ⟨L',q1,q2,_⟩:=hr.cw b cw m1;obtain rfl:=aP (q1.symm.trans m2);omega
theorem wk.same {base:Nat} {w w':World} (hg:wk base w) (h:∀ g,g<w.heap.size→w'.heap[g]? = w.heap[g]?):wk base w':=fun x hx=>by
 obtain ⟨g1,v,g2,g3⟩:=hg x hx;exact ⟨g1,v,by rw [World.cell?_of_block (w:=w) (a:=⟨x.1,x.2.1,none⟩) (h x.1 (yP g2))];exact g2,g3⟩
inductive KA where
 | bool | int (k:IntKind) | str | ptr | slice | array (n:Nat) | map | struct | func | iface | other
 deriving DecidableEq
def jC:TypeDesc→KA
 | .bool=>.bool | .int k=>.int k | .string=>.str | .pointer _=>.ptr | .slice _=>.slice | .array n _=>.array n
 | .map _ _=>.map | .struct _=>.struct | .func _ _ _=>.func | .interface _=>.iface | _=>.other
def rP:TypeDesc→Bool
 | .struct _ | .array _ _=>true
 | _=>false
def ofValue:Value→ah
 | .bool b=>.bool b
 | .int k n=>.int k n
 | .string s=>.str s
 | .pointer none=>.bY
 | .slice none 0 0=>.aW
 | .map none=>.cM
 | .nilFunc=>.aA
 | .nilIface=>.gk
 | v=>.oD v
def tW (z:Value):List ah:=z.cells.toList.map ofValue
structure fj where
 sz:Nat
 ag:Bool
 bytes:Nat
 zero:List ah
 key:KA
def B6 (ag:Bool):Value→Bool
 | .agg _=>ag
 | .tuple _=>false
 | _=>!ag
def aF (P:Program) (t:TypeId):Option fj :=
 match P.info? t,P.underlying t with
 | some i,some u=>match i.zero with
  | some z=>if B6 (rP u) z=true∧z.cells.size=i.size then some { sz:=i.size,ag:=rP u,bytes:=i.bytes,zero:=tW z,key:=jC u } else none
  | none=>none
 | _,_=>none
structure j9 where
 lay:fj
 pF:List (Nat×Option fj)
 elem:Option fj
 ED:Option fj
def bU (P:Program) (t:TypeId):Option j9 :=
 match aF P t,P.underlying t with
 | some l,some u=>some
  {lay:=l
   pF:=match u with | .struct fs=>fs.toList.map fun f=>(f.offset,aF P f.type) | _=>[]
   elem:=match u with | .slice e=>aF P e | .array _ e=>aF P e | .map _ e=>aF P e | _=>none
   ED:=match u with | .map k _=>aF P k | _=>none }
 | _,_=>none
def j9.kind (T:j9):KA:=T.lay.key
def ja (P:Program) (t:TypeId):Option KA:=(aF P t).map (·.key)
def tL:ah→KA
 | .int k _=>.int k
 | .str _=>.str
 | .bool _=>.bool
 | _=>.other
def KA.plain:KA→Bool
 | .int _ | .str | .bool=>true
 | _=>false
def qa (P:Program):List Field→Nat→List KA→Bool
 | [],_,[]=>true
 | f :: fs, i, k :: ks => f.offset == i && f.name != "_" && k.plain && decide ((P.underlying f.type).map jC = some k) && qa P fs (i + 1) ks
 | _,_,_=>false
def va (P:Program) (t:TypeId) (ks:List KA):Bool :=
 match P.underlying t with
 | some (.struct fs)=>!P.eqGuardType P.depth t && !P.stoodInHeld t&&qa P fs.toList 0 ks
 | _=>false
def ah.cT:ah→Bool
 | .undef | .agg _ | .dT _ | .oD _=>false
 | _=>true
def j5 (l:fj) (cs:List ah):Option ah :=
 if l.ag then (if l.sz≤cs.length then some (.agg (cs.take l.sz)) else none) else cs.head?
def zeroV (l:fj):ah:=if l.ag then .agg l.zero else l.zero.headD .undef
def cH:List ah→Nat→List ah→List ah
 | cs,_,[]=>cs
 | cs,o,v :: vs=>cH (cs.set o v) (o+1) vs
def cr (σ:ai) (nm:Nat) (b:bO):ai :=
 if nm < σ.length then σ.set nm (some b) else σ++List.replicate (nm - σ.length) none++[some b]
def bP (σ:ai) (b:Nat):Option bO:=(σ[b]?).join
def jv (σ:ai) (l:fj):ah→Option ah
 | .ptr b off=>match bP σ b with
  | some (.var cs)=>j5 l (cs.drop off)
  | _=>none
 | .rp b i f=>match bP σ b with
  | some (.row es _)=>if i<es.length then j5 l ((es.getD i .undef).cells.drop f) else none
  | _=>none
 | .pp cs=>j5 l cs
 | _=>none
def jM (ag:Bool) (cs:List ah):ah:=if ag then .agg cs else cs.headD .undef
def cX:ah→Bool
 | .agg _=>true
 | _=>false
def mS (σ:ai) (l:fj) (p v:ah):Option ai :=
 if v.cells.length=l.sz∧v.cells.all ah.cT then
  match p with
  | .ptr b off=>match bP σ b with
   | some (.var cs)=>if off+l.sz≤cs.length then some (cr σ b (.var (cH cs off v.cells))) else none
   | _=>none
  | .rp b i f=>match bP σ b with
   | some (.row es fz) =>
    if fz≤i∧i<es.length∧f+l.sz≤(es.getD i .undef).cells.length∧0<l.sz then
     some (cr σ b (.row (es.set i (jM (cX (es.getD i .undef)) (cH (es.getD i .undef).cells f v.cells))) fz))
    else none
   | _=>none
  | _=>none
 else none
def pN:ah→ah→ah→Option ah
 | .bool c, .bool x, .bool y=>some (.bool (if c then x else y))
 | .bool c,x,y=>some (if c then x else y)
 | _,_,_=>none
def fC:ah→ah→Bool
 | .int _ a, .int _ b=>a==b
 | .str a, .str b=>a.toList==b.toList
 | .bool a, .bool b=>a==b
 | _,_=>false
def ki:List ah→List ah→Bool
 | [],[]=>true
 | a :: cD,b :: bs=>fC a b&&ki cD bs
 | _,_=>false
def sameKind:ah→ah→Bool
 | .int k _, .int k' _=>k==k'
 | .str _, .str _=>true
 | .bool _, .bool _=>true
 | _,_=>false
def i_ (op:BinOp) (k:IntKind) (a b:Int):Option ah :=
 match op with
 | .add=>some (.int k (k.wrap (a+b)))
 | .sub=>some (.int k (k.wrap (a - b)))
 | .mul=>some (.int k (k.wrap (a*b)))
 | .quo=>if b≠0 then some (.int k (k.wrap (a.tdiv b))) else none
 | .rem=>if b≠0 then some (.int k (a.tmod b)) else none
 | .eql=>some (.bool (decide (a=b)))
 | .neq=>some (.bool (decide (a≠b)))
 | .lss=>some (.bool (decide (a<b)))
 | .leq=>some (.bool (decide (a≤b)))
 | .gtr=>some (.bool (decide (b<a)))
 | .geq=>some (.bool (decide (b≤a)))
 | _=>none
def mU (op:BinOp) (a b:ByteArray):Option ah :=
 match op with
 | .add=>if a.size+b.size≤1000000000 then some (.str (a++b)) else none
 | .eql=>some (.bool (a.toList==b.toList))
 | .neq=>some (.bool !(a.toList==b.toList))
 | .lss=>some (.bool (Op.bytesLess a.toList b.toList))
 | .leq=>some (.bool (Op.bytesLess a.toList b.toList||a.toList==b.toList))
 | .gtr=>some (.bool !(Op.bytesLess a.toList b.toList||a.toList==b.toList))
 | .geq=>some (.bool !(Op.bytesLess a.toList b.toList))
 | _=>none
def n9:ah→Option Bool
 | .bY=>some false
 | .ptr _ _ | .rp _ _ _ | .pp _=>some true
 | _=>none
def lS:ah→Option Bool
 | .cM=>some false
 | .map _ | .pm _ _=>some true
 | _=>none
def lg:ah→Option Bool
 | .gk=>some false
 | .iface _ _=>some true
 | _=>none
def ku:ah→Option Bool
 | .aA=>some false
 | .fn _ _ _=>some true
 | _=>none
def rz (P:Program) (t:TypeId):Bool :=
 match P.underlying t with
 | some (.interface ms)=>ms.isEmpty
 | _=>false
def vb (P:Program) (t:TypeId) (x y:ah):Option Bool :=
 match ja P t,x,y with
 | some .bool, .bool a, .bool b=>some (a==b)
 | some .ptr,x,y=>match n9 x,n9 y with
  | some false,some b=>some (!b)
  | some true,some false=>some false
  | _,_=>none
 | some .map,x, .cM=>(lS x).map (!·)
 | some .iface,x,y=>match lg x,lg y with
  | some true,some false | some false,some true=>some false
  | some false,some false=>if rz P t=true then some true else none
  | _,_=>none
 | some .func,x,y=>match ku x,ku y with
  | some false,some b=>some (!b)
  | some true,some false=>some false
  | _,_=>none
 | some .struct, .agg xs, .agg ys=>if xs.map tL=ys.map tL∧va P t (xs.map tL)=true then some (ki xs ys) else none
 | _,_,_=>none
def mj (P:Program) (op:BinOp) (t:TypeId) (x y:ah):Option ah :=
 match op with
 | .eql=>(vb P t x y).map .bool
 | .neq=>(vb P t x y).map fun b=>.bool !b
 | _=>none
def rR (P:Program) (op:BinOp) (t:TypeId) (x y:ah):Option ah :=
 match x,y with
 | .int k a, .int k' b=>if k=k' then i_ op k a b else none
 | .str a, .str b=>mU op a b
 | x,y=>mj P op t x y
def kC:Operand→Bool
 | .const (.slice none 0 0)=>true
 | _=>false
def tn (neg:Bool):ah→Option ah
 | .aW=>some .iH
 | .ps _ es=>some (if es.length=0 then .iH else .bool neg)
 | .os _ _ n _=>some (if n=0 then .iH else .bool neg)
 | .oc _ _ n _ _=>some (if n=0 then .iH else .bool neg)
 | _=>none
def vI (P:Program) (op:BinOp) (t:TypeId) (x:ah):Option ah :=
 match ja P t,op with
 | some .slice, .eql=>tn false x
 | some .slice, .neq=>tn true x
 | _,_=>none
def yT (P:Program) (op:BinOp) (t:TypeId) (x y:ah) (nl:Bool):Option ah:=if nl then vI P op t x else rR P op t x y
def F6 (op:UnOp):ah→Option ah
 | .bool b=>match op with
  | .not=>some (.bool !b)
  | _=>none
 | .int k n=>match op with
  | .neg=>some (.int k (k.wrap (0 - n)))
  | _=>none
 | _=>none
def j0 (lo hi:Nat):ah→Option Nat
 | .int _ i=>if (lo:Int)≤i∧i≤hi then some i.toNat else none
 | _=>none
def nT (k:KA) (σ:ai) (x:ah):Option Nat :=
 match k,x with
 | .str, .str s=>some s.size
 | .slice, .ps _ es=>some es.length
 | .slice, .aW=>some 0
 | .slice, .os _ _ n _=>some n
 | .slice, .oc _ _ n _ _=>some n
 | .map, .cM=>some 0
 | .map, .pm ks _=>some ks.length
 | .map, .map b=>match bP σ b with
  | some (.map ks _ _)=>some ks.length
  | _=>none
 | _,_=>none
def fp (σ:ai) (sz:Nat):ah→Option (List ah)
 | .ps s es=>if s=sz then some es else none
 | .aW=>some []
 | .os b off n s=>if s=sz then match bP σ b with
  | some (.row es _)=>if off+n≤es.length then some ((es.drop off).take n) else none
  | _=>none
  else none
 | .oc b off n _ s=>if s=sz then match bP σ b with
  | some (.row es _)=>if off+n≤es.length then some ((es.drop off).take n) else none
  | _=>none
  else none
 | _=>none
def bytesOf (s:ByteArray):List ah:=s.data.toList.map fun b=>.int .u8 b.toNat
def xS (n:Nat):Option ah→Option Nat
 | some h=>j0 0 n h
 | none=>some n
def D7 (n c:Nat):Option ah→Option Nat
 | some h=>j0 0 c h
 | none=>some n
def sv (h:Nat):Option ah→Option Nat
 | some l=>j0 0 h l
 | none=>some 0
def j9.vY (T:j9):Option Nat:=T.elem.map fj.sz
def jo (T:j9) (x:ah) (lo hi mx:Option ah):Option ah :=
 match mx with
 | some m=>match x with
  | .oc b off n c sz=>if T.kind = .slice∧T.vY=some sz then (j0 0 c m).bind fun m=>(hi.bind (j0 0 m)).bind fun h=>(sv h lo).bind fun l=>some (.oc b (off+l) (h - l) (m - l) sz) else none
  | _=>none
 | none =>
  match x with
  | .oc b off n c sz=>if T.kind = .slice∧T.vY=some sz then (D7 n c hi).bind fun h=>(sv h lo).bind fun l=>some (.oc b (off+l) (h - l) (c - l) sz) else none
  | .str s=>if T.kind = .str then (xS s.size hi).bind fun h=>(sv h lo).bind fun l=>some (.str (s.extract l h)) else none
  | .ps sz es=>if T.kind = .slice∧T.vY=some sz then (xS es.length hi).bind fun h=>(sv h lo).bind fun l=>some (.ps sz ((es.drop l).take (h - l))) else none
  | .os b off n sz=>if T.kind = .slice∧T.vY=some sz then (xS n hi).bind fun h=>(sv h lo).bind fun l=>some (.os b (off+l) (h - l) sz) else none
  | .aW=>if T.kind = .slice∧T.elem.isSome then (xS 0 hi).bind fun h=>(sv h lo).bind fun _=>some .aW else none
  | _=>none
def fQ (T:j9) (x i:ah):Option ah :=
 match i with
 | .int _ i =>
  match x with
  | .os b off n sz=>if T.kind = .slice∧T.vY=some sz∧0≤i∧i<n then some (.rp b (off+i.toNat) 0) else none
  | .oc b off n _ sz=>if T.kind = .slice∧T.vY=some sz∧0≤i∧i<n then some (.rp b (off+i.toNat) 0) else none
  | .ps sz es=>if T.kind = .slice∧T.vY=some sz∧0≤i∧i<es.length then some (.pp (es.getD i.toNat .undef).cells) else none
  | .ptr b off=>match T.kind,T.elem with
   | .array n,some e=>if 0≤i∧i<n then some (.ptr b (off+i.toNat*e.sz)) else none
   | _,_=>none
  | _=>none
 | _=>none
def xr (l:fj) (cs:List ah) (off:Nat):Option ah:=j5 l (cs.drop off)
def qk (T:j9) (x i:ah):Option ah :=
 match x,i with
 | .agg cs, .int _ i=>match T.kind,T.elem with
  | .array n,some e=>if 0≤i∧i<n then xr e cs (i.toNat*e.sz) else none
  | _,_=>none
 | .str s, .int _ i=>if h:(0≤i∧i.toNat<s.size)∧T.kind = .str then some (.int .u8 (s[i.toNat]'h.1.2).toNat) else none
 | _,_=>none
def kc (T:j9) (x:ah) (i:Nat):Option ah :=
 match T.kind,T.pF[i]? with
 | .struct,some (off,some l)=>if l.sz≠0 then
   match x with
   | .ptr b o=>some (.ptr b (o+off))
   | .rp b i f=>some (.rp b i (f+off))
   | .pp cs=>some (.pp (cs.drop off))
   | _=>none
  else none
 | _,_=>none
def qd (T:j9) (x:ah) (i:Nat):Option ah :=
 match T.kind,T.pF[i]?,x with
 | .struct,some (off,some l), .agg cs=>xr l cs off
 | _,_,_=>none
def nS (T:j9) (k:ah):Bool :=
 match (T.ED.map fj.key:Option KA),k with
 | some (KA.int k'), .int k _=>k==k'
 | some KA.str, .str _=>true
 | _,_=>false
def fG (k:ah):List ah→Nat→Option Nat
 | [],_=>none
 | x :: xs,i=>if fC k x then some i else fG k xs (i+1)
def fv (ks vs:List ah) (z k:ah) (ok:Bool):ah :=
 match fG k ks 0 with
 | some i=>if ok then .dT [vs.getD i .undef, .bool true] else vs.getD i .undef
 | none=>if ok then .dT [z, .bool false] else z
def lR (σ:ai) (T:j9) (x k:ah) (ok:Bool):Option ah :=
 match T.kind,T.elem with
 | .map,some e =>
  if nS T k then
   match x with
   | .cM=>some (fv [] [] (zeroV e) k ok)
   | .pm ks vs=>if ks.all (sameKind k) then some (fv ks vs (zeroV e) k ok) else none
   | .map b=>match bP σ b with
    | some (.map ks vs _)=>if ks.all (sameKind k) then some (fv ks vs (zeroV e) k ok) else none
    | _=>none
   | _=>none
  else none
 | _,_=>none
def jn (ks vs:List ah) (k v:ah):List ah×List ah :=
 match fG k ks 0 with
 | some i=>(ks,vs.set i v)
 | none=>(ks++[k],vs++[v])
def gY (σ:ai) (T:j9) (m k v:ah):Option ai :=
 match T.kind,T.elem,m with
 | .map,some e, .map b=>match bP σ b with
  | some (.map ks vs false)=>if nS T k&&ks.all (sameKind k)&&decide (v.cells.length=e.sz) then some (cr σ b (.map (jn ks vs k v).1 (jn ks vs k v).2 false)) else none
  | _=>none
 | _,_,_=>none
def kN (pF:List (Nat×Option fj)) (ρ:Operand→ah):List ah→List (Nat×Operand)→Option (List ah)
 | cs,[]=>some cs
 | cs,(i,x) :: rest=>match pF[i]? with
  | some (off,some l)=>if (ρ x).cells.length=l.sz∧off+l.sz≤cs.length∧(ρ x).cells.all ah.cT=true then kN pF ρ (cH cs off (ρ x).cells) rest else none
  | _=>none
def o_ (T:j9) (ρ:Operand→ah) (parts:List (Nat×Operand)):Option ah :=
 match T.kind,T.elem with
 | .struct,_=>if T.pF.all (·.2.isSome) then (kN T.pF ρ T.lay.zero parts).map .agg else none
 | .array n,some e=>(kN ((List.range n).map fun i=>(i*e.sz,some e)) ρ T.lay.zero parts).map .agg
 | _,_=>none
def qu (e:fj) (ρ:Operand→ah):Nat→List (Nat×Operand)→Option (List ah)
 | _,[]=>some []
 | k,(i,x) :: rest=>if i=k∧(ρ x).cells.length=e.sz∧cX (ρ x)=e.ag∧(ρ x).cells.all ah.cT then (qu e ρ (k+1) rest).map ((ρ x) :: ·) else none
def cV (bytes:Nat):Nat:=if bytes≤32 then 6000000000000 else 1000000000
theorem VZ (b:Nat):cV b≤6000000000000:=by unfold cV;split<;>omega
theorem Uj {n b:Nat} (h:n≤cV b) (hb:b≤65536):(n+n / 4+192)*b≤281474976710656:=by
 unfold cV at h;split at h
 ·exact c_ (Nat.mul_le_mul (show n+n / 4+192≤7500000000192 by omega) (by assumption)) (by decide)
 ·exact c_ (Nat.mul_le_mul (show n+n / 4+192≤1250000192 by omega) hb) (by decide)
def mH (σ:ai) (nm:Nat) (e:fj) (s:ah) (xs:List ah):Option (ah×ai) :=
 if xs.all (fun x=>x.cells.length==e.sz&&x.cells.all ah.cT)∧0<e.sz∧e.bytes≤65536∧e.zero.length=e.sz then
  match s with
  | .aW=>if xs.length=0 then some (.aW,σ) else if xs.length≤cV e.bytes then some (.os nm 0 xs.length e.sz,cr σ nm (.row xs 0)) else none
  | .os b off n sz=>match bP σ b with
   | some (.row es fz) =>
    if sz=e.sz∧fz≤off+n∧off+n≤es.length∧n+xs.length≤cV e.bytes then
     some (.os nm 0 (n+xs.length) sz,cr (σ.set b none) nm (.row ((es.drop off).take n++xs) (fz - off)))
    else none
   | _=>none
  | _=>none
 else none
def n8 (σ:ai) (nm:Nat) (e:fj) (b off n c sz:Nat) (xs:List ah):Option (ah×ai) :=
 if xs.all (fun x=>x.cells.length==e.sz&&x.cells.all ah.cT)∧0<e.sz∧e.bytes≤65536∧e.zero.length=e.sz then
  match bP σ b with
  | some (.row es fz) =>
   if sz=e.sz∧off+n≤es.length then
    if n+xs.length≤c then (if fz≤off+n∧off+n+xs.length≤es.length then some (.oc b off (n+xs.length) c sz,cr σ b (.row (cH es (off+n) xs) fz)) else none)
    else if n+xs.length≤cV e.bytes then some (.os nm 0 (n+xs.length) sz,cr σ nm (.row ((es.drop off).take n++xs) 0)) else none
   else none
  | _=>none
 else none
def eO (σ:ai) (nm:Nat) (e:fj) (s:ah) (xs:List ah):Option (ah×ai) :=
 match s with
 | .oc b off n c sz=>n8 σ nm e b off n c sz xs
 | s=>mH σ nm e s xs
def kQ (σ:ai) (sz:Nat) (s:ah) (xs:List ah):Option ai :=
 match s with
 | .oc b off n _ yh | .os b off n yh=>match bP σ b with
  | some (.row es fz)=>if yh=sz∧0<sz∧fz≤off∧xs.length≤n∧off+n≤es.length∧xs.all (fun x=>x.cells.length==sz&&x.cells.all ah.cT)=true then some (cr σ b (.row (cH es off xs) fz)) else none
  | _=>none
 | _=>none
def kW:ah→Option Nat
 | .aW=>some 0
 | .os _ _ n _=>some n
 | .oc _ _ n _ _=>some n
 | .ps _ es=>some es.length
 | _=>none
def wx:ah→Option Nat
 | .aW=>some 0
 | .oc _ _ _ c _=>some c
 | _=>none
def kh (σ:ai) (nm:Nat) (T:j9) (l c:ah):Option (ah×ai) :=
 match T.kind,T.elem,l,c with
 | .slice,some e, .int .i64 l, .int .i64 c =>
  if 0≤l∧l≤c∧c≤1000000000∧e.bytes≤65536∧0<e.sz∧e.zero.length=e.sz then some (.os nm 0 l.toNat e.sz,cr σ nm (.row (List.replicate l.toNat (zeroV e)) 0)) else none
 | _,_,_,_=>none
def ga (f:Int→Int→Int):ah→List ah→Option ah
 | x,[]=>some x
 | .int k a, .int _ b :: rest=>ga f (.int k (f a b)) rest
 | _,_=>none
def fF (P:Program) (σ:ai) (nm:Nat) (b:Builtin) (ts:List TypeId) (args:List ah):Option (ah×ai) :=
 match b,ts,args with
 | .len,[t],[x]=>(bU P t).bind fun T=>match T.kind with
  | .array n=>some (.int .i64 n,σ)
  | .str | .slice | .map=>(nT T.kind σ x).map fun (n:Nat)=>(ah.int .i64 (n:Int),σ)
  | _=>none
 | .append,[t,u],[s,x]=>(bU P t).bind fun T=>(bU P u).bind fun U=>match T.kind,T.elem,U.kind with
  | .slice,some e, .slice=>(fp σ e.sz x).bind fun xs=>eO σ nm e s xs
  | .slice,some e, .str=>match x with
   | .str y=>if e.sz=1 then eO σ nm e s (bytesOf y) else none
   | _=>none
  | .slice,some e, .int _=>match x with
   | .int .i64 n=>if 0≤n∧n≤1000000000∧IntKind.i64.wrap n=n then eO σ nm e s (List.replicate n.toNat (zeroV e)) else none
   | _=>none
  | _,_,_=>none
 | .cap,[t],[x]=>(bU P t).bind fun T=>match T.kind with
  | .slice=>(wx x).map fun (n:Nat)=>(ah.int .i64 (n:Int),σ)
  | _=>none
 | .clear,[t],[x]=>(bU P t).bind fun T=>match T.kind,T.elem with
  | .slice,some e=>(kW x).bind fun n=>if n=0 then some (.dT [],σ) else (kQ σ e.sz x (List.replicate n (zeroV e))).map (.dT [], ·)
  | _,_=>none
 | .copy,[t,u],[d,x]=>(bU P t).bind fun T=>(bU P u).bind fun U=>match T.kind,T.elem,U.kind with
  | .slice,some e, .slice=>(kW d).bind fun n=>(fp σ e.sz x).bind fun xs=>(kQ σ e.sz d (xs.take n)).map (ah.int .i64 ((xs.take n).length:Int), ·)
  | _,_,_=>none
 | .max,_,x :: rest=>(ga (fun a b=>if a<b then b else a) x rest).map (·,σ)
 | .min,_,x :: rest=>(ga (fun a b=>if b<a then b else a) x rest).map (·,σ)
 | _,_,_=>none
def pD (P:Program) (s d:TypeId) (x:ah):Option ah :=
 match ja P s,ja P d,x with
 | some _,some (.int k), .int _ n=>some (.int k (k.wrap n))
 | some .str,some .str, .str y=>some (.str y)
 | _,_,_=>none
def jy (P:Program) (x:ah) (asserted:TypeId) (ok:Bool):Option ah :=
 match bU P asserted,x with
 | some T, .iface t v=>match T.kind with
  | .iface=>none
  | _=>if t=asserted then some (if ok then .dT [v, .bool true] else v) else if ok then some (.dT [zeroV T.lay, .bool false]) else none
 | some T, .gk=>match T.kind with
  | .iface=>none
  | _=>if ok then some (.dT [zeroV T.lay, .bool false]) else none
 | _,_=>none
def nQ (σ:ai):ah→Option (ah×ai)
 | .it b=>match bP σ b with
  | some (.iter s pos)=>if pos<s.size then some (.dT [.bool true, .int .i64 pos, .int .i32 (Utf8.decode s pos).1],cr σ b (.iter s (pos+(Utf8.decode s pos).2))) else some (.dT [.bool false],σ)
  | _=>none
 | _=>none
def pc (σ:ai):ah→Option (ah×ai)
 | .it b=>match bP σ b with
  | some (.lL ks vs seen)=>match seen.getLast? with
   | some i=>some (.dT [ks.getD i .undef,vs.getD i .undef],σ)
   | none=>none
  | _=>none
 | _=>none
def dt (P:Program) (σ:ai) (nm:Nat) (ρ:Operand→ah):Op→Option (ah×ai)
 | .move x=>some (ρ x,σ)
 | .assign x=>some (ρ x,σ)
 | .pick c a b=>(pN (ρ c) (ρ a) (ρ b)).map (·,σ)
 | .alloc t=>(aF P t).bind fun l=>some (.ptr nm 0,cr σ nm (.var l.zero))
 | .box t x=>(aF P t).bind fun l=>if (ρ x).cells.length=l.sz∧(ρ x).cells.all ah.cT then some (.ptr nm 0,cr σ nm (.var (ρ x).cells)) else none
 | .build t parts=>(bU P t).bind fun T=>(o_ T ρ parts.toList).map (·,σ)
 | .buildSlice t n parts=>(bU P t).bind fun T=>T.elem.bind fun e=>(qu e ρ 0 parts.toList).bind fun es =>
   if es.length=n∧T.kind = .slice∧n*e.sz≤16777216∧e.zero.length=e.sz∧0<e.sz then some (.os nm 0 n e.sz,cr σ nm (.row es 0)) else none
 | .load t x=>(aF P t).bind fun l=>(jv σ l (ρ x)).map (·,σ)
 | .store t x v=>(aF P t).bind fun l=>(mS σ l (ρ x) (ρ v)).map (.undef, ·)
 | .nilCheck x=>match ρ x with
  | .ptr b o=>some (.ptr b o,σ)
  | .rp b i f=>some (.rp b i f,σ)
  | .pp cs=>some (.pp cs,σ)
  | .fn f a c=>some (.fn f a c,σ)
  | _=>none
 | .binOp op t x y _=>(yT P op t (ρ x) (ρ y) (kC y)).map (·,σ)
 | .unOp op _ x=>(F6 op (ρ x)).map (·,σ)
 | .convert s d x=>(pD P s d (ρ x)).map (·,σ)
 | .makeInterface t x=>match ja P t with
  | some .iface=>none
  | some _=>some (.iface t (ρ x),σ)
  | none=>none
 | .makeFunc (.func f) first captured=>some (.fn f (first.toList.map ρ) (captured.toList.map ρ),σ)
 | .makeMap t none=>some (.map nm,cr σ nm (.map [] [] false))
 | .makeSlice t l c=>(bU P t).bind fun T=>kh σ nm T (ρ l) (ρ c)
 | .slice t x lo hi mx=>(bU P t).bind fun T=>(jo T (ρ x) (lo.map ρ) (hi.map ρ) (mx.map ρ)).map (·,σ)
 | .fieldAddr t x i=>(bU P t).bind fun T=>(kc T (ρ x) i).map (·,σ)
 | .field t x i=>(bU P t).bind fun T=>(qd T (ρ x) i).map (·,σ)
 | .indexAddr t x i=>(bU P t).bind fun T=>(fQ T (ρ x) (ρ i)).map (·,σ)
 | .index t x i=>(bU P t).bind fun T=>(qk T (ρ x) (ρ i)).map (·,σ)
 | .lookup t x i ok=>(bU P t).bind fun T=>(lR σ T (ρ x) (ρ i) ok).map (·,σ)
 | .mapUpdate t m k v=>(bU P t).bind fun T=>(gY σ T (ρ m) (ρ k) (ρ v)).map (.undef, ·)
 | .insert t m k v=>(bU P t).bind fun T=>(gY σ T (ρ m) (ρ k) (ρ v)).map (.undef, ·)
 | .range t x=>(bU P t).bind fun T=>match T.kind,ρ x with
  | .str, .str s=>some (.it nm,cr σ nm (.iter s 0))
  | .map, .pm ks vs=>some (.it nm,cr σ nm (.lL ks vs []))
  | _,_=>none
 | .entry x=>pc σ (ρ x)
 | .next it true=>nQ σ (ρ it)
 | .typeAssert x _ u ok=>(jy P (ρ x) u ok).map (·,σ)
 | .extract x i=>match ρ x with
  | .dT vs=>(vs[i]?).map (·,σ)
  | _=>none
 | .call { callee:=.builtin b,args,argTypes }=>fF P σ nm b argTypes.toList (args.toList.map ρ)
 | _=>none
structure St where
 tm:List ah
 σ:ai
def ev (tm:List ah):Operand→ah
 | .tmp t=>tm.getD t .undef
 | .const v=>ofValue v
 | .global g=>.oD (.pointer (some ⟨g,0,none⟩))
 | .func f=>.fn f [] []
def put (tm:List ah) (dst:Option Tmp) (v:ah):List ah :=
 match dst with
 | some d=>tm.set d v
 | none=>tm
theorem Fh {X:Nat→Nat→Prop} {base:Nat} {σ σ':ai} {β β':Env} {w w':World} (hr:cS X base σ β w) (nm:Nat) (L':Loc) (lu:bO)
  (EB : σ'[nm]? = some (some lu))
  (jB:∀ c x,c≠nm→σ'[c]? = some (some x)→σ[c]? = some (some x)∧∀ Lc,β c=some Lc→Lc.g≠L'.g)
  (hlen : σ.length≤σ'.length)
  (wN : β' nm=some L') (wO:∀ c,c≠nm→β' c = β c) (P2 : β nm=none∨β nm=some L')
  (zp:w'.os=w.os) (sr:w'.tape=w.tape) (nw:w'.output=w.output) (pJ:w.heap.size≤w'.heap.size)
  (sg:∀ g,g<w.heap.size→g≠L'.g→w'.heap[g]? = w.heap[g]?)
  (mo:∀ off v,w.cell? ⟨L'.g,off,none⟩=some v→¬ jr σ β L'.g off→w'.cell? ⟨L'.g,off,none⟩=some v)
  (y9:L'.g<w.heap.size→(∀ o, ¬ jr σ β L'.g o)→w'.heap[L'.g]? = w.heap[L'.g]?)
  (Em:∀ off,lu.mut L' off→jr σ β L'.g off∨w.heap.size≤L'.g)
  (hX:∀ o, ¬ X L'.g o) (vn:base≤L'.g) :
  Ext 0 σ β w σ' β' w'∧dD w (MT X σ β) w' (MT X σ' β')∧(∀ b L,β b=some L→β' b=some L) ∧
   (gI w' (MT X σ' β') β' L' lu→cS X base σ' β' w'):=by
 have Es:∀ b L,β b=some L→β' b=some L:=by
  intro b L hb;by_cases e:b=nm
  ·subst e;rcases P2 with h | h
   ·rw [h] at hb;cases hb
   ·rw [wN,← h,hb]
  ·rw [wO b e,hb]
 have pj:∀ g o,jr σ' β' g o→jr σ β g o∨w.heap.size≤g:=by
  rintro g o ⟨b,cw,L,h1,h2,rfl,h4⟩;by_cases e:b=nm
  ·subst e;obtain rfl:lu=cw:=aP (aP (EB.symm.trans h1));obtain rfl:L'=L:=aP (wN.symm.trans h2);exact Em o h4
  ·exact .inl ⟨b,cw,L,(jB b cw e h1).1,(wO b e).symm.trans h2,rfl,h4⟩
 have qi:Ext 0 σ β w σ' β' w':=by
  refine ⟨zp,sr,nw,pJ,?_,?_,pj,fun b hb=>absurd hb (Nat.not_lt_zero _)⟩
  ·intro g o v hc hn;by_cases e:g=L'.g
   ·subst e;exact mo o v hc hn
   ·have:=sg g (yP hc) e;rw [World.cell?_of_block (w:=w) (a:=⟨g,o,none⟩) this];exact hc
  ·intro g hg hn;by_cases e:g=L'.g
   ·subst e;exact y9 hg hn
   ·exact sg g hg e
 have CN:=qi.keeps hr;refine ⟨qi,CN,Es,fun jA=>⟨?_,?_,?_,c_ hr.size pJ,fun g o hx=>de (hr.qL g o hx) pJ,hr.DL qi⟩⟩
 ·intro b hb;have bA:nm < σ'.length:=(aJ.1 EB).1;rw [wO b (by omega)];exact hr.oo b (by omega)
 ·intro b cw hb;by_cases e:b=nm
  ·subst e;obtain rfl:lu=cw:=aP (aP (EB.symm.trans hb));exact ⟨L',wN,vn,hX,jA⟩
  ·obtain ⟨h1,h2⟩:=jB b cw e hb;obtain ⟨L,h3,h4,h5,h6⟩:=hr.cw b cw h1;have bA:L.g<w.heap.size:=by
    cases cw with
    | var cs=>obtain ⟨c,e,h,_⟩:=h6;exact (aO.1 h).1
    | row es fz=>obtain ⟨c,e,h,_⟩:=h6;exact (aO.1 h).1
    | map ks vs fz=>obtain ⟨c,e,h,_⟩:=h6;exact (aO.1 h).1
    | iter s p=>exact (aO.1 h6).1
    | lL ks vs seen=>obtain ⟨m,es,c,h,_⟩:=h6;exact (aO.1 h).1
    | loop r=>obtain ⟨c,e,f,h,_⟩:=h6;exact (aO.1 h).1
   exact ⟨L,Es _ _ h3,h4,h5,h6.mono CN Es (sg L.g bA (h2 L h3))⟩
 ·intro b b' cw DF L L2 h1 h2 h3 h4 hg;by_cases e:b=nm
  ·by_cases e':b'=nm
   ·rw [e,e']
   ·exfalso;subst e;obtain rfl:L'=L:=aP (wN.symm.trans h3);exact (jB b' DF e' h2).2 L2 ((wO b' e').symm.trans h4) hg.symm
  ·by_cases e':b'=nm
   ·exfalso;subst e';obtain rfl:L'=L2:=aP (wN.symm.trans h4);exact (jB b cw e h1).2 L ((wO b e).symm.trans h3) hg
   ·exact hr.inj b b' cw DF L L2 (jB b cw e h1).1 (jB b' DF e' h2).1 ((wO b e).symm.trans h3) ((wO b' e').symm.trans h4) hg
theorem gI.lt {w:World} {M:Nat→Nat→Prop} {β:Env} {L:Loc} {cw:bO} (h6:gI w M β L cw):L.g<w.heap.size:=by
 cases cw with
 | var cs=>obtain ⟨c,e,h,_⟩:=h6;exact (aO.1 h).1
 | row es fz=>obtain ⟨c,e,h,_⟩:=h6;exact (aO.1 h).1
 | map ks vs fz=>obtain ⟨c,e,h,_⟩:=h6;exact (aO.1 h).1
 | iter s p=>exact (aO.1 h6).1
 | lL ks vs seen=>obtain ⟨m,es,c,h,_⟩:=h6;exact (aO.1 h).1
 | loop r=>obtain ⟨c,e,f,h,_⟩:=h6;exact (aO.1 h).1
def c8 (P:Program) (X:Nat→Nat→Prop) (base:Nat) (σ:ai) (β:Env) (w:World) (nm:Nat) (s:Sem Next) (r:ah) (σ':ai):Prop :=
 ∃ v w' β',(s.run P w = .ok (.value v) w'∨(s.run P w = .ok .skip w'∧v=undef))∧cS X base σ' β' w'∧cf w' (MT X σ' β') β' v r ∧
  Ext 0 σ β w σ' β' w'∧(∀ b,b≠nm→β' b = β b)∧∀ b L,β b=some L→β' b=some L
section
variable {P:Program} {X:Nat→Nat→Prop} {base:Nat} {σ:ai} {β:Env} {w:World} {nm:Nat}
theorem c8.val (hr:cS X base σ β w) {s:Sem Next} {v:Value} {r:ah} (h:s.run P w = .ok (.value v) w) (hv:cf w (MT X σ β) β v r):c8 P X base σ β w nm s r σ :=
 ⟨v,w,β, .inl h,hr,hv,Ext.refl _ _ _ _,fun _ _=>rfl,fun _ _ h=>h⟩
theorem Lq {M:Nat→Nat→Prop} (v:Value):cf w M β v (ofValue v):=by
 unfold ofValue;split<;>first | exact .oD _ | constructor
theorem qE {t:TypeId} {l:fj} (h:aF P t=some l):∃ i u z,P.info? t=some i∧P.underlying t=some u∧i.zero=some z ∧
  i.size=l.sz∧rP u=l.ag∧i.bytes=l.bytes∧tW z=l.zero∧jC u=l.key∧B6 l.ag z=true∧z.cells.size=l.sz:=by
 unfold aF at h;split at h
 ·rename_i i u h1 h2;split at h
  ·rename_i z hz;split at h
   ·rename_i hc;cases h;exact ⟨i,u,z,h1,h2,hz,rfl,rfl,rfl,rfl,rfl,hc.1,hc.2⟩
   ·cases h
  ·cases h
 ·cases h
theorem Ml {t:TypeId} {u:TypeDesc} (h:P.underlying t=some u):(isAgg t).run P w = .ok (rP u) w:=by
 simp only [isAgg,Sem.run_bind,run_underlying h,Result.andThen_ok];cases u<;>rfl
theorem uQ {t:TypeId} {i:TypeInfo} (h:P.info? t=some i):(sizeOf t).run P w = .ok i.size w:=by
 simp [sizeOf,typeInfo,h]
theorem IG {t:TypeId} {i:TypeInfo} {z:Value} (h:P.info? t=some i) (hz:i.zero=some z):(zeroValue t).run P w = .ok z w:=by
 simp [zeroValue,typeInfo,h,hz]
theorem SE {α:Type} (f:Nat→α) (n k:Nat) (d : α) (h:k<n):(((List.range n).map f).toArray).getD k d=f k:=by
 simp [Array.getD,h]
theorem SD {M:Nat→Nat→Prop} {t:TypeId} {l:fj} (hl:aF P t=some l) {g o:Nat} {cs:List ah} {cv:Nat→Value}
  (hc:∀ k,k<cs.length→w.cell? ⟨g,o+k,none⟩=some (cv k)) (hv:∀ k,k<cs.length→cf w M β (cv k) (cs.getD k .undef)) {r:ah} (ht:j5 l cs=some r) :
  ∃ v,(loadVar t ⟨g,o,none⟩).run P w = .ok v w∧cf w M β v r:=by
 obtain ⟨i,u,z,h1,h2,h3,h4,h5,_⟩:=qE hl;unfold j5 at ht;simp only [loadVar,Sem.run_bind,Ml h2,Result.andThen_ok,h5];by_cases ha:l.ag=true
 ·rw [if_pos ha] at ht;rw [if_pos ha];split at ht
  ·rename_i hle;cases ht;have:=run_loadCells (P:=P) w ⟨g,o,none⟩ i.size cv (fun j hj=>by rw [Addr.add_lit];exact hc j (by omega));refine ⟨.agg ((List.range i.size).map cv).toArray,by simp [uQ h1,this],?_⟩;refine .agg (by simp;omega) fun k hk=>?_;have e7:k<i.size:=by simp at hk;omega
   rw [SE cv i.size k _ e7];have:=hv k (by omega)
   rwa [show (List.take l.sz cs).getD k ah.undef=cs.getD k .undef by simp [List.getD,fI,show k<l.sz by omega]]
  ·cases ht
 ·rw [if_neg ha] at ht;rw [if_neg ha];cases cs with
  | nil=>simp at ht
  | cons c cs =>
   simp only [List.head?_cons,aH] at ht;subst ht;have h0:=hc 0 (by simp);simp only [cC] at h0;exact ⟨cv 0,by simp [run_load,h0],hv 0 (by simp)⟩
theorem SV {M:Nat→Nat→Prop} {t:TypeId} {l:fj} (hl:aF P t=some l) {cs:Array Value} {cD:List ah} (hn:cs.size=cD.length)
  (hv:∀ k,k<cD.length→cf w M β (cs.getD k undef) (cD.getD k .undef)) {off:Nat} {r:ah} (ht:xr l cD off=some r) :
  ∃ v,(part t cs off).run P w = .ok v w∧cf w M β v r:=by
 obtain ⟨i,u,z,h1,h2,h3,h4,h5,_⟩:=qE hl;unfold xr j5 at ht;simp only [part,Sem.run_bind,Ml h2,Result.andThen_ok,h5];by_cases ha:l.ag=true
 ·rw [if_pos ha] at ht;rw [if_pos ha];split at ht
  ·rename_i hle;cases ht;simp only [cz] at hle;refine ⟨.agg (cs.extract off (off+i.size)),by simp [uQ h1],?_⟩;refine .agg (by simp;omega) fun k hk=>?_;have e7:k<l.sz:=by simp at hk;omega
   have:=hv (off+k) (by omega);have e1:(cs.extract off (off+i.size)).getD k undef=cs.getD (off+k) undef:=by
    rw [ak,ak,Array.getElem?_extract];rw [if_pos (by omega)]
   have e2:(List.take l.sz (List.drop off cD)).getD k ah.undef=cD.getD (off+k) .undef:=by
    simp [List.getD,fI,e7,eo]
   rw [e1,e2];exact this
  ·cases ht
 ·rw [if_neg ha] at ht;rw [if_neg ha];simp only [List.head?_drop] at ht;obtain ⟨bA,he⟩:=aJ.1 ht;have:=hv off bA;refine ⟨cs.getD off undef,?_,?_⟩
  ·have:cs[off]? = some (cs.getD off undef):=by
    rw [ak,aE (by omega)];rfl
   rw [this];rfl
  ·rwa [show cD.getD off ah.undef=r by simp [List.getD,ht]] at this
end
end Go.dm
