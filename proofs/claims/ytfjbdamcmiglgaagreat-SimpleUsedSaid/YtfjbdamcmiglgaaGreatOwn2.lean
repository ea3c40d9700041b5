/- Part 2 of my own framework and of the walks of functions: AbsA, AbsB, AbsC. -/
import Derived.Test.YtfjbdamcmiglgaaGreatOwn1
import Derived.AtR
import Derived.Below
abbrev aj:=@Array.getD_eq_getD_getElem?
abbrev aB:=@Array.getElem?_eq_getElem
abbrev aL:=@Array.getElem?_eq_some_iff
abbrev iJ:=@Array.getElem?_modify
abbrev fv:=@Array.getElem?_push
abbrev dJ:=@List.getElem?_drop
abbrev aH:=@List.getElem?_eq_some_iff
abbrev e9:=@List.getElem?_take
abbrev cg:=@List.length_drop
abbrev cj:=@Nat.add_zero
abbrev ah:=@Nat.le_refl
abbrev cR:=@Nat.le_trans
abbrev cS:=@Nat.lt_of_lt_of_le
abbrev cD:=@Nat.lt_succ_self
abbrev aM:=@Option.some.inj
abbrev aE:=@Option.some.injEq
set_option linter.unusedVariables false
set_option linter.unusedSectionVars false
set_option linter.unusedSimpArgs false
namespace Go.cV
open Go
inductive ae:Type where
 | undef
 | bool (b:Bool)
 | gZ
 | int (k:IntKind) (n:Int)
 | str (s:ByteArray)
 | bM
 | ptr (b off:Nat)
 | rp (b i f:Nat)
 | pp (cs:List ae)
 | aU
 | ps (sz:Nat) (es:List ae)
 | os (b off len sz:Nat)
 | oc (b off len cap sz:Nat)
 | az
 | fn (f:FuncId) (first captured:List ae)
 | ld (b:Nat)
 | cy
 | map (b:Nat)
 | pm (ks vs:List ae)
 | it (b:Nat)
 | agg (cs:List ae)
 | dy (vs:List ae)
 | fE
 | iface (t:TypeId) (v:ae)
 | nM (v:Value)
 deriving Inhabited
def ae.cells:ae→List ae
 | .agg cs=>cs
 | a=>[a]
structure Loc where
 g:Nat
 o:Nat
 n:Nat
 sz:Nat
abbrev Env:=Nat→Option Loc
def iK (es:Array MapEntry) (clk:Nat):Prop :=
 (∀ i,i<es.size→(es.getD i default).born<clk)∧∀ i j,i<es.size→j<es.size→(es.getD i default).born=(es.getD j default).born→i=j
theorem ZI:iK #[] 0:=⟨fun i hi=>by simp at hi,fun i j hi=>by simp at hi⟩
theorem Y7 {es:Array MapEntry} {clk:Nat} (h:iK es clk) (k v:Value):iK (es.push { key:=k,val:=v,born:=clk }) (clk+1):=by
 have e:∀ i,(es.push { key:=k,val:=v,born:=clk }).getD i default=if i=es.size then { key:=k,val:=v,born:=clk } else es.getD i default:=fun i=>by
  simp only [aj,fv]
  split<;>rfl
 constructor
 ·intro i hi
  rw [e]
  simp only [Array.size_push] at hi
  split
  ·exact cD _
  ·exact Nat.lt_succ_of_lt (h.1 i (by omega))
 ·intro i j hi hj xu
  rw [e,e] at xu
  simp only [Array.size_push] at hi hj
  split at xu<;>split at xu
  ·omega
  ·have:=h.1 j (by omega);simp only at xu;omega
  ·have:=h.1 i (by omega);simp only at xu;omega
  ·exact h.2 i j (by omega) (by omega) xu
theorem Zu6 {es:Array MapEntry} {clk:Nat} (h:iK es clk) (i:Nat) (k v:Value):iK (es.modify i fun e=>{ e with key:=k,val:=v }) clk:=by
 have e:∀ j,j<es.size→((es.modify i fun e=>{ e with key:=k,val:=v }).getD j default).born=(es.getD j default).born:=fun j hj=>by
  simp only [aj,iJ]
  split
  ·rename_i h;subst h;rw [aB hj];rfl
  ·rfl
 constructor
 ·intro j hj
  rw [Array.size_modify] at hj
  rw [e j hj];exact h.1 j hj
 ·intro j j' hj rF Vv
  rw [Array.size_modify] at hj rF
  rw [e j hj,e j' rF] at Vv
  exact h.2 j j' hj rF Vv
inductive bR (w:World) (M:Nat→Nat→Prop) (β:Env):Value→ae→Prop
 | undef (v:Value):bR w M β v .undef
 | bool (b:Bool):bR w M β (.bool b) (.bool b)
 | gZ (b:Bool):bR w M β (.bool b) .gZ
 | int (k:IntKind) (n:Int):bR w M β (.int k n) (.int k n)
 | str (s:ByteArray):bR w M β (.string s) (.str s)
 | bM:bR w M β (.pointer none) .bM
 | ptr {b off:Nat} {L:Loc} (h : β b=some L):bR w M β (.pointer (some ⟨L.g,L.o+off,none⟩)) (.ptr b off)
 | rp {b i f:Nat} {L:Loc} (h : β b=some L):bR w M β (.pointer (some ⟨L.g,L.o+i*L.sz+f,none⟩)) (.rp b i f)
 | pp {g o:Nat} {cs:List ae} (cv:Nat→Value)
   (hc:∀ k,k<cs.length→w.cell? ⟨g,o+k,none⟩=some (cv k)∧¬ M g (o+k))
   (hr:∀ k,k<cs.length→bR w M β (cv k) (cs.getD k .undef)):bR w M β (.pointer (some ⟨g,o,none⟩)) (.pp cs)
 | aU (a:Option Addr):bR w M β (.slice a 0 0) .aU
 | ps {a:Option Addr} {cap sz:Nat} {es:List ae} (cv:Nat→Nat→Value) (jf:es.length≤cap)
   (ft:∀ i,i<es.length→(es.getD i .undef).cells.length=sz)
   (hc:∀ i j,i<es.length→j<sz→∃ g o,a=some ⟨g,o,none⟩∧w.cell? ⟨g,o+i*sz+j,none⟩=some (cv i j)∧¬ M g (o+i*sz+j))
   (ha : 0<es.length→∃ g o,a=some ⟨g,o,none⟩)
   (hr:∀ i j,i<es.length→j<sz→bR w M β (cv i j) ((es.getD i .undef).cells.getD j .undef)):bR w M β (.slice a es.length cap) (.ps sz es)
 | sv (a:Option Addr) {b off:Nat} {L:Loc} (h : β b=some L):bR w M β (.slice a 0 0) (.os b off 0 L.sz)
 | os {b off len cap:Nat} {L:Loc} (h : β b=some L) (hl:len≤cap) (hc:off+cap≤L.n):bR w M β (.slice (some ⟨L.g,L.o+off*L.sz,none⟩) len cap) (.os b off len L.sz)
 | su (a:Option Addr) {b off:Nat} {L:Loc} (h : β b=some L):bR w M β (.slice a 0 0) (.oc b off 0 0 L.sz)
 | oc {b off len cap:Nat} {L:Loc} (h : β b=some L) (hl:len≤cap) (hc:off+cap≤L.n):bR w M β (.slice (some ⟨L.g,L.o+off*L.sz,none⟩) len cap) (.oc b off len cap L.sz)
 | az:bR w M β .nilFunc .az
 | fn {f:FuncId} {fa ca:Array Value} {first captured:List ae} (h1:fa.size=first.length) (h2:ca.size=captured.length)
   (ou:∀ k,k<first.length→bR w M β (fa.getD k undef) (first.getD k .undef))
   (nH:∀ k,k<captured.length→bR w M β (ca.getD k undef) (captured.getD k .undef)):bR w M β (.func (.func f) fa ca) (.fn f first captured)
 | ld {b:Nat} {L:Loc} (h : β b=some L):bR w M β (.func (.yield L.g) #[] #[]) (.ld b)
 | cy:bR w M β (.map none) .cy
 | map {b:Nat} {L:Loc} (h : β b=some L):bR w M β (.map (some L.g)) (.map b)
 | pm {g clk:Nat} {es:Array MapEntry} {ks vs:List ae} (hg:w.heap[g]? = some (.map es clk)) (hm:¬ M g 0) (hk:es.size=ks.length) (hv:vs.length=ks.length)
   (ou:∀ k,k<ks.length→bR w M β (es.getD k default).key (ks.getD k .undef))
   (nH:∀ k,k<ks.length→bR w M β (es.getD k default).val (vs.getD k .undef)) (hb:iK es clk):bR w M β (.map (some g)) (.pm ks vs)
 | it {b:Nat} {L:Loc} (h : β b=some L):bR w M β (.pointer (some ⟨L.g,0,none⟩)) (.it b)
 | agg {cs:Array Value} {l:List ae} (h:cs.size=l.length) (hr:∀ k,k<l.length→bR w M β (cs.getD k Go.undef) (l.getD k .undef)):bR w M β (.agg cs) (.agg l)
 | dy {cs:Array Value} {l:List ae} (h:cs.size=l.length) (hr:∀ k,k<l.length→bR w M β (cs.getD k Go.undef) (l.getD k .undef)):bR w M β (.tuple cs) (.dy l)
 | fE:bR w M β .nilIface .fE
 | iface {t:TypeId} {v:Value} {a:ae} (h:bR w M β v a):bR w M β (.iface t v) (.iface t a)
 | nM (v:Value):bR w M β v (.nM v)
structure dg (w:World) (M:Nat→Nat→Prop) (w':World) (M':Nat→Nat→Prop):Prop where
 cell:∀ g o v,w.cell? ⟨g,o,none⟩=some v→¬ M g o→w'.cell? ⟨g,o,none⟩=some v∧¬ M' g o
 map:∀ g es c,w.heap[g]? = some (.map es c)→¬ M g 0→w'.heap[g]? = some (.map es c)∧¬ M' g 0
theorem dg.lM {w:World} {M M':Nat→Nat→Prop} (h:∀ g o,M' g o→M g o):dg w M w M' :=
 ⟨fun g o _ hc hn=>⟨hc,fun hm=>hn (h g o hm)⟩,fun g _ _ hc hn=>⟨hc,fun hm=>hn (h g 0 hm)⟩⟩
theorem bR.mono {w w':World} {M M':Nat→Nat→Prop} {β β':Env} (hk:dg w M w' M') (hβ:∀ b L,β b=some L→β' b=some L) {v:Value} {a:ae}
  (h:bR w M β v a):bR w' M' β' v a:=by
 induction h with
 | undef v=>exact .undef v
 | bool b=>exact .bool b
 | gZ b=>exact .gZ b
 | int k n=>exact .int k n
 | str s=>exact .str s
 | bM=>exact .bM
 | ptr h=>exact .ptr (hβ _ _ h)
 | rp h=>exact .rp (hβ _ _ h)
 | pp cv hc _ ih=>exact .pp cv (fun k eA=>hk.cell _ _ _ (hc k eA).1 (hc k eA).2) ih
 | aU a=>exact .aU a
 | ps cv jf ft hc ha _ ih =>
  refine .ps cv jf ft (fun i j hi hj=>?_) ha ih
  obtain ⟨g,o,h1,h2,h3⟩:=hc i j hi hj
  exact ⟨g,o,h1,hk.cell _ _ _ h2 h3⟩
 | sv a h=>exact .sv a (hβ _ _ h)
 | os h hl hc=>exact .os (hβ _ _ h) hl hc
 | su a h=>exact .su a (hβ _ _ h)
 | oc h hl hc=>exact .oc (hβ _ _ h) hl hc
 | az=>exact .az
 | fn h1 h2 _ _ ky oC=>exact .fn h1 h2 ky oC
 | ld h=>exact .ld (hβ _ _ h)
 | cy=>exact .cy
 | map h=>exact .map (hβ _ _ h)
 | pm hg hm h1 h2 _ _ hb ky oC=>exact .pm (hk.map _ _ _ hg hm).1 (hk.map _ _ _ hg hm).2 h1 h2 ky oC hb
 | it h=>exact .it (hβ _ _ h)
 | agg h _ ih=>exact .agg h ih
 | dy h _ ih=>exact .dy h ih
 | fE=>exact .fE
 | iface _ ih=>exact .iface ih
 | nM v=>exact .nM v
inductive fS where
 | ready
 | busy
 | done (c:Code)
structure gD where
 tm:List ae
 params:Array Tmp
 assign:Code
 body:Code
 st:fS
inductive bE:Type where
 | var (cs:List ae)
 | row (es:List ae) (fz:Nat)
 | map (ks vs:List ae) (fz:Bool)
 | iter (s:ByteArray) (pos:Nat)
 | kZ (ks vs:List ae) (seen:List Nat)
 | loop (r:gD)
abbrev ai:=List (Option bE)
def bE.mut (L:Loc):bE→Nat→Prop
 | .row _ fz,off=>L.o+fz*L.sz≤off
 | .map _ _ fz,_=>fz=false
 | _,_=>True
def iQ (σ:ai) (β:Env) (g off:Nat):Prop :=
 ∃ b cf L,σ[b]? = some (some cf)∧β b=some L∧L.g=g∧cf.mut L off
def MT (X:Nat→Nat→Prop) (σ:ai) (β:Env) (g o:Nat):Prop:=X g o∨iQ σ β g o
def fS.of:fS→LoopState×Option Code
 | .ready=>(.ready,none)
 | .busy=>(.busy,none)
 | .done c=>(.done,some c)
def fR (w:World) (M:Nat→Nat→Prop) (β:Env) (L:Loc):bE→Prop
 | .var cs=>∃ c e,w.heap[L.g]? = some (.cells c e (0,0))∧L.o=0∧c.size=cs.length ∧
   ∀ k,k<cs.length→bR w M β (c.getD k undef) (cs.getD k .undef)
 | .row es _=>∃ c e,w.heap[L.g]? = some (.cells c e (0,0))∧L.o+L.n*L.sz≤c.size∧es.length≤L.n ∧
   (∀ i,i<es.length→(es.getD i .undef).cells.length=L.sz) ∧
   ∀ i j,i<es.length→j<L.sz→bR w M β (c.getD (L.o+i*L.sz+j) undef) ((es.getD i .undef).cells.getD j .undef)
 | .map ks vs _=>∃ es clk,w.heap[L.g]? = some (.map es clk)∧es.size=ks.length∧vs.length=ks.length ∧
   (∀ k,k<ks.length→bR w M β (es.getD k default).key (ks.getD k .undef))∧(∀ k,k<ks.length→bR w M β (es.getD k default).val (vs.getD k .undef))∧iK es clk
 | .iter s pos=>w.heap[L.g]? = some (.stringIter s pos)
 | .kZ ks vs seen=>∃ m es clk,w.heap[L.g]? = some (.mapIter (some m) clk (seen.map fun i=>(es.getD i default).born).toArray clk)∧w.heap[m]? = some (.map es clk)∧¬ M m 0∧es.size=ks.length∧vs.length=ks.length ∧
   (∀ k,k<ks.length→bR w M β (es.getD k default).key (ks.getD k .undef))∧(∀ k,k<ks.length→bR w M β (es.getD k default).val (vs.getD k .undef))∧iK es clk∧∀ i∈seen,i<ks.length
 | .loop r=>∃ tmps dr fn,w.heap[L.g]? = some (.loop { state:=r.st.of.1,pending:=r.st.of.2,fn,tmps,params:=r.params,assign:=r.assign,body:=r.body,defers:=dr }) ∧
   tmps.size=r.tm.length∧∀ k,k<r.tm.length→bR w M β (tmps.getD k undef) (r.tm.getD k .undef)
theorem fR.mono {w w':World} {M M':Nat→Nat→Prop} {β β':Env} (hk:dg w M w' M') (hβ:∀ b L,β b=some L→β' b=some L) {L:Loc} {cf:bE}
  (hg:w'.heap[L.g]? = w.heap[L.g]?) (h:fR w M β L cf):fR w' M' β' L cf:=by
 cases cf with
 | var cs=>obtain ⟨c,e,h1,h0,h2,h3⟩:=h;exact ⟨c,e,hg.trans h1,h0,h2,fun k eA=>(h3 k eA).mono hk hβ⟩
 | row es fz=>obtain ⟨c,e,h1,h2,h3,h4,h5⟩:=h;exact ⟨c,e,hg.trans h1,h2,h3,h4,fun i j hi hj=>(h5 i j hi hj).mono hk hβ⟩
 | map ks vs fz=>obtain ⟨es,clk,h1,h2,h3,h4,h5,h6⟩:=h;exact ⟨es,clk,hg.trans h1,h2,h3,fun k eA=>(h4 k eA).mono hk hβ,fun k eA=>(h5 k eA).mono hk hβ,h6⟩
 | iter s pos=>exact hg.trans h
 | kZ ks vs seen=>obtain ⟨m,es,clk,h1,h2,h3,h4,h5,h6,h7,h8⟩:=h;exact ⟨m,es,clk,hg.trans h1,(hk.map _ _ _ h2 h3).1,(hk.map _ _ _ h2 h3).2,h4,h5,fun k eA=>(h6 k eA).mono hk hβ,fun k eA=>(h7 k eA).mono hk hβ,h8⟩
 | loop r=>obtain ⟨t,d,f,h1,h2,h3⟩:=h;exact ⟨t,d,f,hg.trans h1,h2,fun k eA=>(h3 k eA).mono hk hβ⟩
def uZ (base:Nat) (w:World):Prop:=∀ x∈Aj,x.1<base∧∃ v,w.cell? ⟨x.1,x.2.1,none⟩=some v∧x.2.2 v
structure cF (X:Nat→Nat→Prop) (base:Nat) (σ:ai) (β:Env) (w:World):Prop where
 nC:∀ b,σ.length≤b→β b=none
 cf:∀ b cf,σ[b]? = some (some cf)→∃ L,β b=some L∧base≤L.g∧(∀ o, ¬ X L.g o)∧fR w (MT X σ β) β L cf
 inj:∀ b b' cf kG L L',σ[b]? = some (some cf)→σ[b']? = some (some kG)→β b=some L→β b'=some L'→L.g=L'.g→b=b'
 size:base≤w.heap.size
 p6:∀ g o,X g o→g<w.heap.size
 gl:uZ base w
structure Ext (lo:Nat) (σ:ai) (β:Env) (w:World) (σ':ai) (β':Env) (w':World):Prop where
 os:w'.os=w.os
 tape:w'.tape=w.tape
 output:w'.output=w.output
 size:w.heap.size≤w'.heap.size
 cell:∀ g o v,w.cell? ⟨g,o,none⟩=some v→¬ iQ σ β g o→w'.cell? ⟨g,o,none⟩=some v
 block:∀ g,g<w.heap.size→(∀ o, ¬ iQ σ β g o)→w'.heap[g]? = w.heap[g]?
 iC:∀ g o,iQ σ' β' g o→iQ σ β g o∨w.heap.size≤g
 env:∀ b,b<lo→β' b = β b
theorem xI {w:World} {g o:Nat} {v:Value} (h:w.cell? ⟨g,o,none⟩=some v):g<w.heap.size:=World.block_lt_of_cell? w ⟨g,o,none⟩ h
theorem Ext.refl (lo:Nat) (σ:ai) (β:Env) (w:World):Ext lo σ β w σ β w :=
 ⟨rfl,rfl,rfl,ah _,fun _ _ _ h _=>h,fun _ _ _=>rfl,fun _ _ h=>.inl h,fun _ _=>rfl⟩
theorem Ext.trans {lo:Nat} {σ dh iO:ai} {β eS mI:Env} {w w1 w2:World} (h:Ext lo σ β w dh eS w1) (k:Ext lo dh eS w1 iO mI w2):Ext lo σ β w iO mI w2:=by
 refine ⟨k.os.trans h.os,k.tape.trans h.tape,k.output.trans h.output,cR h.size k.size,?_,?_,?_,fun b hb=>(k.env b hb).trans (h.env b hb)⟩
 ·intro g o v hc hn
  have h1:=h.cell g o v hc hn
  refine k.cell g o v h1 fun hm=>?_
  rcases h.iC g o hm with h2 | h2
  ·exact hn h2
  ·have:=xI hc;omega
 ·intro g hg hn
  have h1:=h.block g hg hn
  rw [← h1]
  refine k.block g (cS hg h.size) fun o hm=>?_
  rcases h.iC g o hm with h2 | h2
  ·exact hn o h2
  ·omega
 ·intro g o hm
  rcases k.iC g o hm with h2 | h2
  ·exact h.iC g o h2
  ·exact .inr (cR h.size h2)
theorem Ext.lower {lo lo':Nat} {σ σ':ai} {β β':Env} {w w':World} (h:Ext lo σ β w σ' β' w') (hl:lo'≤lo):Ext lo' σ β w σ' β' w' :=
 ⟨h.os,h.tape,h.output,h.size,h.cell,h.block,h.iC,fun b hb=>h.env b (cS hb hl)⟩
theorem cF.AO {X:Nat→Nat→Prop} {base:Nat} {σ:ai} {β:Env} {w:World} (h:cF X base σ β w) {g clk:Nat} {es:Array MapEntry}
  (hg:w.heap[g]? = some (.map es clk)) (hn:¬ iQ σ β g 0):∀ o, ¬ iQ σ β g o:=by
 rintro o ⟨b,cf,L,h1,h2,rfl,h4⟩
 refine hn ⟨b,cf,L,h1,h2,rfl,?_⟩
 obtain ⟨L',uS,_,_,j8⟩:=h.cf b cf h1
 obtain rfl:L=L':=aM (h2.symm.trans uS)
 cases cf with
 | row es fz=>obtain ⟨c,e,h5,_⟩:=j8;rw [hg] at h5;cases h5
 | map ks vs fz=>exact h4
 | var cs=>trivial
 | iter s p=>trivial
 | kZ ks vs seen=>trivial
 | loop r=>trivial
theorem Ext.keeps {X:Nat→Nat→Prop} {base lo:Nat} {σ σ':ai} {β β':Env} {w w':World} (hr:cF X base σ β w) (h:Ext lo σ β w σ' β' w') :
  dg w (MT X σ β) w' (MT X σ' β'):=by
 constructor
 ·intro g o v hc hn
  have hx:¬ X g o:=fun hx=>hn (.inl hx)
  have hm:¬ iQ σ β g o:=fun hm=>hn (.inr hm)
  refine ⟨h.cell g o v hc hm,?_⟩
  rintro (sl | Az)
  ·exact hx sl
  ·rcases h.iC g o Az with h2 | h2
   ·exact hm h2
   ·have:=xI hc;omega
 ·intro g es c hg hn
  have hx:¬ X g 0:=fun hx=>hn (.inl hx)
  have hm:¬ iQ σ β g 0:=fun hm=>hn (.inr hm)
  have bD:g<w.heap.size:=(aL.1 hg).1
  refine ⟨(h.block g bD (hr.AO hg hm)).trans hg,?_⟩
  rintro (sl | Az)
  ·exact hx sl
  ·rcases h.iC g 0 Az with h2 | h2
   ·exact hm h2
   ·omega
theorem cF.CJ {X:Nat→Nat→Prop} {base lo:Nat} {σ σ':ai} {β β':Env} {w w':World} (hr:cF X base σ β w) (h:Ext lo σ β w σ' β' w'):uZ base w':=fun x hx=>by
 obtain ⟨g1,v,g2,g3⟩:=hr.gl x hx
 refine ⟨g1,v,h.cell _ _ _ g2 ?_,g3⟩
 rintro ⟨b,cf,L,m1,m2,m3,_⟩
 obtain ⟨L',q1,q2,_⟩:=hr.cf b cf m1
 obtain rfl:=aM (q1.symm.trans m2)
 omega
theorem uZ.same {base:Nat} {w w':World} (hg:uZ base w) (h:∀ g,g<w.heap.size→w'.heap[g]? = w.heap[g]?):uZ base w':=fun x hx=>by
 obtain ⟨g1,v,g2,g3⟩:=hg x hx
 exact ⟨g1,v,by rw [World.cell?_of_block (w:=w) (a:=⟨x.1,x.2.1,none⟩) (h x.1 (xI g2))];exact g2,g3⟩
inductive KA where
 | bool | int (k:IntKind) | str | ptr | slice | array (n:Nat) | map | struct | func | iface | other
 deriving DecidableEq
def i_:TypeDesc→KA
 | .bool=>.bool | .int k=>.int k | .string=>.str | .pointer _=>.ptr | .slice _=>.slice | .array n _=>.array n
 | .map _ _=>.map | .struct _=>.struct | .func _ _ _=>.func | .interface _=>.iface | _=>.other
def qD:TypeDesc→Bool
 | .struct _ | .array _ _=>true
 | _=>false
def ofValue:Value→ae
 | .bool b=>.bool b
 | .int k n=>.int k n
 | .string s=>.str s
 | .pointer none=>.bM
 | .slice none 0 0=>.aU
 | .map none=>.cy
 | .nilFunc=>.az
 | .nilIface=>.fE
 | v=>.nM v
def sA (z:Value):List ae:=z.cells.toList.map ofValue
structure eI where
 sz:Nat
 ag:Bool
 bytes:Nat
 zero:List ae
 key:KA
def A0 (ag:Bool):Value→Bool
 | .agg _=>ag
 | .tuple _=>false
 | _=>!ag
def aC (P:Program) (t:TypeId):Option eI :=
 match P.info? t,P.underlying t with
 | some i,some u=>match i.zero with
  | some z=>if A0 (qD u) z=true∧z.cells.size=i.size then some { sz:=i.size,ag:=qD u,bytes:=i.bytes,zero:=sA z,key:=i_ u } else none
  | none=>none
 | _,_=>none
structure jH where
 lay:eI
 oO:List (Nat×Option eI)
 elem:Option eI
 Dy:Option eI
def bJ (P:Program) (t:TypeId):Option jH :=
 match aC P t,P.underlying t with
 | some l,some u=>some
  {lay:=l
   oO:=match u with | .struct fs=>fs.toList.map fun f=>(f.offset,aC P f.type) | _=>[]
   elem:=match u with | .slice e=>aC P e | .array _ e=>aC P e | .map _ e=>aC P e | _=>none
   Dy:=match u with | .map k _=>aC P k | _=>none }
 | _,_=>none
def jH.kind (T:jH):KA:=T.lay.key
def iB (P:Program) (t:TypeId):Option KA:=(aC P t).map (·.key)
def sm:ae→KA
 | .int k _=>.int k
 | .str _=>.str
 | .bool _=>.bool
 | _=>.other
def KA.plain:KA→Bool
 | .int _ | .str | .bool=>true
 | _=>false
def pz (P:Program):List Field→Nat→List KA→Bool
 | [],_,[]=>true
 | f :: fs, i, k :: ks => f.offset == i && f.name != "_" && k.plain && decide ((P.underlying f.type).map i_ = some k) && pz P fs (i + 1) ks
 | _,_,_=>false
def tY (P:Program) (t:TypeId) (ks:List KA):Bool :=
 match P.underlying t with
 | some (.struct fs)=>!P.eqGuardType P.depth t && !P.stoodInHeld t&&pz P fs.toList 0 ks
 | _=>false
def ae.cI:ae→Bool
 | .undef | .agg _ | .dy _ | .nM _=>false
 | _=>true
def jD (l:eI) (cs:List ae):Option ae :=
 if l.ag then (if l.sz≤cs.length then some (.agg (cs.take l.sz)) else none) else cs.head?
def zeroV (l:eI):ae:=if l.ag then .agg l.zero else l.zero.headD .undef
def cr:List ae→Nat→List ae→List ae
 | cs,_,[]=>cs
 | cs,o,v :: vs=>cr (cs.set o v) (o+1) vs
def b_ (σ:ai) (nm:Nat) (b:bE):ai :=
 if nm < σ.length then σ.set nm (some b) else σ++List.replicate (nm - σ.length) none++[some b]
def bF (σ:ai) (b:Nat):Option bE:=(σ[b]?).join
def iT (σ:ai) (l:eI):ae→Option ae
 | .ptr b off=>match bF σ b with
  | some (.var cs)=>jD l (cs.drop off)
  | _=>none
 | .rp b i f=>match bF σ b with
  | some (.row es _)=>if i<es.length then jD l ((es.getD i .undef).cells.drop f) else none
  | _=>none
 | .pp cs=>jD l cs
 | _=>none
def jj (ag:Bool) (cs:List ae):ae:=if ag then .agg cs else cs.headD .undef
def cL:ae→Bool
 | .agg _=>true
 | _=>false
def mg (σ:ai) (l:eI) (p v:ae):Option ai :=
 if v.cells.length=l.sz∧v.cells.all ae.cI then
  match p with
  | .ptr b off=>match bF σ b with
   | some (.var cs)=>if off+l.sz≤cs.length then some (b_ σ b (.var (cr cs off v.cells))) else none
   | _=>none
  | .rp b i f=>match bF σ b with
   | some (.row es fz) =>
    if fz≤i∧i<es.length∧f+l.sz≤(es.getD i .undef).cells.length∧0<l.sz then
     some (b_ σ b (.row (es.set i (jj (cL (es.getD i .undef)) (cr (es.getD i .undef).cells f v.cells))) fz))
    else none
   | _=>none
  | _=>none
 else none
def oX:ae→ae→ae→Option ae
 | .bool c, .bool x, .bool y=>some (.bool (if c then x else y))
 | .bool c,x,y=>some (if c then x else y)
 | _,_,_=>none
def fb:ae→ae→Bool
 | .int _ a, .int _ b=>a==b
 | .str a, .str b=>a.toList==b.toList
 | .bool a, .bool b=>a==b
 | _,_=>false
def kj:List ae→List ae→Bool
 | [],[]=>true
 | a :: ck,b :: bs=>fb a b&&kj ck bs
 | _,_=>false
def sameKind:ae→ae→Bool
 | .int k _, .int k' _=>k==k'
 | .str _, .str _=>true
 | .bool _, .bool _=>true
 | _,_=>false
def iA (op:BinOp) (k:IntKind) (a b:Int):Option ae :=
 match op with
 | .add=>some (.int k (k.wrap (a+b)))
 | .sub=>some (.int k (k.wrap (a - b)))
 | .mul=>some (.int k (k.wrap (a*b)))
 | .quo=>if b≠0 then some (.int k (k.wrap (a.tdiv b))) else none
 | .rem=>if b≠0 then some (.int k (a.tmod b)) else none
 | .eql=>some (.bool (decide (a=b)))
 | .neq=>some (.bool (decide (a≠b)))
 | .lss=>some (.bool (decide (a<b)))
 | .leq=>some (.bool (decide (a≤b)))
 | .gtr=>some (.bool (decide (b<a)))
 | .geq=>some (.bool (decide (b≤a)))
 | _=>none
def mh (op:BinOp) (a b:ByteArray):Option ae :=
 match op with
 | .add=>if a.size+b.size≤1000000000 then some (.str (a++b)) else none
 | .eql=>some (.bool (a.toList==b.toList))
 | .neq=>some (.bool !(a.toList==b.toList))
 | .lss=>some (.bool (Op.bytesLess a.toList b.toList))
 | .leq=>some (.bool (Op.bytesLess a.toList b.toList||a.toList==b.toList))
 | .gtr=>some (.bool !(Op.bytesLess a.toList b.toList||a.toList==b.toList))
 | .geq=>some (.bool !(Op.bytesLess a.toList b.toList))
 | _=>none
def ny:ae→Option Bool
 | .bM=>some false
 | .ptr _ _ | .rp _ _ _ | .pp _=>some true
 | _=>none
def ln:ae→Option Bool
 | .cy=>some false
 | .map _ | .pm _ _=>some true
 | _=>none
def kx:ae→Option Bool
 | .fE=>some false
 | .iface _ _=>some true
 | _=>none
def jW:ae→Option Bool
 | .az=>some false
 | .fn _ _ _=>some true
 | _=>none
def qo (P:Program) (t:TypeId):Bool :=
 match P.underlying t with
 | some (.interface ms)=>ms.isEmpty
 | _=>false
def tZ (P:Program) (t:TypeId) (x y:ae):Option Bool :=
 match iB P t,x,y with
 | some .bool, .bool a, .bool b=>some (a==b)
 | some .ptr,x,y=>match ny x,ny y with
  | some false,some b=>some (!b)
  | some true,some false=>some false
  | _,_=>none
 | some .map,x, .cy=>(ln x).map (!·)
 | some .iface,x,y=>match kx x,kx y with
  | some true,some false | some false,some true=>some false
  | some false,some false=>if qo P t=true then some true else none
  | _,_=>none
 | some .func,x,y=>match jW x,jW y with
  | some false,some b=>some (!b)
  | some true,some false=>some false
  | _,_=>none
 | some .struct, .agg xs, .agg ys=>if xs.map sm=ys.map sm∧tY P t (xs.map sm)=true then some (kj xs ys) else none
 | _,_,_=>none
def lN (P:Program) (op:BinOp) (t:TypeId) (x y:ae):Option ae :=
 match op with
 | .eql=>(tZ P t x y).map .bool
 | .neq=>(tZ P t x y).map fun b=>.bool !b
 | _=>none
def qE (P:Program) (op:BinOp) (t:TypeId) (x y:ae):Option ae :=
 match x,y with
 | .int k a, .int k' b=>if k=k' then iA op k a b else none
 | .str a, .str b=>mh op a b
 | x,y=>lN P op t x y
def j3:Operand→Bool
 | .const (.slice none 0 0)=>true
 | _=>false
def rT (neg:Bool):ae→Option ae
 | .aU=>some .gZ
 | .ps _ es=>some (if es.length=0 then .gZ else .bool neg)
 | .os _ _ n _=>some (if n=0 then .gZ else .bool neg)
 | .oc _ _ n _ _=>some (if n=0 then .gZ else .bool neg)
 | _=>none
def uA (P:Program) (op:BinOp) (t:TypeId) (x:ae):Option ae :=
 match iB P t,op with
 | some .slice, .eql=>rT false x
 | some .slice, .neq=>rT true x
 | _,_=>none
def xL (P:Program) (op:BinOp) (t:TypeId) (x y:ae) (nl:Bool):Option ae:=if nl then uA P op t x else qE P op t x y
def EO (op:UnOp):ae→Option ae
 | .bool b=>match op with
  | .not=>some (.bool !b)
  | _=>none
 | .int k n=>match op with
  | .neg=>some (.int k (k.wrap (0 - n)))
  | _=>none
 | _=>none
def jB (lo hi:Nat):ae→Option Nat
 | .int _ i=>if (lo:Int)≤i∧i≤hi then some i.toNat else none
 | _=>none
def ng (k:KA) (σ:ai) (x:ae):Option Nat :=
 match k,x with
 | .str, .str s=>some s.size
 | .slice, .ps _ es=>some es.length
 | .slice, .aU=>some 0
 | .slice, .os _ _ n _=>some n
 | .slice, .oc _ _ n _ _=>some n
 | .map, .cy=>some 0
 | .map, .pm ks _=>some ks.length
 | .map, .map b=>match bF σ b with
  | some (.map ks _ _)=>some ks.length
  | _=>none
 | _,_=>none
def eM (σ:ai) (sz:Nat):ae→Option (List ae)
 | .ps s es=>if s=sz then some es else none
 | .aU=>some []
 | .os b off n s=>if s=sz then match bF σ b with
  | some (.row es _)=>if off+n≤es.length then some ((es.drop off).take n) else none
  | _=>none
  else none
 | .oc b off n _ s=>if s=sz then match bF σ b with
  | some (.row es _)=>if off+n≤es.length then some ((es.drop off).take n) else none
  | _=>none
  else none
 | _=>none
def bytesOf (s:ByteArray):List ae:=s.data.toList.map fun b=>.int .u8 b.toNat
def wU (n:Nat):Option ae→Option Nat
 | some h=>jB 0 n h
 | none=>some n
def C2 (n c:Nat):Option ae→Option Nat
 | some h=>jB 0 c h
 | none=>some n
def rh (h:Nat):Option ae→Option Nat
 | some l=>jB 0 h l
 | none=>some 0
def jH.uR (T:jH):Option Nat:=T.elem.map eI.sz
def iN (T:jH) (x:ae) (lo hi mx:Option ae):Option ae :=
 match mx with
 | some m=>match x with
  | .oc b off n c sz=>if T.kind = .slice∧T.uR=some sz then (jB 0 c m).bind fun m=>(hi.bind (jB 0 m)).bind fun h=>(rh h lo).bind fun l=>some (.oc b (off+l) (h - l) (m - l) sz) else none
  | _=>none
 | none =>
  match x with
  | .oc b off n c sz=>if T.kind = .slice∧T.uR=some sz then (C2 n c hi).bind fun h=>(rh h lo).bind fun l=>some (.oc b (off+l) (h - l) (c - l) sz) else none
  | .str s=>if T.kind = .str then (wU s.size hi).bind fun h=>(rh h lo).bind fun l=>some (.str (s.extract l h)) else none
  | .ps sz es=>if T.kind = .slice∧T.uR=some sz then (wU es.length hi).bind fun h=>(rh h lo).bind fun l=>some (.ps sz ((es.drop l).take (h - l))) else none
  | .os b off n sz=>if T.kind = .slice∧T.uR=some sz then (wU n hi).bind fun h=>(rh h lo).bind fun l=>some (.os b (off+l) (h - l) sz) else none
  | .aU=>if T.kind = .slice∧T.elem.isSome then (wU 0 hi).bind fun h=>(rh h lo).bind fun _=>some .aU else none
  | _=>none
def fg (T:jH) (x i:ae):Option ae :=
 match i with
 | .int _ i =>
  match x with
  | .os b off n sz=>if T.kind = .slice∧T.uR=some sz∧0≤i∧i<n then some (.rp b (off+i.toNat) 0) else none
  | .oc b off n _ sz=>if T.kind = .slice∧T.uR=some sz∧0≤i∧i<n then some (.rp b (off+i.toNat) 0) else none
  | .ps sz es=>if T.kind = .slice∧T.uR=some sz∧0≤i∧i<es.length then some (.pp (es.getD i.toNat .undef).cells) else none
  | .ptr b off=>match T.kind,T.elem with
   | .array n,some e=>if 0≤i∧i<n then some (.ptr b (off+i.toNat*e.sz)) else none
   | _,_=>none
  | _=>none
 | _=>none
def wx (l:eI) (cs:List ae) (off:Nat):Option ae:=jD l (cs.drop off)
def pJ (T:jH) (x i:ae):Option ae :=
 match x,i with
 | .agg cs, .int _ i=>match T.kind,T.elem with
  | .array n,some e=>if 0≤i∧i<n then wx e cs (i.toNat*e.sz) else none
  | _,_=>none
 | .str s, .int _ i=>if h:(0≤i∧i.toNat<s.size)∧T.kind = .str then some (.int .u8 (s[i.toNat]'h.1.2).toNat) else none
 | _,_=>none
def jL (T:jH) (x:ae) (i:Nat):Option ae :=
 match T.kind,T.oO[i]? with
 | .struct,some (off,some l)=>if l.sz≠0 then
   match x with
   | .ptr b o=>some (.ptr b (o+off))
   | .rp b i f=>some (.rp b i (f+off))
   | .pp cs=>some (.pp (cs.drop off))
   | _=>none
  else none
 | _,_=>none
def pD (T:jH) (x:ae) (i:Nat):Option ae :=
 match T.kind,T.oO[i]?,x with
 | .struct,some (off,some l), .agg cs=>wx l cs off
 | _,_,_=>none
def nc (T:jH) (k:ae):Bool :=
 match (T.Dy.map eI.key:Option KA),k with
 | some (KA.int k'), .int k _=>k==k'
 | some KA.str, .str _=>true
 | _,_=>false
def e8 (k:ae):List ae→Nat→Option Nat
 | [],_=>none
 | x :: xs,i=>if fb k x then some i else e8 k xs (i+1)
def eQ (ks vs:List ae) (z k:ae) (ok:Bool):ae :=
 match e8 k ks 0 with
 | some i=>if ok then .dy [vs.getD i .undef, .bool true] else vs.getD i .undef
 | none=>if ok then .dy [z, .bool false] else z
def ll (σ:ai) (T:jH) (x k:ae) (ok:Bool):Option ae :=
 match T.kind,T.elem with
 | .map,some e =>
  if nc T k then
   match x with
   | .cy=>some (eQ [] [] (zeroV e) k ok)
   | .pm ks vs=>if ks.all (sameKind k) then some (eQ ks vs (zeroV e) k ok) else none
   | .map b=>match bF σ b with
    | some (.map ks vs _)=>if ks.all (sameKind k) then some (eQ ks vs (zeroV e) k ok) else none
    | _=>none
   | _=>none
  else none
 | _,_=>none
def iM (ks vs:List ae) (k v:ae):List ae×List ae :=
 match e8 k ks 0 with
 | some i=>(ks,vs.set i v)
 | none=>(ks++[k],vs++[v])
def gk (σ:ai) (T:jH) (m k v:ae):Option ai :=
 match T.kind,T.elem,m with
 | .map,some e, .map b=>match bF σ b with
  | some (.map ks vs false)=>if nc T k&&ks.all (sameKind k)&&decide (v.cells.length=e.sz) then some (b_ σ b (.map (iM ks vs k v).1 (iM ks vs k v).2 false)) else none
  | _=>none
 | _,_,_=>none
def kf (oO:List (Nat×Option eI)) (ρ:Operand→ae):List ae→List (Nat×Operand)→Option (List ae)
 | cs,[]=>some cs
 | cs,(i,x) :: rest=>match oO[i]? with
  | some (off,some l)=>if (ρ x).cells.length=l.sz∧off+l.sz≤cs.length∧(ρ x).cells.all ae.cI=true then kf oO ρ (cr cs off (ρ x).cells) rest else none
  | _=>none
def og (T:jH) (ρ:Operand→ae) (parts:List (Nat×Operand)):Option ae :=
 match T.kind,T.elem with
 | .struct,_=>if T.oO.all (·.2.isSome) then (kf T.oO ρ T.lay.zero parts).map .agg else none
 | .array n,some e=>(kf ((List.range n).map fun i=>(i*e.sz,some e)) ρ T.lay.zero parts).map .agg
 | _,_=>none
def pQ (e:eI) (ρ:Operand→ae):Nat→List (Nat×Operand)→Option (List ae)
 | _,[]=>some []
 | k,(i,x) :: rest=>if i=k∧(ρ x).cells.length=e.sz∧cL (ρ x)=e.ag∧(ρ x).cells.all ae.cI then (pQ e ρ (k+1) rest).map ((ρ x) :: ·) else none
def cK (bytes:Nat):Nat:=if bytes≤32 then 6000000000000 else 1000000000
theorem SV (b:Nat):cK b≤6000000000000:=by unfold cK;split<;>omega
theorem Rk {n b:Nat} (h:n≤cK b) (hb:b≤65536):(n+n / 4+192)*b≤281474976710656:=by
 unfold cK at h
 split at h
 ·exact cR (Nat.mul_le_mul (show n+n / 4+192≤7500000000192 by omega) (by assumption)) (by decide)
 ·exact cR (Nat.mul_le_mul (show n+n / 4+192≤1250000192 by omega) hb) (by decide)
def l5 (σ:ai) (nm:Nat) (e:eI) (s:ae) (xs:List ae):Option (ae×ai) :=
 if xs.all (fun x=>x.cells.length==e.sz&&x.cells.all ae.cI)∧0<e.sz∧e.bytes≤65536∧e.zero.length=e.sz then
  match s with
  | .aU=>if xs.length=0 then some (.aU,σ) else if xs.length≤cK e.bytes then some (.os nm 0 xs.length e.sz,b_ σ nm (.row xs 0)) else none
  | .os b off n sz=>match bF σ b with
   | some (.row es fz) =>
    if sz=e.sz∧fz≤off+n∧off+n≤es.length∧n+xs.length≤cK e.bytes then
     some (.os nm 0 (n+xs.length) sz,b_ (σ.set b none) nm (.row ((es.drop off).take n++xs) (fz - off)))
    else none
   | _=>none
  | _=>none
 else none
def nx (σ:ai) (nm:Nat) (e:eI) (b off n c sz:Nat) (xs:List ae):Option (ae×ai) :=
 if xs.all (fun x=>x.cells.length==e.sz&&x.cells.all ae.cI)∧0<e.sz∧e.bytes≤65536∧e.zero.length=e.sz then
  match bF σ b with
  | some (.row es fz) =>
   if sz=e.sz∧off+n≤es.length then
    if n+xs.length≤c then (if fz≤off+n∧off+n+xs.length≤es.length then some (.oc b off (n+xs.length) c sz,b_ σ b (.row (cr es (off+n) xs) fz)) else none)
    else if n+xs.length≤cK e.bytes then some (.os nm 0 (n+xs.length) sz,b_ σ nm (.row ((es.drop off).take n++xs) 0)) else none
   else none
  | _=>none
 else none
def ef (σ:ai) (nm:Nat) (e:eI) (s:ae) (xs:List ae):Option (ae×ai) :=
 match s with
 | .oc b off n c sz=>nx σ nm e b off n c sz xs
 | s=>l5 σ nm e s xs
def kh (σ:ai) (sz:Nat) (s:ae) (xs:List ae):Option ai :=
 match s with
 | .oc b off n _ xc | .os b off n xc=>match bF σ b with
  | some (.row es fz)=>if xc=sz∧0<sz∧fz≤off∧xs.length≤n∧off+n≤es.length∧xs.all (fun x=>x.cells.length==sz&&x.cells.all ae.cI)=true then some (b_ σ b (.row (cr es off xs) fz)) else none
  | _=>none
 | _=>none
def km:ae→Option Nat
 | .aU=>some 0
 | .os _ _ n _=>some n
 | .oc _ _ n _ _=>some n
 | .ps _ es=>some es.length
 | _=>none
def ve:ae→Option Nat
 | .aU=>some 0
 | .oc _ _ _ c _=>some c
 | _=>none
def jP (σ:ai) (nm:Nat) (T:jH) (l c:ae):Option (ae×ai) :=
 match T.kind,T.elem,l,c with
 | .slice,some e, .int .i64 l, .int .i64 c =>
  if 0≤l∧l≤c∧c≤1000000000∧e.bytes≤65536∧0<e.sz∧e.zero.length=e.sz then some (.os nm 0 l.toNat e.sz,b_ σ nm (.row (List.replicate l.toNat (zeroV e)) 0)) else none
 | _,_,_,_=>none
def fy (f:Int→Int→Int):ae→List ae→Option ae
 | x,[]=>some x
 | .int k a, .int _ b :: rest=>fy f (.int k (f a b)) rest
 | _,_=>none
def e7 (P:Program) (σ:ai) (nm:Nat) (b:Builtin) (ts:List TypeId) (args:List ae):Option (ae×ai) :=
 match b,ts,args with
 | .len,[t],[x]=>(bJ P t).bind fun T=>match T.kind with
  | .array n=>some (.int .i64 n,σ)
  | .str | .slice | .map=>(ng T.kind σ x).map fun (n:Nat)=>(ae.int .i64 (n:Int),σ)
  | _=>none
 | .append,[t,u],[s,x]=>(bJ P t).bind fun T=>(bJ P u).bind fun U=>match T.kind,T.elem,U.kind with
  | .slice,some e, .slice=>(eM σ e.sz x).bind fun xs=>ef σ nm e s xs
  | .slice,some e, .str=>match x with
   | .str y=>if e.sz=1 then ef σ nm e s (bytesOf y) else none
   | _=>none
  | .slice,some e, .int _=>match x with
   | .int .i64 n=>if 0≤n∧n≤1000000000∧IntKind.i64.wrap n=n then ef σ nm e s (List.replicate n.toNat (zeroV e)) else none
   | _=>none
  | _,_,_=>none
 | .cap,[t],[x]=>(bJ P t).bind fun T=>match T.kind with
  | .slice=>(ve x).map fun (n:Nat)=>(ae.int .i64 (n:Int),σ)
  | _=>none
 | .clear,[t],[x]=>(bJ P t).bind fun T=>match T.kind,T.elem with
  | .slice,some e=>(km x).bind fun n=>if n=0 then some (.dy [],σ) else (kh σ e.sz x (List.replicate n (zeroV e))).map (.dy [], ·)
  | _,_=>none
 | .copy,[t,u],[d,x]=>(bJ P t).bind fun T=>(bJ P u).bind fun U=>match T.kind,T.elem,U.kind with
  | .slice,some e, .slice=>(km d).bind fun n=>(eM σ e.sz x).bind fun xs=>(kh σ e.sz d (xs.take n)).map (ae.int .i64 ((xs.take n).length:Int), ·)
  | _,_,_=>none
 | .max,_,x :: rest=>(fy (fun a b=>if a<b then b else a) x rest).map (·,σ)
 | .min,_,x :: rest=>(fy (fun a b=>if b<a then b else a) x rest).map (·,σ)
 | _,_,_=>none
def oM (P:Program) (s d:TypeId) (x:ae):Option ae :=
 match iB P s,iB P d,x with
 | some _,some (.int k), .int _ n=>some (.int k (k.wrap n))
 | some .str,some .str, .str y=>some (.str y)
 | _,_,_=>none
def iW (P:Program) (x:ae) (asserted:TypeId) (ok:Bool):Option ae :=
 match bJ P asserted,x with
 | some T, .iface t v=>match T.kind with
  | .iface=>none
  | _=>if t=asserted then some (if ok then .dy [v, .bool true] else v) else if ok then some (.dy [zeroV T.lay, .bool false]) else none
 | some T, .fE=>match T.kind with
  | .iface=>none
  | _=>if ok then some (.dy [zeroV T.lay, .bool false]) else none
 | _,_=>none
def m_ (σ:ai):ae→Option (ae×ai)
 | .it b=>match bF σ b with
  | some (.iter s pos)=>if pos<s.size then some (.dy [.bool true, .int .i64 pos, .int .i32 (Utf8.decode s pos).1],b_ σ b (.iter s (pos+(Utf8.decode s pos).2))) else some (.dy [.bool false],σ)
  | _=>none
 | _=>none
def oo (σ:ai):ae→Option (ae×ai)
 | .it b=>match bF σ b with
  | some (.kZ ks vs seen)=>match seen.getLast? with
   | some i=>some (.dy [ks.getD i .undef,vs.getD i .undef],σ)
   | none=>none
  | _=>none
 | _=>none
def cY (P:Program) (σ:ai) (nm:Nat) (ρ:Operand→ae):Op→Option (ae×ai)
 | .move x=>some (ρ x,σ)
 | .assign x=>some (ρ x,σ)
 | .pick c a b=>(oX (ρ c) (ρ a) (ρ b)).map (·,σ)
 | .alloc t=>(aC P t).bind fun l=>some (.ptr nm 0,b_ σ nm (.var l.zero))
 | .box t x=>(aC P t).bind fun l=>if (ρ x).cells.length=l.sz∧(ρ x).cells.all ae.cI then some (.ptr nm 0,b_ σ nm (.var (ρ x).cells)) else none
 | .build t parts=>(bJ P t).bind fun T=>(og T ρ parts.toList).map (·,σ)
 | .buildSlice t n parts=>(bJ P t).bind fun T=>T.elem.bind fun e=>(pQ e ρ 0 parts.toList).bind fun es =>
   if es.length=n∧T.kind = .slice∧n*e.sz≤16777216∧e.zero.length=e.sz∧0<e.sz then some (.os nm 0 n e.sz,b_ σ nm (.row es 0)) else none
 | .load t x=>(aC P t).bind fun l=>(iT σ l (ρ x)).map (·,σ)
 | .store t x v=>(aC P t).bind fun l=>(mg σ l (ρ x) (ρ v)).map (.undef, ·)
 | .nilCheck x=>match ρ x with
  | .ptr b o=>some (.ptr b o,σ)
  | .rp b i f=>some (.rp b i f,σ)
  | .pp cs=>some (.pp cs,σ)
  | .fn f a c=>some (.fn f a c,σ)
  | _=>none
 | .binOp op t x y _=>(xL P op t (ρ x) (ρ y) (j3 y)).map (·,σ)
 | .unOp op _ x=>(EO op (ρ x)).map (·,σ)
 | .convert s d x=>(oM P s d (ρ x)).map (·,σ)
 | .makeInterface t x=>match iB P t with
  | some .iface=>none
  | some _=>some (.iface t (ρ x),σ)
  | none=>none
 | .makeFunc (.func f) first captured=>some (.fn f (first.toList.map ρ) (captured.toList.map ρ),σ)
 | .makeMap t none=>some (.map nm,b_ σ nm (.map [] [] false))
 | .makeSlice t l c=>(bJ P t).bind fun T=>jP σ nm T (ρ l) (ρ c)
 | .slice t x lo hi mx=>(bJ P t).bind fun T=>(iN T (ρ x) (lo.map ρ) (hi.map ρ) (mx.map ρ)).map (·,σ)
 | .fieldAddr t x i=>(bJ P t).bind fun T=>(jL T (ρ x) i).map (·,σ)
 | .field t x i=>(bJ P t).bind fun T=>(pD T (ρ x) i).map (·,σ)
 | .indexAddr t x i=>(bJ P t).bind fun T=>(fg T (ρ x) (ρ i)).map (·,σ)
 | .index t x i=>(bJ P t).bind fun T=>(pJ T (ρ x) (ρ i)).map (·,σ)
 | .lookup t x i ok=>(bJ P t).bind fun T=>(ll σ T (ρ x) (ρ i) ok).map (·,σ)
 | .mapUpdate t m k v=>(bJ P t).bind fun T=>(gk σ T (ρ m) (ρ k) (ρ v)).map (.undef, ·)
 | .insert t m k v=>(bJ P t).bind fun T=>(gk σ T (ρ m) (ρ k) (ρ v)).map (.undef, ·)
 | .range t x=>(bJ P t).bind fun T=>match T.kind,ρ x with
  | .str, .str s=>some (.it nm,b_ σ nm (.iter s 0))
  | .map, .pm ks vs=>some (.it nm,b_ σ nm (.kZ ks vs []))
  | _,_=>none
 | .entry x=>oo σ (ρ x)
 | .next it true=>m_ σ (ρ it)
 | .typeAssert x _ u ok=>(iW P (ρ x) u ok).map (·,σ)
 | .extract x i=>match ρ x with
  | .dy vs=>(vs[i]?).map (·,σ)
  | _=>none
 | .call { callee:=.builtin b,args,argTypes }=>e7 P σ nm b argTypes.toList (args.toList.map ρ)
 | _=>none
structure St where
 tm:List ae
 σ:ai
def ev (tm:List ae):Operand→ae
 | .tmp t=>tm.getD t .undef
 | .const v=>ofValue v
 | .global g=>.nM (.pointer (some ⟨g,0,none⟩))
 | .func f=>.fn f [] []
def put (tm:List ae) (dst:Option Tmp) (v:ae):List ae :=
 match dst with
 | some d=>tm.set d v
 | none=>tm
theorem Ec {X:Nat→Nat→Prop} {base:Nat} {σ σ':ai} {β β':Env} {w w':World} (hr:cF X base σ β w) (nm:Nat) (L':Loc) (kG:bE)
  (Dw : σ'[nm]? = some (some kG))
  (iZ:∀ c x,c≠nm→σ'[c]? = some (some x)→σ[c]? = some (some x)∧∀ Lc,β c=some Lc→Lc.g≠L'.g)
  (hlen : σ.length≤σ'.length)
  (vG : β' nm=some L') (vH:∀ c,c≠nm→β' c = β c) (NR : β nm=none∨β nm=some L')
  (yq:w'.os=w.os) (q_:w'.tape=w.tape) (mH:w'.output=w.output) (oT:w.heap.size≤w'.heap.size)
  (qV:∀ g,g<w.heap.size→g≠L'.g→w'.heap[g]? = w.heap[g]?)
  (m0:∀ off v,w.cell? ⟨L'.g,off,none⟩=some v→¬ iQ σ β L'.g off→w'.cell? ⟨L'.g,off,none⟩=some v)
  (xZ:L'.g<w.heap.size→(∀ o, ¬ iQ σ β L'.g o)→w'.heap[L'.g]? = w.heap[L'.g]?)
  (Dg:∀ off,kG.mut L' off→iQ σ β L'.g off∨w.heap.size≤L'.g)
  (hX:∀ o, ¬ X L'.g o) (ug:base≤L'.g) :
  Ext 0 σ β w σ' β' w'∧dg w (MT X σ β) w' (MT X σ' β')∧(∀ b L,β b=some L→β' b=some L) ∧
   (fR w' (MT X σ' β') β' L' kG→cF X base σ' β' w'):=by
 have Dn:∀ b L,β b=some L→β' b=some L:=by
  intro b L hb
  by_cases e:b=nm
  ·subst e
   rcases NR with h | h
   ·rw [h] at hb;cases hb
   ·rw [vG,← h,hb]
  ·rw [vH b e,hb]
 have ot:∀ g o,iQ σ' β' g o→iQ σ β g o∨w.heap.size≤g:=by
  rintro g o ⟨b,cf,L,h1,h2,rfl,h4⟩
  by_cases e:b=nm
  ·subst e
   obtain rfl:kG=cf:=aM (aM (Dw.symm.trans h1))
   obtain rfl:L'=L:=aM (vG.symm.trans h2)
   exact Dg o h4
  ·exact .inl ⟨b,cf,L,(iZ b cf e h1).1,(vH b e).symm.trans h2,rfl,h4⟩
 have pI:Ext 0 σ β w σ' β' w':=by
  refine ⟨yq,q_,mH,oT,?_,?_,ot,fun b hb=>absurd hb (Nat.not_lt_zero _)⟩
  ·intro g o v hc hn
   by_cases e:g=L'.g
   ·subst e;exact m0 o v hc hn
   ·have:=qV g (xI hc) e
    rw [World.cell?_of_block (w:=w) (a:=⟨g,o,none⟩) this];exact hc
  ·intro g hg hn
   by_cases e:g=L'.g
   ·subst e;exact xZ hg hn
   ·exact qV g hg e
 have BG:=pI.keeps hr
 refine ⟨pI,BG,Dn,fun j8=>⟨?_,?_,?_,cR hr.size oT,fun g o hx=>cS (hr.p6 g o hx) oT,hr.CJ pI⟩⟩
 ·intro b hb
  have bD:nm < σ'.length:=(aH.1 Dw).1
  rw [vH b (by omega)]
  exact hr.nC b (by omega)
 ·intro b cf hb
  by_cases e:b=nm
  ·subst e
   obtain rfl:kG=cf:=aM (aM (Dw.symm.trans hb))
   exact ⟨L',vG,ug,hX,j8⟩
  ·obtain ⟨h1,h2⟩:=iZ b cf e hb
   obtain ⟨L,h3,h4,h5,h6⟩:=hr.cf b cf h1
   have bD:L.g<w.heap.size:=by
    cases cf with
    | var cs=>obtain ⟨c,e,h,_⟩:=h6;exact (aL.1 h).1
    | row es fz=>obtain ⟨c,e,h,_⟩:=h6;exact (aL.1 h).1
    | map ks vs fz=>obtain ⟨c,e,h,_⟩:=h6;exact (aL.1 h).1
    | iter s p=>exact (aL.1 h6).1
    | kZ ks vs seen=>obtain ⟨m,es,c,h,_⟩:=h6;exact (aL.1 h).1
    | loop r=>obtain ⟨c,e,f,h,_⟩:=h6;exact (aL.1 h).1
   exact ⟨L,Dn _ _ h3,h4,h5,h6.mono BG Dn (qV L.g bD (h2 L h3))⟩
 ·intro b b' cf CB L L2 h1 h2 h3 h4 hg
  by_cases e:b=nm
  ·by_cases e':b'=nm
   ·rw [e,e']
   ·exfalso
    subst e
    obtain rfl:L'=L:=aM (vG.symm.trans h3)
    exact (iZ b' CB e' h2).2 L2 ((vH b' e').symm.trans h4) hg.symm
  ·by_cases e':b'=nm
   ·exfalso
    subst e'
    obtain rfl:L'=L2:=aM (vG.symm.trans h4)
    exact (iZ b cf e h1).2 L ((vH b e).symm.trans h3) hg
   ·exact hr.inj b b' cf CB L L2 (iZ b cf e h1).1 (iZ b' CB e' h2).1 ((vH b e).symm.trans h3) ((vH b' e').symm.trans h4) hg
theorem fR.lt {w:World} {M:Nat→Nat→Prop} {β:Env} {L:Loc} {cf:bE} (h6:fR w M β L cf):L.g<w.heap.size:=by
 cases cf with
 | var cs=>obtain ⟨c,e,h,_⟩:=h6;exact (aL.1 h).1
 | row es fz=>obtain ⟨c,e,h,_⟩:=h6;exact (aL.1 h).1
 | map ks vs fz=>obtain ⟨c,e,h,_⟩:=h6;exact (aL.1 h).1
 | iter s p=>exact (aL.1 h6).1
 | kZ ks vs seen=>obtain ⟨m,es,c,h,_⟩:=h6;exact (aL.1 h).1
 | loop r=>obtain ⟨c,e,f,h,_⟩:=h6;exact (aL.1 h).1
def cO (P:Program) (X:Nat→Nat→Prop) (base:Nat) (σ:ai) (β:Env) (w:World) (nm:Nat) (s:Sem Next) (r:ae) (σ':ai):Prop :=
 ∃ v w' β',(s.run P w = .ok (.value v) w'∨(s.run P w = .ok .skip w'∧v=undef))∧cF X base σ' β' w'∧bR w' (MT X σ' β') β' v r ∧
  Ext 0 σ β w σ' β' w'∧(∀ b,b≠nm→β' b = β b)∧∀ b L,β b=some L→β' b=some L
section
variable {P:Program} {X:Nat→Nat→Prop} {base:Nat} {σ:ai} {β:Env} {w:World} {nm:Nat}
theorem cO.val (hr:cF X base σ β w) {s:Sem Next} {v:Value} {r:ae} (h:s.run P w = .ok (.value v) w) (hv:bR w (MT X σ β) β v r):cO P X base σ β w nm s r σ :=
 ⟨v,w,β, .inl h,hr,hv,Ext.refl _ _ _ _,fun _ _=>rfl,fun _ _ h=>h⟩
theorem JT {M:Nat→Nat→Prop} (v:Value):bR w M β v (ofValue v):=by
 unfold ofValue
 split<;>first | exact .nM _ | constructor
theorem pW {t:TypeId} {l:eI} (h:aC P t=some l):∃ i u z,P.info? t=some i∧P.underlying t=some u∧i.zero=some z ∧
  i.size=l.sz∧qD u=l.ag∧i.bytes=l.bytes∧sA z=l.zero∧i_ u=l.key∧A0 l.ag z=true∧z.cells.size=l.sz:=by
 unfold aC at h
 split at h
 ·rename_i i u h1 h2
  split at h
  ·rename_i z hz
   split at h
   ·rename_i hc
    cases h
    exact ⟨i,u,z,h1,h2,hz,rfl,rfl,rfl,rfl,rfl,hc.1,hc.2⟩
   ·cases h
  ·cases h
 ·cases h
theorem KJ {t:TypeId} {u:TypeDesc} (h:P.underlying t=some u):(isAgg t).run P w = .ok (qD u) w:=by
 simp only [isAgg,Sem.run_bind,run_underlying h,Result.andThen_ok]
 cases u<;>rfl
theorem tF {t:TypeId} {i:TypeInfo} (h:P.info? t=some i):(sizeOf t).run P w = .ok i.size w:=by
 simp [sizeOf,typeInfo,h]
theorem Hl {t:TypeId} {i:TypeInfo} {z:Value} (h:P.info? t=some i) (hz:i.zero=some z):(zeroValue t).run P w = .ok z w:=by
 simp [zeroValue,typeInfo,h,hz]
theorem P1 {α:Type} (f:Nat→α) (n k:Nat) (d : α) (h:k<n):(((List.range n).map f).toArray).getD k d=f k:=by
 simp [Array.getD,h]
theorem PZ {M:Nat→Nat→Prop} {t:TypeId} {l:eI} (hl:aC P t=some l) {g o:Nat} {cs:List ae} {cv:Nat→Value}
  (hc:∀ k,k<cs.length→w.cell? ⟨g,o+k,none⟩=some (cv k)) (hv:∀ k,k<cs.length→bR w M β (cv k) (cs.getD k .undef)) {r:ae} (ht:jD l cs=some r) :
  ∃ v,(loadVar t ⟨g,o,none⟩).run P w = .ok v w∧bR w M β v r:=by
 obtain ⟨i,u,z,h1,h2,h3,h4,h5,_⟩:=pW hl
 unfold jD at ht
 simp only [loadVar,Sem.run_bind,KJ h2,Result.andThen_ok,h5]
 by_cases ha:l.ag=true
 ·rw [if_pos ha] at ht
  rw [if_pos ha]
  split at ht
  ·rename_i hle
   cases ht
   have:=run_loadCells (P:=P) w ⟨g,o,none⟩ i.size cv (fun j hj=>by rw [Addr.add_lit];exact hc j (by omega))
   refine ⟨.agg ((List.range i.size).map cv).toArray,by simp [tF h1,this],?_⟩
   refine .agg (by simp;omega) fun k hk=>?_
   have eA:k<i.size:=by simp at hk;omega
   rw [P1 cv i.size k _ eA]
   have:=hv k (by omega)
   rwa [show (List.take l.sz cs).getD k ae.undef=cs.getD k .undef by simp [List.getD,e9,show k<l.sz by omega]]
  ·cases ht
 ·rw [if_neg ha] at ht
  rw [if_neg ha]
  cases cs with
  | nil=>simp at ht
  | cons c cs =>
   simp only [List.head?_cons,aE] at ht
   subst ht
   have h0:=hc 0 (by simp)
   simp only [cj] at h0
   exact ⟨cv 0,by simp [run_load,h0],hv 0 (by simp)⟩
theorem Ql {M:Nat→Nat→Prop} {t:TypeId} {l:eI} (hl:aC P t=some l) {cs:Array Value} {ck:List ae} (hn:cs.size=ck.length)
  (hv:∀ k,k<ck.length→bR w M β (cs.getD k undef) (ck.getD k .undef)) {off:Nat} {r:ae} (ht:wx l ck off=some r) :
  ∃ v,(part t cs off).run P w = .ok v w∧bR w M β v r:=by
 obtain ⟨i,u,z,h1,h2,h3,h4,h5,_⟩:=pW hl
 unfold wx jD at ht
 simp only [part,Sem.run_bind,KJ h2,Result.andThen_ok,h5]
 by_cases ha:l.ag=true
 ·rw [if_pos ha] at ht
  rw [if_pos ha]
  split at ht
  ·rename_i hle
   cases ht
   simp only [cg] at hle
   refine ⟨.agg (cs.extract off (off+i.size)),by simp [tF h1],?_⟩
   refine .agg (by simp;omega) fun k hk=>?_
   have eA:k<l.sz:=by simp at hk;omega
   have:=hv (off+k) (by omega)
   have e1:(cs.extract off (off+i.size)).getD k undef=cs.getD (off+k) undef:=by
    rw [aj,aj,Array.getElem?_extract]
    rw [if_pos (by omega)]
   have e2:(List.take l.sz (List.drop off ck)).getD k ae.undef=ck.getD (off+k) .undef:=by
    simp [List.getD,e9,eA,dJ]
   rw [e1,e2];exact this
  ·cases ht
 ·rw [if_neg ha] at ht
  rw [if_neg ha]
  simp only [List.head?_drop] at ht
  obtain ⟨bD,he⟩:=aH.1 ht
  have:=hv off bD
  refine ⟨cs.getD off undef,?_,?_⟩
  ·have:cs[off]? = some (cs.getD off undef):=by
    rw [aj,aB (by omega)];rfl
   rw [this];rfl
  ·rwa [show ck.getD off ae.undef=r by simp [List.getD,ht]] at this
end
end Go.cV
