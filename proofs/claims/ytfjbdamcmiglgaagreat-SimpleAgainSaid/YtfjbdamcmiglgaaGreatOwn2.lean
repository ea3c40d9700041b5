/- Part 2 of my own framework and of the walks of functions: AbsA, AbsB, AbsC. -/
import Derived.Test.YtfjbdamcmiglgaaGreatOwn1
import Derived.AtR
import Derived.Below
abbrev aj:=@Array.getD_eq_getD_getElem?
abbrev aD:=@Array.getElem?_eq_getElem
abbrev aL:=@Array.getElem?_eq_some_iff
abbrev iS:=@Array.getElem?_modify
abbrev fL:=@Array.getElem?_push
abbrev dM:=@List.getElem?_drop
abbrev aI:=@List.getElem?_eq_some_iff
abbrev fj:=@List.getElem?_take
abbrev cj:=@List.length_drop
abbrev ck:=@Nat.add_zero
abbrev ah:=@Nat.le_refl
abbrev cV:=@Nat.le_trans
abbrev cX:=@Nat.lt_of_lt_of_le
abbrev cG:=@Nat.lt_succ_self
abbrev aN:=@Option.some.inj
abbrev aG:=@Option.some.injEq
set_option linter.unusedVariables false
set_option linter.unusedSectionVars false
set_option linter.unusedSimpArgs false
namespace Go.c8
open Go
inductive ae:Type where
 | undef
 | bool (b:Bool)
 | ig
 | int (k:IntKind) (n:Int)
 | str (s:ByteArray)
 | bN
 | ptr (b off:Nat)
 | rp (b i f:Nat)
 | pp (cs:List ae)
 | aU
 | ps (sz:Nat) (es:List ae)
 | os (b off len sz:Nat)
 | oc (b off len cap sz:Nat)
 | az
 | fn (f:FuncId) (first captured:List ae)
 | lz (b:Nat)
 | cC
 | map (b:Nat)
 | pm (ks vs:List ae)
 | it (b:Nat)
 | agg (cs:List ae)
 | dA (vs:List ae)
 | fR
 | iface (t:TypeId) (v:ae)
 | nX (v:Value)
 deriving Inhabited
def ae.cells:ae→List ae
 | .agg cs=>cs
 | a=>[a]
structure Loc where
 g:Nat
 o:Nat
 n:Nat
 sz:Nat
abbrev Env:=Nat→Option Loc
def iT (es:Array MapEntry) (clk:Nat):Prop :=
 (∀ i,i<es.size→(es.getD i default).born<clk)∧∀ i j,i<es.size→j<es.size→(es.getD i default).born=(es.getD j default).born→i=j
theorem Yj4:iT #[] 0:=⟨fun i hi=>by simp at hi,fun i j hi=>by simp at hi⟩
theorem Zb {es:Array MapEntry} {clk:Nat} (h:iT es clk) (k v:Value):iT (es.push { key:=k,val:=v,born:=clk }) (clk+1):=by
 have e:∀ i,(es.push { key:=k,val:=v,born:=clk }).getD i default=if i=es.size then { key:=k,val:=v,born:=clk } else es.getD i default:=fun i=>by
  simp only [aj,fL]
  split<;>rfl
 constructor
 ·intro i hi
  rw [e]
  simp only [Array.size_push] at hi
  split
  ·exact cG _
  ·exact Nat.lt_succ_of_lt (h.1 i (by omega))
 ·intro i j hi hj xF
  rw [e,e] at xF
  simp only [Array.size_push] at hi hj
  split at xF<;>split at xF
  ·omega
  ·have:=h.1 j (by omega);simp only at xF;omega
  ·have:=h.1 i (by omega);simp only at xF;omega
  ·exact h.2 i j (by omega) (by omega) xF
theorem Zvd {es:Array MapEntry} {clk:Nat} (h:iT es clk) (i:Nat) (k v:Value):iT (es.modify i fun e=>{ e with key:=k,val:=v }) clk:=by
 have e:∀ j,j<es.size→((es.modify i fun e=>{ e with key:=k,val:=v }).getD j default).born=(es.getD j default).born:=fun j hj=>by
  simp only [aj,iS]
  split
  ·rename_i h;subst h;rw [aD hj];rfl
  ·rfl
 constructor
 ·intro j hj
  rw [Array.size_modify] at hj
  rw [e j hj];exact h.1 j hj
 ·intro j j' hj rO WB
  rw [Array.size_modify] at hj rO
  rw [e j hj,e j' rO] at WB
  exact h.2 j j' hj rO WB
inductive bS (w:World) (M:Nat→Nat→Prop) (β:Env):Value→ae→Prop
 | undef (v:Value):bS w M β v .undef
 | bool (b:Bool):bS w M β (.bool b) (.bool b)
 | ig (b:Bool):bS w M β (.bool b) .ig
 | int (k:IntKind) (n:Int):bS w M β (.int k n) (.int k n)
 | str (s:ByteArray):bS w M β (.string s) (.str s)
 | bN:bS w M β (.pointer none) .bN
 | ptr {b off:Nat} {L:Loc} (h : β b=some L):bS w M β (.pointer (some ⟨L.g,L.o+off,none⟩)) (.ptr b off)
 | rp {b i f:Nat} {L:Loc} (h : β b=some L):bS w M β (.pointer (some ⟨L.g,L.o+i*L.sz+f,none⟩)) (.rp b i f)
 | pp {g o:Nat} {cs:List ae} (cv:Nat→Value)
   (hc:∀ k,k<cs.length→w.cell? ⟨g,o+k,none⟩=some (cv k)∧¬ M g (o+k))
   (hr:∀ k,k<cs.length→bS w M β (cv k) (cs.getD k .undef)):bS w M β (.pointer (some ⟨g,o,none⟩)) (.pp cs)
 | aU (a:Option Addr):bS w M β (.slice a 0 0) .aU
 | ps {a:Option Addr} {cap sz:Nat} {es:List ae} (cv:Nat→Nat→Value) (jr:es.length≤cap)
   (fH:∀ i,i<es.length→(es.getD i .undef).cells.length=sz)
   (hc:∀ i j,i<es.length→j<sz→∃ g o,a=some ⟨g,o,none⟩∧w.cell? ⟨g,o+i*sz+j,none⟩=some (cv i j)∧¬ M g (o+i*sz+j))
   (ha : 0<es.length→∃ g o,a=some ⟨g,o,none⟩)
   (hr:∀ i j,i<es.length→j<sz→bS w M β (cv i j) ((es.getD i .undef).cells.getD j .undef)):bS w M β (.slice a es.length cap) (.ps sz es)
 | sJ (a:Option Addr) {b off:Nat} {L:Loc} (h : β b=some L):bS w M β (.slice a 0 0) (.os b off 0 L.sz)
 | os {b off len cap:Nat} {L:Loc} (h : β b=some L) (hl:len≤cap) (hc:off+cap≤L.n):bS w M β (.slice (some ⟨L.g,L.o+off*L.sz,none⟩) len cap) (.os b off len L.sz)
 | sI (a:Option Addr) {b off:Nat} {L:Loc} (h : β b=some L):bS w M β (.slice a 0 0) (.oc b off 0 0 L.sz)
 | oc {b off len cap:Nat} {L:Loc} (h : β b=some L) (hl:len≤cap) (hc:off+cap≤L.n):bS w M β (.slice (some ⟨L.g,L.o+off*L.sz,none⟩) len cap) (.oc b off len cap L.sz)
 | az:bS w M β .nilFunc .az
 | fn {f:FuncId} {fa ca:Array Value} {first captured:List ae} (h1:fa.size=first.length) (h2:ca.size=captured.length)
   (oJ:∀ k,k<first.length→bS w M β (fa.getD k undef) (first.getD k .undef))
   (nS:∀ k,k<captured.length→bS w M β (ca.getD k undef) (captured.getD k .undef)):bS w M β (.func (.func f) fa ca) (.fn f first captured)
 | lz {b:Nat} {L:Loc} (h : β b=some L):bS w M β (.func (.yield L.g) #[] #[]) (.lz b)
 | cC:bS w M β (.map none) .cC
 | map {b:Nat} {L:Loc} (h : β b=some L):bS w M β (.map (some L.g)) (.map b)
 | pm {g clk:Nat} {es:Array MapEntry} {ks vs:List ae} (hg:w.heap[g]? = some (.map es clk)) (hm:¬ M g 0) (hk:es.size=ks.length) (hv:vs.length=ks.length)
   (oJ:∀ k,k<ks.length→bS w M β (es.getD k default).key (ks.getD k .undef))
   (nS:∀ k,k<ks.length→bS w M β (es.getD k default).val (vs.getD k .undef)) (hb:iT es clk):bS w M β (.map (some g)) (.pm ks vs)
 | it {b:Nat} {L:Loc} (h : β b=some L):bS w M β (.pointer (some ⟨L.g,0,none⟩)) (.it b)
 | agg {cs:Array Value} {l:List ae} (h:cs.size=l.length) (hr:∀ k,k<l.length→bS w M β (cs.getD k Go.undef) (l.getD k .undef)):bS w M β (.agg cs) (.agg l)
 | dA {cs:Array Value} {l:List ae} (h:cs.size=l.length) (hr:∀ k,k<l.length→bS w M β (cs.getD k Go.undef) (l.getD k .undef)):bS w M β (.tuple cs) (.dA l)
 | fR:bS w M β .nilIface .fR
 | iface {t:TypeId} {v:Value} {a:ae} (h:bS w M β v a):bS w M β (.iface t v) (.iface t a)
 | nX (v:Value):bS w M β v (.nX v)
structure di (w:World) (M:Nat→Nat→Prop) (w':World) (M':Nat→Nat→Prop):Prop where
 cell:∀ g o v,w.cell? ⟨g,o,none⟩=some v→¬ M g o→w'.cell? ⟨g,o,none⟩=some v∧¬ M' g o
 map:∀ g es c,w.heap[g]? = some (.map es c)→¬ M g 0→w'.heap[g]? = some (.map es c)∧¬ M' g 0
theorem di.l5 {w:World} {M M':Nat→Nat→Prop} (h:∀ g o,M' g o→M g o):di w M w M' :=
 ⟨fun g o _ hc hn=>⟨hc,fun hm=>hn (h g o hm)⟩,fun g _ _ hc hn=>⟨hc,fun hm=>hn (h g 0 hm)⟩⟩
theorem bS.mono {w w':World} {M M':Nat→Nat→Prop} {β β':Env} (hk:di w M w' M') (hβ:∀ b L,β b=some L→β' b=some L) {v:Value} {a:ae}
  (h:bS w M β v a):bS w' M' β' v a:=by
 induction h with
 | undef v=>exact .undef v
 | bool b=>exact .bool b
 | ig b=>exact .ig b
 | int k n=>exact .int k n
 | str s=>exact .str s
 | bN=>exact .bN
 | ptr h=>exact .ptr (hβ _ _ h)
 | rp h=>exact .rp (hβ _ _ h)
 | pp cv hc _ ih=>exact .pp cv (fun k eE=>hk.cell _ _ _ (hc k eE).1 (hc k eE).2) ih
 | aU a=>exact .aU a
 | ps cv jr fH hc ha _ ih =>
  refine .ps cv jr fH (fun i j hi hj=>?_) ha ih
  obtain ⟨g,o,h1,h2,h3⟩:=hc i j hi hj
  exact ⟨g,o,h1,hk.cell _ _ _ h2 h3⟩
 | sJ a h=>exact .sJ a (hβ _ _ h)
 | os h hl hc=>exact .os (hβ _ _ h) hl hc
 | sI a h=>exact .sI a (hβ _ _ h)
 | oc h hl hc=>exact .oc (hβ _ _ h) hl hc
 | az=>exact .az
 | fn h1 h2 _ _ kN oP=>exact .fn h1 h2 kN oP
 | lz h=>exact .lz (hβ _ _ h)
 | cC=>exact .cC
 | map h=>exact .map (hβ _ _ h)
 | pm hg hm h1 h2 _ _ hb kN oP=>exact .pm (hk.map _ _ _ hg hm).1 (hk.map _ _ _ hg hm).2 h1 h2 kN oP hb
 | it h=>exact .it (hβ _ _ h)
 | agg h _ ih=>exact .agg h ih
 | dA h _ ih=>exact .dA h ih
 | fR=>exact .fR
 | iface _ ih=>exact .iface ih
 | nX v=>exact .nX v
inductive gq where
 | ready
 | busy
 | done (c:Code)
structure gQ where
 tm:List ae
 params:Array Tmp
 assign:Code
 body:Code
 st:gq
inductive bE:Type where
 | var (cs:List ae)
 | row (es:List ae) (fz:Nat)
 | map (ks vs:List ae) (fz:Bool)
 | iter (s:ByteArray) (pos:Nat)
 | lu (ks vs:List ae) (seen:List Nat)
 | loop (r:gQ)
abbrev ai:=List (Option bE)
def bE.mut (L:Loc):bE→Nat→Prop
 | .row _ fz,off=>L.o+fz*L.sz≤off
 | .map _ _ fz,_=>fz=false
 | _,_=>True
def ja (σ:ai) (β:Env) (g off:Nat):Prop :=
 ∃ b cg L,σ[b]? = some (some cg)∧β b=some L∧L.g=g∧cg.mut L off
def MT (X:Nat→Nat→Prop) (σ:ai) (β:Env) (g o:Nat):Prop:=X g o∨ja σ β g o
def gq.of:gq→LoopState×Option Code
 | .ready=>(.ready,none)
 | .busy=>(.busy,none)
 | .done c=>(.done,some c)
def gp (w:World) (M:Nat→Nat→Prop) (β:Env) (L:Loc):bE→Prop
 | .var cs=>∃ c e,w.heap[L.g]? = some (.cells c e (0,0))∧L.o=0∧c.size=cs.length ∧
   ∀ k,k<cs.length→bS w M β (c.getD k undef) (cs.getD k .undef)
 | .row es _=>∃ c e,w.heap[L.g]? = some (.cells c e (0,0))∧L.o+L.n*L.sz≤c.size∧es.length≤L.n ∧
   (∀ i,i<es.length→(es.getD i .undef).cells.length=L.sz) ∧
   ∀ i j,i<es.length→j<L.sz→bS w M β (c.getD (L.o+i*L.sz+j) undef) ((es.getD i .undef).cells.getD j .undef)
 | .map ks vs _=>∃ es clk,w.heap[L.g]? = some (.map es clk)∧es.size=ks.length∧vs.length=ks.length ∧
   (∀ k,k<ks.length→bS w M β (es.getD k default).key (ks.getD k .undef))∧(∀ k,k<ks.length→bS w M β (es.getD k default).val (vs.getD k .undef))∧iT es clk
 | .iter s pos=>w.heap[L.g]? = some (.stringIter s pos)
 | .lu ks vs seen=>∃ m es clk,w.heap[L.g]? = some (.mapIter (some m) clk (seen.map fun i=>(es.getD i default).born).toArray clk)∧w.heap[m]? = some (.map es clk)∧¬ M m 0∧es.size=ks.length∧vs.length=ks.length ∧
   (∀ k,k<ks.length→bS w M β (es.getD k default).key (ks.getD k .undef))∧(∀ k,k<ks.length→bS w M β (es.getD k default).val (vs.getD k .undef))∧iT es clk∧∀ i∈seen,i<ks.length
 | .loop r=>∃ tmps dr fn,w.heap[L.g]? = some (.loop { state:=r.st.of.1,pending:=r.st.of.2,fn,tmps,params:=r.params,assign:=r.assign,body:=r.body,defers:=dr }) ∧
   tmps.size=r.tm.length∧∀ k,k<r.tm.length→bS w M β (tmps.getD k undef) (r.tm.getD k .undef)
theorem gp.mono {w w':World} {M M':Nat→Nat→Prop} {β β':Env} (hk:di w M w' M') (hβ:∀ b L,β b=some L→β' b=some L) {L:Loc} {cg:bE}
  (hg:w'.heap[L.g]? = w.heap[L.g]?) (h:gp w M β L cg):gp w' M' β' L cg:=by
 cases cg with
 | var cs=>obtain ⟨c,e,h1,h0,h2,h3⟩:=h;exact ⟨c,e,hg.trans h1,h0,h2,fun k eE=>(h3 k eE).mono hk hβ⟩
 | row es fz=>obtain ⟨c,e,h1,h2,h3,h4,h5⟩:=h;exact ⟨c,e,hg.trans h1,h2,h3,h4,fun i j hi hj=>(h5 i j hi hj).mono hk hβ⟩
 | map ks vs fz=>obtain ⟨es,clk,h1,h2,h3,h4,h5,h6⟩:=h;exact ⟨es,clk,hg.trans h1,h2,h3,fun k eE=>(h4 k eE).mono hk hβ,fun k eE=>(h5 k eE).mono hk hβ,h6⟩
 | iter s pos=>exact hg.trans h
 | lu ks vs seen=>obtain ⟨m,es,clk,h1,h2,h3,h4,h5,h6,h7,h8⟩:=h;exact ⟨m,es,clk,hg.trans h1,(hk.map _ _ _ h2 h3).1,(hk.map _ _ _ h2 h3).2,h4,h5,fun k eE=>(h6 k eE).mono hk hβ,fun k eE=>(h7 k eE).mono hk hβ,h8⟩
 | loop r=>obtain ⟨t,d,f,h1,h2,h3⟩:=h;exact ⟨t,d,f,hg.trans h1,h2,fun k eE=>(h3 k eE).mono hk hβ⟩
def vg (base:Nat) (w:World):Prop:=∀ x∈AA,x.1<base∧∃ v,w.cell? ⟨x.1,x.2.1,none⟩=some v∧x.2.2 v
structure cH (X:Nat→Nat→Prop) (base:Nat) (σ:ai) (β:Env) (w:World):Prop where
 nO:∀ b,σ.length≤b→β b=none
 cg:∀ b cg,σ[b]? = some (some cg)→∃ L,β b=some L∧base≤L.g∧(∀ o, ¬ X L.g o)∧gp w (MT X σ β) β L cg
 inj:∀ b b' cg kW L L',σ[b]? = some (some cg)→σ[b']? = some (some kW)→β b=some L→β b'=some L'→L.g=L'.g→b=b'
 size:base≤w.heap.size
 qd:∀ g o,X g o→g<w.heap.size
 gl:vg base w
structure Ext (lo:Nat) (σ:ai) (β:Env) (w:World) (σ':ai) (β':Env) (w':World):Prop where
 os:w'.os=w.os
 tape:w'.tape=w.tape
 output:w'.output=w.output
 size:w.heap.size≤w'.heap.size
 cell:∀ g o v,w.cell? ⟨g,o,none⟩=some v→¬ ja σ β g o→w'.cell? ⟨g,o,none⟩=some v
 block:∀ g,g<w.heap.size→(∀ o, ¬ ja σ β g o)→w'.heap[g]? = w.heap[g]?
 iL:∀ g o,ja σ' β' g o→ja σ β g o∨w.heap.size≤g
 env:∀ b,b<lo→β' b = β b
theorem xT {w:World} {g o:Nat} {v:Value} (h:w.cell? ⟨g,o,none⟩=some v):g<w.heap.size:=World.block_lt_of_cell? w ⟨g,o,none⟩ h
theorem Ext.refl (lo:Nat) (σ:ai) (β:Env) (w:World):Ext lo σ β w σ β w :=
 ⟨rfl,rfl,rfl,ah _,fun _ _ _ h _=>h,fun _ _ _=>rfl,fun _ _ h=>.inl h,fun _ _=>rfl⟩
theorem Ext.trans {lo:Nat} {σ dk iZ:ai} {β eX mV:Env} {w w1 w2:World} (h:Ext lo σ β w dk eX w1) (k:Ext lo dk eX w1 iZ mV w2):Ext lo σ β w iZ mV w2:=by
 refine ⟨k.os.trans h.os,k.tape.trans h.tape,k.output.trans h.output,cV h.size k.size,?_,?_,?_,fun b hb=>(k.env b hb).trans (h.env b hb)⟩
 ·intro g o v hc hn
  have h1:=h.cell g o v hc hn
  refine k.cell g o v h1 fun hm=>?_
  rcases h.iL g o hm with h2 | h2
  ·exact hn h2
  ·have:=xT hc;omega
 ·intro g hg hn
  have h1:=h.block g hg hn
  rw [← h1]
  refine k.block g (cX hg h.size) fun o hm=>?_
  rcases h.iL g o hm with h2 | h2
  ·exact hn o h2
  ·omega
 ·intro g o hm
  rcases k.iL g o hm with h2 | h2
  ·exact h.iL g o h2
  ·exact .inr (cV h.size h2)
theorem Ext.lower {lo lo':Nat} {σ σ':ai} {β β':Env} {w w':World} (h:Ext lo σ β w σ' β' w') (hl:lo'≤lo):Ext lo' σ β w σ' β' w' :=
 ⟨h.os,h.tape,h.output,h.size,h.cell,h.block,h.iL,fun b hb=>h.env b (cX hb hl)⟩
theorem cH.A3 {X:Nat→Nat→Prop} {base:Nat} {σ:ai} {β:Env} {w:World} (h:cH X base σ β w) {g clk:Nat} {es:Array MapEntry}
  (hg:w.heap[g]? = some (.map es clk)) (hn:¬ ja σ β g 0):∀ o, ¬ ja σ β g o:=by
 rintro o ⟨b,cg,L,h1,h2,rfl,h4⟩
 refine hn ⟨b,cg,L,h1,h2,rfl,?_⟩
 obtain ⟨L',uY,_,_,ju⟩:=h.cg b cg h1
 obtain rfl:L=L':=aN (h2.symm.trans uY)
 cases cg with
 | row es fz=>obtain ⟨c,e,h5,_⟩:=ju;rw [hg] at h5;cases h5
 | map ks vs fz=>exact h4
 | var cs=>trivial
 | iter s p=>trivial
 | lu ks vs seen=>trivial
 | loop r=>trivial
theorem Ext.keeps {X:Nat→Nat→Prop} {base lo:Nat} {σ σ':ai} {β β':Env} {w w':World} (hr:cH X base σ β w) (h:Ext lo σ β w σ' β' w') :
  di w (MT X σ β) w' (MT X σ' β'):=by
 constructor
 ·intro g o v hc hn
  have hx:¬ X g o:=fun hx=>hn (.inl hx)
  have hm:¬ ja σ β g o:=fun hm=>hn (.inr hm)
  refine ⟨h.cell g o v hc hm,?_⟩
  rintro (sD | AQ)
  ·exact hx sD
  ·rcases h.iL g o AQ with h2 | h2
   ·exact hm h2
   ·have:=xT hc;omega
 ·intro g es c hg hn
  have hx:¬ X g 0:=fun hx=>hn (.inl hx)
  have hm:¬ ja σ β g 0:=fun hm=>hn (.inr hm)
  have bG:g<w.heap.size:=(aL.1 hg).1
  refine ⟨(h.block g bG (hr.A3 hg hm)).trans hg,?_⟩
  rintro (sD | AQ)
  ·exact hx sD
  ·rcases h.iL g 0 AQ with h2 | h2
   ·exact hm h2
   ·omega
theorem cH.CT {X:Nat→Nat→Prop} {base lo:Nat} {σ σ':ai} {β β':Env} {w w':World} (hr:cH X base σ β w) (h:Ext lo σ β w σ' β' w'):vg base w':=fun x hx=>by
 obtain ⟨g1,v,g2,g3⟩:=hr.gl x hx
 refine ⟨g1,v,h.cell _ _ _ g2 ?_,g3⟩
 rintro ⟨b,cg,L,m1,m2,m3,_⟩
 obtain ⟨L',q1,q2,_⟩:=hr.cg b cg m1
 obtain rfl:=aN (q1.symm.trans m2)
 omega
theorem vg.same {base:Nat} {w w':World} (hg:vg base w) (h:∀ g,g<w.heap.size→w'.heap[g]? = w.heap[g]?):vg base w':=fun x hx=>by
 obtain ⟨g1,v,g2,g3⟩:=hg x hx
 exact ⟨g1,v,by rw [World.cell?_of_block (w:=w) (a:=⟨x.1,x.2.1,none⟩) (h x.1 (xT g2))];exact g2,g3⟩
inductive KA where
 | bool | int (k:IntKind) | str | ptr | slice | array (n:Nat) | map | struct | func | iface | other
 deriving DecidableEq
def jl:TypeDesc→KA
 | .bool=>.bool | .int k=>.int k | .string=>.str | .pointer _=>.ptr | .slice _=>.slice | .array n _=>.array n
 | .map _ _=>.map | .struct _=>.struct | .func _ _ _=>.func | .interface _=>.iface | _=>.other
def qM:TypeDesc→Bool
 | .struct _ | .array _ _=>true
 | _=>false
def ofValue:Value→ae
 | .bool b=>.bool b
 | .int k n=>.int k n
 | .string s=>.str s
 | .pointer none=>.bN
 | .slice none 0 0=>.aU
 | .map none=>.cC
 | .nilFunc=>.az
 | .nilIface=>.fR
 | v=>.nX v
def sK (z:Value):List ae:=z.cells.toList.map ofValue
structure eM where
 sz:Nat
 ag:Bool
 bytes:Nat
 zero:List ae
 key:KA
def Ba (ag:Bool):Value→Bool
 | .agg _=>ag
 | .tuple _=>false
 | _=>!ag
def aF (P:Program) (t:TypeId):Option eM :=
 match P.info? t,P.underlying t with
 | some i,some u=>match i.zero with
  | some z=>if Ba (qM u) z=true∧z.cells.size=i.size then some { sz:=i.size,ag:=qM u,bytes:=i.bytes,zero:=sK z,key:=jl u } else none
  | none=>none
 | _,_=>none
structure jV where
 lay:eM
 o9:List (Nat×Option eM)
 elem:Option eM
 DN:Option eM
def bL (P:Program) (t:TypeId):Option jV :=
 match aF P t,P.underlying t with
 | some l,some u=>some
  {lay:=l
   o9:=match u with | .struct fs=>fs.toList.map fun f=>(f.offset,aF P f.type) | _=>[]
   elem:=match u with | .slice e=>aF P e | .array _ e=>aF P e | .map _ e=>aF P e | _=>none
   DN:=match u with | .map k _=>aF P k | _=>none }
 | _,_=>none
def jV.kind (T:jV):KA:=T.lay.key
def iK (P:Program) (t:TypeId):Option KA:=(aF P t).map (·.key)
def sE:ae→KA
 | .int k _=>.int k
 | .str _=>.str
 | .bool _=>.bool
 | _=>.other
def KA.plain:KA→Bool
 | .int _ | .str | .bool=>true
 | _=>false
def pI (P:Program):List Field→Nat→List KA→Bool
 | [],_,[]=>true
 | f :: fs, i, k :: ks => f.offset == i && f.name != "_" && k.plain && decide ((P.underlying f.type).map jl = some k) && pI P fs (i + 1) ks
 | _,_,_=>false
def uj (P:Program) (t:TypeId) (ks:List KA):Bool :=
 match P.underlying t with
 | some (.struct fs)=>!P.eqGuardType P.depth t && !P.stoodInHeld t&&pI P fs.toList 0 ks
 | _=>false
def ae.cK:ae→Bool
 | .undef | .agg _ | .dA _ | .nX _=>false
 | _=>true
def jQ (l:eM) (cs:List ae):Option ae :=
 if l.ag then (if l.sz≤cs.length then some (.agg (cs.take l.sz)) else none) else cs.head?
def zeroV (l:eM):ae:=if l.ag then .agg l.zero else l.zero.headD .undef
def cw:List ae→Nat→List ae→List ae
 | cs,_,[]=>cs
 | cs,o,v :: vs=>cw (cs.set o v) (o+1) vs
def b_ (σ:ai) (nm:Nat) (b:bE):ai :=
 if nm < σ.length then σ.set nm (some b) else σ++List.replicate (nm - σ.length) none++[some b]
def bH (σ:ai) (b:Nat):Option bE:=(σ[b]?).join
def jf (σ:ai) (l:eM):ae→Option ae
 | .ptr b off=>match bH σ b with
  | some (.var cs)=>jQ l (cs.drop off)
  | _=>none
 | .rp b i f=>match bH σ b with
  | some (.row es _)=>if i<es.length then jQ l ((es.getD i .undef).cells.drop f) else none
  | _=>none
 | .pp cs=>jQ l cs
 | _=>none
def jx (ag:Bool) (cs:List ae):ae:=if ag then .agg cs else cs.headD .undef
def cN:ae→Bool
 | .agg _=>true
 | _=>false
def mD (σ:ai) (l:eM) (p v:ae):Option ai :=
 if v.cells.length=l.sz∧v.cells.all ae.cK then
  match p with
  | .ptr b off=>match bH σ b with
   | some (.var cs)=>if off+l.sz≤cs.length then some (b_ σ b (.var (cw cs off v.cells))) else none
   | _=>none
  | .rp b i f=>match bH σ b with
   | some (.row es fz) =>
    if fz≤i∧i<es.length∧f+l.sz≤(es.getD i .undef).cells.length∧0<l.sz then
     some (b_ σ b (.row (es.set i (jx (cN (es.getD i .undef)) (cw (es.getD i .undef).cells f v.cells))) fz))
    else none
   | _=>none
  | _=>none
 else none
def po:ae→ae→ae→Option ae
 | .bool c, .bool x, .bool y=>some (.bool (if c then x else y))
 | .bool c,x,y=>some (if c then x else y)
 | _,_,_=>none
def fq:ae→ae→Bool
 | .int _ a, .int _ b=>a==b
 | .str a, .str b=>a.toList==b.toList
 | .bool a, .bool b=>a==b
 | _,_=>false
def kC:List ae→List ae→Bool
 | [],[]=>true
 | a :: cm,b :: bs=>fq a b&&kC cm bs
 | _,_=>false
def sameKind:ae→ae→Bool
 | .int k _, .int k' _=>k==k'
 | .str _, .str _=>true
 | .bool _, .bool _=>true
 | _,_=>false
def iJ (op:BinOp) (k:IntKind) (a b:Int):Option ae :=
 match op with
 | .add=>some (.int k (k.wrap (a+b)))
 | .sub=>some (.int k (k.wrap (a - b)))
 | .mul=>some (.int k (k.wrap (a*b)))
 | .quo=>if b≠0 then some (.int k (k.wrap (a.tdiv b))) else none
 | .rem=>if b≠0 then some (.int k (a.tmod b)) else none
 | .eql=>some (.bool (decide (a=b)))
 | .neq=>some (.bool (decide (a≠b)))
 | .lss=>some (.bool (decide (a<b)))
 | .leq=>some (.bool (decide (a≤b)))
 | .gtr=>some (.bool (decide (b<a)))
 | .geq=>some (.bool (decide (b≤a)))
 | _=>none
def mE (op:BinOp) (a b:ByteArray):Option ae :=
 match op with
 | .add=>if a.size+b.size≤1000000000 then some (.str (a++b)) else none
 | .eql=>some (.bool (a.toList==b.toList))
 | .neq=>some (.bool !(a.toList==b.toList))
 | .lss=>some (.bool (Op.bytesLess a.toList b.toList))
 | .leq=>some (.bool (Op.bytesLess a.toList b.toList||a.toList==b.toList))
 | .gtr=>some (.bool !(Op.bytesLess a.toList b.toList||a.toList==b.toList))
 | .geq=>some (.bool !(Op.bytesLess a.toList b.toList))
 | _=>none
def nI:ae→Option Bool
 | .bN=>some false
 | .ptr _ _ | .rp _ _ _ | .pp _=>some true
 | _=>none
def lI:ae→Option Bool
 | .cC=>some false
 | .map _ | .pm _ _=>some true
 | _=>none
def kM:ae→Option Bool
 | .fR=>some false
 | .iface _ _=>some true
 | _=>none
def kb:ae→Option Bool
 | .az=>some false
 | .fn _ _ _=>some true
 | _=>none
def qy (P:Program) (t:TypeId):Bool :=
 match P.underlying t with
 | some (.interface ms)=>ms.isEmpty
 | _=>false
def uk (P:Program) (t:TypeId) (x y:ae):Option Bool :=
 match iK P t,x,y with
 | some .bool, .bool a, .bool b=>some (a==b)
 | some .ptr,x,y=>match nI x,nI y with
  | some false,some b=>some (!b)
  | some true,some false=>some false
  | _,_=>none
 | some .map,x, .cC=>(lI x).map (!·)
 | some .iface,x,y=>match kM x,kM y with
  | some true,some false | some false,some true=>some false
  | some false,some false=>if qy P t=true then some true else none
  | _,_=>none
 | some .func,x,y=>match kb x,kb y with
  | some false,some b=>some (!b)
  | some true,some false=>some false
  | _,_=>none
 | some .struct, .agg xs, .agg ys=>if xs.map sE=ys.map sE∧uj P t (xs.map sE)=true then some (kC xs ys) else none
 | _,_,_=>none
def l6 (P:Program) (op:BinOp) (t:TypeId) (x y:ae):Option ae :=
 match op with
 | .eql=>(uk P t x y).map .bool
 | .neq=>(uk P t x y).map fun b=>.bool !b
 | _=>none
def qN (P:Program) (op:BinOp) (t:TypeId) (x y:ae):Option ae :=
 match x,y with
 | .int k a, .int k' b=>if k=k' then iJ op k a b else none
 | .str a, .str b=>mE op a b
 | x,y=>l6 P op t x y
def ki:Operand→Bool
 | .const (.slice none 0 0)=>true
 | _=>false
def r_ (neg:Bool):ae→Option ae
 | .aU=>some .ig
 | .ps _ es=>some (if es.length=0 then .ig else .bool neg)
 | .os _ _ n _=>some (if n=0 then .ig else .bool neg)
 | .oc _ _ n _ _=>some (if n=0 then .ig else .bool neg)
 | _=>none
def uH (P:Program) (op:BinOp) (t:TypeId) (x:ae):Option ae :=
 match iK P t,op with
 | some .slice, .eql=>r_ false x
 | some .slice, .neq=>r_ true x
 | _,_=>none
def xW (P:Program) (op:BinOp) (t:TypeId) (x y:ae) (nl:Bool):Option ae:=if nl then uH P op t x else qN P op t x y
def E4 (op:UnOp):ae→Option ae
 | .bool b=>match op with
  | .not=>some (.bool !b)
  | _=>none
 | .int k n=>match op with
  | .neg=>some (.int k (k.wrap (0 - n)))
  | _=>none
 | _=>none
def jO (lo hi:Nat):ae→Option Nat
 | .int _ i=>if (lo:Int)≤i∧i≤hi then some i.toNat else none
 | _=>none
def nx (k:KA) (σ:ai) (x:ae):Option Nat :=
 match k,x with
 | .str, .str s=>some s.size
 | .slice, .ps _ es=>some es.length
 | .slice, .aU=>some 0
 | .slice, .os _ _ n _=>some n
 | .slice, .oc _ _ n _ _=>some n
 | .map, .cC=>some 0
 | .map, .pm ks _=>some ks.length
 | .map, .map b=>match bH σ b with
  | some (.map ks _ _)=>some ks.length
  | _=>none
 | _,_=>none
def eR (σ:ai) (sz:Nat):ae→Option (List ae)
 | .ps s es=>if s=sz then some es else none
 | .aU=>some []
 | .os b off n s=>if s=sz then match bH σ b with
  | some (.row es _)=>if off+n≤es.length then some ((es.drop off).take n) else none
  | _=>none
  else none
 | .oc b off n _ s=>if s=sz then match bH σ b with
  | some (.row es _)=>if off+n≤es.length then some ((es.drop off).take n) else none
  | _=>none
  else none
 | _=>none
def bytesOf (s:ByteArray):List ae:=s.data.toList.map fun b=>.int .u8 b.toNat
def w9 (n:Nat):Option ae→Option Nat
 | some h=>jO 0 n h
 | none=>some n
def Dc (n c:Nat):Option ae→Option Nat
 | some h=>jO 0 c h
 | none=>some n
def rq (h:Nat):Option ae→Option Nat
 | some l=>jO 0 h l
 | none=>some 0
def jV.uX (T:jV):Option Nat:=T.elem.map eM.sz
def iX (T:jV) (x:ae) (lo hi mx:Option ae):Option ae :=
 match mx with
 | some m=>match x with
  | .oc b off n c sz=>if T.kind = .slice∧T.uX=some sz then (jO 0 c m).bind fun m=>(hi.bind (jO 0 m)).bind fun h=>(rq h lo).bind fun l=>some (.oc b (off+l) (h - l) (m - l) sz) else none
  | _=>none
 | none =>
  match x with
  | .oc b off n c sz=>if T.kind = .slice∧T.uX=some sz then (Dc n c hi).bind fun h=>(rq h lo).bind fun l=>some (.oc b (off+l) (h - l) (c - l) sz) else none
  | .str s=>if T.kind = .str then (w9 s.size hi).bind fun h=>(rq h lo).bind fun l=>some (.str (s.extract l h)) else none
  | .ps sz es=>if T.kind = .slice∧T.uX=some sz then (w9 es.length hi).bind fun h=>(rq h lo).bind fun l=>some (.ps sz ((es.drop l).take (h - l))) else none
  | .os b off n sz=>if T.kind = .slice∧T.uX=some sz then (w9 n hi).bind fun h=>(rq h lo).bind fun l=>some (.os b (off+l) (h - l) sz) else none
  | .aU=>if T.kind = .slice∧T.elem.isSome then (w9 0 hi).bind fun h=>(rq h lo).bind fun _=>some .aU else none
  | _=>none
def fB (T:jV) (x i:ae):Option ae :=
 match i with
 | .int _ i =>
  match x with
  | .os b off n sz=>if T.kind = .slice∧T.uX=some sz∧0≤i∧i<n then some (.rp b (off+i.toNat) 0) else none
  | .oc b off n _ sz=>if T.kind = .slice∧T.uX=some sz∧0≤i∧i<n then some (.rp b (off+i.toNat) 0) else none
  | .ps sz es=>if T.kind = .slice∧T.uX=some sz∧0≤i∧i<es.length then some (.pp (es.getD i.toNat .undef).cells) else none
  | .ptr b off=>match T.kind,T.elem with
   | .array n,some e=>if 0≤i∧i<n then some (.ptr b (off+i.toNat*e.sz)) else none
   | _,_=>none
  | _=>none
 | _=>none
def wJ (l:eM) (cs:List ae) (off:Nat):Option ae:=jQ l (cs.drop off)
def pR (T:jV) (x i:ae):Option ae :=
 match x,i with
 | .agg cs, .int _ i=>match T.kind,T.elem with
  | .array n,some e=>if 0≤i∧i<n then wJ e cs (i.toNat*e.sz) else none
  | _,_=>none
 | .str s, .int _ i=>if h:(0≤i∧i.toNat<s.size)∧T.kind = .str then some (.int .u8 (s[i.toNat]'h.1.2).toNat) else none
 | _,_=>none
def jZ (T:jV) (x:ae) (i:Nat):Option ae :=
 match T.kind,T.o9[i]? with
 | .struct,some (off,some l)=>if l.sz≠0 then
   match x with
   | .ptr b o=>some (.ptr b (o+off))
   | .rp b i f=>some (.rp b i (f+off))
   | .pp cs=>some (.pp (cs.drop off))
   | _=>none
  else none
 | _,_=>none
def pL (T:jV) (x:ae) (i:Nat):Option ae :=
 match T.kind,T.o9[i]?,x with
 | .struct,some (off,some l), .agg cs=>wJ l cs off
 | _,_,_=>none
def nw (T:jV) (k:ae):Bool :=
 match (T.DN.map eM.key:Option KA),k with
 | some (KA.int k'), .int k _=>k==k'
 | some KA.str, .str _=>true
 | _,_=>false
def fe (k:ae):List ae→Nat→Option Nat
 | [],_=>none
 | x :: xs,i=>if fq k x then some i else fe k xs (i+1)
def eT (ks vs:List ae) (z k:ae) (ok:Bool):ae :=
 match fe k ks 0 with
 | some i=>if ok then .dA [vs.getD i .undef, .bool true] else vs.getD i .undef
 | none=>if ok then .dA [z, .bool false] else z
def lH (σ:ai) (T:jV) (x k:ae) (ok:Bool):Option ae :=
 match T.kind,T.elem with
 | .map,some e =>
  if nw T k then
   match x with
   | .cC=>some (eT [] [] (zeroV e) k ok)
   | .pm ks vs=>if ks.all (sameKind k) then some (eT ks vs (zeroV e) k ok) else none
   | .map b=>match bH σ b with
    | some (.map ks vs _)=>if ks.all (sameKind k) then some (eT ks vs (zeroV e) k ok) else none
    | _=>none
   | _=>none
  else none
 | _,_=>none
def iV (ks vs:List ae) (k v:ae):List ae×List ae :=
 match fe k ks 0 with
 | some i=>(ks,vs.set i v)
 | none=>(ks++[k],vs++[v])
def gG (σ:ai) (T:jV) (m k v:ae):Option ai :=
 match T.kind,T.elem,m with
 | .map,some e, .map b=>match bH σ b with
  | some (.map ks vs false)=>if nw T k&&ks.all (sameKind k)&&decide (v.cells.length=e.sz) then some (b_ σ b (.map (iV ks vs k v).1 (iV ks vs k v).2 false)) else none
  | _=>none
 | _,_,_=>none
def ky (o9:List (Nat×Option eM)) (ρ:Operand→ae):List ae→List (Nat×Operand)→Option (List ae)
 | cs,[]=>some cs
 | cs,(i,x) :: rest=>match o9[i]? with
  | some (off,some l)=>if (ρ x).cells.length=l.sz∧off+l.sz≤cs.length∧(ρ x).cells.all ae.cK=true then ky o9 ρ (cw cs off (ρ x).cells) rest else none
  | _=>none
def oD (T:jV) (ρ:Operand→ae) (parts:List (Nat×Operand)):Option ae :=
 match T.kind,T.elem with
 | .struct,_=>if T.o9.all (·.2.isSome) then (ky T.o9 ρ T.lay.zero parts).map .agg else none
 | .array n,some e=>(ky ((List.range n).map fun i=>(i*e.sz,some e)) ρ T.lay.zero parts).map .agg
 | _,_=>none
def pY (e:eM) (ρ:Operand→ae):Nat→List (Nat×Operand)→Option (List ae)
 | _,[]=>some []
 | k,(i,x) :: rest=>if i=k∧(ρ x).cells.length=e.sz∧cN (ρ x)=e.ag∧(ρ x).cells.all ae.cK then (pY e ρ (k+1) rest).map ((ρ x) :: ·) else none
def cL (bytes:Nat):Nat:=if bytes≤32 then 6000000000000 else 1000000000
theorem Ue (b:Nat):cL b≤6000000000000:=by unfold cL;split<;>omega
theorem SA {n b:Nat} (h:n≤cL b) (hb:b≤65536):(n+n / 4+192)*b≤281474976710656:=by
 unfold cL at h
 split at h
 ·exact cV (Nat.mul_le_mul (show n+n / 4+192≤7500000000192 by omega) (by assumption)) (by decide)
 ·exact cV (Nat.mul_le_mul (show n+n / 4+192≤1250000192 by omega) hb) (by decide)
def mn (σ:ai) (nm:Nat) (e:eM) (s:ae) (xs:List ae):Option (ae×ai) :=
 if xs.all (fun x=>x.cells.length==e.sz&&x.cells.all ae.cK)∧0<e.sz∧e.bytes≤65536∧e.zero.length=e.sz then
  match s with
  | .aU=>if xs.length=0 then some (.aU,σ) else if xs.length≤cL e.bytes then some (.os nm 0 xs.length e.sz,b_ σ nm (.row xs 0)) else none
  | .os b off n sz=>match bH σ b with
   | some (.row es fz) =>
    if sz=e.sz∧fz≤off+n∧off+n≤es.length∧n+xs.length≤cL e.bytes then
     some (.os nm 0 (n+xs.length) sz,b_ (σ.set b none) nm (.row ((es.drop off).take n++xs) (fz - off)))
    else none
   | _=>none
  | _=>none
 else none
def nH (σ:ai) (nm:Nat) (e:eM) (b off n c sz:Nat) (xs:List ae):Option (ae×ai) :=
 if xs.all (fun x=>x.cells.length==e.sz&&x.cells.all ae.cK)∧0<e.sz∧e.bytes≤65536∧e.zero.length=e.sz then
  match bH σ b with
  | some (.row es fz) =>
   if sz=e.sz∧off+n≤es.length then
    if n+xs.length≤c then (if fz≤off+n∧off+n+xs.length≤es.length then some (.oc b off (n+xs.length) c sz,b_ σ b (.row (cw es (off+n) xs) fz)) else none)
    else if n+xs.length≤cL e.bytes then some (.os nm 0 (n+xs.length) sz,b_ σ nm (.row ((es.drop off).take n++xs) 0)) else none
   else none
  | _=>none
 else none
def ei (σ:ai) (nm:Nat) (e:eM) (s:ae) (xs:List ae):Option (ae×ai) :=
 match s with
 | .oc b off n c sz=>nH σ nm e b off n c sz xs
 | s=>mn σ nm e s xs
def kA (σ:ai) (sz:Nat) (s:ae) (xs:List ae):Option ai :=
 match s with
 | .oc b off n _ xm | .os b off n xm=>match bH σ b with
  | some (.row es fz)=>if xm=sz∧0<sz∧fz≤off∧xs.length≤n∧off+n≤es.length∧xs.all (fun x=>x.cells.length==sz&&x.cells.all ae.cK)=true then some (b_ σ b (.row (cw es off xs) fz)) else none
  | _=>none
 | _=>none
def kF:ae→Option Nat
 | .aU=>some 0
 | .os _ _ n _=>some n
 | .oc _ _ n _ _=>some n
 | .ps _ es=>some es.length
 | _=>none
def vq:ae→Option Nat
 | .aU=>some 0
 | .oc _ _ _ c _=>some c
 | _=>none
def j5 (σ:ai) (nm:Nat) (T:jV) (l c:ae):Option (ae×ai) :=
 match T.kind,T.elem,l,c with
 | .slice,some e, .int .i64 l, .int .i64 c =>
  if 0≤l∧l≤c∧c≤1000000000∧e.bytes≤65536∧0<e.sz∧e.zero.length=e.sz then some (.os nm 0 l.toNat e.sz,b_ σ nm (.row (List.replicate l.toNat (zeroV e)) 0)) else none
 | _,_,_,_=>none
def fO (f:Int→Int→Int):ae→List ae→Option ae
 | x,[]=>some x
 | .int k a, .int _ b :: rest=>fO f (.int k (f a b)) rest
 | _,_=>none
def fc (P:Program) (σ:ai) (nm:Nat) (b:Builtin) (ts:List TypeId) (args:List ae):Option (ae×ai) :=
 match b,ts,args with
 | .len,[t],[x]=>(bL P t).bind fun T=>match T.kind with
  | .array n=>some (.int .i64 n,σ)
  | .str | .slice | .map=>(nx T.kind σ x).map fun (n:Nat)=>(ae.int .i64 (n:Int),σ)
  | _=>none
 | .append,[t,u],[s,x]=>(bL P t).bind fun T=>(bL P u).bind fun U=>match T.kind,T.elem,U.kind with
  | .slice,some e, .slice=>(eR σ e.sz x).bind fun xs=>ei σ nm e s xs
  | .slice,some e, .str=>match x with
   | .str y=>if e.sz=1 then ei σ nm e s (bytesOf y) else none
   | _=>none
  | .slice,some e, .int _=>match x with
   | .int .i64 n=>if 0≤n∧n≤1000000000∧IntKind.i64.wrap n=n then ei σ nm e s (List.replicate n.toNat (zeroV e)) else none
   | _=>none
  | _,_,_=>none
 | .cap,[t],[x]=>(bL P t).bind fun T=>match T.kind with
  | .slice=>(vq x).map fun (n:Nat)=>(ae.int .i64 (n:Int),σ)
  | _=>none
 | .clear,[t],[x]=>(bL P t).bind fun T=>match T.kind,T.elem with
  | .slice,some e=>(kF x).bind fun n=>if n=0 then some (.dA [],σ) else (kA σ e.sz x (List.replicate n (zeroV e))).map (.dA [], ·)
  | _,_=>none
 | .copy,[t,u],[d,x]=>(bL P t).bind fun T=>(bL P u).bind fun U=>match T.kind,T.elem,U.kind with
  | .slice,some e, .slice=>(kF d).bind fun n=>(eR σ e.sz x).bind fun xs=>(kA σ e.sz d (xs.take n)).map (ae.int .i64 ((xs.take n).length:Int), ·)
  | _,_,_=>none
 | .max,_,x :: rest=>(fO (fun a b=>if a<b then b else a) x rest).map (·,σ)
 | .min,_,x :: rest=>(fO (fun a b=>if b<a then b else a) x rest).map (·,σ)
 | _,_,_=>none
def oZ (P:Program) (s d:TypeId) (x:ae):Option ae :=
 match iK P s,iK P d,x with
 | some _,some (.int k), .int _ n=>some (.int k (k.wrap n))
 | some .str,some .str, .str y=>some (.str y)
 | _,_,_=>none
def jh (P:Program) (x:ae) (asserted:TypeId) (ok:Bool):Option ae :=
 match bL P asserted,x with
 | some T, .iface t v=>match T.kind with
  | .iface=>none
  | _=>if t=asserted then some (if ok then .dA [v, .bool true] else v) else if ok then some (.dA [zeroV T.lay, .bool false]) else none
 | some T, .fR=>match T.kind with
  | .iface=>none
  | _=>if ok then some (.dA [zeroV T.lay, .bool false]) else none
 | _,_=>none
def nt (σ:ai):ae→Option (ae×ai)
 | .it b=>match bH σ b with
  | some (.iter s pos)=>if pos<s.size then some (.dA [.bool true, .int .i64 pos, .int .i32 (Utf8.decode s pos).1],b_ σ b (.iter s (pos+(Utf8.decode s pos).2))) else some (.dA [.bool false],σ)
  | _=>none
 | _=>none
def oG (σ:ai):ae→Option (ae×ai)
 | .it b=>match bH σ b with
  | some (.lu ks vs seen)=>match seen.getLast? with
   | some i=>some (.dA [ks.getD i .undef,vs.getD i .undef],σ)
   | none=>none
  | _=>none
 | _=>none
def c9 (P:Program) (σ:ai) (nm:Nat) (ρ:Operand→ae):Op→Option (ae×ai)
 | .move x=>some (ρ x,σ)
 | .assign x=>some (ρ x,σ)
 | .pick c a b=>(po (ρ c) (ρ a) (ρ b)).map (·,σ)
 | .alloc t=>(aF P t).bind fun l=>some (.ptr nm 0,b_ σ nm (.var l.zero))
 | .box t x=>(aF P t).bind fun l=>if (ρ x).cells.length=l.sz∧(ρ x).cells.all ae.cK then some (.ptr nm 0,b_ σ nm (.var (ρ x).cells)) else none
 | .build t parts=>(bL P t).bind fun T=>(oD T ρ parts.toList).map (·,σ)
 | .buildSlice t n parts=>(bL P t).bind fun T=>T.elem.bind fun e=>(pY e ρ 0 parts.toList).bind fun es =>
   if es.length=n∧T.kind = .slice∧n*e.sz≤16777216∧e.zero.length=e.sz∧0<e.sz then some (.os nm 0 n e.sz,b_ σ nm (.row es 0)) else none
 | .load t x=>(aF P t).bind fun l=>(jf σ l (ρ x)).map (·,σ)
 | .store t x v=>(aF P t).bind fun l=>(mD σ l (ρ x) (ρ v)).map (.undef, ·)
 | .nilCheck x=>match ρ x with
  | .ptr b o=>some (.ptr b o,σ)
  | .rp b i f=>some (.rp b i f,σ)
  | .pp cs=>some (.pp cs,σ)
  | .fn f a c=>some (.fn f a c,σ)
  | _=>none
 | .binOp op t x y _=>(xW P op t (ρ x) (ρ y) (ki y)).map (·,σ)
 | .unOp op _ x=>(E4 op (ρ x)).map (·,σ)
 | .convert s d x=>(oZ P s d (ρ x)).map (·,σ)
 | .makeInterface t x=>match iK P t with
  | some .iface=>none
  | some _=>some (.iface t (ρ x),σ)
  | none=>none
 | .makeFunc (.func f) first captured=>some (.fn f (first.toList.map ρ) (captured.toList.map ρ),σ)
 | .makeMap t none=>some (.map nm,b_ σ nm (.map [] [] false))
 | .makeSlice t l c=>(bL P t).bind fun T=>j5 σ nm T (ρ l) (ρ c)
 | .slice t x lo hi mx=>(bL P t).bind fun T=>(iX T (ρ x) (lo.map ρ) (hi.map ρ) (mx.map ρ)).map (·,σ)
 | .fieldAddr t x i=>(bL P t).bind fun T=>(jZ T (ρ x) i).map (·,σ)
 | .field t x i=>(bL P t).bind fun T=>(pL T (ρ x) i).map (·,σ)
 | .indexAddr t x i=>(bL P t).bind fun T=>(fB T (ρ x) (ρ i)).map (·,σ)
 | .index t x i=>(bL P t).bind fun T=>(pR T (ρ x) (ρ i)).map (·,σ)
 | .lookup t x i ok=>(bL P t).bind fun T=>(lH σ T (ρ x) (ρ i) ok).map (·,σ)
 | .mapUpdate t m k v=>(bL P t).bind fun T=>(gG σ T (ρ m) (ρ k) (ρ v)).map (.undef, ·)
 | .insert t m k v=>(bL P t).bind fun T=>(gG σ T (ρ m) (ρ k) (ρ v)).map (.undef, ·)
 | .range t x=>(bL P t).bind fun T=>match T.kind,ρ x with
  | .str, .str s=>some (.it nm,b_ σ nm (.iter s 0))
  | .map, .pm ks vs=>some (.it nm,b_ σ nm (.lu ks vs []))
  | _,_=>none
 | .entry x=>oG σ (ρ x)
 | .next it true=>nt σ (ρ it)
 | .typeAssert x _ u ok=>(jh P (ρ x) u ok).map (·,σ)
 | .extract x i=>match ρ x with
  | .dA vs=>(vs[i]?).map (·,σ)
  | _=>none
 | .call { callee:=.builtin b,args,argTypes }=>fc P σ nm b argTypes.toList (args.toList.map ρ)
 | _=>none
structure St where
 tm:List ae
 σ:ai
def ev (tm:List ae):Operand→ae
 | .tmp t=>tm.getD t .undef
 | .const v=>ofValue v
 | .global g=>.nX (.pointer (some ⟨g,0,none⟩))
 | .func f=>.fn f [] []
def put (tm:List ae) (dst:Option Tmp) (v:ae):List ae :=
 match dst with
 | some d=>tm.set d v
 | none=>tm
theorem Em {X:Nat→Nat→Prop} {base:Nat} {σ σ':ai} {β β':Env} {w w':World} (hr:cH X base σ β w) (nm:Nat) (L':Loc) (kW:bE)
  (DL : σ'[nm]? = some (some kW))
  (jk:∀ c x,c≠nm→σ'[c]? = some (some x)→σ[c]? = some (some x)∧∀ Lc,β c=some Lc→Lc.g≠L'.g)
  (hlen : σ.length≤σ'.length)
  (vR : β' nm=some L') (vS:∀ c,c≠nm→β' c = β c) (Og : β nm=none∨β nm=some L')
  (yC:w'.os=w.os) (rm:w'.tape=w.tape) (mU:w'.output=w.output) (ph:w.heap.size≤w'.heap.size)
  (rf:∀ g,g<w.heap.size→g≠L'.g→w'.heap[g]? = w.heap[g]?)
  (np:∀ off v,w.cell? ⟨L'.g,off,none⟩=some v→¬ ja σ β L'.g off→w'.cell? ⟨L'.g,off,none⟩=some v)
  (yk:L'.g<w.heap.size→(∀ o, ¬ ja σ β L'.g o)→w'.heap[L'.g]? = w.heap[L'.g]?)
  (Dr:∀ off,kW.mut L' off→ja σ β L'.g off∨w.heap.size≤L'.g)
  (hX:∀ o, ¬ X L'.g o) (uw:base≤L'.g) :
  Ext 0 σ β w σ' β' w'∧di w (MT X σ β) w' (MT X σ' β')∧(∀ b L,β b=some L→β' b=some L) ∧
   (gp w' (MT X σ' β') β' L' kW→cH X base σ' β' w'):=by
 have Dz:∀ b L,β b=some L→β' b=some L:=by
  intro b L hb
  by_cases e:b=nm
  ·subst e
   rcases Og with h | h
   ·rw [h] at hb;cases hb
   ·rw [vR,← h,hb]
  ·rw [vS b e,hb]
 have oI:∀ g o,ja σ' β' g o→ja σ β g o∨w.heap.size≤g:=by
  rintro g o ⟨b,cg,L,h1,h2,rfl,h4⟩
  by_cases e:b=nm
  ·subst e
   obtain rfl:kW=cg:=aN (aN (DL.symm.trans h1))
   obtain rfl:L'=L:=aN (vR.symm.trans h2)
   exact Dr o h4
  ·exact .inl ⟨b,cg,L,(jk b cg e h1).1,(vS b e).symm.trans h2,rfl,h4⟩
 have pQ:Ext 0 σ β w σ' β' w':=by
  refine ⟨yC,rm,mU,ph,?_,?_,oI,fun b hb=>absurd hb (Nat.not_lt_zero _)⟩
  ·intro g o v hc hn
   by_cases e:g=L'.g
   ·subst e;exact np o v hc hn
   ·have:=rf g (xT hc) e
    rw [World.cell?_of_block (w:=w) (a:=⟨g,o,none⟩) this];exact hc
  ·intro g hg hn
   by_cases e:g=L'.g
   ·subst e;exact yk hg hn
   ·exact rf g hg e
 have BR:=pQ.keeps hr
 refine ⟨pQ,BR,Dz,fun ju=>⟨?_,?_,?_,cV hr.size ph,fun g o hx=>cX (hr.qd g o hx) ph,hr.CT pQ⟩⟩
 ·intro b hb
  have bG:nm < σ'.length:=(aI.1 DL).1
  rw [vS b (by omega)]
  exact hr.nO b (by omega)
 ·intro b cg hb
  by_cases e:b=nm
  ·subst e
   obtain rfl:kW=cg:=aN (aN (DL.symm.trans hb))
   exact ⟨L',vR,uw,hX,ju⟩
  ·obtain ⟨h1,h2⟩:=jk b cg e hb
   obtain ⟨L,h3,h4,h5,h6⟩:=hr.cg b cg h1
   have bG:L.g<w.heap.size:=by
    cases cg with
    | var cs=>obtain ⟨c,e,h,_⟩:=h6;exact (aL.1 h).1
    | row es fz=>obtain ⟨c,e,h,_⟩:=h6;exact (aL.1 h).1
    | map ks vs fz=>obtain ⟨c,e,h,_⟩:=h6;exact (aL.1 h).1
    | iter s p=>exact (aL.1 h6).1
    | lu ks vs seen=>obtain ⟨m,es,c,h,_⟩:=h6;exact (aL.1 h).1
    | loop r=>obtain ⟨c,e,f,h,_⟩:=h6;exact (aL.1 h).1
   exact ⟨L,Dz _ _ h3,h4,h5,h6.mono BR Dz (rf L.g bG (h2 L h3))⟩
 ·intro b b' cg CN L L2 h1 h2 h3 h4 hg
  by_cases e:b=nm
  ·by_cases e':b'=nm
   ·rw [e,e']
   ·exfalso
    subst e
    obtain rfl:L'=L:=aN (vR.symm.trans h3)
    exact (jk b' CN e' h2).2 L2 ((vS b' e').symm.trans h4) hg.symm
  ·by_cases e':b'=nm
   ·exfalso
    subst e'
    obtain rfl:L'=L2:=aN (vR.symm.trans h4)
    exact (jk b cg e h1).2 L ((vS b e).symm.trans h3) hg
   ·exact hr.inj b b' cg CN L L2 (jk b cg e h1).1 (jk b' CN e' h2).1 ((vS b e).symm.trans h3) ((vS b' e').symm.trans h4) hg
theorem gp.lt {w:World} {M:Nat→Nat→Prop} {β:Env} {L:Loc} {cg:bE} (h6:gp w M β L cg):L.g<w.heap.size:=by
 cases cg with
 | var cs=>obtain ⟨c,e,h,_⟩:=h6;exact (aL.1 h).1
 | row es fz=>obtain ⟨c,e,h,_⟩:=h6;exact (aL.1 h).1
 | map ks vs fz=>obtain ⟨c,e,h,_⟩:=h6;exact (aL.1 h).1
 | iter s p=>exact (aL.1 h6).1
 | lu ks vs seen=>obtain ⟨m,es,c,h,_⟩:=h6;exact (aL.1 h).1
 | loop r=>obtain ⟨c,e,f,h,_⟩:=h6;exact (aL.1 h).1
def cR (P:Program) (X:Nat→Nat→Prop) (base:Nat) (σ:ai) (β:Env) (w:World) (nm:Nat) (s:Sem Next) (r:ae) (σ':ai):Prop :=
 ∃ v w' β',(s.run P w = .ok (.value v) w'∨(s.run P w = .ok .skip w'∧v=undef))∧cH X base σ' β' w'∧bS w' (MT X σ' β') β' v r ∧
  Ext 0 σ β w σ' β' w'∧(∀ b,b≠nm→β' b = β b)∧∀ b L,β b=some L→β' b=some L
section
variable {P:Program} {X:Nat→Nat→Prop} {base:Nat} {σ:ai} {β:Env} {w:World} {nm:Nat}
theorem cR.val (hr:cH X base σ β w) {s:Sem Next} {v:Value} {r:ae} (h:s.run P w = .ok (.value v) w) (hv:bS w (MT X σ β) β v r):cR P X base σ β w nm s r σ :=
 ⟨v,w,β, .inl h,hr,hv,Ext.refl _ _ _ _,fun _ _=>rfl,fun _ _ h=>h⟩
theorem Kk {M:Nat→Nat→Prop} (v:Value):bS w M β v (ofValue v):=by
 unfold ofValue
 split<;>first | exact .nX _ | constructor
theorem p6 {t:TypeId} {l:eM} (h:aF P t=some l):∃ i u z,P.info? t=some i∧P.underlying t=some u∧i.zero=some z ∧
  i.size=l.sz∧qM u=l.ag∧i.bytes=l.bytes∧sK z=l.zero∧jl u=l.key∧Ba l.ag z=true∧z.cells.size=l.sz:=by
 unfold aF at h
 split at h
 ·rename_i i u h1 h2
  split at h
  ·rename_i z hz
   split at h
   ·rename_i hc
    cases h
    exact ⟨i,u,z,h1,h2,hz,rfl,rfl,rfl,rfl,rfl,hc.1,hc.2⟩
   ·cases h
  ·cases h
 ·cases h
theorem KO {t:TypeId} {u:TypeDesc} (h:P.underlying t=some u):(isAgg t).run P w = .ok (qM u) w:=by
 simp only [isAgg,Sem.run_bind,run_underlying h,Result.andThen_ok]
 cases u<;>rfl
theorem tP {t:TypeId} {i:TypeInfo} (h:P.info? t=some i):(sizeOf t).run P w = .ok i.size w:=by
 simp [sizeOf,typeInfo,h]
theorem HL {t:TypeId} {i:TypeInfo} {z:Value} (h:P.info? t=some i) (hz:i.zero=some z):(zeroValue t).run P w = .ok z w:=by
 simp [zeroValue,typeInfo,h,hz]
theorem QQ {α:Type} (f:Nat→α) (n k:Nat) (d : α) (h:k<n):(((List.range n).map f).toArray).getD k d=f k:=by
 simp [Array.getD,h]
theorem QO {M:Nat→Nat→Prop} {t:TypeId} {l:eM} (hl:aF P t=some l) {g o:Nat} {cs:List ae} {cv:Nat→Value}
  (hc:∀ k,k<cs.length→w.cell? ⟨g,o+k,none⟩=some (cv k)) (hv:∀ k,k<cs.length→bS w M β (cv k) (cs.getD k .undef)) {r:ae} (ht:jQ l cs=some r) :
  ∃ v,(loadVar t ⟨g,o,none⟩).run P w = .ok v w∧bS w M β v r:=by
 obtain ⟨i,u,z,h1,h2,h3,h4,h5,_⟩:=p6 hl
 unfold jQ at ht
 simp only [loadVar,Sem.run_bind,KO h2,Result.andThen_ok,h5]
 by_cases ha:l.ag=true
 ·rw [if_pos ha] at ht
  rw [if_pos ha]
  split at ht
  ·rename_i hle
   cases ht
   have:=run_loadCells (P:=P) w ⟨g,o,none⟩ i.size cv (fun j hj=>by rw [Addr.add_lit];exact hc j (by omega))
   refine ⟨.agg ((List.range i.size).map cv).toArray,by simp [tP h1,this],?_⟩
   refine .agg (by simp;omega) fun k hk=>?_
   have eE:k<i.size:=by simp at hk;omega
   rw [QQ cv i.size k _ eE]
   have:=hv k (by omega)
   rwa [show (List.take l.sz cs).getD k ae.undef=cs.getD k .undef by simp [List.getD,fj,show k<l.sz by omega]]
  ·cases ht
 ·rw [if_neg ha] at ht
  rw [if_neg ha]
  cases cs with
  | nil=>simp at ht
  | cons c cs =>
   simp only [List.head?_cons,aG] at ht
   subst ht
   have h0:=hc 0 (by simp)
   simp only [ck] at h0
   exact ⟨cv 0,by simp [run_load,h0],hv 0 (by simp)⟩
theorem Q7 {M:Nat→Nat→Prop} {t:TypeId} {l:eM} (hl:aF P t=some l) {cs:Array Value} {cm:List ae} (hn:cs.size=cm.length)
  (hv:∀ k,k<cm.length→bS w M β (cs.getD k undef) (cm.getD k .undef)) {off:Nat} {r:ae} (ht:wJ l cm off=some r) :
  ∃ v,(part t cs off).run P w = .ok v w∧bS w M β v r:=by
 obtain ⟨i,u,z,h1,h2,h3,h4,h5,_⟩:=p6 hl
 unfold wJ jQ at ht
 simp only [part,Sem.run_bind,KO h2,Result.andThen_ok,h5]
 by_cases ha:l.ag=true
 ·rw [if_pos ha] at ht
  rw [if_pos ha]
  split at ht
  ·rename_i hle
   cases ht
   simp only [cj] at hle
   refine ⟨.agg (cs.extract off (off+i.size)),by simp [tP h1],?_⟩
   refine .agg (by simp;omega) fun k hk=>?_
   have eE:k<l.sz:=by simp at hk;omega
   have:=hv (off+k) (by omega)
   have e1:(cs.extract off (off+i.size)).getD k undef=cs.getD (off+k) undef:=by
    rw [aj,aj,Array.getElem?_extract]
    rw [if_pos (by omega)]
   have e2:(List.take l.sz (List.drop off cm)).getD k ae.undef=cm.getD (off+k) .undef:=by
    simp [List.getD,fj,eE,dM]
   rw [e1,e2];exact this
  ·cases ht
 ·rw [if_neg ha] at ht
  rw [if_neg ha]
  simp only [List.head?_drop] at ht
  obtain ⟨bG,he⟩:=aI.1 ht
  have:=hv off bG
  refine ⟨cs.getD off undef,?_,?_⟩
  ·have:cs[off]? = some (cs.getD off undef):=by
    rw [aj,aD (by omega)];rfl
   rw [this];rfl
  ·rwa [show cm.getD off ae.undef=r by simp [List.getD,ht]] at this
end
end Go.c8
