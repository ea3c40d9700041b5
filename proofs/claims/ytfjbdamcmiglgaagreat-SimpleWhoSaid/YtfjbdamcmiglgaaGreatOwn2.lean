/- Part 2 of my own framework and of the walks of functions: AbsA, AbsB, AbsC. -/
import Derived.Test.YtfjbdamcmiglgaaGreatOwn1
import Derived.AtR
import Derived.Below
abbrev aj:=@Array.getD_eq_getD_getElem?
abbrev aB:=@Array.getElem?_eq_getElem
abbrev aL:=@Array.getElem?_eq_some_iff
abbrev iH:=@Array.getElem?_modify
abbrev fv:=@Array.getElem?_push
abbrev dH:=@List.getElem?_drop
abbrev aI:=@List.getElem?_eq_some_iff
abbrev eZ:=@List.getElem?_take
abbrev cf:=@List.length_drop
abbrev cg:=@Nat.add_zero
abbrev ah:=@Nat.le_refl
abbrev cP:=@Nat.le_trans
abbrev cQ:=@Nat.lt_of_lt_of_le
abbrev cy:=@Nat.lt_succ_self
abbrev aM:=@Option.some.inj
abbrev aG:=@Option.some.injEq
set_option linter.unusedVariables false
set_option linter.unusedSectionVars false
set_option linter.unusedSimpArgs false
namespace Go.c8
open Go
inductive ae:Type where
 | undef
 | bool (b:Bool)
 | gZ
 | int (k:IntKind) (n:Int)
 | str (s:ByteArray)
 | bM
 | ptr (b off:Nat)
 | rp (b i f:Nat)
 | pp (cs:List ae)
 | aU
 | ps (sz:Nat) (es:List ae)
 | os (b off len sz:Nat)
 | oc (b off len cap sz:Nat)
 | az
 | fn (f:FuncId) (first captured:List ae)
 | ld (b:Nat)
 | cw
 | map (b:Nat)
 | pm (ks vs:List ae)
 | it (b:Nat)
 | agg (cs:List ae)
 | dz (vs:List ae)
 | fC
 | iface (t:TypeId) (v:ae)
 | nL (v:Value)
 deriving Inhabited
def ae.cells:ae→List ae
 | .agg cs=>cs
 | a=>[a]
structure Loc where
 g:Nat
 o:Nat
 n:Nat
 sz:Nat
abbrev Env:=Nat→Option Loc
def iI (es:Array MapEntry) (clk:Nat):Prop :=
 (∀ i,i<es.size→(es.getD i default).born<clk)∧∀ i j,i<es.size→j<es.size→(es.getD i default).born=(es.getD j default).born→i=j
theorem ZX:iI #[] 0:=⟨fun i hi=>by simp at hi,fun i j hi=>by simp at hi⟩
theorem XP {es:Array MapEntry} {clk:Nat} (h:iI es clk) (k v:Value):iI (es.push { key:=k,val:=v,born:=clk }) (clk+1):=by
 have e:∀ i,(es.push { key:=k,val:=v,born:=clk }).getD i default=if i=es.size then { key:=k,val:=v,born:=clk } else es.getD i default:=fun i=>by
  simp only [aj,fv]
  split<;>rfl
 constructor
 ·intro i hi
  rw [e]
  simp only [Array.size_push] at hi
  split
  ·exact cy _
  ·exact Nat.lt_succ_of_lt (h.1 i (by omega))
 ·intro i j hi hj xm
  rw [e,e] at xm
  simp only [Array.size_push] at hi hj
  split at xm<;>split at xm
  ·omega
  ·have:=h.1 j (by omega);simp only at xm;omega
  ·have:=h.1 i (by omega);simp only at xm;omega
  ·exact h.2 i j (by omega) (by omega) xm
theorem Zv0 {es:Array MapEntry} {clk:Nat} (h:iI es clk) (i:Nat) (k v:Value):iI (es.modify i fun e=>{ e with key:=k,val:=v }) clk:=by
 have e:∀ j,j<es.size→((es.modify i fun e=>{ e with key:=k,val:=v }).getD j default).born=(es.getD j default).born:=fun j hj=>by
  simp only [aj,iH]
  split
  ·rename_i h;subst h;rw [aB hj];rfl
  ·rfl
 constructor
 ·intro j hj
  rw [Array.size_modify] at hj
  rw [e j hj];exact h.1 j hj
 ·intro j j' hj rr Vd
  rw [Array.size_modify] at hj rr
  rw [e j hj,e j' rr] at Vd
  exact h.2 j j' hj rr Vd
inductive bR (w:World) (M:Nat→Nat→Prop) (β:Env):Value→ae→Prop
 | undef (v:Value):bR w M β v .undef
 | bool (b:Bool):bR w M β (.bool b) (.bool b)
 | gZ (b:Bool):bR w M β (.bool b) .gZ
 | int (k:IntKind) (n:Int):bR w M β (.int k n) (.int k n)
 | str (s:ByteArray):bR w M β (.string s) (.str s)
 | bM:bR w M β (.pointer none) .bM
 | ptr {b off:Nat} {L:Loc} (h : β b=some L):bR w M β (.pointer (some ⟨L.g,L.o+off,none⟩)) (.ptr b off)
 | rp {b i f:Nat} {L:Loc} (h : β b=some L):bR w M β (.pointer (some ⟨L.g,L.o+i*L.sz+f,none⟩)) (.rp b i f)
 | pp {g o:Nat} {cs:List ae} (cv:Nat→Value)
   (hc:∀ k,k<cs.length→w.cell? ⟨g,o+k,none⟩=some (cv k)∧¬ M g (o+k))
   (hr:∀ k,k<cs.length→bR w M β (cv k) (cs.getD k .undef)):bR w M β (.pointer (some ⟨g,o,none⟩)) (.pp cs)
 | aU (a:Option Addr):bR w M β (.slice a 0 0) .aU
 | ps {a:Option Addr} {cap sz:Nat} {es:List ae} (cv:Nat→Nat→Value) (jd:es.length≤cap)
   (fF:∀ i,i<es.length→(es.getD i .undef).cells.length=sz)
   (hc:∀ i j,i<es.length→j<sz→∃ g o,a=some ⟨g,o,none⟩∧w.cell? ⟨g,o+i*sz+j,none⟩=some (cv i j)∧¬ M g (o+i*sz+j))
   (ha : 0<es.length→∃ g o,a=some ⟨g,o,none⟩)
   (hr:∀ i j,i<es.length→j<sz→bR w M β (cv i j) ((es.getD i .undef).cells.getD j .undef)):bR w M β (.slice a es.length cap) (.ps sz es)
 | sd (a:Option Addr) {b off:Nat} {L:Loc} (h : β b=some L):bR w M β (.slice a 0 0) (.os b off 0 L.sz)
 | os {b off len cap:Nat} {L:Loc} (h : β b=some L) (hl:len≤cap) (hc:off+cap≤L.n):bR w M β (.slice (some ⟨L.g,L.o+off*L.sz,none⟩) len cap) (.os b off len L.sz)
 | sc (a:Option Addr) {b off:Nat} {L:Loc} (h : β b=some L):bR w M β (.slice a 0 0) (.oc b off 0 0 L.sz)
 | oc {b off len cap:Nat} {L:Loc} (h : β b=some L) (hl:len≤cap) (hc:off+cap≤L.n):bR w M β (.slice (some ⟨L.g,L.o+off*L.sz,none⟩) len cap) (.oc b off len cap L.sz)
 | az:bR w M β .nilFunc .az
 | fn {f:FuncId} {fa ca:Array Value} {first captured:List ae} (h1:fa.size=first.length) (h2:ca.size=captured.length)
   (oq:∀ k,k<first.length→bR w M β (fa.getD k undef) (first.getD k .undef))
   (nG:∀ k,k<captured.length→bR w M β (ca.getD k undef) (captured.getD k .undef)):bR w M β (.func (.func f) fa ca) (.fn f first captured)
 | ld {b:Nat} {L:Loc} (h : β b=some L):bR w M β (.func (.yield L.g) #[] #[]) (.ld b)
 | cw:bR w M β (.map none) .cw
 | map {b:Nat} {L:Loc} (h : β b=some L):bR w M β (.map (some L.g)) (.map b)
 | pm {g clk:Nat} {es:Array MapEntry} {ks vs:List ae} (hg:w.heap[g]? = some (.map es clk)) (hm:¬ M g 0) (hk:es.size=ks.length) (hv:vs.length=ks.length)
   (oq:∀ k,k<ks.length→bR w M β (es.getD k default).key (ks.getD k .undef))
   (nG:∀ k,k<ks.length→bR w M β (es.getD k default).val (vs.getD k .undef)) (hb:iI es clk):bR w M β (.map (some g)) (.pm ks vs)
 | it {b:Nat} {L:Loc} (h : β b=some L):bR w M β (.pointer (some ⟨L.g,0,none⟩)) (.it b)
 | agg {cs:Array Value} {l:List ae} (h:cs.size=l.length) (hr:∀ k,k<l.length→bR w M β (cs.getD k Go.undef) (l.getD k .undef)):bR w M β (.agg cs) (.agg l)
 | dz {cs:Array Value} {l:List ae} (h:cs.size=l.length) (hr:∀ k,k<l.length→bR w M β (cs.getD k Go.undef) (l.getD k .undef)):bR w M β (.tuple cs) (.dz l)
 | fC:bR w M β .nilIface .fC
 | iface {t:TypeId} {v:Value} {a:ae} (h:bR w M β v a):bR w M β (.iface t v) (.iface t a)
 | nL (v:Value):bR w M β v (.nL v)
structure df (w:World) (M:Nat→Nat→Prop) (w':World) (M':Nat→Nat→Prop):Prop where
 cell:∀ g o v,w.cell? ⟨g,o,none⟩=some v→¬ M g o→w'.cell? ⟨g,o,none⟩=some v∧¬ M' g o
 map:∀ g es c,w.heap[g]? = some (.map es c)→¬ M g 0→w'.heap[g]? = some (.map es c)∧¬ M' g 0
theorem df.lP {w:World} {M M':Nat→Nat→Prop} (h:∀ g o,M' g o→M g o):df w M w M' :=
 ⟨fun g o _ hc hn=>⟨hc,fun hm=>hn (h g o hm)⟩,fun g _ _ hc hn=>⟨hc,fun hm=>hn (h g 0 hm)⟩⟩
theorem bR.mono {w w':World} {M M':Nat→Nat→Prop} {β β':Env} (hk:df w M w' M') (hβ:∀ b L,β b=some L→β' b=some L) {v:Value} {a:ae}
  (h:bR w M β v a):bR w' M' β' v a:=by
 induction h with
 | undef v=>exact .undef v
 | bool b=>exact .bool b
 | gZ b=>exact .gZ b
 | int k n=>exact .int k n
 | str s=>exact .str s
 | bM=>exact .bM
 | ptr h=>exact .ptr (hβ _ _ h)
 | rp h=>exact .rp (hβ _ _ h)
 | pp cv hc _ ih=>exact .pp cv (fun k er=>hk.cell _ _ _ (hc k er).1 (hc k er).2) ih
 | aU a=>exact .aU a
 | ps cv jd fF hc ha _ ih =>
  refine .ps cv jd fF (fun i j hi hj=>?_) ha ih
  obtain ⟨g,o,h1,h2,h3⟩:=hc i j hi hj
  exact ⟨g,o,h1,hk.cell _ _ _ h2 h3⟩
 | sd a h=>exact .sd a (hβ _ _ h)
 | os h hl hc=>exact .os (hβ _ _ h) hl hc
 | sc a h=>exact .sc a (hβ _ _ h)
 | oc h hl hc=>exact .oc (hβ _ _ h) hl hc
 | az=>exact .az
 | fn h1 h2 _ _ kA oA=>exact .fn h1 h2 kA oA
 | ld h=>exact .ld (hβ _ _ h)
 | cw=>exact .cw
 | map h=>exact .map (hβ _ _ h)
 | pm hg hm h1 h2 _ _ hb kA oA=>exact .pm (hk.map _ _ _ hg hm).1 (hk.map _ _ _ hg hm).2 h1 h2 kA oA hb
 | it h=>exact .it (hβ _ _ h)
 | agg h _ ih=>exact .agg h ih
 | dz h _ ih=>exact .dz h ih
 | fC=>exact .fC
 | iface _ ih=>exact .iface ih
 | nL v=>exact .nL v
inductive fS where
 | ready
 | busy
 | done (c:Code)
structure gF where
 tm:List ae
 params:Array Tmp
 assign:Code
 body:Code
 st:fS
inductive bE:Type where
 | var (cs:List ae)
 | row (es:List ae) (fz:Nat)
 | map (ks vs:List ae) (fz:Bool)
 | iter (s:ByteArray) (pos:Nat)
 | kZ (ks vs:List ae) (seen:List Nat)
 | loop (r:gF)
abbrev ai:=List (Option bE)
def bE.mut (L:Loc):bE→Nat→Prop
 | .row _ fz,off=>L.o+fz*L.sz≤off
 | .map _ _ fz,_=>fz=false
 | _,_=>True
def iO (σ:ai) (β:Env) (g off:Nat):Prop :=
 ∃ b cd L,σ[b]? = some (some cd)∧β b=some L∧L.g=g∧cd.mut L off
def MT (X:Nat→Nat→Prop) (σ:ai) (β:Env) (g o:Nat):Prop:=X g o∨iO σ β g o
def fS.of:fS→LoopState×Option Code
 | .ready=>(.ready,none)
 | .busy=>(.busy,none)
 | .done c=>(.done,some c)
def fR (w:World) (M:Nat→Nat→Prop) (β:Env) (L:Loc):bE→Prop
 | .var cs=>∃ c e,w.heap[L.g]? = some (.cells c e (0,0))∧L.o=0∧c.size=cs.length ∧
   ∀ k,k<cs.length→bR w M β (c.getD k undef) (cs.getD k .undef)
 | .row es _=>∃ c e,w.heap[L.g]? = some (.cells c e (0,0))∧L.o+L.n*L.sz≤c.size∧es.length≤L.n ∧
   (∀ i,i<es.length→(es.getD i .undef).cells.length=L.sz) ∧
   ∀ i j,i<es.length→j<L.sz→bR w M β (c.getD (L.o+i*L.sz+j) undef) ((es.getD i .undef).cells.getD j .undef)
 | .map ks vs _=>∃ es clk,w.heap[L.g]? = some (.map es clk)∧es.size=ks.length∧vs.length=ks.length ∧
   (∀ k,k<ks.length→bR w M β (es.getD k default).key (ks.getD k .undef))∧(∀ k,k<ks.length→bR w M β (es.getD k default).val (vs.getD k .undef))∧iI es clk
 | .iter s pos=>w.heap[L.g]? = some (.stringIter s pos)
 | .kZ ks vs seen=>∃ m es clk,w.heap[L.g]? = some (.mapIter (some m) clk (seen.map fun i=>(es.getD i default).born).toArray clk)∧w.heap[m]? = some (.map es clk)∧¬ M m 0∧es.size=ks.length∧vs.length=ks.length ∧
   (∀ k,k<ks.length→bR w M β (es.getD k default).key (ks.getD k .undef))∧(∀ k,k<ks.length→bR w M β (es.getD k default).val (vs.getD k .undef))∧iI es clk∧∀ i∈seen,i<ks.length
 | .loop r=>∃ tmps dr fn,w.heap[L.g]? = some (.loop { state:=r.st.of.1,pending:=r.st.of.2,fn,tmps,params:=r.params,assign:=r.assign,body:=r.body,defers:=dr }) ∧
   tmps.size=r.tm.length∧∀ k,k<r.tm.length→bR w M β (tmps.getD k undef) (r.tm.getD k .undef)
theorem fR.mono {w w':World} {M M':Nat→Nat→Prop} {β β':Env} (hk:df w M w' M') (hβ:∀ b L,β b=some L→β' b=some L) {L:Loc} {cd:bE}
  (hg:w'.heap[L.g]? = w.heap[L.g]?) (h:fR w M β L cd):fR w' M' β' L cd:=by
 cases cd with
 | var cs=>obtain ⟨c,e,h1,h0,h2,h3⟩:=h;exact ⟨c,e,hg.trans h1,h0,h2,fun k er=>(h3 k er).mono hk hβ⟩
 | row es fz=>obtain ⟨c,e,h1,h2,h3,h4,h5⟩:=h;exact ⟨c,e,hg.trans h1,h2,h3,h4,fun i j hi hj=>(h5 i j hi hj).mono hk hβ⟩
 | map ks vs fz=>obtain ⟨es,clk,h1,h2,h3,h4,h5,h6⟩:=h;exact ⟨es,clk,hg.trans h1,h2,h3,fun k er=>(h4 k er).mono hk hβ,fun k er=>(h5 k er).mono hk hβ,h6⟩
 | iter s pos=>exact hg.trans h
 | kZ ks vs seen=>obtain ⟨m,es,clk,h1,h2,h3,h4,h5,h6,h7,h8⟩:=h;exact ⟨m,es,clk,hg.trans h1,(hk.map _ _ _ h2 h3).1,(hk.map _ _ _ h2 h3).2,h4,h5,fun k er=>(h6 k er).mono hk hβ,fun k er=>(h7 k er).mono hk hβ,h8⟩
 | loop r=>obtain ⟨t,d,f,h1,h2,h3⟩:=h;exact ⟨t,d,f,hg.trans h1,h2,fun k er=>(h3 k er).mono hk hβ⟩
def uM (base:Nat) (w:World):Prop:=∀ x∈Ad,x.1<base∧∃ v,w.cell? ⟨x.1,x.2.1,none⟩=some v∧x.2.2 v
structure cC (X:Nat→Nat→Prop) (base:Nat) (σ:ai) (β:Env) (w:World):Prop where
 nA:∀ b,σ.length≤b→β b=none
 cd:∀ b cd,σ[b]? = some (some cd)→∃ L,β b=some L∧base≤L.g∧(∀ o, ¬ X L.g o)∧fR w (MT X σ β) β L cd
 inj:∀ b b' cd kI L L',σ[b]? = some (some cd)→σ[b']? = some (some kI)→β b=some L→β b'=some L'→L.g=L'.g→b=b'
 size:base≤w.heap.size
 pW:∀ g o,X g o→g<w.heap.size
 gl:uM base w
structure Ext (lo:Nat) (σ:ai) (β:Env) (w:World) (σ':ai) (β':Env) (w':World):Prop where
 os:w'.os=w.os
 tape:w'.tape=w.tape
 output:w'.output=w.output
 size:w.heap.size≤w'.heap.size
 cell:∀ g o v,w.cell? ⟨g,o,none⟩=some v→¬ iO σ β g o→w'.cell? ⟨g,o,none⟩=some v
 block:∀ g,g<w.heap.size→(∀ o, ¬ iO σ β g o)→w'.heap[g]? = w.heap[g]?
 iB:∀ g o,iO σ' β' g o→iO σ β g o∨w.heap.size≤g
 env:∀ b,b<lo→β' b = β b
theorem xC {w:World} {g o:Nat} {v:Value} (h:w.cell? ⟨g,o,none⟩=some v):g<w.heap.size:=World.block_lt_of_cell? w ⟨g,o,none⟩ h
theorem Ext.refl (lo:Nat) (σ:ai) (β:Env) (w:World):Ext lo σ β w σ β w :=
 ⟨rfl,rfl,rfl,ah _,fun _ _ _ h _=>h,fun _ _ _=>rfl,fun _ _ h=>.inl h,fun _ _=>rfl⟩
theorem Ext.trans {lo:Nat} {σ dg iM:ai} {β eO mJ:Env} {w w1 w2:World} (h:Ext lo σ β w dg eO w1) (k:Ext lo dg eO w1 iM mJ w2):Ext lo σ β w iM mJ w2:=by
 refine ⟨k.os.trans h.os,k.tape.trans h.tape,k.output.trans h.output,cP h.size k.size,?_,?_,?_,fun b hb=>(k.env b hb).trans (h.env b hb)⟩
 ·intro g o v hc hn
  have h1:=h.cell g o v hc hn
  refine k.cell g o v h1 fun hm=>?_
  rcases h.iB g o hm with h2 | h2
  ·exact hn h2
  ·have:=xC hc;omega
 ·intro g hg hn
  have h1:=h.block g hg hn
  rw [← h1]
  refine k.block g (cQ hg h.size) fun o hm=>?_
  rcases h.iB g o hm with h2 | h2
  ·exact hn o h2
  ·omega
 ·intro g o hm
  rcases k.iB g o hm with h2 | h2
  ·exact h.iB g o h2
  ·exact .inr (cP h.size h2)
theorem Ext.lower {lo lo':Nat} {σ σ':ai} {β β':Env} {w w':World} (h:Ext lo σ β w σ' β' w') (hl:lo'≤lo):Ext lo' σ β w σ' β' w' :=
 ⟨h.os,h.tape,h.output,h.size,h.cell,h.block,h.iB,fun b hb=>h.env b (cQ hb hl)⟩
theorem cC.AF {X:Nat→Nat→Prop} {base:Nat} {σ:ai} {β:Env} {w:World} (h:cC X base σ β w) {g clk:Nat} {es:Array MapEntry}
  (hg:w.heap[g]? = some (.map es clk)) (hn:¬ iO σ β g 0):∀ o, ¬ iO σ β g o:=by
 rintro o ⟨b,cd,L,h1,h2,rfl,h4⟩
 refine hn ⟨b,cd,L,h1,h2,rfl,?_⟩
 obtain ⟨L',uG,_,_,j9⟩:=h.cd b cd h1
 obtain rfl:L=L':=aM (h2.symm.trans uG)
 cases cd with
 | row es fz=>obtain ⟨c,e,h5,_⟩:=j9;rw [hg] at h5;cases h5
 | map ks vs fz=>exact h4
 | var cs=>trivial
 | iter s p=>trivial
 | kZ ks vs seen=>trivial
 | loop r=>trivial
theorem Ext.keeps {X:Nat→Nat→Prop} {base lo:Nat} {σ σ':ai} {β β':Env} {w w':World} (hr:cC X base σ β w) (h:Ext lo σ β w σ' β' w') :
  df w (MT X σ β) w' (MT X σ' β'):=by
 constructor
 ·intro g o v hc hn
  have hx:¬ X g o:=fun hx=>hn (.inl hx)
  have hm:¬ iO σ β g o:=fun hm=>hn (.inr hm)
  refine ⟨h.cell g o v hc hm,?_⟩
  rintro (r6 | Ar)
  ·exact hx r6
  ·rcases h.iB g o Ar with h2 | h2
   ·exact hm h2
   ·have:=xC hc;omega
 ·intro g es c hg hn
  have hx:¬ X g 0:=fun hx=>hn (.inl hx)
  have hm:¬ iO σ β g 0:=fun hm=>hn (.inr hm)
  have bD:g<w.heap.size:=(aL.1 hg).1
  refine ⟨(h.block g bD (hr.AF hg hm)).trans hg,?_⟩
  rintro (r6 | Ar)
  ·exact hx r6
  ·rcases h.iB g 0 Ar with h2 | h2
   ·exact hm h2
   ·omega
theorem cC.Cy {X:Nat→Nat→Prop} {base lo:Nat} {σ σ':ai} {β β':Env} {w w':World} (hr:cC X base σ β w) (h:Ext lo σ β w σ' β' w'):uM base w':=fun x hx=>by
 obtain ⟨g1,v,g2,g3⟩:=hr.gl x hx
 refine ⟨g1,v,h.cell _ _ _ g2 ?_,g3⟩
 rintro ⟨b,cd,L,m1,m2,m3,_⟩
 obtain ⟨L',q1,q2,_⟩:=hr.cd b cd m1
 obtain rfl:=aM (q1.symm.trans m2)
 omega
theorem uM.same {base:Nat} {w w':World} (hg:uM base w) (h:∀ g,g<w.heap.size→w'.heap[g]? = w.heap[g]?):uM base w':=fun x hx=>by
 obtain ⟨g1,v,g2,g3⟩:=hg x hx
 exact ⟨g1,v,by rw [World.cell?_of_block (w:=w) (a:=⟨x.1,x.2.1,none⟩) (h x.1 (xC g2))];exact g2,g3⟩
inductive KA where
 | bool | int (k:IntKind) | str | ptr | slice | array (n:Nat) | map | struct | func | iface | other
 deriving DecidableEq
def iY:TypeDesc→KA
 | .bool=>.bool | .int k=>.int k | .string=>.str | .pointer _=>.ptr | .slice _=>.slice | .array n _=>.array n
 | .map _ _=>.map | .struct _=>.struct | .func _ _ _=>.func | .interface _=>.iface | _=>.other
def qu:TypeDesc→Bool
 | .struct _ | .array _ _=>true
 | _=>false
def ofValue:Value→ae
 | .bool b=>.bool b
 | .int k n=>.int k n
 | .string s=>.str s
 | .pointer none=>.bM
 | .slice none 0 0=>.aU
 | .map none=>.cw
 | .nilFunc=>.az
 | .nilIface=>.fC
 | v=>.nL v
def sf (z:Value):List ae:=z.cells.toList.map ofValue
structure eF where
 sz:Nat
 ag:Bool
 bytes:Nat
 zero:List ae
 key:KA
def AU (ag:Bool):Value→Bool
 | .agg _=>ag
 | .tuple _=>false
 | _=>!ag
def aC (P:Program) (t:TypeId):Option eF :=
 match P.info? t,P.underlying t with
 | some i,some u=>match i.zero with
  | some z=>if AU (qu u) z=true∧z.cells.size=i.size then some { sz:=i.size,ag:=qu u,bytes:=i.bytes,zero:=sf z,key:=iY u } else none
  | none=>none
 | _,_=>none
structure jH where
 lay:eF
 oN:List (Nat×Option eF)
 elem:Option eF
 Dm:Option eF
def bK (P:Program) (t:TypeId):Option jH :=
 match aC P t,P.underlying t with
 | some l,some u=>some
  {lay:=l
   oN:=match u with | .struct fs=>fs.toList.map fun f=>(f.offset,aC P f.type) | _=>[]
   elem:=match u with | .slice e=>aC P e | .array _ e=>aC P e | .map _ e=>aC P e | _=>none
   Dm:=match u with | .map k _=>aC P k | _=>none }
 | _,_=>none
def jH.kind (T:jH):KA:=T.lay.key
def iA (P:Program) (t:TypeId):Option KA:=(aC P t).map (·.key)
def r7:ae→KA
 | .int k _=>.int k
 | .str _=>.str
 | .bool _=>.bool
 | _=>.other
def KA.plain:KA→Bool
 | .int _ | .str | .bool=>true
 | _=>false
def po (P:Program):List Field→Nat→List KA→Bool
 | [],_,[]=>true
 | f :: fs, i, k :: ks => f.offset == i && f.name != "_" && k.plain && decide ((P.underlying f.type).map iY = some k) && po P fs (i + 1) ks
 | _,_,_=>false
def tJ (P:Program) (t:TypeId) (ks:List KA):Bool :=
 match P.underlying t with
 | some (.struct fs)=>!P.eqGuardType P.depth t && !P.stoodInHeld t&&po P fs.toList 0 ks
 | _=>false
def ae.cF:ae→Bool
 | .undef | .agg _ | .dz _ | .nL _=>false
 | _=>true
def jD (l:eF) (cs:List ae):Option ae :=
 if l.ag then (if l.sz≤cs.length then some (.agg (cs.take l.sz)) else none) else cs.head?
def zeroV (l:eF):ae:=if l.ag then .agg l.zero else l.zero.headD .undef
def cq:List ae→Nat→List ae→List ae
 | cs,_,[]=>cs
 | cs,o,v :: vs=>cq (cs.set o v) (o+1) vs
def bZ (σ:ai) (nm:Nat) (b:bE):ai :=
 if nm < σ.length then σ.set nm (some b) else σ++List.replicate (nm - σ.length) none++[some b]
def bG (σ:ai) (b:Nat):Option bE:=(σ[b]?).join
def iS (σ:ai) (l:eF):ae→Option ae
 | .ptr b off=>match bG σ b with
  | some (.var cs)=>jD l (cs.drop off)
  | _=>none
 | .rp b i f=>match bG σ b with
  | some (.row es _)=>if i<es.length then jD l ((es.getD i .undef).cells.drop f) else none
  | _=>none
 | .pp cs=>jD l cs
 | _=>none
def jh (ag:Bool) (cs:List ae):ae:=if ag then .agg cs else cs.headD .undef
def cJ:ae→Bool
 | .agg _=>true
 | _=>false
def mj (σ:ai) (l:eF) (p v:ae):Option ai :=
 if v.cells.length=l.sz∧v.cells.all ae.cF then
  match p with
  | .ptr b off=>match bG σ b with
   | some (.var cs)=>if off+l.sz≤cs.length then some (bZ σ b (.var (cq cs off v.cells))) else none
   | _=>none
  | .rp b i f=>match bG σ b with
   | some (.row es fz) =>
    if fz≤i∧i<es.length∧f+l.sz≤(es.getD i .undef).cells.length∧0<l.sz then
     some (bZ σ b (.row (es.set i (jh (cJ (es.getD i .undef)) (cq (es.getD i .undef).cells f v.cells))) fz))
    else none
   | _=>none
  | _=>none
 else none
def oW:ae→ae→ae→Option ae
 | .bool c, .bool x, .bool y=>some (.bool (if c then x else y))
 | .bool c,x,y=>some (if c then x else y)
 | _,_,_=>none
def e8:ae→ae→Bool
 | .int _ a, .int _ b=>a==b
 | .str a, .str b=>a.toList==b.toList
 | .bool a, .bool b=>a==b
 | _,_=>false
def km:List ae→List ae→Bool
 | [],[]=>true
 | a :: cj,b :: bs=>e8 a b&&km cj bs
 | _,_=>false
def sameKind:ae→ae→Bool
 | .int k _, .int k' _=>k==k'
 | .str _, .str _=>true
 | .bool _, .bool _=>true
 | _,_=>false
def iz (op:BinOp) (k:IntKind) (a b:Int):Option ae :=
 match op with
 | .add=>some (.int k (k.wrap (a+b)))
 | .sub=>some (.int k (k.wrap (a - b)))
 | .mul=>some (.int k (k.wrap (a*b)))
 | .quo=>if b≠0 then some (.int k (k.wrap (a.tdiv b))) else none
 | .rem=>if b≠0 then some (.int k (a.tmod b)) else none
 | .eql=>some (.bool (decide (a=b)))
 | .neq=>some (.bool (decide (a≠b)))
 | .lss=>some (.bool (decide (a<b)))
 | .leq=>some (.bool (decide (a≤b)))
 | .gtr=>some (.bool (decide (b<a)))
 | .geq=>some (.bool (decide (b≤a)))
 | _=>none
def ml (op:BinOp) (a b:ByteArray):Option ae :=
 match op with
 | .add=>if a.size+b.size≤1000000000 then some (.str (a++b)) else none
 | .eql=>some (.bool (a.toList==b.toList))
 | .neq=>some (.bool !(a.toList==b.toList))
 | .lss=>some (.bool (Op.bytesLess a.toList b.toList))
 | .leq=>some (.bool (Op.bytesLess a.toList b.toList||a.toList==b.toList))
 | .gtr=>some (.bool !(Op.bytesLess a.toList b.toList||a.toList==b.toList))
 | .geq=>some (.bool !(Op.bytesLess a.toList b.toList))
 | _=>none
def nu:ae→Option Bool
 | .bM=>some false
 | .ptr _ _ | .rp _ _ _ | .pp _=>some true
 | _=>none
def ln:ae→Option Bool
 | .cw=>some false
 | .map _ | .pm _ _=>some true
 | _=>none
def kz:ae→Option Bool
 | .fC=>some false
 | .iface _ _=>some true
 | _=>none
def jW:ae→Option Bool
 | .az=>some false
 | .fn _ _ _=>some true
 | _=>none
def qh (P:Program) (t:TypeId):Bool :=
 match P.underlying t with
 | some (.interface ms)=>ms.isEmpty
 | _=>false
def tK (P:Program) (t:TypeId) (x y:ae):Option Bool :=
 match iA P t,x,y with
 | some .bool, .bool a, .bool b=>some (a==b)
 | some .ptr,x,y=>match nu x,nu y with
  | some false,some b=>some (!b)
  | some true,some false=>some false
  | _,_=>none
 | some .map,x, .cw=>(ln x).map (!·)
 | some .iface,x,y=>match kz x,kz y with
  | some true,some false | some false,some true=>some false
  | some false,some false=>if qh P t=true then some true else none
  | _,_=>none
 | some .func,x,y=>match jW x,jW y with
  | some false,some b=>some (!b)
  | some true,some false=>some false
  | _,_=>none
 | some .struct, .agg xs, .agg ys=>if xs.map r7=ys.map r7∧tJ P t (xs.map r7)=true then some (km xs ys) else none
 | _,_,_=>none
def lQ (P:Program) (op:BinOp) (t:TypeId) (x y:ae):Option ae :=
 match op with
 | .eql=>(tK P t x y).map .bool
 | .neq=>(tK P t x y).map fun b=>.bool !b
 | _=>none
def qv (P:Program) (op:BinOp) (t:TypeId) (x y:ae):Option ae :=
 match x,y with
 | .int k a, .int k' b=>if k=k' then iz op k a b else none
 | .str a, .str b=>ml op a b
 | x,y=>lQ P op t x y
def j3:Operand→Bool
 | .const (.slice none 0 0)=>true
 | _=>false
def rJ (neg:Bool):ae→Option ae
 | .aU=>some .gZ
 | .ps _ es=>some (if es.length=0 then .gZ else .bool neg)
 | .os _ _ n _=>some (if n=0 then .gZ else .bool neg)
 | .oc _ _ n _ _=>some (if n=0 then .gZ else .bool neg)
 | _=>none
def uh (P:Program) (op:BinOp) (t:TypeId) (x:ae):Option ae :=
 match iA P t,op with
 | some .slice, .eql=>rJ false x
 | some .slice, .neq=>rJ true x
 | _,_=>none
def xF (P:Program) (op:BinOp) (t:TypeId) (x y:ae) (nl:Bool):Option ae:=if nl then uh P op t x else qv P op t x y
def EG (op:UnOp):ae→Option ae
 | .bool b=>match op with
  | .not=>some (.bool !b)
  | _=>none
 | .int k n=>match op with
  | .neg=>some (.int k (k.wrap (0 - n)))
  | _=>none
 | _=>none
def jB (lo hi:Nat):ae→Option Nat
 | .int _ i=>if (lo:Int)≤i∧i≤hi then some i.toNat else none
 | _=>none
def ng (k:KA) (σ:ai) (x:ae):Option Nat :=
 match k,x with
 | .str, .str s=>some s.size
 | .slice, .ps _ es=>some es.length
 | .slice, .aU=>some 0
 | .slice, .os _ _ n _=>some n
 | .slice, .oc _ _ n _ _=>some n
 | .map, .cw=>some 0
 | .map, .pm ks _=>some ks.length
 | .map, .map b=>match bG σ b with
  | some (.map ks _ _)=>some ks.length
  | _=>none
 | _,_=>none
def eJ (σ:ai) (sz:Nat):ae→Option (List ae)
 | .ps s es=>if s=sz then some es else none
 | .aU=>some []
 | .os b off n s=>if s=sz then match bG σ b with
  | some (.row es _)=>if off+n≤es.length then some ((es.drop off).take n) else none
  | _=>none
  else none
 | .oc b off n _ s=>if s=sz then match bG σ b with
  | some (.row es _)=>if off+n≤es.length then some ((es.drop off).take n) else none
  | _=>none
  else none
 | _=>none
def bytesOf (s:ByteArray):List ae:=s.data.toList.map fun b=>.int .u8 b.toNat
def wN (n:Nat):Option ae→Option Nat
 | some h=>jB 0 n h
 | none=>some n
def CR (n c:Nat):Option ae→Option Nat
 | some h=>jB 0 c h
 | none=>some n
def qQ (h:Nat):Option ae→Option Nat
 | some l=>jB 0 h l
 | none=>some 0
def jH.uF (T:jH):Option Nat:=T.elem.map eF.sz
def iL (T:jH) (x:ae) (lo hi mx:Option ae):Option ae :=
 match mx with
 | some m=>match x with
  | .oc b off n c sz=>if T.kind = .slice∧T.uF=some sz then (jB 0 c m).bind fun m=>(hi.bind (jB 0 m)).bind fun h=>(qQ h lo).bind fun l=>some (.oc b (off+l) (h - l) (m - l) sz) else none
  | _=>none
 | none =>
  match x with
  | .oc b off n c sz=>if T.kind = .slice∧T.uF=some sz then (CR n c hi).bind fun h=>(qQ h lo).bind fun l=>some (.oc b (off+l) (h - l) (c - l) sz) else none
  | .str s=>if T.kind = .str then (wN s.size hi).bind fun h=>(qQ h lo).bind fun l=>some (.str (s.extract l h)) else none
  | .ps sz es=>if T.kind = .slice∧T.uF=some sz then (wN es.length hi).bind fun h=>(qQ h lo).bind fun l=>some (.ps sz ((es.drop l).take (h - l))) else none
  | .os b off n sz=>if T.kind = .slice∧T.uF=some sz then (wN n hi).bind fun h=>(qQ h lo).bind fun l=>some (.os b (off+l) (h - l) sz) else none
  | .aU=>if T.kind = .slice∧T.elem.isSome then (wN 0 hi).bind fun h=>(qQ h lo).bind fun _=>some .aU else none
  | _=>none
def ff (T:jH) (x i:ae):Option ae :=
 match i with
 | .int _ i =>
  match x with
  | .os b off n sz=>if T.kind = .slice∧T.uF=some sz∧0≤i∧i<n then some (.rp b (off+i.toNat) 0) else none
  | .oc b off n _ sz=>if T.kind = .slice∧T.uF=some sz∧0≤i∧i<n then some (.rp b (off+i.toNat) 0) else none
  | .ps sz es=>if T.kind = .slice∧T.uF=some sz∧0≤i∧i<es.length then some (.pp (es.getD i.toNat .undef).cells) else none
  | .ptr b off=>match T.kind,T.elem with
   | .array n,some e=>if 0≤i∧i<n then some (.ptr b (off+i.toNat*e.sz)) else none
   | _,_=>none
  | _=>none
 | _=>none
def wj (l:eF) (cs:List ae) (off:Nat):Option ae:=jD l (cs.drop off)
def pD (T:jH) (x i:ae):Option ae :=
 match x,i with
 | .agg cs, .int _ i=>match T.kind,T.elem with
  | .array n,some e=>if 0≤i∧i<n then wj e cs (i.toNat*e.sz) else none
  | _,_=>none
 | .str s, .int _ i=>if h:(0≤i∧i.toNat<s.size)∧T.kind = .str then some (.int .u8 (s[i.toNat]'h.1.2).toNat) else none
 | _,_=>none
def jL (T:jH) (x:ae) (i:Nat):Option ae :=
 match T.kind,T.oN[i]? with
 | .struct,some (off,some l)=>if l.sz≠0 then
   match x with
   | .ptr b o=>some (.ptr b (o+off))
   | .rp b i f=>some (.rp b i (f+off))
   | .pp cs=>some (.pp (cs.drop off))
   | _=>none
  else none
 | _,_=>none
def px (T:jH) (x:ae) (i:Nat):Option ae :=
 match T.kind,T.oN[i]?,x with
 | .struct,some (off,some l), .agg cs=>wj l cs off
 | _,_,_=>none
def nc (T:jH) (k:ae):Bool :=
 match (T.Dm.map eF.key:Option KA),k with
 | some (KA.int k'), .int k _=>k==k'
 | some KA.str, .str _=>true
 | _,_=>false
def eY (k:ae):List ae→Nat→Option Nat
 | [],_=>none
 | x :: xs,i=>if e8 k x then some i else eY k xs (i+1)
def eM (ks vs:List ae) (z k:ae) (ok:Bool):ae :=
 match eY k ks 0 with
 | some i=>if ok then .dz [vs.getD i .undef, .bool true] else vs.getD i .undef
 | none=>if ok then .dz [z, .bool false] else z
def ll (σ:ai) (T:jH) (x k:ae) (ok:Bool):Option ae :=
 match T.kind,T.elem with
 | .map,some e =>
  if nc T k then
   match x with
   | .cw=>some (eM [] [] (zeroV e) k ok)
   | .pm ks vs=>if ks.all (sameKind k) then some (eM ks vs (zeroV e) k ok) else none
   | .map b=>match bG σ b with
    | some (.map ks vs _)=>if ks.all (sameKind k) then some (eM ks vs (zeroV e) k ok) else none
    | _=>none
   | _=>none
  else none
 | _,_=>none
def iK (ks vs:List ae) (k v:ae):List ae×List ae :=
 match eY k ks 0 with
 | some i=>(ks,vs.set i v)
 | none=>(ks++[k],vs++[v])
def gp (σ:ai) (T:jH) (m k v:ae):Option ai :=
 match T.kind,T.elem,m with
 | .map,some e, .map b=>match bG σ b with
  | some (.map ks vs false)=>if nc T k&&ks.all (sameKind k)&&decide (v.cells.length=e.sz) then some (bZ σ b (.map (iK ks vs k v).1 (iK ks vs k v).2 false)) else none
  | _=>none
 | _,_,_=>none
def kh (oN:List (Nat×Option eF)) (ρ:Operand→ae):List ae→List (Nat×Operand)→Option (List ae)
 | cs,[]=>some cs
 | cs,(i,x) :: rest=>match oN[i]? with
  | some (off,some l)=>if (ρ x).cells.length=l.sz∧off+l.sz≤cs.length∧(ρ x).cells.all ae.cF=true then kh oN ρ (cq cs off (ρ x).cells) rest else none
  | _=>none
def n_ (T:jH) (ρ:Operand→ae) (parts:List (Nat×Operand)):Option ae :=
 match T.kind,T.elem with
 | .struct,_=>if T.oN.all (·.2.isSome) then (kh T.oN ρ T.lay.zero parts).map .agg else none
 | .array n,some e=>(kh ((List.range n).map fun i=>(i*e.sz,some e)) ρ T.lay.zero parts).map .agg
 | _,_=>none
def pK (e:eF) (ρ:Operand→ae):Nat→List (Nat×Operand)→Option (List ae)
 | _,[]=>some []
 | k,(i,x) :: rest=>if i=k∧(ρ x).cells.length=e.sz∧cJ (ρ x)=e.ag∧(ρ x).cells.all ae.cF then (pK e ρ (k+1) rest).map ((ρ x) :: ·) else none
def cH (bytes:Nat):Nat:=if bytes≤32 then 6000000000000 else 1000000000
theorem RE (b:Nat):cH b≤6000000000000:=by unfold cH;split<;>omega
theorem Q8 {n b:Nat} (h:n≤cH b) (hb:b≤65536):(n+n / 4+192)*b≤281474976710656:=by
 unfold cH at h
 split at h
 ·exact cP (Nat.mul_le_mul (show n+n / 4+192≤7500000000192 by omega) (by assumption)) (by decide)
 ·exact cP (Nat.mul_le_mul (show n+n / 4+192≤1250000192 by omega) hb) (by decide)
def l7 (σ:ai) (nm:Nat) (e:eF) (s:ae) (xs:List ae):Option (ae×ai) :=
 if xs.all (fun x=>x.cells.length==e.sz&&x.cells.all ae.cF)∧0<e.sz∧e.bytes≤65536∧e.zero.length=e.sz then
  match s with
  | .aU=>if xs.length=0 then some (.aU,σ) else if xs.length≤cH e.bytes then some (.os nm 0 xs.length e.sz,bZ σ nm (.row xs 0)) else none
  | .os b off n sz=>match bG σ b with
   | some (.row es fz) =>
    if sz=e.sz∧fz≤off+n∧off+n≤es.length∧n+xs.length≤cH e.bytes then
     some (.os nm 0 (n+xs.length) sz,bZ (σ.set b none) nm (.row ((es.drop off).take n++xs) (fz - off)))
    else none
   | _=>none
  | _=>none
 else none
def nt (σ:ai) (nm:Nat) (e:eF) (b off n c sz:Nat) (xs:List ae):Option (ae×ai) :=
 if xs.all (fun x=>x.cells.length==e.sz&&x.cells.all ae.cF)∧0<e.sz∧e.bytes≤65536∧e.zero.length=e.sz then
  match bG σ b with
  | some (.row es fz) =>
   if sz=e.sz∧off+n≤es.length then
    if n+xs.length≤c then (if fz≤off+n∧off+n+xs.length≤es.length then some (.oc b off (n+xs.length) c sz,bZ σ b (.row (cq es (off+n) xs) fz)) else none)
    else if n+xs.length≤cH e.bytes then some (.os nm 0 (n+xs.length) sz,bZ σ nm (.row ((es.drop off).take n++xs) 0)) else none
   else none
  | _=>none
 else none
def dY (σ:ai) (nm:Nat) (e:eF) (s:ae) (xs:List ae):Option (ae×ai) :=
 match s with
 | .oc b off n c sz=>nt σ nm e b off n c sz xs
 | s=>l7 σ nm e s xs
def kj (σ:ai) (sz:Nat) (s:ae) (xs:List ae):Option ai :=
 match s with
 | .oc b off n _ w5 | .os b off n w5=>match bG σ b with
  | some (.row es fz)=>if w5=sz∧0<sz∧fz≤off∧xs.length≤n∧off+n≤es.length∧xs.all (fun x=>x.cells.length==sz&&x.cells.all ae.cF)=true then some (bZ σ b (.row (cq es off xs) fz)) else none
  | _=>none
 | _=>none
def ko:ae→Option Nat
 | .aU=>some 0
 | .os _ _ n _=>some n
 | .oc _ _ n _ _=>some n
 | .ps _ es=>some es.length
 | _=>none
def uS:ae→Option Nat
 | .aU=>some 0
 | .oc _ _ _ c _=>some c
 | _=>none
def jP (σ:ai) (nm:Nat) (T:jH) (l c:ae):Option (ae×ai) :=
 match T.kind,T.elem,l,c with
 | .slice,some e, .int .i64 l, .int .i64 c =>
  if 0≤l∧l≤c∧c≤1000000000∧e.bytes≤65536∧0<e.sz∧e.zero.length=e.sz then some (.os nm 0 l.toNat e.sz,bZ σ nm (.row (List.replicate l.toNat (zeroV e)) 0)) else none
 | _,_,_,_=>none
def fy (f:Int→Int→Int):ae→List ae→Option ae
 | x,[]=>some x
 | .int k a, .int _ b :: rest=>fy f (.int k (f a b)) rest
 | _,_=>none
def eX (P:Program) (σ:ai) (nm:Nat) (b:Builtin) (ts:List TypeId) (args:List ae):Option (ae×ai) :=
 match b,ts,args with
 | .len,[t],[x]=>(bK P t).bind fun T=>match T.kind with
  | .array n=>some (.int .i64 n,σ)
  | .str | .slice | .map=>(ng T.kind σ x).map fun (n:Nat)=>(ae.int .i64 (n:Int),σ)
  | _=>none
 | .append,[t,u],[s,x]=>(bK P t).bind fun T=>(bK P u).bind fun U=>match T.kind,T.elem,U.kind with
  | .slice,some e, .slice=>(eJ σ e.sz x).bind fun xs=>dY σ nm e s xs
  | .slice,some e, .str=>match x with
   | .str y=>if e.sz=1 then dY σ nm e s (bytesOf y) else none
   | _=>none
  | .slice,some e, .int _=>match x with
   | .int .i64 n=>if 0≤n∧n≤1000000000∧IntKind.i64.wrap n=n then dY σ nm e s (List.replicate n.toNat (zeroV e)) else none
   | _=>none
  | _,_,_=>none
 | .cap,[t],[x]=>(bK P t).bind fun T=>match T.kind with
  | .slice=>(uS x).map fun (n:Nat)=>(ae.int .i64 (n:Int),σ)
  | _=>none
 | .clear,[t],[x]=>(bK P t).bind fun T=>match T.kind,T.elem with
  | .slice,some e=>(ko x).bind fun n=>if n=0 then some (.dz [],σ) else (kj σ e.sz x (List.replicate n (zeroV e))).map (.dz [], ·)
  | _,_=>none
 | .copy,[t,u],[d,x]=>(bK P t).bind fun T=>(bK P u).bind fun U=>match T.kind,T.elem,U.kind with
  | .slice,some e, .slice=>(ko d).bind fun n=>(eJ σ e.sz x).bind fun xs=>(kj σ e.sz d (xs.take n)).map (ae.int .i64 ((xs.take n).length:Int), ·)
  | _,_,_=>none
 | .max,_,x :: rest=>(fy (fun a b=>if a<b then b else a) x rest).map (·,σ)
 | .min,_,x :: rest=>(fy (fun a b=>if b<a then b else a) x rest).map (·,σ)
 | _,_,_=>none
def oL (P:Program) (s d:TypeId) (x:ae):Option ae :=
 match iA P s,iA P d,x with
 | some _,some (.int k), .int _ n=>some (.int k (k.wrap n))
 | some .str,some .str, .str y=>some (.str y)
 | _,_,_=>none
def iV (P:Program) (x:ae) (asserted:TypeId) (ok:Bool):Option ae :=
 match bK P asserted,x with
 | some T, .iface t v=>match T.kind with
  | .iface=>none
  | _=>if t=asserted then some (if ok then .dz [v, .bool true] else v) else if ok then some (.dz [zeroV T.lay, .bool false]) else none
 | some T, .fC=>match T.kind with
  | .iface=>none
  | _=>if ok then some (.dz [zeroV T.lay, .bool false]) else none
 | _,_=>none
def m_ (σ:ai):ae→Option (ae×ai)
 | .it b=>match bG σ b with
  | some (.iter s pos)=>if pos<s.size then some (.dz [.bool true, .int .i64 pos, .int .i32 (Utf8.decode s pos).1],bZ σ b (.iter s (pos+(Utf8.decode s pos).2))) else some (.dz [.bool false],σ)
  | _=>none
 | _=>none
def oh (σ:ai):ae→Option (ae×ai)
 | .it b=>match bG σ b with
  | some (.kZ ks vs seen)=>match seen.getLast? with
   | some i=>some (.dz [ks.getD i .undef,vs.getD i .undef],σ)
   | none=>none
  | _=>none
 | _=>none
def cY (P:Program) (σ:ai) (nm:Nat) (ρ:Operand→ae):Op→Option (ae×ai)
 | .move x=>some (ρ x,σ)
 | .assign x=>some (ρ x,σ)
 | .pick c a b=>(oW (ρ c) (ρ a) (ρ b)).map (·,σ)
 | .alloc t=>(aC P t).bind fun l=>some (.ptr nm 0,bZ σ nm (.var l.zero))
 | .box t x=>(aC P t).bind fun l=>if (ρ x).cells.length=l.sz∧(ρ x).cells.all ae.cF then some (.ptr nm 0,bZ σ nm (.var (ρ x).cells)) else none
 | .build t parts=>(bK P t).bind fun T=>(n_ T ρ parts.toList).map (·,σ)
 | .buildSlice t n parts=>(bK P t).bind fun T=>T.elem.bind fun e=>(pK e ρ 0 parts.toList).bind fun es =>
   if es.length=n∧T.kind = .slice∧n*e.sz≤16777216∧e.zero.length=e.sz∧0<e.sz then some (.os nm 0 n e.sz,bZ σ nm (.row es 0)) else none
 | .load t x=>(aC P t).bind fun l=>(iS σ l (ρ x)).map (·,σ)
 | .store t x v=>(aC P t).bind fun l=>(mj σ l (ρ x) (ρ v)).map (.undef, ·)
 | .nilCheck x=>match ρ x with
  | .ptr b o=>some (.ptr b o,σ)
  | .rp b i f=>some (.rp b i f,σ)
  | .pp cs=>some (.pp cs,σ)
  | .fn f a c=>some (.fn f a c,σ)
  | _=>none
 | .binOp op t x y _=>(xF P op t (ρ x) (ρ y) (j3 y)).map (·,σ)
 | .unOp op _ x=>(EG op (ρ x)).map (·,σ)
 | .convert s d x=>(oL P s d (ρ x)).map (·,σ)
 | .makeInterface t x=>match iA P t with
  | some .iface=>none
  | some _=>some (.iface t (ρ x),σ)
  | none=>none
 | .makeFunc (.func f) first captured=>some (.fn f (first.toList.map ρ) (captured.toList.map ρ),σ)
 | .makeMap t none=>some (.map nm,bZ σ nm (.map [] [] false))
 | .makeSlice t l c=>(bK P t).bind fun T=>jP σ nm T (ρ l) (ρ c)
 | .slice t x lo hi mx=>(bK P t).bind fun T=>(iL T (ρ x) (lo.map ρ) (hi.map ρ) (mx.map ρ)).map (·,σ)
 | .fieldAddr t x i=>(bK P t).bind fun T=>(jL T (ρ x) i).map (·,σ)
 | .field t x i=>(bK P t).bind fun T=>(px T (ρ x) i).map (·,σ)
 | .indexAddr t x i=>(bK P t).bind fun T=>(ff T (ρ x) (ρ i)).map (·,σ)
 | .index t x i=>(bK P t).bind fun T=>(pD T (ρ x) (ρ i)).map (·,σ)
 | .lookup t x i ok=>(bK P t).bind fun T=>(ll σ T (ρ x) (ρ i) ok).map (·,σ)
 | .mapUpdate t m k v=>(bK P t).bind fun T=>(gp σ T (ρ m) (ρ k) (ρ v)).map (.undef, ·)
 | .insert t m k v=>(bK P t).bind fun T=>(gp σ T (ρ m) (ρ k) (ρ v)).map (.undef, ·)
 | .range t x=>(bK P t).bind fun T=>match T.kind,ρ x with
  | .str, .str s=>some (.it nm,bZ σ nm (.iter s 0))
  | .map, .pm ks vs=>some (.it nm,bZ σ nm (.kZ ks vs []))
  | _,_=>none
 | .entry x=>oh σ (ρ x)
 | .next it true=>m_ σ (ρ it)
 | .typeAssert x _ u ok=>(iV P (ρ x) u ok).map (·,σ)
 | .extract x i=>match ρ x with
  | .dz vs=>(vs[i]?).map (·,σ)
  | _=>none
 | .call { callee:=.builtin b,args,argTypes }=>eX P σ nm b argTypes.toList (args.toList.map ρ)
 | _=>none
structure St where
 tm:List ae
 σ:ai
def ev (tm:List ae):Operand→ae
 | .tmp t=>tm.getD t .undef
 | .const v=>ofValue v
 | .global g=>.nL (.pointer (some ⟨g,0,none⟩))
 | .func f=>.fn f [] []
def put (tm:List ae) (dst:Option Tmp) (v:ae):List ae :=
 match dst with
 | some d=>tm.set d v
 | none=>tm
theorem D1 {X:Nat→Nat→Prop} {base:Nat} {σ σ':ai} {β β':Env} {w w':World} (hr:cC X base σ β w) (nm:Nat) (L':Loc) (kI:bE)
  (Dk : σ'[nm]? = some (some kI))
  (iX:∀ c x,c≠nm→σ'[c]? = some (some x)→σ[c]? = some (some x)∧∀ Lc,β c=some Lc→Lc.g≠L'.g)
  (hlen : σ.length≤σ'.length)
  (vw : β' nm=some L') (vz:∀ c,c≠nm→β' c = β c) (NB : β nm=none∨β nm=some L')
  (yk:w'.os=w.os) (qP:w'.tape=w.tape) (mI:w'.output=w.output) (oS:w.heap.size≤w'.heap.size)
  (qK:∀ g,g<w.heap.size→g≠L'.g→w'.heap[g]? = w.heap[g]?)
  (m8:∀ off v,w.cell? ⟨L'.g,off,none⟩=some v→¬ iO σ β L'.g off→w'.cell? ⟨L'.g,off,none⟩=some v)
  (xT:L'.g<w.heap.size→(∀ o, ¬ iO σ β L'.g o)→w'.heap[L'.g]? = w.heap[L'.g]?)
  (C6:∀ off,kI.mut L' off→iO σ β L'.g off∨w.heap.size≤L'.g)
  (hX:∀ o, ¬ X L'.g o) (tU:base≤L'.g) :
  Ext 0 σ β w σ' β' w'∧df w (MT X σ β) w' (MT X σ' β')∧(∀ b L,β b=some L→β' b=some L) ∧
   (fR w' (MT X σ' β') β' L' kI→cC X base σ' β' w'):=by
 have Dc:∀ b L,β b=some L→β' b=some L:=by
  intro b L hb
  by_cases e:b=nm
  ·subst e
   rcases NB with h | h
   ·rw [h] at hb;cases hb
   ·rw [vw,← h,hb]
  ·rw [vz b e,hb]
 have oo:∀ g o,iO σ' β' g o→iO σ β g o∨w.heap.size≤g:=by
  rintro g o ⟨b,cd,L,h1,h2,rfl,h4⟩
  by_cases e:b=nm
  ·subst e
   obtain rfl:kI=cd:=aM (aM (Dk.symm.trans h1))
   obtain rfl:L'=L:=aM (vw.symm.trans h2)
   exact C6 o h4
  ·exact .inl ⟨b,cd,L,(iX b cd e h1).1,(vz b e).symm.trans h2,rfl,h4⟩
 have pC:Ext 0 σ β w σ' β' w':=by
  refine ⟨yk,qP,mI,oS,?_,?_,oo,fun b hb=>absurd hb (Nat.not_lt_zero _)⟩
  ·intro g o v hc hn
   by_cases e:g=L'.g
   ·subst e;exact m8 o v hc hn
   ·have:=qK g (xC hc) e
    rw [World.cell?_of_block (w:=w) (a:=⟨g,o,none⟩) this];exact hc
  ·intro g hg hn
   by_cases e:g=L'.g
   ·subst e;exact xT hg hn
   ·exact qK g hg e
 have Bx:=pC.keeps hr
 refine ⟨pC,Bx,Dc,fun j9=>⟨?_,?_,?_,cP hr.size oS,fun g o hx=>cQ (hr.pW g o hx) oS,hr.Cy pC⟩⟩
 ·intro b hb
  have bD:nm < σ'.length:=(aI.1 Dk).1
  rw [vz b (by omega)]
  exact hr.nA b (by omega)
 ·intro b cd hb
  by_cases e:b=nm
  ·subst e
   obtain rfl:kI=cd:=aM (aM (Dk.symm.trans hb))
   exact ⟨L',vw,tU,hX,j9⟩
  ·obtain ⟨h1,h2⟩:=iX b cd e hb
   obtain ⟨L,h3,h4,h5,h6⟩:=hr.cd b cd h1
   have bD:L.g<w.heap.size:=by
    cases cd with
    | var cs=>obtain ⟨c,e,h,_⟩:=h6;exact (aL.1 h).1
    | row es fz=>obtain ⟨c,e,h,_⟩:=h6;exact (aL.1 h).1
    | map ks vs fz=>obtain ⟨c,e,h,_⟩:=h6;exact (aL.1 h).1
    | iter s p=>exact (aL.1 h6).1
    | kZ ks vs seen=>obtain ⟨m,es,c,h,_⟩:=h6;exact (aL.1 h).1
    | loop r=>obtain ⟨c,e,f,h,_⟩:=h6;exact (aL.1 h).1
   exact ⟨L,Dc _ _ h3,h4,h5,h6.mono Bx Dc (qK L.g bD (h2 L h3))⟩
 ·intro b b' cd Cs L L2 h1 h2 h3 h4 hg
  by_cases e:b=nm
  ·by_cases e':b'=nm
   ·rw [e,e']
   ·exfalso
    subst e
    obtain rfl:L'=L:=aM (vw.symm.trans h3)
    exact (iX b' Cs e' h2).2 L2 ((vz b' e').symm.trans h4) hg.symm
  ·by_cases e':b'=nm
   ·exfalso
    subst e'
    obtain rfl:L'=L2:=aM (vw.symm.trans h4)
    exact (iX b cd e h1).2 L ((vz b e).symm.trans h3) hg
   ·exact hr.inj b b' cd Cs L L2 (iX b cd e h1).1 (iX b' Cs e' h2).1 ((vz b e).symm.trans h3) ((vz b' e').symm.trans h4) hg
theorem fR.lt {w:World} {M:Nat→Nat→Prop} {β:Env} {L:Loc} {cd:bE} (h6:fR w M β L cd):L.g<w.heap.size:=by
 cases cd with
 | var cs=>obtain ⟨c,e,h,_⟩:=h6;exact (aL.1 h).1
 | row es fz=>obtain ⟨c,e,h,_⟩:=h6;exact (aL.1 h).1
 | map ks vs fz=>obtain ⟨c,e,h,_⟩:=h6;exact (aL.1 h).1
 | iter s p=>exact (aL.1 h6).1
 | kZ ks vs seen=>obtain ⟨m,es,c,h,_⟩:=h6;exact (aL.1 h).1
 | loop r=>obtain ⟨c,e,f,h,_⟩:=h6;exact (aL.1 h).1
def cN (P:Program) (X:Nat→Nat→Prop) (base:Nat) (σ:ai) (β:Env) (w:World) (nm:Nat) (s:Sem Next) (r:ae) (σ':ai):Prop :=
 ∃ v w' β',(s.run P w = .ok (.value v) w'∨(s.run P w = .ok .skip w'∧v=undef))∧cC X base σ' β' w'∧bR w' (MT X σ' β') β' v r ∧
  Ext 0 σ β w σ' β' w'∧(∀ b,b≠nm→β' b = β b)∧∀ b L,β b=some L→β' b=some L
section
variable {P:Program} {X:Nat→Nat→Prop} {base:Nat} {σ:ai} {β:Env} {w:World} {nm:Nat}
theorem cN.val (hr:cC X base σ β w) {s:Sem Next} {v:Value} {r:ae} (h:s.run P w = .ok (.value v) w) (hv:bR w (MT X σ β) β v r):cN P X base σ β w nm s r σ :=
 ⟨v,w,β, .inl h,hr,hv,Ext.refl _ _ _ _,fun _ _=>rfl,fun _ _ h=>h⟩
theorem JJ {M:Nat→Nat→Prop} (v:Value):bR w M β v (ofValue v):=by
 unfold ofValue
 split<;>first | exact .nL _ | constructor
theorem pO {t:TypeId} {l:eF} (h:aC P t=some l):∃ i u z,P.info? t=some i∧P.underlying t=some u∧i.zero=some z ∧
  i.size=l.sz∧qu u=l.ag∧i.bytes=l.bytes∧sf z=l.zero∧iY u=l.key∧AU l.ag z=true∧z.cells.size=l.sz:=by
 unfold aC at h
 split at h
 ·rename_i i u h1 h2
  split at h
  ·rename_i z hz
   split at h
   ·rename_i hc
    cases h
    exact ⟨i,u,z,h1,h2,hz,rfl,rfl,rfl,rfl,rfl,hc.1,hc.2⟩
   ·cases h
  ·cases h
 ·cases h
theorem J9 {t:TypeId} {u:TypeDesc} (h:P.underlying t=some u):(isAgg t).run P w = .ok (qu u) w:=by
 simp only [isAgg,Sem.run_bind,run_underlying h,Result.andThen_ok]
 cases u<;>rfl
theorem tn {t:TypeId} {i:TypeInfo} (h:P.info? t=some i):(sizeOf t).run P w = .ok i.size w:=by
 simp [sizeOf,typeInfo,h]
theorem Hd {t:TypeId} {i:TypeInfo} {z:Value} (h:P.info? t=some i) (hz:i.zero=some z):(zeroValue t).run P w = .ok z w:=by
 simp [zeroValue,typeInfo,h,hz]
theorem PT {α:Type} (f:Nat→α) (n k:Nat) (d : α) (h:k<n):(((List.range n).map f).toArray).getD k d=f k:=by
 simp [Array.getD,h]
theorem PR {M:Nat→Nat→Prop} {t:TypeId} {l:eF} (hl:aC P t=some l) {g o:Nat} {cs:List ae} {cv:Nat→Value}
  (hc:∀ k,k<cs.length→w.cell? ⟨g,o+k,none⟩=some (cv k)) (hv:∀ k,k<cs.length→bR w M β (cv k) (cs.getD k .undef)) {r:ae} (ht:jD l cs=some r) :
  ∃ v,(loadVar t ⟨g,o,none⟩).run P w = .ok v w∧bR w M β v r:=by
 obtain ⟨i,u,z,h1,h2,h3,h4,h5,_⟩:=pO hl
 unfold jD at ht
 simp only [loadVar,Sem.run_bind,J9 h2,Result.andThen_ok,h5]
 by_cases ha:l.ag=true
 ·rw [if_pos ha] at ht
  rw [if_pos ha]
  split at ht
  ·rename_i hle
   cases ht
   have:=run_loadCells (P:=P) w ⟨g,o,none⟩ i.size cv (fun j hj=>by rw [Addr.add_lit];exact hc j (by omega))
   refine ⟨.agg ((List.range i.size).map cv).toArray,by simp [tn h1,this],?_⟩
   refine .agg (by simp;omega) fun k hk=>?_
   have er:k<i.size:=by simp at hk;omega
   rw [PT cv i.size k _ er]
   have:=hv k (by omega)
   rwa [show (List.take l.sz cs).getD k ae.undef=cs.getD k .undef by simp [List.getD,eZ,show k<l.sz by omega]]
  ·cases ht
 ·rw [if_neg ha] at ht
  rw [if_neg ha]
  cases cs with
  | nil=>simp at ht
  | cons c cs =>
   simp only [List.head?_cons,aG] at ht
   subst ht
   have h0:=hc 0 (by simp)
   simp only [cg] at h0
   exact ⟨cv 0,by simp [run_load,h0],hv 0 (by simp)⟩
theorem Qa {M:Nat→Nat→Prop} {t:TypeId} {l:eF} (hl:aC P t=some l) {cs:Array Value} {cj:List ae} (hn:cs.size=cj.length)
  (hv:∀ k,k<cj.length→bR w M β (cs.getD k undef) (cj.getD k .undef)) {off:Nat} {r:ae} (ht:wj l cj off=some r) :
  ∃ v,(part t cs off).run P w = .ok v w∧bR w M β v r:=by
 obtain ⟨i,u,z,h1,h2,h3,h4,h5,_⟩:=pO hl
 unfold wj jD at ht
 simp only [part,Sem.run_bind,J9 h2,Result.andThen_ok,h5]
 by_cases ha:l.ag=true
 ·rw [if_pos ha] at ht
  rw [if_pos ha]
  split at ht
  ·rename_i hle
   cases ht
   simp only [cf] at hle
   refine ⟨.agg (cs.extract off (off+i.size)),by simp [tn h1],?_⟩
   refine .agg (by simp;omega) fun k hk=>?_
   have er:k<l.sz:=by simp at hk;omega
   have:=hv (off+k) (by omega)
   have e1:(cs.extract off (off+i.size)).getD k undef=cs.getD (off+k) undef:=by
    rw [aj,aj,Array.getElem?_extract]
    rw [if_pos (by omega)]
   have e2:(List.take l.sz (List.drop off cj)).getD k ae.undef=cj.getD (off+k) .undef:=by
    simp [List.getD,eZ,er,dH]
   rw [e1,e2];exact this
  ·cases ht
 ·rw [if_neg ha] at ht
  rw [if_neg ha]
  simp only [List.head?_drop] at ht
  obtain ⟨bD,he⟩:=aI.1 ht
  have:=hv off bD
  refine ⟨cs.getD off undef,?_,?_⟩
  ·have:cs[off]? = some (cs.getD off undef):=by
    rw [aj,aB (by omega)];rfl
   rw [this];rfl
  ·rwa [show cj.getD off ae.undef=r by simp [List.getD,ht]] at this
end
end Go.c8
