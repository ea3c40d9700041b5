/- Part 2 of my own framework and of the walks of functions: AbsA, AbsB, AbsC. -/
import Derived.Test.YtpgnahcljlclcaaGreatOwn1
import Derived.AtR
import Derived.Below
set_option linter.unusedVariables false
set_option linter.unusedSectionVars false
set_option linter.unusedSimpArgs false
namespace Go.Abs
open Go
inductive AVal:Type where
 | undef
 | bool (b:Bool)
 | anyb
 | int (k:IntKind) (n:Int)
 | str (s:ByteArray)
 | nilptr
 | ptr (b off:Nat)
 | rp (b i f:Nat)
 | pp (cs:List AVal)
 | nils
 | ps (sz:Nat) (es:List AVal)
 | os (b off len sz:Nat)
 | oc (b off len cap sz:Nat)
 | nilfn
 | fn (f:FuncId) (first captured:List AVal)
 | yld (b:Nat)
 | nilmap
 | map (b:Nat)
 | pm (ks vs:List AVal)
 | it (b:Nat)
 | agg (cs:List AVal)
 | tup (vs:List AVal)
 | nilif
 | iface (t:TypeId) (v:AVal)
 | opq (v:Value)
 deriving Inhabited
def AVal.cells:AVal→List AVal
 | .agg cs=>cs
 | a=>[a]
structure Loc where
 g:Nat
 o:Nat
 n:Nat
 sz:Nat
abbrev Env:=Nat→Option Loc
def BornOk (es:Array MapEntry) (clk:Nat):Prop :=
 (∀ i,i<es.size→(es.getD i default).born<clk)∧∀ i j,i<es.size→j<es.size→(es.getD i default).born=(es.getD j default).born→i=j
theorem Yi3:BornOk #[] 0:=⟨fun i hi=>by simp at hi,fun i j hi=>by simp at hi⟩
theorem Yc6 {es:Array MapEntry} {clk:Nat} (h:BornOk es clk) (k v:Value):BornOk (es.push { key:=k,val:=v,born:=clk }) (clk+1):=by
 have e:∀ i,(es.push { key:=k,val:=v,born:=clk }).getD i default=if i=es.size then { key:=k,val:=v,born:=clk } else es.getD i default:=fun i=>by
  simp only [Array.getD_eq_getD_getElem?,Array.getElem?_push]
  split<;>rfl
 constructor
 ·intro i hi
  rw [e]
  simp only [Array.size_push] at hi
  split
  ·exact Nat.lt_succ_self _
  ·exact Nat.lt_succ_of_lt (h.1 i (by omega))
 ·intro i j hi hj hij
  rw [e,e] at hij
  simp only [Array.size_push] at hi hj
  split at hij<;>split at hij
  ·omega
  ·have:=h.1 j (by omega);simp only at hij;omega
  ·have:=h.1 i (by omega);simp only at hij;omega
  ·exact h.2 i j (by omega) (by omega) hij
theorem Zri {es:Array MapEntry} {clk:Nat} (h:BornOk es clk) (i:Nat) (k v:Value):BornOk (es.modify i fun e=>{ e with key:=k,val:=v }) clk:=by
 have e:∀ j,j<es.size→((es.modify i fun e=>{ e with key:=k,val:=v }).getD j default).born=(es.getD j default).born:=fun j hj=>by
  simp only [Array.getD_eq_getD_getElem?,Array.getElem?_modify]
  split
  ·rename_i h;subst h;rw [Array.getElem?_eq_getElem hj];rfl
  ·rfl
 constructor
 ·intro j hj
  rw [Array.size_modify] at hj
  rw [e j hj];exact h.1 j hj
 ·intro j j' hj hj' hjj
  rw [Array.size_modify] at hj hj'
  rw [e j hj,e j' hj'] at hjj
  exact h.2 j j' hj hj' hjj
inductive Rep (w:World) (M:Nat→Nat→Prop) (β:Env):Value→AVal→Prop
 | undef (v:Value):Rep w M β v .undef
 | bool (b:Bool):Rep w M β (.bool b) (.bool b)
 | anyb (b:Bool):Rep w M β (.bool b) .anyb
 | int (k:IntKind) (n:Int):Rep w M β (.int k n) (.int k n)
 | str (s:ByteArray):Rep w M β (.string s) (.str s)
 | nilptr:Rep w M β (.pointer none) .nilptr
 | ptr {b off:Nat} {L:Loc} (h : β b=some L):Rep w M β (.pointer (some ⟨L.g,L.o+off,none⟩)) (.ptr b off)
 | rp {b i f:Nat} {L:Loc} (h : β b=some L):Rep w M β (.pointer (some ⟨L.g,L.o+i*L.sz+f,none⟩)) (.rp b i f)
 | pp {g o:Nat} {cs:List AVal} (cv:Nat→Value)
   (hc:∀ k,k<cs.length→w.cell? ⟨g,o+k,none⟩=some (cv k)∧¬ M g (o+k))
   (hr:∀ k,k<cs.length→Rep w M β (cv k) (cs.getD k .undef)):Rep w M β (.pointer (some ⟨g,o,none⟩)) (.pp cs)
 | nils (a:Option Addr):Rep w M β (.slice a 0 0) .nils
 | ps {a:Option Addr} {cap sz:Nat} {es:List AVal} (cv:Nat→Nat→Value) (hcap:es.length≤cap)
   (hsz:∀ i,i<es.length→(es.getD i .undef).cells.length=sz)
   (hc:∀ i j,i<es.length→j<sz→∃ g o,a=some ⟨g,o,none⟩∧w.cell? ⟨g,o+i*sz+j,none⟩=some (cv i j)∧¬ M g (o+i*sz+j))
   (ha : 0<es.length→∃ g o,a=some ⟨g,o,none⟩)
   (hr:∀ i j,i<es.length→j<sz→Rep w M β (cv i j) ((es.getD i .undef).cells.getD j .undef)):Rep w M β (.slice a es.length cap) (.ps sz es)
 | os0 (a:Option Addr) {b off:Nat} {L:Loc} (h : β b=some L):Rep w M β (.slice a 0 0) (.os b off 0 L.sz)
 | os {b off len cap:Nat} {L:Loc} (h : β b=some L) (hl:len≤cap) (hc:off+cap≤L.n):Rep w M β (.slice (some ⟨L.g,L.o+off*L.sz,none⟩) len cap) (.os b off len L.sz)
 | oc0 (a:Option Addr) {b off:Nat} {L:Loc} (h : β b=some L):Rep w M β (.slice a 0 0) (.oc b off 0 0 L.sz)
 | oc {b off len cap:Nat} {L:Loc} (h : β b=some L) (hl:len≤cap) (hc:off+cap≤L.n):Rep w M β (.slice (some ⟨L.g,L.o+off*L.sz,none⟩) len cap) (.oc b off len cap L.sz)
 | nilfn:Rep w M β .nilFunc .nilfn
 | fn {f:FuncId} {fa ca:Array Value} {first captured:List AVal} (h1:fa.size=first.length) (h2:ca.size=captured.length)
   (hr1:∀ k,k<first.length→Rep w M β (fa.getD k undef) (first.getD k .undef))
   (hr2:∀ k,k<captured.length→Rep w M β (ca.getD k undef) (captured.getD k .undef)):Rep w M β (.func (.func f) fa ca) (.fn f first captured)
 | yld {b:Nat} {L:Loc} (h : β b=some L):Rep w M β (.func (.yield L.g) #[] #[]) (.yld b)
 | nilmap:Rep w M β (.map none) .nilmap
 | map {b:Nat} {L:Loc} (h : β b=some L):Rep w M β (.map (some L.g)) (.map b)
 | pm {g clk:Nat} {es:Array MapEntry} {ks vs:List AVal} (hg:w.heap[g]? = some (.map es clk)) (hm:¬ M g 0) (hk:es.size=ks.length) (hv:vs.length=ks.length)
   (hr1:∀ k,k<ks.length→Rep w M β (es.getD k default).key (ks.getD k .undef))
   (hr2:∀ k,k<ks.length→Rep w M β (es.getD k default).val (vs.getD k .undef)) (hb:BornOk es clk):Rep w M β (.map (some g)) (.pm ks vs)
 | it {b:Nat} {L:Loc} (h : β b=some L):Rep w M β (.pointer (some ⟨L.g,0,none⟩)) (.it b)
 | agg {cs:Array Value} {l:List AVal} (h:cs.size=l.length) (hr:∀ k,k<l.length→Rep w M β (cs.getD k Go.undef) (l.getD k .undef)):Rep w M β (.agg cs) (.agg l)
 | tup {cs:Array Value} {l:List AVal} (h:cs.size=l.length) (hr:∀ k,k<l.length→Rep w M β (cs.getD k Go.undef) (l.getD k .undef)):Rep w M β (.tuple cs) (.tup l)
 | nilif:Rep w M β .nilIface .nilif
 | iface {t:TypeId} {v:Value} {a:AVal} (h:Rep w M β v a):Rep w M β (.iface t v) (.iface t a)
 | opq (v:Value):Rep w M β v (.opq v)
structure Keeps (w:World) (M:Nat→Nat→Prop) (w':World) (M':Nat→Nat→Prop):Prop where
 cell:∀ g o v,w.cell? ⟨g,o,none⟩=some v→¬ M g o→w'.cell? ⟨g,o,none⟩=some v∧¬ M' g o
 map:∀ g es c,w.heap[g]? = some (.map es c)→¬ M g 0→w'.heap[g]? = some (.map es c)∧¬ M' g 0
theorem Keeps.anti {w:World} {M M':Nat→Nat→Prop} (h:∀ g o,M' g o→M g o):Keeps w M w M' :=
 ⟨fun g o _ hc hn=>⟨hc,fun hm=>hn (h g o hm)⟩,fun g _ _ hc hn=>⟨hc,fun hm=>hn (h g 0 hm)⟩⟩
theorem Rep.mono {w w':World} {M M':Nat→Nat→Prop} {β β':Env} (hk:Keeps w M w' M') (hβ:∀ b L,β b=some L→β' b=some L) {v:Value} {a:AVal}
  (h:Rep w M β v a):Rep w' M' β' v a:=by
 induction h with
 | undef v=>exact .undef v
 | bool b=>exact .bool b
 | anyb b=>exact .anyb b
 | int k n=>exact .int k n
 | str s=>exact .str s
 | nilptr=>exact .nilptr
 | ptr h=>exact .ptr (hβ _ _ h)
 | rp h=>exact .rp (hβ _ _ h)
 | pp cv hc _ ih=>exact .pp cv (fun k hk'=>hk.cell _ _ _ (hc k hk').1 (hc k hk').2) ih
 | nils a=>exact .nils a
 | ps cv hcap hsz hc ha _ ih =>
  refine .ps cv hcap hsz (fun i j hi hj=>?_) ha ih
  obtain ⟨g,o,h1,h2,h3⟩:=hc i j hi hj
  exact ⟨g,o,h1,hk.cell _ _ _ h2 h3⟩
 | os0 a h=>exact .os0 a (hβ _ _ h)
 | os h hl hc=>exact .os (hβ _ _ h) hl hc
 | oc0 a h=>exact .oc0 a (hβ _ _ h)
 | oc h hl hc=>exact .oc (hβ _ _ h) hl hc
 | nilfn=>exact .nilfn
 | fn h1 h2 _ _ ih1 ih2=>exact .fn h1 h2 ih1 ih2
 | yld h=>exact .yld (hβ _ _ h)
 | nilmap=>exact .nilmap
 | map h=>exact .map (hβ _ _ h)
 | pm hg hm h1 h2 _ _ hb ih1 ih2=>exact .pm (hk.map _ _ _ hg hm).1 (hk.map _ _ _ hg hm).2 h1 h2 ih1 ih2 hb
 | it h=>exact .it (hβ _ _ h)
 | agg h _ ih=>exact .agg h ih
 | tup h _ ih=>exact .tup h ih
 | nilif=>exact .nilif
 | iface _ ih=>exact .iface ih
 | opq v=>exact .opq v
inductive LState where
 | ready
 | busy
 | done (c:Code)
structure LoopA where
 tm:List AVal
 params:Array Tmp
 assign:Code
 body:Code
 st:LState
inductive Blk:Type where
 | var (cs:List AVal)
 | row (es:List AVal) (fz:Nat)
 | map (ks vs:List AVal) (fz:Bool)
 | iter (s:ByteArray) (pos:Nat)
 | mit (ks vs:List AVal) (seen:List Nat)
 | loop (r:LoopA)
abbrev Store:=List (Option Blk)
def Blk.mut (L:Loc):Blk→Nat→Prop
 | .row _ fz,off=>L.o+fz*L.sz≤off
 | .map _ _ fz,_=>fz=false
 | _,_=>True
def Mof (σ:Store) (β:Env) (g off:Nat):Prop :=
 ∃ b blk L,σ[b]? = some (some blk)∧β b=some L∧L.g=g∧blk.mut L off
def MT (X:Nat→Nat→Prop) (σ:Store) (β:Env) (g o:Nat):Prop:=X g o∨Mof σ β g o
def LState.of:LState→LoopState×Option Code
 | .ready=>(.ready,none)
 | .busy=>(.busy,none)
 | .done c=>(.done,some c)
def BlkOk (w:World) (M:Nat→Nat→Prop) (β:Env) (L:Loc):Blk→Prop
 | .var cs=>∃ c e,w.heap[L.g]? = some (.cells c e (0,0))∧L.o=0∧c.size=cs.length ∧
   ∀ k,k<cs.length→Rep w M β (c.getD k undef) (cs.getD k .undef)
 | .row es _=>∃ c e,w.heap[L.g]? = some (.cells c e (0,0))∧L.o+L.n*L.sz≤c.size∧es.length≤L.n ∧
   (∀ i,i<es.length→(es.getD i .undef).cells.length=L.sz) ∧
   ∀ i j,i<es.length→j<L.sz→Rep w M β (c.getD (L.o+i*L.sz+j) undef) ((es.getD i .undef).cells.getD j .undef)
 | .map ks vs _=>∃ es clk,w.heap[L.g]? = some (.map es clk)∧es.size=ks.length∧vs.length=ks.length ∧
   (∀ k,k<ks.length→Rep w M β (es.getD k default).key (ks.getD k .undef))∧(∀ k,k<ks.length→Rep w M β (es.getD k default).val (vs.getD k .undef))∧BornOk es clk
 | .iter s pos=>w.heap[L.g]? = some (.stringIter s pos)
 | .mit ks vs seen=>∃ m es clk,w.heap[L.g]? = some (.mapIter (some m) clk (seen.map fun i=>(es.getD i default).born).toArray clk)∧w.heap[m]? = some (.map es clk)∧¬ M m 0∧es.size=ks.length∧vs.length=ks.length ∧
   (∀ k,k<ks.length→Rep w M β (es.getD k default).key (ks.getD k .undef))∧(∀ k,k<ks.length→Rep w M β (es.getD k default).val (vs.getD k .undef))∧BornOk es clk∧∀ i∈seen,i<ks.length
 | .loop r=>∃ tmps dr fn,w.heap[L.g]? = some (.loop { state:=r.st.of.1,pending:=r.st.of.2,fn,tmps,params:=r.params,assign:=r.assign,body:=r.body,defers:=dr }) ∧
   tmps.size=r.tm.length∧∀ k,k<r.tm.length→Rep w M β (tmps.getD k undef) (r.tm.getD k .undef)
theorem BlkOk.mono {w w':World} {M M':Nat→Nat→Prop} {β β':Env} (hk:Keeps w M w' M') (hβ:∀ b L,β b=some L→β' b=some L) {L:Loc} {blk:Blk}
  (hg:w'.heap[L.g]? = w.heap[L.g]?) (h:BlkOk w M β L blk):BlkOk w' M' β' L blk:=by
 cases blk with
 | var cs=>obtain ⟨c,e,h1,h0,h2,h3⟩:=h;exact ⟨c,e,hg.trans h1,h0,h2,fun k hk'=>(h3 k hk').mono hk hβ⟩
 | row es fz=>obtain ⟨c,e,h1,h2,h3,h4,h5⟩:=h;exact ⟨c,e,hg.trans h1,h2,h3,h4,fun i j hi hj=>(h5 i j hi hj).mono hk hβ⟩
 | map ks vs fz=>obtain ⟨es,clk,h1,h2,h3,h4,h5,h6⟩:=h;exact ⟨es,clk,hg.trans h1,h2,h3,fun k hk'=>(h4 k hk').mono hk hβ,fun k hk'=>(h5 k hk').mono hk hβ,h6⟩
 | iter s pos=>exact hg.trans h
 | mit ks vs seen=>obtain ⟨m,es,clk,h1,h2,h3,h4,h5,h6,h7,h8⟩:=h;exact ⟨m,es,clk,hg.trans h1,(hk.map _ _ _ h2 h3).1,(hk.map _ _ _ h2 h3).2,h4,h5,fun k hk'=>(h6 k hk').mono hk hβ,fun k hk'=>(h7 k hk').mono hk hβ,h8⟩
 | loop r=>obtain ⟨t,d,f,h1,h2,h3⟩:=h;exact ⟨t,d,f,hg.trans h1,h2,fun k hk'=>(h3 k hk').mono hk hβ⟩
def Glob (base:Nat) (w:World):Prop:=∀ x∈glCells,x.1<base∧∃ v,w.cell? ⟨x.1,x.2.1,none⟩=some v∧x.2.2 v
structure RelS (X:Nat→Nat→Prop) (base:Nat) (σ:Store) (β:Env) (w:World):Prop where
 dom:∀ b,σ.length≤b→β b=none
 blk:∀ b blk,σ[b]? = some (some blk)→∃ L,β b=some L∧base≤L.g∧(∀ o, ¬ X L.g o)∧BlkOk w (MT X σ β) β L blk
 inj:∀ b b' blk blk' L L',σ[b]? = some (some blk)→σ[b']? = some (some blk')→β b=some L→β b'=some L'→L.g=L'.g→b=b'
 size:base≤w.heap.size
 xlt:∀ g o,X g o→g<w.heap.size
 gl:Glob base w
structure Ext (lo:Nat) (σ:Store) (β:Env) (w:World) (σ':Store) (β':Env) (w':World):Prop where
 os:w'.os=w.os
 tape:w'.tape=w.tape
 output:w'.output=w.output
 size:w.heap.size≤w'.heap.size
 cell:∀ g o v,w.cell? ⟨g,o,none⟩=some v→¬ Mof σ β g o→w'.cell? ⟨g,o,none⟩=some v
 block:∀ g,g<w.heap.size→(∀ o, ¬ Mof σ β g o)→w'.heap[g]? = w.heap[g]?
 newM:∀ g o,Mof σ' β' g o→Mof σ β g o∨w.heap.size≤g
 env:∀ b,b<lo→β' b = β b
theorem Zck {w:World} {g o:Nat} {v:Value} (h:w.cell? ⟨g,o,none⟩=some v):g<w.heap.size:=World.block_lt_of_cell? w ⟨g,o,none⟩ h
theorem Ext.refl (lo:Nat) (σ:Store) (β:Env) (w:World):Ext lo σ β w σ β w :=
 ⟨rfl,rfl,rfl,Nat.le_refl _,fun _ _ _ h _=>h,fun _ _ _=>rfl,fun _ _ h=>.inl h,fun _ _=>rfl⟩
theorem Ext.trans {lo:Nat} {σ σ1 σ2:Store} {β β1 β2:Env} {w w1 w2:World} (h:Ext lo σ β w σ1 β1 w1) (k:Ext lo σ1 β1 w1 σ2 β2 w2):Ext lo σ β w σ2 β2 w2:=by
 refine ⟨k.os.trans h.os,k.tape.trans h.tape,k.output.trans h.output,Nat.le_trans h.size k.size,?_,?_,?_,fun b hb=>(k.env b hb).trans (h.env b hb)⟩
 ·intro g o v hc hn
  have h1:=h.cell g o v hc hn
  refine k.cell g o v h1 fun hm=>?_
  rcases h.newM g o hm with h2 | h2
  ·exact hn h2
  ·have:=Zck hc;omega
 ·intro g hg hn
  have h1:=h.block g hg hn
  rw [← h1]
  refine k.block g (Nat.lt_of_lt_of_le hg h.size) fun o hm=>?_
  rcases h.newM g o hm with h2 | h2
  ·exact hn o h2
  ·omega
 ·intro g o hm
  rcases k.newM g o hm with h2 | h2
  ·exact h.newM g o h2
  ·exact .inr (Nat.le_trans h.size h2)
theorem Ext.lower {lo lo':Nat} {σ σ':Store} {β β':Env} {w w':World} (h:Ext lo σ β w σ' β' w') (hl:lo'≤lo):Ext lo' σ β w σ' β' w' :=
 ⟨h.os,h.tape,h.output,h.size,h.cell,h.block,h.newM,fun b hb=>h.env b (Nat.lt_of_lt_of_le hb hl)⟩
theorem RelS.map_mut {X:Nat→Nat→Prop} {base:Nat} {σ:Store} {β:Env} {w:World} (h:RelS X base σ β w) {g clk:Nat} {es:Array MapEntry}
  (hg:w.heap[g]? = some (.map es clk)) (hn:¬ Mof σ β g 0):∀ o, ¬ Mof σ β g o:=by
 rintro o ⟨b,blk,L,h1,h2,rfl,h4⟩
 refine hn ⟨b,blk,L,h1,h2,rfl,?_⟩
 obtain ⟨L',h2',_,_,hok⟩:=h.blk b blk h1
 obtain rfl:L=L':=Option.some.inj (h2.symm.trans h2')
 cases blk with
 | row es fz=>obtain ⟨c,e,h5,_⟩:=hok;rw [hg] at h5;cases h5
 | map ks vs fz=>exact h4
 | var cs=>trivial
 | iter s p=>trivial
 | mit ks vs seen=>trivial
 | loop r=>trivial
theorem Ext.keeps {X:Nat→Nat→Prop} {base lo:Nat} {σ σ':Store} {β β':Env} {w w':World} (hr:RelS X base σ β w) (h:Ext lo σ β w σ' β' w') :
  Keeps w (MT X σ β) w' (MT X σ' β'):=by
 constructor
 ·intro g o v hc hn
  have hx:¬ X g o:=fun hx=>hn (.inl hx)
  have hm:¬ Mof σ β g o:=fun hm=>hn (.inr hm)
  refine ⟨h.cell g o v hc hm,?_⟩
  rintro (hx' | hm')
  ·exact hx hx'
  ·rcases h.newM g o hm' with h2 | h2
   ·exact hm h2
   ·have:=Zck hc;omega
 ·intro g es c hg hn
  have hx:¬ X g 0:=fun hx=>hn (.inl hx)
  have hm:¬ Mof σ β g 0:=fun hm=>hn (.inr hm)
  have hlt:g<w.heap.size:=(Array.getElem?_eq_some_iff.1 hg).1
  refine ⟨(h.block g hlt (hr.map_mut hg hm)).trans hg,?_⟩
  rintro (hx' | hm')
  ·exact hx hx'
  ·rcases h.newM g 0 hm' with h2 | h2
   ·exact hm h2
   ·omega
theorem RelS.gl_ext {X:Nat→Nat→Prop} {base lo:Nat} {σ σ':Store} {β β':Env} {w w':World} (hr:RelS X base σ β w) (h:Ext lo σ β w σ' β' w'):Glob base w':=fun x hx=>by
 obtain ⟨g1,v,g2,g3⟩:=hr.gl x hx
 refine ⟨g1,v,h.cell _ _ _ g2 ?_,g3⟩
 rintro ⟨b,blk,L,m1,m2,m3,_⟩
 obtain ⟨L',q1,q2,_⟩:=hr.blk b blk m1
 obtain rfl:=Option.some.inj (q1.symm.trans m2)
 omega
theorem Glob.same {base:Nat} {w w':World} (hg:Glob base w) (h:∀ g,g<w.heap.size→w'.heap[g]? = w.heap[g]?):Glob base w':=fun x hx=>by
 obtain ⟨g1,v,g2,g3⟩:=hg x hx
 exact ⟨g1,v,by rw [World.cell?_of_block (w:=w) (a:=⟨x.1,x.2.1,none⟩) (h x.1 (Zck g2))];exact g2,g3⟩
inductive KA where
 | bool | int (k:IntKind) | str | ptr | slice | array (n:Nat) | map | struct | func | iface | other
 deriving DecidableEq
def kaOf:TypeDesc→KA
 | .bool=>.bool | .int k=>.int k | .string=>.str | .pointer _=>.ptr | .slice _=>.slice | .array n _=>.array n
 | .map _ _=>.map | .struct _=>.struct | .func _ _ _=>.func | .interface _=>.iface | _=>.other
def aggD:TypeDesc→Bool
 | .struct _ | .array _ _=>true
 | _=>false
def ofValue:Value→AVal
 | .bool b=>.bool b
 | .int k n=>.int k n
 | .string s=>.str s
 | .pointer none=>.nilptr
 | .slice none 0 0=>.nils
 | .map none=>.nilmap
 | .nilFunc=>.nilfn
 | .nilIface=>.nilif
 | v=>.opq v
def zeroA (z:Value):List AVal:=z.cells.toList.map ofValue
structure Lay where
 sz:Nat
 ag:Bool
 bytes:Nat
 zero:List AVal
 key:KA
def zOk (ag:Bool):Value→Bool
 | .agg _=>ag
 | .tuple _=>false
 | _=>!ag
def layOf (P:Program) (t:TypeId):Option Lay :=
 match P.info? t,P.underlying t with
 | some i,some u=>match i.zero with
  | some z=>if zOk (aggD u) z=true∧z.cells.size=i.size then some { sz:=i.size,ag:=aggD u,bytes:=i.bytes,zero:=zeroA z,key:=kaOf u } else none
  | none=>none
 | _,_=>none
structure TyA where
 lay:Lay
 flds:List (Nat×Option Lay)
 elem:Option Lay
 keyT:Option Lay
def tyA (P:Program) (t:TypeId):Option TyA :=
 match layOf P t,P.underlying t with
 | some l,some u=>some
  {lay:=l
   flds:=match u with | .struct fs=>fs.toList.map fun f=>(f.offset,layOf P f.type) | _=>[]
   elem:=match u with | .slice e=>layOf P e | .array _ e=>layOf P e | .map _ e=>layOf P e | _=>none
   keyT:=match u with | .map k _=>layOf P k | _=>none }
 | _,_=>none
def TyA.kind (T:TyA):KA:=T.lay.key
def kindOf (P:Program) (t:TypeId):Option KA:=(layOf P t).map (·.key)
def kaV:AVal→KA
 | .int k _=>.int k
 | .str _=>.str
 | .bool _=>.bool
 | _=>.other
def KA.plain:KA→Bool
 | .int _ | .str | .bool=>true
 | _=>false
def eqTyIn (P:Program):List Field→Nat→List KA→Bool
 | [],_,[]=>true
 | f :: fs, i, k :: ks => f.offset == i && f.name != "_" && k.plain && decide ((P.underlying f.type).map kaOf = some k) && eqTyIn P fs (i + 1) ks
 | _,_,_=>false
def eqTy (P:Program) (t:TypeId) (ks:List KA):Bool :=
 match P.underlying t with
 | some (.struct fs)=>!P.eqGuardType P.depth t && !P.stoodInHeld t&&eqTyIn P fs.toList 0 ks
 | _=>false
def AVal.isCell:AVal→Bool
 | .undef | .agg _ | .tup _ | .opq _=>false
 | _=>true
def takeA (l:Lay) (cs:List AVal):Option AVal :=
 if l.ag then (if l.sz≤cs.length then some (.agg (cs.take l.sz)) else none) else cs.head?
def zeroV (l:Lay):AVal:=if l.ag then .agg l.zero else l.zero.headD .undef
def setMany:List AVal→Nat→List AVal→List AVal
 | cs,_,[]=>cs
 | cs,o,v :: vs=>setMany (cs.set o v) (o+1) vs
def setS (σ:Store) (nm:Nat) (b:Blk):Store :=
 if nm < σ.length then σ.set nm (some b) else σ++List.replicate (nm - σ.length) none++[some b]
def getS (σ:Store) (b:Nat):Option Blk:=(σ[b]?).join
def loadA (σ:Store) (l:Lay):AVal→Option AVal
 | .ptr b off=>match getS σ b with
  | some (.var cs)=>takeA l (cs.drop off)
  | _=>none
 | .rp b i f=>match getS σ b with
  | some (.row es _)=>if i<es.length then takeA l ((es.getD i .undef).cells.drop f) else none
  | _=>none
 | .pp cs=>takeA l cs
 | _=>none
def mkElem (ag:Bool) (cs:List AVal):AVal:=if ag then .agg cs else cs.headD .undef
def isAggA:AVal→Bool
 | .agg _=>true
 | _=>false
def storeA (σ:Store) (l:Lay) (p v:AVal):Option Store :=
 if v.cells.length=l.sz∧v.cells.all AVal.isCell then
  match p with
  | .ptr b off=>match getS σ b with
   | some (.var cs)=>if off+l.sz≤cs.length then some (setS σ b (.var (setMany cs off v.cells))) else none
   | _=>none
  | .rp b i f=>match getS σ b with
   | some (.row es fz) =>
    if fz≤i∧i<es.length∧f+l.sz≤(es.getD i .undef).cells.length∧0<l.sz then
     some (setS σ b (.row (es.set i (mkElem (isAggA (es.getD i .undef)) (setMany (es.getD i .undef).cells f v.cells))) fz))
    else none
   | _=>none
  | _=>none
 else none
def pickA:AVal→AVal→AVal→Option AVal
 | .bool c, .bool x, .bool y=>some (.bool (if c then x else y))
 | .bool c,x,y=>some (if c then x else y)
 | _,_,_=>none
def eqCell:AVal→AVal→Bool
 | .int _ a, .int _ b=>a==b
 | .str a, .str b=>a.toList==b.toList
 | .bool a, .bool b=>a==b
 | _,_=>false
def eqCells:List AVal→List AVal→Bool
 | [],[]=>true
 | a :: as_,b :: bs=>eqCell a b&&eqCells as_ bs
 | _,_=>false
def sameKind:AVal→AVal→Bool
 | .int k _, .int k' _=>k==k'
 | .str _, .str _=>true
 | .bool _, .bool _=>true
 | _,_=>false
def intBin (op:BinOp) (k:IntKind) (a b:Int):Option AVal :=
 match op with
 | .add=>some (.int k (k.wrap (a+b)))
 | .sub=>some (.int k (k.wrap (a - b)))
 | .mul=>some (.int k (k.wrap (a*b)))
 | .quo=>if b≠0 then some (.int k (k.wrap (a.tdiv b))) else none
 | .rem=>if b≠0 then some (.int k (a.tmod b)) else none
 | .eql=>some (.bool (decide (a=b)))
 | .neq=>some (.bool (decide (a≠b)))
 | .lss=>some (.bool (decide (a<b)))
 | .leq=>some (.bool (decide (a≤b)))
 | .gtr=>some (.bool (decide (b<a)))
 | .geq=>some (.bool (decide (b≤a)))
 | _=>none
def strBin (op:BinOp) (a b:ByteArray):Option AVal :=
 match op with
 | .add=>if a.size+b.size≤1000000000 then some (.str (a++b)) else none
 | .eql=>some (.bool (a.toList==b.toList))
 | .neq=>some (.bool !(a.toList==b.toList))
 | .lss=>some (.bool (Op.bytesLess a.toList b.toList))
 | .leq=>some (.bool (Op.bytesLess a.toList b.toList||a.toList==b.toList))
 | .gtr=>some (.bool !(Op.bytesLess a.toList b.toList||a.toList==b.toList))
 | .geq=>some (.bool !(Op.bytesLess a.toList b.toList))
 | _=>none
def ptrSome:AVal→Option Bool
 | .nilptr=>some false
 | .ptr _ _ | .rp _ _ _ | .pp _=>some true
 | _=>none
def mapSome:AVal→Option Bool
 | .nilmap=>some false
 | .map _ | .pm _ _=>some true
 | _=>none
def ifaceSome:AVal→Option Bool
 | .nilif=>some false
 | .iface _ _=>some true
 | _=>none
def funcSome:AVal→Option Bool
 | .nilfn=>some false
 | .fn _ _ _=>some true
 | _=>none
def emptyIf (P:Program) (t:TypeId):Bool :=
 match P.underlying t with
 | some (.interface ms)=>ms.isEmpty
 | _=>false
def eqlA (P:Program) (t:TypeId) (x y:AVal):Option Bool :=
 match kindOf P t,x,y with
 | some .bool, .bool a, .bool b=>some (a==b)
 | some .ptr,x,y=>match ptrSome x,ptrSome y with
  | some false,some b=>some (!b)
  | some true,some false=>some false
  | _,_=>none
 | some .map,x, .nilmap=>(mapSome x).map (!·)
 | some .iface,x,y=>match ifaceSome x,ifaceSome y with
  | some true,some false | some false,some true=>some false
  | some false,some false=>if emptyIf P t=true then some true else none
  | _,_=>none
 | some .func,x,y=>match funcSome x,funcSome y with
  | some false,some b=>some (!b)
  | some true,some false=>some false
  | _,_=>none
 | some .struct, .agg xs, .agg ys=>if xs.map kaV=ys.map kaV∧eqTy P t (xs.map kaV)=true then some (eqCells xs ys) else none
 | _,_,_=>none
def cmpA (P:Program) (op:BinOp) (t:TypeId) (x y:AVal):Option AVal :=
 match op with
 | .eql=>(eqlA P t x y).map .bool
 | .neq=>(eqlA P t x y).map fun b=>.bool !b
 | _=>none
def binA (P:Program) (op:BinOp) (t:TypeId) (x y:AVal):Option AVal :=
 match x,y with
 | .int k a, .int k' b=>if k=k' then intBin op k a b else none
 | .str a, .str b=>strBin op a b
 | x,y=>cmpA P op t x y
def nilOp:Operand→Bool
 | .const (.slice none 0 0)=>true
 | _=>false
def nilS (neg:Bool):AVal→Option AVal
 | .nils=>some .anyb
 | .ps _ es=>some (if es.length=0 then .anyb else .bool neg)
 | .os _ _ n _=>some (if n=0 then .anyb else .bool neg)
 | .oc _ _ n _ _=>some (if n=0 then .anyb else .bool neg)
 | _=>none
def nilE (P:Program) (op:BinOp) (t:TypeId) (x:AVal):Option AVal :=
 match kindOf P t,op with
 | some .slice, .eql=>nilS false x
 | some .slice, .neq=>nilS true x
 | _,_=>none
def binO (P:Program) (op:BinOp) (t:TypeId) (x y:AVal) (nl:Bool):Option AVal:=if nl then nilE P op t x else binA P op t x y
def unA (op:UnOp):AVal→Option AVal
 | .bool b=>match op with
  | .not=>some (.bool !b)
  | _=>none
 | .int k n=>match op with
  | .neg=>some (.int k (k.wrap (0 - n)))
  | _=>none
 | _=>none
def natIn (lo hi:Nat):AVal→Option Nat
 | .int _ i=>if (lo:Int)≤i∧i≤hi then some i.toNat else none
 | _=>none
def lenA (k:KA) (σ:Store) (x:AVal):Option Nat :=
 match k,x with
 | .str, .str s=>some s.size
 | .slice, .ps _ es=>some es.length
 | .slice, .nils=>some 0
 | .slice, .os _ _ n _=>some n
 | .slice, .oc _ _ n _ _=>some n
 | .map, .nilmap=>some 0
 | .map, .pm ks _=>some ks.length
 | .map, .map b=>match getS σ b with
  | some (.map ks _ _)=>some ks.length
  | _=>none
 | _,_=>none
def elemsA (σ:Store) (sz:Nat):AVal→Option (List AVal)
 | .ps s es=>if s=sz then some es else none
 | .nils=>some []
 | .os b off n s=>if s=sz then match getS σ b with
  | some (.row es _)=>if off+n≤es.length then some ((es.drop off).take n) else none
  | _=>none
  else none
 | .oc b off n _ s=>if s=sz then match getS σ b with
  | some (.row es _)=>if off+n≤es.length then some ((es.drop off).take n) else none
  | _=>none
  else none
 | _=>none
def bytesOf (s:ByteArray):List AVal:=s.data.toList.map fun b=>.int .u8 b.toNat
def hiA (n:Nat):Option AVal→Option Nat
 | some h=>natIn 0 n h
 | none=>some n
def hiC (n c:Nat):Option AVal→Option Nat
 | some h=>natIn 0 c h
 | none=>some n
def loA (h:Nat):Option AVal→Option Nat
 | some l=>natIn 0 h l
 | none=>some 0
def TyA.esz (T:TyA):Option Nat:=T.elem.map Lay.sz
def sliceA (T:TyA) (x:AVal) (lo hi mx:Option AVal):Option AVal :=
 match mx with
 | some m=>match x with
  | .oc b off n c sz=>if T.kind = .slice∧T.esz=some sz then (natIn 0 c m).bind fun m=>(hi.bind (natIn 0 m)).bind fun h=>(loA h lo).bind fun l=>some (.oc b (off+l) (h - l) (m - l) sz) else none
  | _=>none
 | none =>
  match x with
  | .oc b off n c sz=>if T.kind = .slice∧T.esz=some sz then (hiC n c hi).bind fun h=>(loA h lo).bind fun l=>some (.oc b (off+l) (h - l) (c - l) sz) else none
  | .str s=>if T.kind = .str then (hiA s.size hi).bind fun h=>(loA h lo).bind fun l=>some (.str (s.extract l h)) else none
  | .ps sz es=>if T.kind = .slice∧T.esz=some sz then (hiA es.length hi).bind fun h=>(loA h lo).bind fun l=>some (.ps sz ((es.drop l).take (h - l))) else none
  | .os b off n sz=>if T.kind = .slice∧T.esz=some sz then (hiA n hi).bind fun h=>(loA h lo).bind fun l=>some (.os b (off+l) (h - l) sz) else none
  | .nils=>if T.kind = .slice∧T.elem.isSome then (hiA 0 hi).bind fun h=>(loA h lo).bind fun _=>some .nils else none
  | _=>none
def indexAddrA (T:TyA) (x i:AVal):Option AVal :=
 match i with
 | .int _ i =>
  match x with
  | .os b off n sz=>if T.kind = .slice∧T.esz=some sz∧0≤i∧i<n then some (.rp b (off+i.toNat) 0) else none
  | .oc b off n _ sz=>if T.kind = .slice∧T.esz=some sz∧0≤i∧i<n then some (.rp b (off+i.toNat) 0) else none
  | .ps sz es=>if T.kind = .slice∧T.esz=some sz∧0≤i∧i<es.length then some (.pp (es.getD i.toNat .undef).cells) else none
  | .ptr b off=>match T.kind,T.elem with
   | .array n,some e=>if 0≤i∧i<n then some (.ptr b (off+i.toNat*e.sz)) else none
   | _,_=>none
  | _=>none
 | _=>none
def partA (l:Lay) (cs:List AVal) (off:Nat):Option AVal:=takeA l (cs.drop off)
def indexA (T:TyA) (x i:AVal):Option AVal :=
 match x,i with
 | .agg cs, .int _ i=>match T.kind,T.elem with
  | .array n,some e=>if 0≤i∧i<n then partA e cs (i.toNat*e.sz) else none
  | _,_=>none
 | .str s, .int _ i=>if h:(0≤i∧i.toNat<s.size)∧T.kind = .str then some (.int .u8 (s[i.toNat]'h.1.2).toNat) else none
 | _,_=>none
def fieldAddrA (T:TyA) (x:AVal) (i:Nat):Option AVal :=
 match T.kind,T.flds[i]? with
 | .struct,some (off,some l)=>if l.sz≠0 then
   match x with
   | .ptr b o=>some (.ptr b (o+off))
   | .rp b i f=>some (.rp b i (f+off))
   | .pp cs=>some (.pp (cs.drop off))
   | _=>none
  else none
 | _,_=>none
def fieldA (T:TyA) (x:AVal) (i:Nat):Option AVal :=
 match T.kind,T.flds[i]?,x with
 | .struct,some (off,some l), .agg cs=>partA l cs off
 | _,_,_=>none
def keyOk (T:TyA) (k:AVal):Bool :=
 match (T.keyT.map Lay.key:Option KA),k with
 | some (KA.int k'), .int k _=>k==k'
 | some KA.str, .str _=>true
 | _,_=>false
def findK (k:AVal):List AVal→Nat→Option Nat
 | [],_=>none
 | x :: xs,i=>if eqCell k x then some i else findK k xs (i+1)
def lookupIn (ks vs:List AVal) (z k:AVal) (ok:Bool):AVal :=
 match findK k ks 0 with
 | some i=>if ok then .tup [vs.getD i .undef, .bool true] else vs.getD i .undef
 | none=>if ok then .tup [z, .bool false] else z
def lookupA (σ:Store) (T:TyA) (x k:AVal) (ok:Bool):Option AVal :=
 match T.kind,T.elem with
 | .map,some e =>
  if keyOk T k then
   match x with
   | .nilmap=>some (lookupIn [] [] (zeroV e) k ok)
   | .pm ks vs=>if ks.all (sameKind k) then some (lookupIn ks vs (zeroV e) k ok) else none
   | .map b=>match getS σ b with
    | some (.map ks vs _)=>if ks.all (sameKind k) then some (lookupIn ks vs (zeroV e) k ok) else none
    | _=>none
   | _=>none
  else none
 | _,_=>none
def mapSet (ks vs:List AVal) (k v:AVal):List AVal×List AVal :=
 match findK k ks 0 with
 | some i=>(ks,vs.set i v)
 | none=>(ks++[k],vs++[v])
def mapUpdateA (σ:Store) (T:TyA) (m k v:AVal):Option Store :=
 match T.kind,T.elem,m with
 | .map,some e, .map b=>match getS σ b with
  | some (.map ks vs false)=>if keyOk T k&&ks.all (sameKind k)&&decide (v.cells.length=e.sz) then some (setS σ b (.map (mapSet ks vs k v).1 (mapSet ks vs k v).2 false)) else none
  | _=>none
 | _,_,_=>none
def fillA (flds:List (Nat×Option Lay)) (ρ:Operand→AVal):List AVal→List (Nat×Operand)→Option (List AVal)
 | cs,[]=>some cs
 | cs,(i,x) :: rest=>match flds[i]? with
  | some (off,some l)=>if (ρ x).cells.length=l.sz∧off+l.sz≤cs.length∧(ρ x).cells.all AVal.isCell=true then fillA flds ρ (setMany cs off (ρ x).cells) rest else none
  | _=>none
def buildA (T:TyA) (ρ:Operand→AVal) (parts:List (Nat×Operand)):Option AVal :=
 match T.kind,T.elem with
 | .struct,_=>if T.flds.all (·.2.isSome) then (fillA T.flds ρ T.lay.zero parts).map .agg else none
 | .array n,some e=>(fillA ((List.range n).map fun i=>(i*e.sz,some e)) ρ T.lay.zero parts).map .agg
 | _,_=>none
def rowA (e:Lay) (ρ:Operand→AVal):Nat→List (Nat×Operand)→Option (List AVal)
 | _,[]=>some []
 | k,(i,x) :: rest=>if i=k∧(ρ x).cells.length=e.sz∧isAggA (ρ x)=e.ag∧(ρ x).cells.all AVal.isCell then (rowA e ρ (k+1) rest).map ((ρ x) :: ·) else none
def roomN (bytes:Nat):Nat:=if bytes≤32 then 6000000000000 else 1000000000
theorem Zpm (b:Nat):roomN b≤6000000000000:=by unfold roomN;split<;>omega
theorem Zm2 {n b:Nat} (h:n≤roomN b) (hb:b≤65536):(n+n / 4+192)*b≤281474976710656:=by
 unfold roomN at h
 split at h
 ·exact Nat.le_trans (Nat.mul_le_mul (show n+n / 4+192≤7500000000192 by omega) (by assumption)) (by decide)
 ·exact Nat.le_trans (Nat.mul_le_mul (show n+n / 4+192≤1250000192 by omega) hb) (by decide)
def appendO (σ:Store) (nm:Nat) (e:Lay) (s:AVal) (xs:List AVal):Option (AVal×Store) :=
 if xs.all (fun x=>x.cells.length==e.sz&&x.cells.all AVal.isCell)∧0<e.sz∧e.bytes≤65536∧e.zero.length=e.sz then
  match s with
  | .nils=>if xs.length=0 then some (.nils,σ) else if xs.length≤roomN e.bytes then some (.os nm 0 xs.length e.sz,setS σ nm (.row xs 0)) else none
  | .os b off n sz=>match getS σ b with
   | some (.row es fz) =>
    if sz=e.sz∧fz≤off+n∧off+n≤es.length∧n+xs.length≤roomN e.bytes then
     some (.os nm 0 (n+xs.length) sz,setS (σ.set b none) nm (.row ((es.drop off).take n++xs) (fz - off)))
    else none
   | _=>none
  | _=>none
 else none
def appendC (σ:Store) (nm:Nat) (e:Lay) (b off n c sz:Nat) (xs:List AVal):Option (AVal×Store) :=
 if xs.all (fun x=>x.cells.length==e.sz&&x.cells.all AVal.isCell)∧0<e.sz∧e.bytes≤65536∧e.zero.length=e.sz then
  match getS σ b with
  | some (.row es fz) =>
   if sz=e.sz∧off+n≤es.length then
    if n+xs.length≤c then (if fz≤off+n∧off+n+xs.length≤es.length then some (.oc b off (n+xs.length) c sz,setS σ b (.row (setMany es (off+n) xs) fz)) else none)
    else if n+xs.length≤roomN e.bytes then some (.os nm 0 (n+xs.length) sz,setS σ nm (.row ((es.drop off).take n++xs) 0)) else none
   else none
  | _=>none
 else none
def appendA (σ:Store) (nm:Nat) (e:Lay) (s:AVal) (xs:List AVal):Option (AVal×Store) :=
 match s with
 | .oc b off n c sz=>appendC σ nm e b off n c sz xs
 | s=>appendO σ nm e s xs
def overA (σ:Store) (sz:Nat) (s:AVal) (xs:List AVal):Option Store :=
 match s with
 | .oc b off n _ sz' | .os b off n sz'=>match getS σ b with
  | some (.row es fz)=>if sz'=sz∧0<sz∧fz≤off∧xs.length≤n∧off+n≤es.length∧xs.all (fun x=>x.cells.length==sz&&x.cells.all AVal.isCell)=true then some (setS σ b (.row (setMany es off xs) fz)) else none
  | _=>none
 | _=>none
def lenS:AVal→Option Nat
 | .nils=>some 0
 | .os _ _ n _=>some n
 | .oc _ _ n _ _=>some n
 | .ps _ es=>some es.length
 | _=>none
def capA:AVal→Option Nat
 | .nils=>some 0
 | .oc _ _ _ c _=>some c
 | _=>none
def makeSliceA (σ:Store) (nm:Nat) (T:TyA) (l c:AVal):Option (AVal×Store) :=
 match T.kind,T.elem,l,c with
 | .slice,some e, .int .i64 l, .int .i64 c =>
  if 0≤l∧l≤c∧c≤1000000000∧e.bytes≤65536∧0<e.sz∧e.zero.length=e.sz then some (.os nm 0 l.toNat e.sz,setS σ nm (.row (List.replicate l.toNat (zeroV e)) 0)) else none
 | _,_,_,_=>none
def foldInts (f:Int→Int→Int):AVal→List AVal→Option AVal
 | x,[]=>some x
 | .int k a, .int _ b :: rest=>foldInts f (.int k (f a b)) rest
 | _,_=>none
def builtinA (P:Program) (σ:Store) (nm:Nat) (b:Builtin) (ts:List TypeId) (args:List AVal):Option (AVal×Store) :=
 match b,ts,args with
 | .len,[t],[x]=>(tyA P t).bind fun T=>match T.kind with
  | .array n=>some (.int .i64 n,σ)
  | .str | .slice | .map=>(lenA T.kind σ x).map fun (n:Nat)=>(AVal.int .i64 (n:Int),σ)
  | _=>none
 | .append,[t,u],[s,x]=>(tyA P t).bind fun T=>(tyA P u).bind fun U=>match T.kind,T.elem,U.kind with
  | .slice,some e, .slice=>(elemsA σ e.sz x).bind fun xs=>appendA σ nm e s xs
  | .slice,some e, .str=>match x with
   | .str y=>if e.sz=1 then appendA σ nm e s (bytesOf y) else none
   | _=>none
  | .slice,some e, .int _=>match x with
   | .int .i64 n=>if 0≤n∧n≤1000000000∧IntKind.i64.wrap n=n then appendA σ nm e s (List.replicate n.toNat (zeroV e)) else none
   | _=>none
  | _,_,_=>none
 | .cap,[t],[x]=>(tyA P t).bind fun T=>match T.kind with
  | .slice=>(capA x).map fun (n:Nat)=>(AVal.int .i64 (n:Int),σ)
  | _=>none
 | .clear,[t],[x]=>(tyA P t).bind fun T=>match T.kind,T.elem with
  | .slice,some e=>(lenS x).bind fun n=>if n=0 then some (.tup [],σ) else (overA σ e.sz x (List.replicate n (zeroV e))).map (.tup [], ·)
  | _,_=>none
 | .copy,[t,u],[d,x]=>(tyA P t).bind fun T=>(tyA P u).bind fun U=>match T.kind,T.elem,U.kind with
  | .slice,some e, .slice=>(lenS d).bind fun n=>(elemsA σ e.sz x).bind fun xs=>(overA σ e.sz d (xs.take n)).map (AVal.int .i64 ((xs.take n).length:Int), ·)
  | _,_,_=>none
 | .max,_,x :: rest=>(foldInts (fun a b=>if a<b then b else a) x rest).map (·,σ)
 | .min,_,x :: rest=>(foldInts (fun a b=>if b<a then b else a) x rest).map (·,σ)
 | _,_,_=>none
def convertA (P:Program) (s d:TypeId) (x:AVal):Option AVal :=
 match kindOf P s,kindOf P d,x with
 | some _,some (.int k), .int _ n=>some (.int k (k.wrap n))
 | some .str,some .str, .str y=>some (.str y)
 | _,_,_=>none
def typeAssertA (P:Program) (x:AVal) (asserted:TypeId) (ok:Bool):Option AVal :=
 match tyA P asserted,x with
 | some T, .iface t v=>match T.kind with
  | .iface=>none
  | _=>if t=asserted then some (if ok then .tup [v, .bool true] else v) else if ok then some (.tup [zeroV T.lay, .bool false]) else none
 | some T, .nilif=>match T.kind with
  | .iface=>none
  | _=>if ok then some (.tup [zeroV T.lay, .bool false]) else none
 | _,_=>none
def iterNext (σ:Store):AVal→Option (AVal×Store)
 | .it b=>match getS σ b with
  | some (.iter s pos)=>if pos<s.size then some (.tup [.bool true, .int .i64 pos, .int .i32 (Utf8.decode s pos).1],setS σ b (.iter s (pos+(Utf8.decode s pos).2))) else some (.tup [.bool false],σ)
  | _=>none
 | _=>none
def entryA (σ:Store):AVal→Option (AVal×Store)
 | .it b=>match getS σ b with
  | some (.mit ks vs seen)=>match seen.getLast? with
   | some i=>some (.tup [ks.getD i .undef,vs.getD i .undef],σ)
   | none=>none
  | _=>none
 | _=>none
def opE (P:Program) (σ:Store) (nm:Nat) (ρ:Operand→AVal):Op→Option (AVal×Store)
 | .move x=>some (ρ x,σ)
 | .assign x=>some (ρ x,σ)
 | .pick c a b=>(pickA (ρ c) (ρ a) (ρ b)).map (·,σ)
 | .alloc t=>(layOf P t).bind fun l=>some (.ptr nm 0,setS σ nm (.var l.zero))
 | .box t x=>(layOf P t).bind fun l=>if (ρ x).cells.length=l.sz∧(ρ x).cells.all AVal.isCell then some (.ptr nm 0,setS σ nm (.var (ρ x).cells)) else none
 | .build t parts=>(tyA P t).bind fun T=>(buildA T ρ parts.toList).map (·,σ)
 | .buildSlice t n parts=>(tyA P t).bind fun T=>T.elem.bind fun e=>(rowA e ρ 0 parts.toList).bind fun es =>
   if es.length=n∧T.kind = .slice∧n*e.sz≤16777216∧e.zero.length=e.sz∧0<e.sz then some (.os nm 0 n e.sz,setS σ nm (.row es 0)) else none
 | .load t x=>(layOf P t).bind fun l=>(loadA σ l (ρ x)).map (·,σ)
 | .store t x v=>(layOf P t).bind fun l=>(storeA σ l (ρ x) (ρ v)).map (.undef, ·)
 | .nilCheck x=>match ρ x with
  | .ptr b o=>some (.ptr b o,σ)
  | .rp b i f=>some (.rp b i f,σ)
  | .pp cs=>some (.pp cs,σ)
  | .fn f a c=>some (.fn f a c,σ)
  | _=>none
 | .binOp op t x y _=>(binO P op t (ρ x) (ρ y) (nilOp y)).map (·,σ)
 | .unOp op _ x=>(unA op (ρ x)).map (·,σ)
 | .convert s d x=>(convertA P s d (ρ x)).map (·,σ)
 | .makeInterface t x=>match kindOf P t with
  | some .iface=>none
  | some _=>some (.iface t (ρ x),σ)
  | none=>none
 | .makeFunc (.func f) first captured=>some (.fn f (first.toList.map ρ) (captured.toList.map ρ),σ)
 | .makeMap t none=>some (.map nm,setS σ nm (.map [] [] false))
 | .makeSlice t l c=>(tyA P t).bind fun T=>makeSliceA σ nm T (ρ l) (ρ c)
 | .slice t x lo hi mx=>(tyA P t).bind fun T=>(sliceA T (ρ x) (lo.map ρ) (hi.map ρ) (mx.map ρ)).map (·,σ)
 | .fieldAddr t x i=>(tyA P t).bind fun T=>(fieldAddrA T (ρ x) i).map (·,σ)
 | .field t x i=>(tyA P t).bind fun T=>(fieldA T (ρ x) i).map (·,σ)
 | .indexAddr t x i=>(tyA P t).bind fun T=>(indexAddrA T (ρ x) (ρ i)).map (·,σ)
 | .index t x i=>(tyA P t).bind fun T=>(indexA T (ρ x) (ρ i)).map (·,σ)
 | .lookup t x i ok=>(tyA P t).bind fun T=>(lookupA σ T (ρ x) (ρ i) ok).map (·,σ)
 | .mapUpdate t m k v=>(tyA P t).bind fun T=>(mapUpdateA σ T (ρ m) (ρ k) (ρ v)).map (.undef, ·)
 | .insert t m k v=>(tyA P t).bind fun T=>(mapUpdateA σ T (ρ m) (ρ k) (ρ v)).map (.undef, ·)
 | .range t x=>(tyA P t).bind fun T=>match T.kind,ρ x with
  | .str, .str s=>some (.it nm,setS σ nm (.iter s 0))
  | .map, .pm ks vs=>some (.it nm,setS σ nm (.mit ks vs []))
  | _,_=>none
 | .entry x=>entryA σ (ρ x)
 | .next it true=>iterNext σ (ρ it)
 | .typeAssert x _ u ok=>(typeAssertA P (ρ x) u ok).map (·,σ)
 | .extract x i=>match ρ x with
  | .tup vs=>(vs[i]?).map (·,σ)
  | _=>none
 | .call { callee:=.builtin b,args,argTypes }=>builtinA P σ nm b argTypes.toList (args.toList.map ρ)
 | _=>none
structure St where
 tm:List AVal
 σ:Store
def ev (tm:List AVal):Operand→AVal
 | .tmp t=>tm.getD t .undef
 | .const v=>ofValue v
 | .global g=>.opq (.pointer (some ⟨g,0,none⟩))
 | .func f=>.fn f [] []
def put (tm:List AVal) (dst:Option Tmp) (v:AVal):List AVal :=
 match dst with
 | some d=>tm.set d v
 | none=>tm
theorem Zg2 {X:Nat→Nat→Prop} {base:Nat} {σ σ':Store} {β β':Env} {w w':World} (hr:RelS X base σ β w) (nm:Nat) (L':Loc) (blk':Blk)
  (hσ1 : σ'[nm]? = some (some blk'))
  (hσ2:∀ c x,c≠nm→σ'[c]? = some (some x)→σ[c]? = some (some x)∧∀ Lc,β c=some Lc→Lc.g≠L'.g)
  (hlen : σ.length≤σ'.length)
  (hβ1 : β' nm=some L') (hβ2:∀ c,c≠nm→β' c = β c) (hβ3 : β nm=none∨β nm=some L')
  (hos:w'.os=w.os) (htape:w'.tape=w.tape) (hout:w'.output=w.output) (hsize:w.heap.size≤w'.heap.size)
  (hother:∀ g,g<w.heap.size→g≠L'.g→w'.heap[g]? = w.heap[g]?)
  (hcell:∀ off v,w.cell? ⟨L'.g,off,none⟩=some v→¬ Mof σ β L'.g off→w'.cell? ⟨L'.g,off,none⟩=some v)
  (hblk:L'.g<w.heap.size→(∀ o, ¬ Mof σ β L'.g o)→w'.heap[L'.g]? = w.heap[L'.g]?)
  (hmut:∀ off,blk'.mut L' off→Mof σ β L'.g off∨w.heap.size≤L'.g)
  (hX:∀ o, ¬ X L'.g o) (hbase:base≤L'.g) :
  Ext 0 σ β w σ' β' w'∧Keeps w (MT X σ β) w' (MT X σ' β')∧(∀ b L,β b=some L→β' b=some L) ∧
   (BlkOk w' (MT X σ' β') β' L' blk'→RelS X base σ' β' w'):=by
 have hsub:∀ b L,β b=some L→β' b=some L:=by
  intro b L hb
  by_cases e:b=nm
  ·subst e
   rcases hβ3 with h | h
   ·rw [h] at hb;cases hb
   ·rw [hβ1,← h,hb]
  ·rw [hβ2 b e,hb]
 have hnew:∀ g o,Mof σ' β' g o→Mof σ β g o∨w.heap.size≤g:=by
  rintro g o ⟨b,blk,L,h1,h2,rfl,h4⟩
  by_cases e:b=nm
  ·subst e
   obtain rfl:blk'=blk:=Option.some.inj (Option.some.inj (hσ1.symm.trans h1))
   obtain rfl:L'=L:=Option.some.inj (hβ1.symm.trans h2)
   exact hmut o h4
  ·exact .inl ⟨b,blk,L,(hσ2 b blk e h1).1,(hβ2 b e).symm.trans h2,rfl,h4⟩
 have hext:Ext 0 σ β w σ' β' w':=by
  refine ⟨hos,htape,hout,hsize,?_,?_,hnew,fun b hb=>absurd hb (Nat.not_lt_zero _)⟩
  ·intro g o v hc hn
   by_cases e:g=L'.g
   ·subst e;exact hcell o v hc hn
   ·have:=hother g (Zck hc) e
    rw [World.cell?_of_block (w:=w) (a:=⟨g,o,none⟩) this];exact hc
  ·intro g hg hn
   by_cases e:g=L'.g
   ·subst e;exact hblk hg hn
   ·exact hother g hg e
 have hkeep:=hext.keeps hr
 refine ⟨hext,hkeep,hsub,fun hok=>⟨?_,?_,?_,Nat.le_trans hr.size hsize,fun g o hx=>Nat.lt_of_lt_of_le (hr.xlt g o hx) hsize,hr.gl_ext hext⟩⟩
 ·intro b hb
  have hlt:nm < σ'.length:=(List.getElem?_eq_some_iff.1 hσ1).1
  rw [hβ2 b (by omega)]
  exact hr.dom b (by omega)
 ·intro b blk hb
  by_cases e:b=nm
  ·subst e
   obtain rfl:blk'=blk:=Option.some.inj (Option.some.inj (hσ1.symm.trans hb))
   exact ⟨L',hβ1,hbase,hX,hok⟩
  ·obtain ⟨h1,h2⟩:=hσ2 b blk e hb
   obtain ⟨L,h3,h4,h5,h6⟩:=hr.blk b blk h1
   have hlt:L.g<w.heap.size:=by
    cases blk with
    | var cs=>obtain ⟨c,e,h,_⟩:=h6;exact (Array.getElem?_eq_some_iff.1 h).1
    | row es fz=>obtain ⟨c,e,h,_⟩:=h6;exact (Array.getElem?_eq_some_iff.1 h).1
    | map ks vs fz=>obtain ⟨c,e,h,_⟩:=h6;exact (Array.getElem?_eq_some_iff.1 h).1
    | iter s p=>exact (Array.getElem?_eq_some_iff.1 h6).1
    | mit ks vs seen=>obtain ⟨m,es,c,h,_⟩:=h6;exact (Array.getElem?_eq_some_iff.1 h).1
    | loop r=>obtain ⟨c,e,f,h,_⟩:=h6;exact (Array.getElem?_eq_some_iff.1 h).1
   exact ⟨L,hsub _ _ h3,h4,h5,h6.mono hkeep hsub (hother L.g hlt (h2 L h3))⟩
 ·intro b b' blk blk2 L L2 h1 h2 h3 h4 hg
  by_cases e:b=nm
  ·by_cases e':b'=nm
   ·rw [e,e']
   ·exfalso
    subst e
    obtain rfl:L'=L:=Option.some.inj (hβ1.symm.trans h3)
    exact (hσ2 b' blk2 e' h2).2 L2 ((hβ2 b' e').symm.trans h4) hg.symm
  ·by_cases e':b'=nm
   ·exfalso
    subst e'
    obtain rfl:L'=L2:=Option.some.inj (hβ1.symm.trans h4)
    exact (hσ2 b blk e h1).2 L ((hβ2 b e).symm.trans h3) hg
   ·exact hr.inj b b' blk blk2 L L2 (hσ2 b blk e h1).1 (hσ2 b' blk2 e' h2).1 ((hβ2 b e).symm.trans h3) ((hβ2 b' e').symm.trans h4) hg
theorem BlkOk.lt {w:World} {M:Nat→Nat→Prop} {β:Env} {L:Loc} {blk:Blk} (h6:BlkOk w M β L blk):L.g<w.heap.size:=by
 cases blk with
 | var cs=>obtain ⟨c,e,h,_⟩:=h6;exact (Array.getElem?_eq_some_iff.1 h).1
 | row es fz=>obtain ⟨c,e,h,_⟩:=h6;exact (Array.getElem?_eq_some_iff.1 h).1
 | map ks vs fz=>obtain ⟨c,e,h,_⟩:=h6;exact (Array.getElem?_eq_some_iff.1 h).1
 | iter s p=>exact (Array.getElem?_eq_some_iff.1 h6).1
 | mit ks vs seen=>obtain ⟨m,es,c,h,_⟩:=h6;exact (Array.getElem?_eq_some_iff.1 h).1
 | loop r=>obtain ⟨c,e,f,h,_⟩:=h6;exact (Array.getElem?_eq_some_iff.1 h).1
def OpOut (P:Program) (X:Nat→Nat→Prop) (base:Nat) (σ:Store) (β:Env) (w:World) (nm:Nat) (s:Sem Next) (r:AVal) (σ':Store):Prop :=
 ∃ v w' β',(s.run P w = .ok (.value v) w'∨(s.run P w = .ok .skip w'∧v=undef))∧RelS X base σ' β' w'∧Rep w' (MT X σ' β') β' v r ∧
  Ext 0 σ β w σ' β' w'∧(∀ b,b≠nm→β' b = β b)∧∀ b L,β b=some L→β' b=some L
section
variable {P:Program} {X:Nat→Nat→Prop} {base:Nat} {σ:Store} {β:Env} {w:World} {nm:Nat}
theorem OpOut.val (hr:RelS X base σ β w) {s:Sem Next} {v:Value} {r:AVal} (h:s.run P w = .ok (.value v) w) (hv:Rep w (MT X σ β) β v r):OpOut P X base σ β w nm s r σ :=
 ⟨v,w,β, .inl h,hr,hv,Ext.refl _ _ _ _,fun _ _=>rfl,fun _ _ h=>h⟩
theorem Zgr {M:Nat→Nat→Prop} (v:Value):Rep w M β v (ofValue v):=by
 unfold ofValue
 split<;>first | exact .opq _ | constructor
theorem Zao {t:TypeId} {l:Lay} (h:layOf P t=some l):∃ i u z,P.info? t=some i∧P.underlying t=some u∧i.zero=some z ∧
  i.size=l.sz∧aggD u=l.ag∧i.bytes=l.bytes∧zeroA z=l.zero∧kaOf u=l.key∧zOk l.ag z=true∧z.cells.size=l.sz:=by
 unfold layOf at h
 split at h
 ·rename_i i u h1 h2
  split at h
  ·rename_i z hz
   split at h
   ·rename_i hc
    cases h
    exact ⟨i,u,z,h1,h2,hz,rfl,rfl,rfl,rfl,rfl,hc.1,hc.2⟩
   ·cases h
  ·cases h
 ·cases h
theorem Zje {t:TypeId} {u:TypeDesc} (h:P.underlying t=some u):(isAgg t).run P w = .ok (aggD u) w:=by
 simp only [isAgg,Sem.run_bind,run_underlying h,Result.andThen_ok]
 cases u<;>rfl
theorem Zb9 {t:TypeId} {i:TypeInfo} (h:P.info? t=some i):(sizeOf t).run P w = .ok i.size w:=by
 simp [sizeOf,typeInfo,h]
theorem Zd9 {t:TypeId} {i:TypeInfo} {z:Value} (h:P.info? t=some i) (hz:i.zero=some z):(zeroValue t).run P w = .ok z w:=by
 simp [zeroValue,typeInfo,h,hz]
theorem Zgb {α:Type} (f:Nat→α) (n k:Nat) (d : α) (h:k<n):(((List.range n).map f).toArray).getD k d=f k:=by
 simp [Array.getD,h]
theorem Zfo {M:Nat→Nat→Prop} {t:TypeId} {l:Lay} (hl:layOf P t=some l) {g o:Nat} {cs:List AVal} {cv:Nat→Value}
  (hc:∀ k,k<cs.length→w.cell? ⟨g,o+k,none⟩=some (cv k)) (hv:∀ k,k<cs.length→Rep w M β (cv k) (cs.getD k .undef)) {r:AVal} (ht:takeA l cs=some r) :
  ∃ v,(loadVar t ⟨g,o,none⟩).run P w = .ok v w∧Rep w M β v r:=by
 obtain ⟨i,u,z,h1,h2,h3,h4,h5,_⟩:=Zao hl
 unfold takeA at ht
 simp only [loadVar,Sem.run_bind,Zje h2,Result.andThen_ok,h5]
 by_cases ha:l.ag=true
 ·rw [if_pos ha] at ht
  rw [if_pos ha]
  split at ht
  ·rename_i hle
   cases ht
   have:=run_loadCells (P:=P) w ⟨g,o,none⟩ i.size cv (fun j hj=>by rw [Addr.add_lit];exact hc j (by omega))
   refine ⟨.agg ((List.range i.size).map cv).toArray,by simp [Zb9 h1,this],?_⟩
   refine .agg (by simp;omega) fun k hk=>?_
   have hk':k<i.size:=by simp at hk;omega
   rw [Zgb cv i.size k _ hk']
   have:=hv k (by omega)
   rwa [show (List.take l.sz cs).getD k AVal.undef=cs.getD k .undef by simp [List.getD,List.getElem?_take,show k<l.sz by omega]]
  ·cases ht
 ·rw [if_neg ha] at ht
  rw [if_neg ha]
  cases cs with
  | nil=>simp at ht
  | cons c cs =>
   simp only [List.head?_cons,Option.some.injEq] at ht
   subst ht
   have h0:=hc 0 (by simp)
   simp only [Nat.add_zero] at h0
   exact ⟨cv 0,by simp [run_load,h0],hv 0 (by simp)⟩
theorem Zia {M:Nat→Nat→Prop} {t:TypeId} {l:Lay} (hl:layOf P t=some l) {cs:Array Value} {as_:List AVal} (hn:cs.size=as_.length)
  (hv:∀ k,k<as_.length→Rep w M β (cs.getD k undef) (as_.getD k .undef)) {off:Nat} {r:AVal} (ht:partA l as_ off=some r) :
  ∃ v,(part t cs off).run P w = .ok v w∧Rep w M β v r:=by
 obtain ⟨i,u,z,h1,h2,h3,h4,h5,_⟩:=Zao hl
 unfold partA takeA at ht
 simp only [part,Sem.run_bind,Zje h2,Result.andThen_ok,h5]
 by_cases ha:l.ag=true
 ·rw [if_pos ha] at ht
  rw [if_pos ha]
  split at ht
  ·rename_i hle
   cases ht
   simp only [List.length_drop] at hle
   refine ⟨.agg (cs.extract off (off+i.size)),by simp [Zb9 h1],?_⟩
   refine .agg (by simp;omega) fun k hk=>?_
   have hk':k<l.sz:=by simp at hk;omega
   have:=hv (off+k) (by omega)
   have e1:(cs.extract off (off+i.size)).getD k undef=cs.getD (off+k) undef:=by
    rw [Array.getD_eq_getD_getElem?,Array.getD_eq_getD_getElem?,Array.getElem?_extract]
    rw [if_pos (by omega)]
   have e2:(List.take l.sz (List.drop off as_)).getD k AVal.undef=as_.getD (off+k) .undef:=by
    simp [List.getD,List.getElem?_take,hk',List.getElem?_drop]
   rw [e1,e2];exact this
  ·cases ht
 ·rw [if_neg ha] at ht
  rw [if_neg ha]
  simp only [List.head?_drop] at ht
  obtain ⟨hlt,he⟩:=List.getElem?_eq_some_iff.1 ht
  have:=hv off hlt
  refine ⟨cs.getD off undef,?_,?_⟩
  ·have:cs[off]? = some (cs.getD off undef):=by
    rw [Array.getD_eq_getD_getElem?,Array.getElem?_eq_getElem (by omega)];rfl
   rw [this];rfl
  ·rwa [show as_.getD off AVal.undef=r by simp [List.getD,ht]] at this
end
end Go.Abs
