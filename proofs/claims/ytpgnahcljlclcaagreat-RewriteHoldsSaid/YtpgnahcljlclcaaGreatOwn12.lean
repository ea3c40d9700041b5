/- Part 12 of my own framework and of the walks of functions: AbsN. -/
import Derived.Test.YtpgnahcljlclcaaGreatOwn11
set_option linter.unusedVariables false
set_option linter.unusedSectionVars false
set_option linter.unusedSimpArgs false
namespace Go.Abs
open Go
def purC (σ:Store):AVal→Option AVal
 | .os b off n sz=>match getS σ b with
  | some (.row es _)=>if off+n≤es.length then some (.ps sz ((es.drop off).take n)) else none
  | _=>none
 | .map b=>match getS σ b with
  | some (.map ks vs _)=>some (.pm ks vs)
  | _=>none
 | a=>some a
def purL (σ:Store):List AVal→Option (List AVal)
 | []=>some []
 | a :: as_=>(purC σ a).bind fun x=>(purL σ as_).map (x :: ·)
def purA (σ:Store):AVal→Option AVal
 | .agg cs=>(purL σ cs).map .agg
 | a=>purC σ a
def purLA (σ:Store):List AVal→Option (List AVal)
 | []=>some []
 | a :: as_=>(purA σ a).bind fun x=>(purLA σ as_).map (x :: ·)
def purR (σ:Store):AVal→Option AVal
 | .tup vs=>(purLA σ vs).map .tup
 | a=>purA σ a
def Blk.fle:Blk→Blk→Prop
 | .row es fz, .row es' fz'=>es=es'∧fz≤fz'
 | .map ks vs f, .map ks' vs' f'=>ks=ks'∧vs=vs'∧(f=true→f'=true)
 | a,b=>a=b
theorem Blk.fle_refl (b:Blk):b.fle b:=by cases b<;>simp [Blk.fle]
structure Frz (σ σf:Store):Prop where
 len : σf.length = σ.length
 to:∀ (b:Nat) (x:Blk),σ[b]? = some (some x)→∃ y,σf[b]? = some (some y)∧x.fle y
 from_:∀ (b:Nat) (y:Blk),σf[b]? = some (some y)→∃ x,σ[b]? = some (some x)∧x.fle y
section
variable {P:Program} {X:Nat→Nat→Prop} {base:Nat} {σ σf:Store} {β:Env} {w:World}
theorem Mof.frz (hf:Frz σ σf) {g o:Nat} (h:Mof σf β g o):Mof σ β g o:=by
 obtain ⟨b,y,L,h1,h2,h3,h4⟩:=h
 obtain ⟨x,h5,h6⟩:=hf.from_ b y h1
 refine ⟨b,x,L,h5,h2,h3,?_⟩
 cases x<;>cases y<;>simp [Blk.fle,Blk.mut] at h6 h4 ⊢
 ·have : _:=Nat.mul_le_mul_right L.sz h6.2;omega
 ·rename_i f _ _ f'
  cases f with
  | false=>rfl
  | true=>rw [h6.2.2 rfl] at h4;cases h4
theorem Ze6 (hf:Frz σ σf):Keeps w (MT X σ β) w (MT X σf β):=Keeps.anti fun g o h=>h.imp id fun hm=>hm.frz hf
theorem RelS.frz (hr:RelS X base σ β w) (hf:Frz σ σf):RelS X base σf β w:=by
 refine ⟨fun b hb=>hr.dom b (by rw [← hf.len];exact hb),fun b y hb=>?_,fun b b' y y' L L' h1 h2 h3 h4 hg=>?_,hr.size,hr.xlt,hr.gl⟩
 ·obtain ⟨x,h1,h2⟩:=hf.from_ b y hb
  obtain ⟨L,q1,q2,q3,q4⟩:=hr.blk b x h1
  refine ⟨L,q1,q2,q3,?_⟩
  have q5:=q4.mono (Ze6 (X:=X) hf) (fun _ _ h=>h) rfl
  cases x<;>cases y<;>simp [Blk.fle] at h2
  ·subst h2;exact q5
  ·obtain ⟨rfl,_⟩:=h2;exact q5
  ·obtain ⟨rfl,rfl,_⟩:=h2;exact q5
  ·obtain ⟨rfl,rfl⟩:=h2;exact q5
  ·obtain ⟨rfl,rfl,rfl⟩:=h2;exact q5
  ·subst h2;exact q5
 ·obtain ⟨x,q1,_⟩:=hf.from_ b y h1
  obtain ⟨x',q2,_⟩:=hf.from_ b' y' h2
  exact hr.inj b b' x x' L L' q1 q2 h3 h4 hg
theorem RelS.kept {w':World} (hr:RelS X base σ β w) (hsize:w.heap.size≤w'.heap.size) (hb:∀ g,g<w.heap.size→w'.heap[g]? = w.heap[g]?) :
  RelS X base σ β w'∧Keeps w (MT X σ β) w' (MT X σ β):=by
 have hk:Keeps w (MT X σ β) w' (MT X σ β):=by
  refine ⟨fun g o v hc hn=>⟨?_,hn⟩,fun g es c hg hn=>⟨?_,hn⟩⟩
  ·rw [World.cell?_of_block (w:=w) (a:=⟨g,o,none⟩) (hb g (Zck hc))];exact hc
  ·exact (hb g (Array.getElem?_eq_some_iff.1 hg).1).trans hg
 refine ⟨⟨hr.dom,fun b y hy=>?_,hr.inj,Nat.le_trans hr.size hsize,fun g o hx=>Nat.lt_of_lt_of_le (hr.xlt g o hx) hsize,hr.gl.same hb⟩,hk⟩
 obtain ⟨L,q1,q2,q3,q4⟩:=hr.blk b y hy
 exact ⟨L,q1,q2,q3,q4.mono hk (fun _ _ h=>h) (hb L.g q4.lt)⟩
def flatC:AVal→Bool
 | .undef | .bool _ | .int _ _ | .str _ | .nilptr | .nils | .nilfn | .nilmap | .nilif | .ps _ []=>true
 | _=>false
def flatA:AVal→Bool
 | .agg cs=>cs.all flatC
 | a=>flatC a
def flatR:AVal→Bool
 | .tup vs=>vs.all flatA
 | a=>flatA a
theorem Zoq {M M':Nat→Nat→Prop} {β':Env} {v:Value} {a:AVal} (h:Rep w M β v a) (hf:flatC a=true):Rep w M' β' v a:=by
 cases a<;>simp only [flatC,Bool.false_eq_true] at hf
 ·exact .undef _
 ·cases h;exact .bool _
 ·cases h;exact .int _ _
 ·cases h;exact .str _
 ·cases h;exact .nilptr
 ·cases h;exact .nils _
 ·rename_i sz es
  cases es with
  | nil=>cases h with | ps cv hcap hsz hc ha hr=>exact .ps cv hcap (fun i hi=>by simp at hi) (fun i j hi=>by simp at hi) (fun h0=>by simp at h0) (fun i j hi=>by simp at hi)
  | cons e es=>simp [flatC] at hf
 ·cases h;exact .nilfn
 ·cases h;exact .nilmap
 ·cases h;exact .nilif
theorem Zqa {M M':Nat→Nat→Prop} {β':Env} {v:Value} {a:AVal} (h:Rep w M β v a) (hf:flatA a=true):Rep w M' β' v a:=by
 cases a with
 | agg cs =>
  cases h with
  | agg hn hr =>
   refine .agg hn fun k hk=>Zoq (hr k hk) ?_
   simp only [flatA,List.all_eq_true] at hf
   exact hf _ (by simp only [List.getD,List.getElem?_eq_getElem hk,Option.getD_some];exact List.getElem_mem hk)
 | _=>exact Zoq h hf
theorem Znr {M M':Nat→Nat→Prop} {β':Env} {v:Value} {a:AVal} (h:Rep w M β v a) (hf:flatR a=true):Rep w M' β' v a:=by
 cases a with
 | tup cs =>
  cases h with
  | tup hn hr =>
   refine .tup hn fun k hk=>Zqa (hr k hk) ?_
   simp only [flatR,List.all_eq_true] at hf
   exact hf _ (by simp only [List.getD,List.getElem?_eq_getElem hk,Option.getD_some];exact List.getElem_mem hk)
 | _=>exact Zqa h hf
def CallEq (P:Program) (g:FuncId) (args:List AVal) (r:AVal):Prop:=CallSh P g args [] (fun r' σ'=>r'=r∧σ'=[])∧r.low 0
theorem Zhz {β:Env} {g o:Nat}:¬ Mof [] β g o:=by rintro ⟨b,x,L,h,_⟩;simp at h
theorem Zn8 {vs:Array Value} {k:Nat}:vs.toList.getD k undef=vs.getD k undef:=by simp [List.getD,Array.getD_eq_getD_getElem?]
end
end Go.Abs
