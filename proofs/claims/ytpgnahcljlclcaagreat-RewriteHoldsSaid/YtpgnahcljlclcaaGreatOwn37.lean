/- Part 37 of my own framework and of the walks of functions: AcsL. -/
import Derived.Test.YtpgnahcljlclcaaGreatOwn36
set_option linter.unusedVariables false
set_option linter.unusedSectionVars false
set_option linter.unusedSimpArgs false
namespace Go.Abs
open Go
def exP (b:Nat) (cs:List AVal):AVal→AVal
 | .ptr b' o=>if b'=b∧o=0 then .pp cs else .ptr b' o
 | a=>a
def exA (b:Nat) (cs:List AVal):AVal→AVal
 | .fn g x y=>.fn g (x.map (exP b cs)) (y.map (exP b cs))
 | a=>exP b cs a
section
variable {P:Program} {X:Nat→Nat→Prop} {base:Nat} {σ:Store} {β β':Env} {w w':World}
theorem Zkv {b c:Nat} {x:Blk} (h:(σ.set b none)[c]? = some (some x)):c≠b∧σ[c]? = some (some x):=by
 rw [List.getElem?_set] at h
 by_cases e:b=c
 ·rw [if_pos e] at h;split at h<;>cases h
 ·rw [if_neg e] at h;exact ⟨fun e'=>e e'.symm,h⟩
theorem Zjq {b g o:Nat} (h:Mof (σ.set b none) β g o):Mof σ β g o:=by
 obtain ⟨c,x,L,m1,m2⟩:=h
 exact ⟨c,x,L,(Zkv m1).2,m2⟩
theorem Zrx {b:Nat} {cs:List AVal} (hr:RelS X base σ β w) (hb : σ[b]? = some (some (.var cs))) {v:Value} {a:AVal} (h:Rep w (MT X σ β) β v a):Rep w (MT X (σ.set b none) β) β v (exP b cs a):=by
 have hk:Keeps w (MT X σ β) w (MT X (σ.set b none) β):=Keeps.anti fun g o h=>h.imp id Zjq
 cases a with
 | ptr b' o =>
  simp only [exP]
  split
  ·rename_i e
   obtain ⟨rfl,rfl⟩:=e
   cases h with
   | @ptr _ _ L hh =>
    obtain ⟨L',q1,q2,q3,c,e,q4,q5,q6,q7⟩:=hr.blk b' _ hb
    obtain rfl:=Option.some.inj (q1.symm.trans hh)
    have hM:∀ o, ¬ MT X (σ.set b' none) β L'.g o:=by
     rintro o (hx | ⟨c2,y,L2,m1,m2,m3,m4⟩)
     ·exact q3 _ hx
     ·obtain ⟨n1,n2⟩:=Zkv m1
      exact n1 (hr.inj c2 b' y _ L2 L' n2 hb m2 q1 m3)
    refine .pp (fun k=>c.getD k undef) (fun k hk'=>⟨?_,hM _⟩) fun k hk'=>(q7 k hk').mono hk (fun _ _ h=>h)
    have:L'.o+0+k=k:=by omega
    rw [this,cell_of_row w L'.g _ c e (0,0) q4,Zan (by omega)]
  ·exact h.mono hk (fun _ _ h=>h)
 | _=>exact h.mono hk (fun _ _ h=>h)
theorem Ym1 {b:Nat} {cs:List AVal} (hr:RelS X base σ β w) (hb : σ[b]? = some (some (.var cs))) {v:Value} {a:AVal} (h:Rep w (MT X σ β) β v a):Rep w (MT X (σ.set b none) β) β v (exA b cs a):=by
 have hd:∀ (l:List AVal) (k:Nat),(l.map (exP b cs)).getD k .undef=exP b cs (l.getD k .undef):=fun l k=>by
  simp only [List.getD_eq_getElem?_getD,List.getElem?_map]
  cases l[k]?<;>rfl
 cases a with
 | fn g x y =>
  simp only [exA]
  cases h with
  | fn e1 e2 r1 r2 =>
   refine .fn (by simpa using e1) (by simpa using e2) (fun k hk=>?_) (fun k hk=>?_)
   ·rw [hd];exact Zrx hr hb (r1 k (by simpa using hk))
   ·rw [hd];exact Zrx hr hb (r2 k (by simpa using hk))
 | _=>exact Zrx hr hb h
theorem VCall.isoE {g:FuncId} {first captured args args':List AVal} {K:AVal→Store→Prop} {r:AVal} {b:Nat} {cs:List AVal} (bs:List Nat) (hb:getS σ b=some (.var cs)) (hc:CallEq P g args' r) (hp:pTL (among bs) (σ.set b none) args' ((first++args++captured).map (exA b cs))) (hl:lowL 0 args')
  (hfl:flatR r=true) (hk:K r σ):VCall P (.fn g first captured) args σ K:=by
 refine VCall.sh ?_
 intro X base β w vs h1 h2 h3 fr cs' h4
 have hb':=Zae hb
 have hd:∀ (l:List AVal) (k:Nat),k<l.length→(l.map (exA b cs)).getD k .undef=exA b cs (l.getD k .undef):=fun l k hk=>by
  simp [List.getD_eq_getElem?_getD,hk]
 have h1e:RelS X base (σ.set b none) β w:=h1.less (fun c x hc=>(Zkv hc).2) List.length_set
 have h3e:∀ k,k<(first++args++captured).length→Rep w (MT X (σ.set b none) β) β (vs.getD k undef) (((first++args++captured).map (exA b cs)).getD k .undef):=fun k hk=>by
  rw [hd _ _ hk];exact Ym1 h1 hb' (h3 k hk)
 have hf':=Zen (among bs) (σ.set b none)
 generalize hσf:frzI (among bs) 0 (σ.set b none) = σf at *
 have hf:=hf'.frz
 have h1f:=h1e.frz hf
 obtain ⟨e1,e2⟩:=Zbr h1f hf' args' hp
 rw [List.length_map] at e1
 have e3:∀ k,k<args'.length→Rep w (MT X σf β) β (vs.getD k undef) (args'.getD k .undef):=fun k hk'=>(e2 k hk').1 _ ((h3e k (by omega)).mono (Ze6 hf) (fun _ _ h=>h))
 have hβ0:∀ b,b<0→(fun _=>none:Env) b = β b:=fun b hb=>by omega
 have hX':∀ g' o,MT X σf β g' o→g'<w.heap.size:=by
  rintro g' o (hx | ⟨b,y,L,m1,m2,rfl,m4⟩)
  ·exact h1.xlt g' o hx
  ·exact Zks h1f m1 m2
 have hs0:RelS (MT X σf β) base [] (fun _=>none) w:=⟨fun _ _=>rfl,fun b y hb=>by simp at hb,fun b b' y y' L L' hb=>by simp at hb,h1.size,hX',h1.gl⟩
 have hanti:∀ (β':Env) (w:World),Keeps w (MT X σf β) w (MT (MT X σf β) [] β'):=fun β' w=>Keeps.anti fun g' o h=>by rcases h with h | h;exact h;exact absurd h Zhz
 obtain ⟨r',σ',β',v,w',⟨rfl,rfl⟩,g1,g2,g3,g4,g5⟩:=hc.1 (MT X σf β) base (fun _=>none) w vs hs0 (by omega) (fun k hk' =>
  ((e3 k (by omega)).low hβ0 (Zaa hl k)).mono (hanti _ _) (fun _ _ h=>h)) fr cs' h4
 have hheap:∀ g',g'<w.heap.size→w'.heap[g']? = w.heap[g']?:=fun g' hg'=>g3.block g' hg' fun o=>Zhz
 have mkExt:Ext σ.length σ β w σ β w' :=
  ⟨g3.os,g3.tape,g3.output,g3.size,fun g' o x hcx _=>by rw [World.cell?_of_block (w:=w) (a:=⟨g',o,none⟩) (hheap g' (Zck hcx))];exact hcx,fun g' hg' _=>hheap g' hg',fun g' o hm=>.inl hm,fun _ _=>rfl⟩
 exact ⟨r',σ,β,v,w',hk,(h1.kept g3.size hheap).1,Znr g2 hfl,mkExt,Nat.le_refl _,g5⟩
end
end Go.Abs
