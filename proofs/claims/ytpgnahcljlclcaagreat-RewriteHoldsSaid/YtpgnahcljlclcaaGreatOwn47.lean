/- Part 47 of my own framework and of the walks of functions: Wi, Wj, Wk, Wl, Wm, Wn, Wo, Wp, Wq, Wr, Ws, Ya, Yb, Yc, Yd, Za, Ye, Yf, Yg, Yh, Yi, Vf, Yj, Zb, Zc, Zd, Zg, Zh, Zi. -/
import Derived.Test.YtpgnahcljlclcaaGreatOwn46
set_option linter.unusedVariables false
set_option linter.unusedSectionVars false
set_option linter.unusedSimpArgs false
namespace Go.Proofs
open Go Go.Abs
attribute [local go_sem] Nat.reduceAdd Nat.reduceSub Nat.reduceMul Nat.reduceLeDiff Nat.reduceEqDiff Nat.reduceBEq Nat.reduceLT Nat.le_refl Int.natCast_zero Nat.sub_zero List.length_map Int.toNat_natCast Int.natCast_one Int.reduceEq Int.reduceLT Int.reduceLE Int.reduceNe Int.sub_zero Int.zero_add Int.toNat_one
theorem Yko {P:Tm→Prop} {s:List Bd} (h:∀ b∈s,P b.t) {v:Int} (hv:P (.mk (-1 - v) [])):P (ofB s v):=by
 unfold ofB
 cases hf:s.find? (fun b=>b.v==v) with
 | some b=>exact h b (List.mem_of_find?_eq_some hf)
 | none=>exact hv
theorem Yfk {g:List Sy} {c:List Li} (hc:rtC g c):∀ s∈spotsF c 0,rtT g s.t:=fun s hs=>by
 obtain ⟨j,hj,h1,h2,h3⟩:=Zcv c 0 s hs
 exact Zjx Ye1 _ _ _ (Zgz hc (List.getElem_mem hj) s.rt) h2
end Go.Proofs
namespace Go.Proofs
open Go Go.Abs
theorem Yik {t u:Tm} (h1:t.head=u.head) (h2:t.args=u.args):t=u:=by
 cases t;cases u;simp only [Tm.head,Tm.args] at h1 h2;rw [h1,h2]
section
variable {α:Type} (same : α→α→Bool)
end
section
variable {α:Type}
variable {same : α→α→Bool}
variable {gt : α→α→Bool}
end
mutual
def Tm.ap (f:Int→Tm):Tm→Tm
 | .mk h ts=>if h<0 then f (-1 - h) else .mk h (Tm.apL f ts)
def Tm.apL (f:Int→Tm):List Tm→List Tm
 | []=>[]
 | t :: ts=>t.ap f :: Tm.apL f ts
end
theorem Zju (f:Int→Tm):∀ ts,Tm.apL f ts=ts.map (Tm.ap f)
 | []=>rfl
 | t :: ts=>by simp [Tm.apL,Zju f ts]
theorem Ztd {f:Int→Tm} {t:Tm} (h:t.head<0):t.ap f=f (-1 - t.head):=by
 cases t;rw [Tm.ap];exact if_pos h
theorem Zz3 {f:Int→Tm} {t:Tm} (h:¬ t.head<0):t.ap f = .mk t.head (t.args.map (Tm.ap f)):=by
 cases t;rw [Tm.ap,Zju];exact if_neg h
mutual
theorem Yha (bs:List Bd):∀ t:Tm,t.pd bs=t.ap (ofB bs)
 | .mk h ts=>by rw [Tm.pd,Tm.ap,Yir bs ts]
theorem Yir (bs:List Bd):∀ ts:List Tm,Tm.pdL bs ts=Tm.apL (ofB bs) ts
 | []=>rfl
 | t :: ts=>by rw [Tm.pdL,Tm.apL,Yha bs t,Yir bs ts]
end
mutual
theorem Yij (bs:List Bd):∀ t:Tm,t.good=true→t.sub bs=t.ap (ofB bs)
 | .mk h ts,hg=>by
  have ha:=Zcj hg
  have hh:=(Zdj hg).2.2.2
  simp only [Tm.head,Tm.args] at ha hh
  rw [Tm.sub,Tm.ap,Ybx bs ts ha]
  split
  ·rename_i hn
   rw [hh hn]
   unfold subOf ofB
   simp only [Tm.head]
   rw [show -1 - (-1 - h)=h by omega]
  ·rfl
theorem Ybx (bs:List Bd):∀ ts:List Tm,(∀ t∈ts,t.good=true)→Tm.subL bs ts=Tm.apL (ofB bs) ts
 | [],_=>rfl
 | t :: ts,h=>by rw [Tm.subL,Tm.apL,Yij bs t (h t (by simp)),Ybx bs ts fun x hx=>h x (by simp [hx])]
end
mutual
theorem Znd {f k:Int→Tm}:∀ t:Tm,t.allV (fun v=>f v=k v)→t.ap f=t.ap k
 | .mk h ts,hv=>by
  rw [Tm.allV] at hv
  rw [Tm.ap,Tm.ap,Zp9 ts hv.2]
  split
  ·rename_i hn;exact hv.1 hn
  ·rfl
theorem Zp9 {f k:Int→Tm}:∀ ts:List Tm,Tm.allVs (fun v=>f v=k v) ts→Tm.apL f ts=Tm.apL k ts
 | [],_=>rfl
 | t :: ts,hv=>by
  rw [Tm.allVs] at hv
  rw [Tm.apL,Tm.apL,Znd t hv.1,Zp9 ts hv.2]
end
mutual
theorem Yit {f k:Int→Tm}:∀ t:Tm,t.good=true→t.ap f=t.ap k→t.allV (fun v=>f v=k v)
 | .mk h ts,hg,he=>by
  have ha:=Zcj hg
  have hh:=(Zdj hg).2.2.2
  simp only [Tm.head,Tm.args] at ha hh
  rw [Tm.ap,Tm.ap] at he
  rw [Tm.allV]
  by_cases hn:h<0
  ·rw [if_pos hn,if_pos hn] at he
   exact ⟨fun _=>he,by rw [hh hn];trivial⟩
  ·rw [if_neg hn,if_neg hn] at he
   injection he with _ he
   exact ⟨fun h=>absurd h hn,Yc5 ts ha he⟩
theorem Yc5 {f k:Int→Tm}:∀ ts:List Tm,(∀ t∈ts,t.good=true)→Tm.apL f ts=Tm.apL k ts→Tm.allVs (fun v=>f v=k v) ts
 | [],_,_=>trivial
 | t :: ts,hg,he=>by
  rw [Tm.apL,Tm.apL] at he
  injection he with h1 h2
  exact ⟨Yit t (hg t (by simp)) h1,Yc5 ts (fun x hx=>hg x (by simp [hx])) h2⟩
end
theorem Zkd {α β:Type} (k : α→β):∀ (a:List α), ∀ p∈a.zip (a.map k),k p.1=p.2
 | x :: a,p,h=>by
  rw [List.map_cons,List.zip_cons_cons] at h
  rcases List.mem_cons.1 h with rfl | h
  ·rfl
  ·exact Zkd k a p h
theorem Zkn {α β:Type} (k : α→β):∀ (a:List α) (b:List β),a.length=b.length→(∀ p∈a.zip b,k p.1=p.2)→a.map k=b
 | [],[],_,_=>rfl
 | x :: a,y :: b,hl,h=>by
  rw [List.map_cons,Zkn k a b (by simpa using hl) fun p hp=>h p (by rw [List.zip_cons_cons];simp [hp]),h (x,y) (by rw [List.zip_cons_cons];simp)]
theorem Ydw {f:Int→Tm}:∀ (S:List (Tm×Tm)) (m:List Bd),(∀ x∈S,x.1.ap f=x.2)→(∀ b∈m,f b.v=b.t)→∃ m',gat S m=some m'∧∀ b∈m',f b.v=b.t:=by
 intro S m
 induction S,m using gat.induct with
 | case1 m=>intro _ h;exact ⟨m,by rw [gat],h⟩
 | case2 x r m hv c hf he ih =>
  intro h1 h2
  obtain ⟨m',a1,a2⟩:=ih (fun y hy=>h1 y (by simp [hy])) h2
  exact ⟨m',by rw [gat,if_pos hv,hf];simp only [if_pos he];exact a1,a2⟩
 | case3 x r m hv c hf he =>
  intro h1 h2
  refine absurd ?_ he
  have e1:=h2 c (List.mem_of_find?_eq_some hf)
  have e2:=h1 x (by simp)
  have e3:=List.find?_some hf
  simp only [beq_iff_eq] at e3
  rw [Ztd (by omega),← e3] at e2
  rw [← e1,e2]
 | case4 x r m hv hf ih =>
  intro h1 h2
  have e2:=h1 x (by simp)
  rw [Ztd (by omega)] at e2
  obtain ⟨m',a1,a2⟩:=ih (fun y hy=>h1 y (by simp [hy])) (fun b hb=>by
   rcases List.mem_append.1 hb with hb | hb
   ·exact h2 b hb
   ·rw [List.mem_singleton.1 hb];exact e2)
  exact ⟨m',by rw [gat,if_pos hv,hf];exact a1,a2⟩
 | case5 x r m hv hc =>
  intro h1 _
  have e2:=h1 x (by simp)
  rw [Zz3 (by omega)] at e2
  rcases hc with hc | hc
  ·exact absurd (by rw [← e2];rfl) hc
  ·exact absurd (by rw [← e2];simp [Tm.args]) hc
 | case6 x r m hv hc ih =>
  intro h1 h2
  have e2:=h1 x (by simp)
  rw [Zz3 (by omega)] at e2
  have e3:x.2.args=x.1.args.map (Tm.ap f):=by rw [← e2];rfl
  obtain ⟨m',a1,a2⟩:=ih (fun y hy=>by
   rcases List.mem_append.1 hy with hy | hy
   ·have hy:=List.mem_reverse.1 hy
    rw [e3] at hy
    exact Zkd _ _ y hy
   ·exact h1 y (by simp [hy])) h2
  exact ⟨m',by rw [gat,if_neg hv,if_neg hc];exact a1,a2⟩
theorem Yc7:∀ (S:List (Tm×Tm)) (m m':List Bd),gat S m=some m'→(∀ b∈m,b∈m')∧∀ f:Int→Tm,(∀ b∈m',f b.v=b.t)→∀ x∈S,x.1.ap f=x.2:=by
 intro S m
 induction S,m using gat.induct with
 | case1 m =>
  intro m' h
  rw [gat] at h
  cases h
  exact ⟨fun _ h=>h,fun f _ x hx=>by cases hx⟩
 | case2 x r m hv c hf he ih =>
  intro m' h
  rw [gat,if_pos hv,hf] at h
  simp only [if_pos he] at h
  obtain ⟨a1,a2⟩:=ih m' h
  refine ⟨a1,fun f hb y hy=>?_⟩
  rcases List.mem_cons.1 hy with rfl | hy
  ·have e3:=List.find?_some hf
   simp only [beq_iff_eq] at e3
   rw [Ztd (by omega),← e3,hb c (a1 c (List.mem_of_find?_eq_some hf)),he]
  ·exact a2 f hb y hy
 | case3 x r m hv c hf he =>
  intro m' h
  rw [gat,if_pos hv,hf] at h
  simp only [if_neg he] at h
  cases h
 | case4 x r m hv hf ih =>
  intro m' h
  rw [gat,if_pos hv,hf] at h
  simp only at h
  obtain ⟨a1,a2⟩:=ih m' h
  refine ⟨fun b hb=>a1 b (by simp [hb]),fun f hb y hy=>?_⟩
  rcases List.mem_cons.1 hy with rfl | hy
  ·have:=hb ⟨-1 - y.1.head,y.2⟩ (a1 _ (by simp))
   rw [Ztd (by omega)];exact this
  ·exact a2 f hb y hy
 | case5 x r m hv hc =>
  intro m' h
  rw [gat,if_neg hv,if_pos hc] at h
  cases h
 | case6 x r m hv hc ih =>
  intro m' h
  rw [gat,if_neg hv,if_neg hc] at h
  obtain ⟨a1,a2⟩:=ih m' h
  refine ⟨a1,fun f hb y hy=>?_⟩
  rcases List.mem_cons.1 hy with rfl | hy
  ·have e1:y.1.head=y.2.head:=Decidable.byContradiction fun hn=>hc (.inl hn)
   have e2:y.1.args.length=y.2.args.length:=Decidable.byContradiction fun hn=>hc (.inr hn)
   rw [Zz3 (by omega),Zkn (Tm.ap f) _ _ e2 fun p hp=>a2 f hb p (List.mem_append_left _ (List.mem_reverse.2 hp))]
   exact Yik e1 rfl
  ·exact a2 f hb y (List.mem_append_right _ hy)
theorem Ykv {Q:Tm→Prop} (hQ:∀ t,Q t→∀ u∈t.args,Q u):∀ (S:List (Tm×Tm)) (m m':List Bd),gat S m=some m'→(∀ x∈S,x.1.good=true∧Q x.2)→(∀ b∈m,(0≤b.v∧b.v≤255)∧Q b.t)→∀ b∈m',(0≤b.v∧b.v≤255)∧Q b.t:=by
 intro S m
 induction S,m using gat.induct with
 | case1 m =>
  intro m' h _ h2
  rw [gat] at h
  cases h
  exact h2
 | case2 x r m hv c hf he ih =>
  intro m' h h1 h2
  rw [gat,if_pos hv,hf] at h
  simp only [if_pos he] at h
  exact ih m' h (fun y hy=>h1 y (by simp [hy])) h2
 | case3 x r m hv c hf he =>
  intro m' h
  rw [gat,if_pos hv,hf] at h
  simp only [if_neg he] at h
  cases h
 | case4 x r m hv hf ih =>
  intro m' h h1 h2
  rw [gat,if_pos hv,hf] at h
  simp only at h
  obtain ⟨g1,g2⟩:=h1 x (by simp)
  have gh:=Zdj g1
  exact ih m' h (fun y hy=>h1 y (by simp [hy])) fun b hb=>by
   rcases List.mem_append.1 hb with hb | hb
   ·exact h2 b hb
   ·rw [List.mem_singleton.1 hb];exact ⟨⟨hv,by simp only;omega⟩,g2⟩
 | case5 x r m hv hc =>
  intro m' h
  rw [gat,if_neg hv,if_pos hc] at h
  cases h
 | case6 x r m hv hc ih =>
  intro m' h h1 h2
  rw [gat,if_neg hv,if_neg hc] at h
  obtain ⟨g1,g2⟩:=h1 x (by simp)
  refine ih m' h (fun y hy=>?_) h2
  rcases List.mem_append.1 hy with hy | hy
  ·have hy:=List.of_mem_zip (List.mem_reverse.1 hy)
   exact ⟨Zcj g1 _ hy.1,hQ _ g2 _ hy.2⟩
  ·exact h1 y (by simp [hy])
mutual
theorem Zpj {f:Int→Tm}:∀ (t u:Tm) (s:List Bd),t.ap f=u→(∀ b∈s,f b.v=b.t)→(gatD t u s).2=true∧∀ b∈(gatD t u s).1,f b.v=b.t
 | .mk h ts,u,s,he,hs=>by
  rw [gatD]
  rw [Tm.ap] at he
  by_cases hn:h<0
  ·rw [if_pos hn] at he ⊢
   cases hf:s.find? (fun b=>b.v == -1 - h) with
   | some b =>
    have e1:=hs b (List.mem_of_find?_eq_some hf)
    have e3:=List.find?_some hf
    simp only [beq_iff_eq] at e3
    simp only
    refine ⟨?_,hs⟩
    rw [decide_eq_true_eq,← e1,e3,he]
   | none =>
    simp only
    refine ⟨trivial,fun b hb=>?_⟩
    rcases List.mem_append.1 hb with hb | hb
    ·exact hs b hb
    ·rw [List.mem_singleton.1 hb];exact he
  ·rw [if_neg hn] at he ⊢
   subst he
   rw [if_neg (show ¬ (h≠(Tm.mk h (Tm.apL f ts)).head∨ts.length≠(Tm.mk h (Tm.apL f ts)).args.length) from by simp [Tm.head,Tm.args,Zju])]
   exact Zld ts _ s (by rw [← Zju];rfl) hs
theorem Zld {f:Int→Tm}:∀ (ts us:List Tm) (s:List Bd),ts.map (Tm.ap f)=us→(∀ b∈s,f b.v=b.t)→(gatDL ts us s).2=true∧∀ b∈(gatDL ts us s).1,f b.v=b.t
 | [],_,s,_,hs=>by rw [gatDL];exact ⟨rfl,hs⟩
 | t :: ts,[],s,he,_=>by simp at he
 | t :: ts,u :: us,s,he,hs=>by
  rw [List.map_cons] at he
  injection he with h1 h2
  obtain ⟨a1,a2⟩:=Zpj t u s h1 hs
  rw [gatDL,if_pos a1]
  exact Zld ts us _ h2 a2
end
mutual
theorem Zhx:∀ (t u:Tm) (s:List Bd),(gatD t u s).2=true→(∀ b∈s,b∈(gatD t u s).1)∧∀ f:Int→Tm,(∀ b∈(gatD t u s).1,f b.v=b.t)→t.ap f=u
 | .mk h ts,u,s,he=>by
  rw [gatD] at he ⊢
  by_cases hn:h<0
  ·rw [if_pos hn] at he ⊢
   cases hf:s.find? (fun b=>b.v == -1 - h) with
   | some b =>
    rw [hf] at he
    simp only [decide_eq_true_eq] at he ⊢
    refine ⟨fun _ h=>h,fun f hb=>?_⟩
    have e3:=List.find?_some hf
    simp only [beq_iff_eq] at e3
    rw [Tm.ap,if_pos hn,← e3,hb b (List.mem_of_find?_eq_some hf),he]
   | none =>
    simp only
    refine ⟨fun b hb=>by simp [hb],fun f hb=>?_⟩
    rw [Tm.ap,if_pos hn]
    exact hb ⟨-1 - h,u⟩ (by simp)
  ·rw [if_neg hn] at he ⊢
   by_cases hc:h≠u.head∨ts.length≠u.args.length
   ·rw [if_pos hc] at he;cases he
   ·rw [if_neg hc] at he ⊢
    have e1:h=u.head:=Decidable.byContradiction fun hn=>hc (.inl hn)
    have e2:ts.length=u.args.length:=Decidable.byContradiction fun hn=>hc (.inr hn)
    obtain ⟨a1,a2⟩:=Zk4 ts u.args s e2 he
    refine ⟨a1,fun f hb=>?_⟩
    rw [Tm.ap,if_neg hn,Zju,a2 f hb]
    exact Yik e1 rfl
theorem Zk4:∀ (ts us:List Tm) (s:List Bd),ts.length=us.length→(gatDL ts us s).2=true→(∀ b∈s,b∈(gatDL ts us s).1)∧∀ f:Int→Tm,(∀ b∈(gatDL ts us s).1,f b.v=b.t)→ts.map (Tm.ap f)=us
 | [],[],s,_,_=>by rw [gatDL];exact ⟨fun _ h=>h,fun _ _=>rfl⟩
 | t :: ts,u :: us,s,hl,he=>by
  rw [gatDL] at he ⊢
  by_cases hg:(gatD t u s).2=true
  ·rw [if_pos hg] at he ⊢
   obtain ⟨a1,a2⟩:=Zhx t u s hg
   obtain ⟨b1,b2⟩:=Zk4 ts us _ (by simpa using hl) he
   refine ⟨fun b hb=>b1 b (a1 b hb),fun f hb=>?_⟩
   rw [List.map_cons,b2 f hb,a2 f fun b hx=>hb b (b1 b hx)]
  ·rw [if_neg hg] at he;cases he
end
mutual
theorem Zs6:∀ (t u:Tm) (s:List Bd),(s.map Bd.v).Nodup→((gatD t u s).1.map Bd.v).Nodup
 | .mk h ts,u,s,hs=>by
  rw [gatD]
  split
  ·split
   ·exact hs
   ·rename_i hf
    rw [List.map_append,List.nodup_append]
    refine ⟨hs,by simp,fun u hu w hw=>?_⟩
    simp only [List.map_cons,List.map_nil,List.mem_singleton] at hw
    subst hw
    obtain ⟨b,hb,rfl⟩:=List.mem_map.1 hu
    intro e
    exact absurd (by simpa using e) (List.find?_eq_none.1 hf b hb)
  ·split
   ·exact hs
   ·exact Zty ts u.args s hs
theorem Zty:∀ (ts us:List Tm) (s:List Bd),(s.map Bd.v).Nodup→((gatDL ts us s).1.map Bd.v).Nodup
 | [],_,s,hs=>by rw [gatDL];exact hs
 | _ :: _,[],s,hs=>by rw [gatDL];exact hs
 | t :: ts,u :: us,s,hs=>by
  rw [gatDL]
  split
  ·exact Zty ts us _ (Zs6 t u s hs)
  ·exact hs
end
theorem Zrf:∀ l:List Bd,(l.map Bd.v).Nodup→∀ b∈l,l.find? (fun c=>c.v==b.v)=some b
 | c :: l,h,b,hb=>by
  rw [List.map_cons,List.nodup_cons] at h
  rw [List.find?_cons]
  rcases List.mem_cons.1 hb with rfl | hb
  ·simp
  ·have hne:¬ c.v=b.v:=fun e=>h.1 (by rw [e];exact List.mem_map.2 ⟨b,hb,rfl⟩)
   rw [show (c.v==b.v)=false from by simp [hne]]
   exact Zrf l h.2 b hb
theorem Yfy {l:List Bd} (h:(l.map Bd.v).Nodup) (v:Int):l.reverse.find? (fun c=>c.v==v)=l.find? (fun c=>c.v==v):=by
 cases hf:l.find? (fun c=>c.v==v) with
 | some b =>
  have e3:=List.find?_some hf
  simp only [beq_iff_eq] at e3
  have:=Zrf l.reverse (by rw [List.map_reverse];exact (List.reverse_perm _).nodup_iff.2 h) b (List.mem_reverse.2 (List.mem_of_find?_eq_some hf))
  rwa [e3] at this
 | none =>
  rw [List.find?_eq_none] at hf ⊢
  exact fun x hx=>hf x (List.mem_reverse.1 hx)
theorem Ymb {l:List Bd} (h:(l.map Bd.v).Nodup) (v:Int):ofB l.reverse v=ofB l v:=by
 unfold ofB;rw [Yfy h]
theorem Zsy {l:List Bd} (h:(l.map Bd.v).Nodup):∀ b∈l,ofB l b.v=b.t:=fun b hb=>by
 unfold ofB;rw [Zrf l h b hb];rfl
theorem Zmg {k:Int→Option Bd} (hk:∀ w b,k w=some b→b.v=w) (v:Int):∀ L:List Int,(L.filterMap k).find? (fun c=>c.v==v)=if v∈L then k v else none
 | []=>by simp
 | w :: L=>by
  rw [List.filterMap_cons]
  cases hw:k w with
  | none =>
   simp only
   rw [Zmg hk v L]
   by_cases e:v=w
   ·subst e;rw [hw];simp
   ·simp [List.mem_cons,e]
  | some b =>
   simp only
   rw [List.find?_cons,Zmg hk v L,hk w b hw]
   by_cases e:w=v
   ·subst e;simp [hw]
   ·rw [show (w==v)=false from by simp [e]]
    simp [List.mem_cons,Ne.symm e]
theorem Yib {t:Tm} {v:Int} (hg:t.good=true) (h0 : 0≤v) (h:t.head = -1 - v):t = .mk (-1 - v) []:=by
 have:=(Zdj hg).2.2.2 (by omega)
 cases t;simp only [Tm.head,Tm.args] at h this;rw [h,this]
def kP (m:List Bd) (v:Int):Option Bd:=match m.find? (fun c=>c.v==v) with | some c=>if c.t.head = -1 - v then none else some ⟨v,c.t⟩ | none=>none
theorem kP_v (m:List Bd) (w:Int) (b:Bd) (h:kP m w=some b):b.v=w:=by
 unfold kP at h
 split at h
 ·split at h
  ·cases h
  ·cases h;rfl
 ·cases h
theorem Zmv (m:List Bd) (ks:List Int):tidyP m ks=ks.filterMap (kP m):=rfl
theorem Ybc {m:List Bd} {ks:List Int} (hks:∀ b∈m,b.v∈ks) (hv:∀ b∈m,0≤b.v∧b.t.good=true) (v:Int):ofB (tidyP m ks) v=ofB m v:=by
 rw [Zmv]
 unfold ofB
 rw [Zmg (kP_v m)]
 unfold kP
 cases hf:m.find? (fun c=>c.v==v) with
 | none=>simp
 | some c =>
  have hc:=List.mem_of_find?_eq_some hf
  have e3:=List.find?_some hf
  simp only [beq_iff_eq] at e3
  rw [if_pos (by rw [← e3];exact hks c hc)]
  simp only
  by_cases e:c.t.head = -1 - v
  ·rw [if_pos e]
   exact (Yib (hv c hc).2 (by rw [← e3];exact (hv c hc).1) e).symm
  ·rw [if_neg e];rfl
def kD (s:List Bd) (v:Int):Option Bd:=if (ofB s v).head = -1 - v then none else some ⟨v,ofB s v⟩
theorem kD_v (s:List Bd) (w:Int) (b:Bd) (h:kD s w=some b):b.v=w:=by
 unfold kD at h
 split at h
 ·cases h
 ·cases h;rfl
theorem Yfs (s:List Bd):tidyD s=((List.range 256).map fun n:Nat=>(n:Int)).filterMap (kD s):=by
 unfold tidyD tidyL
 rw [List.filterMap_map];rfl
theorem Zo1 {s:List Bd} (hg:∀ b∈s,b.t.good=true) {v:Int} (h0 : 0≤v) (h1:v≤255):ofB (tidyD s) v=ofB s v:=by
 rw [Yfs]
 have hin:v∈(List.range 256).map fun n:Nat=>(n:Int):=List.mem_map.2 ⟨v.toNat,List.mem_range.2 (by omega),by omega⟩
 have e:ofB (((List.range 256).map fun n:Nat=>(n:Int)).filterMap (kD s)) v=((kD s v).map Bd.t).getD (.mk (-1 - v) []):=by
  conv=>lhs;unfold ofB
  rw [Zmg (kD_v s),if_pos hin]
 rw [e]
 unfold kD
 by_cases c:(ofB s v).head = -1 - v
 ·rw [if_pos c]
  have hgo:(ofB s v).good=true:=Yko (P:=fun t=>t.good=true) hg (by
   simp only [Tm.good,Tm.goods,List.length_nil,Bool.and_true,Bool.not_eq_true',Bool.or_eq_false_iff,decide_eq_false_iff_not,Bool.and_eq_false_iff]
   refine ⟨⟨⟨.inr (by omega),by omega⟩,by omega⟩,by omega⟩)
  exact (Yib hgo h0 c).symm
 ·rw [if_neg c];rfl
theorem Zt3 {m:List Bd} (hm:∀ b∈m,(0≤b.v∧b.v≤255)∧b.t.check=0):∀ (ks:List Int) (a:Int),ks.Pairwise (· < ·)→(∀ v∈ks,a<v)→subChk a (tidyP m ks)=0
 | [],_,_,_=>rfl
 | w :: ks,a,hp,ha=>by
  rw [List.pairwise_cons] at hp
  rw [Zmv,List.filterMap_cons,← Zmv]
  cases hw:kP m w with
  | none=>exact Zt3 hm ks a hp.2 fun v hv=>ha v (by simp [hv])
  | some b =>
   simp only
   have hbv:=kP_v m w b hw
   unfold kP at hw
   cases hf:m.find? (fun c=>c.v==w) with
   | none=>rw [hf] at hw;cases hw
   | some c =>
    rw [hf] at hw
    simp only at hw
    have e3:=List.find?_some hf
    simp only [beq_iff_eq] at e3
    have hc:=hm c (List.mem_of_find?_eq_some hf)
    by_cases e:c.t.head = -1 - w
    ·rw [if_pos e] at hw;cases hw
    ·rw [if_neg e] at hw
     cases hw
     have:=ha w (by simp)
     rw [subChk,if_neg (by
      simp only
      rintro (h | h | h | h)
      ·omega
      ·omega
      ·exact h hc.2
      ·exact e h)]
     exact Zt3 hm ks w hp.2 hp.1
theorem Yew {l:List Int} (h:l.Nodup):(sortI l).Pairwise (· < ·):=by
 have ht:∀ x y z:Int,decide (x≤y)=true→decide (y≤z)=true→decide (x≤z)=true:=fun x y z h1 h2=>by simp at *;omega
 have hc:∀ x y:Int,(decide (x≤y)||decide (y≤x))=true:=fun x y=>by simp;omega
 have h1:(sortI l).Pairwise fun x y=>decide (x≤y)=true:=List.pairwise_mergeSort ht hc l
 have h2:(sortI l).Nodup:=(List.mergeSort_perm l _).nodup_iff.2 h
 refine (h1.and h2).imp fun {x y} h=>?_
 have h3:=h.1
 have h4:=h.2
 simp only [decide_eq_true_eq] at h3
 omega
theorem Zo8 {l:List Int} {v:Int}:v∈sortI l↔v∈l:=(List.mergeSort_perm l _).mem_iff
theorem Zv3 {t:Tm} (h:t.check=0):rightL [t]=true:=by simp [rightL,h]
theorem Ztw {t:Tm} (h:t.check=0):wrongM [t]=false:=by simp [wrongM,h]
theorem Zxt:∀ t:Tm,t.check=0→∀ u∈t.args,u.check=0:=fun t h u hu=>by
 obtain ⟨c1,c2,c3⟩:=Zbf h
 have z1:=Zbl hu
 have z2:=Zay t
 have z3:=Zlv hu
 exact Zv7 (by omega) (by omega) (Zcj c3 u hu)
theorem Yid (l u:Tm):(gaLD [l] [u]).2=(gatD l u []).2∧((gatD l u []).2=true→(gaLD [l] [u]).1=(gatD l u []).1):=by
 have h:gatDL [l] [u] []=if (gatD l u []).2=true then ((gatD l u []).1,true) else ([],false):=by
  rw [gatDL];split
  ·rw [gatDL]
  ·rfl
 unfold gaLD
 rw [h]
 by_cases c:(gatD l u []).2=true
 ·simp [c]
 ·simp [c]
theorem Yhx {l u:Tm} (hl:l.check=0) (hu:u.check=0) (fl:l.fit) (fu:u.fit) :
  (allD [l] [u]).2.2=0∧(matP [l] [u]).2.2=0∧(allD [l] [u]).2.1=(matP [l] [u]).2.1∧((matP [l] [u]).2.1=true→subChk (-1) (matP [l] [u]).1=0∧l.pd (allD [l] [u]).1=u∧∀ r:Tm,r.good=true→within r l=true→r.sub (matP [l] [u]).1.reverse=r.pd (allD [l] [u]).1):=by
 obtain ⟨l1,_,l3⟩:=Zbf hl
 obtain ⟨u1,_,u3⟩:=Zbf hu
 have eD:allD [l] [u]=if (gatD l u []).2=false then ([],false,0) else (tidyD (gaLD [l] [u]).1,true,0):=by
  unfold allD
  rw [Zv3 hl,Zv3 hu,if_neg (by simp),(Yid l u).1]
 have eP:matP [l] [u]=match gat [(l,u)] [] with | none=>([],false,0) | some m=>(tidyP m (sortI (m.map Bd.v)),true,0):=by
  unfold matP
  rw [Ztw hl,Ztw hu,if_neg (by simp)];rfl
 cases hg:gat [(l,u)] [] with
 | none =>
  rw [hg] at eP
  have:(gatD l u []).2=false:=by
   cases hd:(gatD l u []).2 with
   | false=>rfl
   | true =>
    obtain ⟨_,h2⟩:=Zhx l u [] hd
    have h3:=h2 _ (Zsy (Zs6 l u [] (by simp)))
    obtain ⟨m',h4,_⟩:=Ydw (f:=ofB (gatD l u []).1) [(l,u)] [] (fun x hx=>by rw [List.mem_singleton.1 hx];exact h3) (fun b hb=>by cases hb)
    rw [hg] at h4;cases h4
  rw [if_pos this] at eD
  rw [eD,eP]
  exact ⟨rfl,rfl,rfl,fun h=>by cases h⟩
 | some m =>
  rw [hg] at eP
  simp only at eP
  have hst:stOk [(l,u)]:=fun x hx=>by rw [List.mem_singleton.1 hx];exact ⟨fl,fu,by simp only;omega⟩
  have hnd:=(Yim _ _ _ hg hst (fun b hb=>by cases hb) (by simp)).2.1
  have hval:=Ykv (Q:=fun t=>t.check=0) Zxt _ _ _ hg (fun x hx=>by rw [List.mem_singleton.1 hx];exact ⟨l3,hu⟩) (fun b hb=>by cases hb)
  have hs:=(Yc7 _ _ _ hg).2 _ (Zsy hnd) (l,u) (by simp)
  simp only at hs
  obtain ⟨d1,d2⟩:=Zpj l u [] hs (fun b hb=>by cases hb)
  rw [if_neg (by rw [d1];simp),(Yid l u).2 d1] at eD
  have hsd:=(Zhx l u [] d1).2 _ (Zsy (Zs6 l u [] (by simp)))
  have hagree:l.allV fun v=>ofB m v=ofB (gatD l u []).1 v:=Yit l l3 (hs.trans hsd.symm)
  have hgd:∀ b∈(gatD l u []).1,b.t.good=true:=Ztm (P:=fun t=>t.good=true) (fun t h=>Zcj h) l u [] u3 (fun b hb=>by cases hb)
  have hP:∀ v,ofB (tidyP m (sortI (m.map Bd.v))) v=ofB m v:=Ybc (fun b hb=>Zo8.2 (List.mem_map.2 ⟨b,hb,rfl⟩)) fun b hb=>⟨(hval b hb).1.1,(Zbf (hval b hb).2).2.2⟩
  have hchk:subChk (-1) (tidyP m (sortI (m.map Bd.v)))=0:=Zt3 hval _ _ (Yew hnd) fun v hv=>by
   obtain ⟨b,hb,rfl⟩:=List.mem_map.1 (Zo8.1 hv)
   have:=(hval b hb).1
   omega
  have hndP:=(Zfb _ _ hchk).2
  have hlv:=Zkk l l3
  rw [eD,eP]
  refine ⟨rfl,rfl,rfl,fun _=>⟨hchk,?_,fun r hr hw=>?_⟩⟩
  ·rw [Yha]
   refine (Znd l ?_).trans hsd
   rw [← Zdq] at hlv ⊢
   exact fun v hv=>Zo1 hgd (hlv v hv).1 (by have:=(hlv v hv).2;omega)
  ·rw [Yij _ _ hr,Yha]
   refine Znd r ?_
   rw [← Zdq] at hagree hlv ⊢
   intro v hv
   have hvl:v∈l.vars:=by
    unfold within at hw
    exact of_decide_eq_true (List.all_eq_true.1 hw v hv)
   rw [Ymb hndP,hP,hagree v hvl]
   exact (Zo1 hgd (hlv v hvl).1 (by have:=(hlv v hvl).2;omega)).symm
theorem Zp1 (g:List Sy) (t:Tm):truthH g t=t.truth g:=by
 unfold truthH Tm.truth symAt
 by_cases h : 0≤t.head
 ·by_cases h2:t.head<(g.length:Int)
  ·have hk:t.head.toNat<g.length:=by omega
   simp [h,h2,hk,List.getD]
  ·have hk:¬ t.head.toNat<g.length:=by omega
   simp [h,h2,hk]
 ·simp [h]
theorem Ykg {g:List Sy} {es:List (List Li)} {c:List Li} (hw:wrongL g (c :: es)=0):stepX g es c=stepP g (unitsOf es) c:=by
 unfold stepX;exact if_neg (fun h=>h hw)
end Go.Proofs
namespace Go.Proofs
open Go Go.Abs
attribute [local go_sem] Nat.reduceAdd Nat.reduceSub Nat.reduceMul Nat.reduceLeDiff Nat.reduceEqDiff Nat.reduceBEq Nat.reduceLT Nat.le_refl Int.natCast_zero Nat.sub_zero List.length_map Int.toNat_natCast Int.natCast_one Int.reduceEq Int.reduceLT Int.reduceLE Int.reduceNe Int.sub_zero Int.zero_add Int.toNat_one
end Go.Proofs
namespace Go.Proofs
open Go Go.Abs
theorem Ztj {P:List Li→Prop} {S:List Li→List Li×Int×Bool×Int} (hP:∀ c,P c→(S c).2.2.2=0→(S c).2.2.1=true→P (S c).1):∀ (n:Nat) (c:List Li) (u:List Int),P c→(normF S n c u).2.2=0 →
  P (normF S n c u).1∧(S (normF S n c u).1).2.2.2=0∧(S (normF S n c u).1).2.2.1=false∧u.length≤(normF S n c u).2.1.length∧((S c).2.2.1=true→u.length<(normF S n c u).2.1.length)∧((S c).2.2.1=false→(normF S n c u).2.1=u)
 | 0,c,u,h,h0=>by rw [normF] at h0;cases h0
 | n+1,c,u,h,h0=>by
  rw [normF] at h0 ⊢
  by_cases h1:(S c).2.2.2=0
  ·rw [if_neg (fun k=>k h1)] at h0 ⊢
   by_cases h2:(S c).2.2.1=false
   ·rw [if_pos h2] at h0 ⊢
    exact ⟨h,h1,h2,Nat.le_refl _,fun k=>(by rw [h2] at k;cases k),fun _=>rfl⟩
   ·rw [if_neg h2] at h0 ⊢
    have h2':(S c).2.2.1=true:=by simpa using h2
    by_cases h3 : 200<u.length+1
    ·rw [if_pos h3] at h0;cases h0
    ·rw [if_neg h3] at h0 ⊢
     obtain ⟨a1,a2,a3,a4,_⟩:=Ztj hP n _ _ (hP c h h1 h2') h0
     rw [List.length_append] at a4
     simp only [List.length_cons,List.length_nil] at a4
     exact ⟨a1,a2,a3,by omega,fun _=>by omega,fun k=>absurd k h2⟩
  ·rw [if_pos h1] at h0;exact absurd h0 h1
theorem Zoe {S:List Li→List Li×Int×Bool×Int}:∀ (n:Nat) (c:List Li) (u:List Int),(normF S n c u).2.2≠0→(normF S n c u).1=[]∧(normF S n c u).2.1=[]
 | 0,c,u,_=>⟨rfl,rfl⟩
 | n+1,c,u,h=>by
  rw [normF] at h ⊢
  split
  ·exact ⟨rfl,rfl⟩
  ·rename_i h1
   rw [if_neg h1] at h
   split
   ·rename_i h2;rw [if_pos h2] at h;exact absurd rfl h
   ·rename_i h2
    rw [if_neg h2] at h
    split
    ·exact ⟨rfl,rfl⟩
    ·rename_i h3
     rw [if_neg h3] at h
     exact Zoe n _ _ h
theorem Ybm {g:List Sy} {es:List (List Li)} {c:List Li} (h:(normX g es c).2.2≠0):(normX g es c).1=[]∧(normX g es c).2.1=[]:=by
 unfold normX normalF at h ⊢
 split
 ·exact ⟨rfl,rfl⟩
 ·rename_i hw
  rw [if_neg hw] at h
  exact Zoe _ _ _ h
theorem Ztx {g:List Sy} {es:List (List Li)} {c:List Li} (h:inX es c) (h0:(normX g es c).2.2=0):wrongL g (c :: es)=0∧rtC g (normX g es c).1∧normX g es (normX g es c).1=((normX g es c).1,[],0)∧decide (0<(normX g es c).2.1.length)=(stepX g es c).2.2.1:=by
 have hw:wrongL g (c :: es)=0:=by
  by_cases hw:wrongL g (c :: es)=0
  ·exact hw
  ·unfold normX normalF at h0
   rw [if_pos hw] at h0
   exact absurd h0 hw
 have hi:=Zic h hw
 have e1:normX g es c=normF (stepP g (unitsOf es)) 201 c []:=by unfold normX normalF;exact if_neg (fun k=>k hw)
 have e2:stepX g es c=stepP g (unitsOf es) c:=Ykg hw
 rw [e1] at h0
 obtain ⟨a1,a2,a3,a4,a5,a6⟩:=Ztj (P:=rtC g) (fun d hd k0 _=>Zn9 hi.2.1 hd k0) 201 c [] hi.1 h0
 rw [e1,e2]
 generalize hx:(normF (stepP g (unitsOf es)) 201 c []).1=x at *
 refine ⟨hw,a1,?_,?_⟩
 ·have hw2:wrongL g (x :: es)=0:=by
   rw [wrongL,if_neg (fun k=>k a1.1)]
   rw [wrongL] at hw
   split at hw
   ·rename_i h3;exact absurd hw h3
   ·exact hw
  have e3:normX g es x=normF (stepP g (unitsOf es)) 201 x []:=by unfold normX normalF;exact if_neg (fun k=>k hw2)
  rw [e3,normF,if_neg (fun k=>k a2),if_pos a3]
 ·cases hb:(stepP g (unitsOf es) c).2.2.1 with
  | true=>rw [decide_eq_true_eq];exact Nat.lt_of_le_of_lt (Nat.zero_le _) (a5 hb)
  | false=>rw [a6 hb];rfl
mutual
theorem Zzb (w:Wo) (f:Int→Int) (s:Int→Tm):∀ t:Tm,(t.ap s).val w f=t.val w fun v=>(s v).val w f
 | .mk h ts=>by
  rw [Tm.ap,Tm.val]
  split
  ·rfl
  ·rename_i hn;rw [Tm.val,if_neg hn,Yic w f s ts]
theorem Yic (w:Wo) (f:Int→Int) (s:Int→Tm):∀ (ts:List Tm) (a:Int),Tm.ats w f (Tm.apL s ts) a=Tm.ats w (fun v=>(s v).val w f) ts a
 | [],a=>rfl
 | t :: ts,a=>by rw [Tm.apL,Tm.ats,Tm.ats,Zzb w f s t,Yic w f s ts]
end
mutual
theorem Zfa (w:Wo) {f k:Int→Int}:∀ t:Tm,t.allV (fun v=>f v=k v)→t.val w f=t.val w k
 | .mk h ts,hv=>by
  rw [Tm.allV] at hv
  rw [Tm.val,Tm.val,Znp w ts hv.2]
  split
  ·rename_i hn;exact hv.1 hn
  ·rfl
theorem Znp (w:Wo) {f k:Int→Int}:∀ (ts:List Tm),Tm.allVs (fun v=>f v=k v) ts→∀ a:Int,Tm.ats w f ts a=Tm.ats w k ts a
 | [],_,a=>rfl
 | t :: ts,hv,a=>by
  rw [Tm.allVs] at hv
  rw [Tm.ats,Tm.ats,Zfa w t hv.1,Znp w ts hv.2]
end
theorem Yc3 (w:Wo) (f:Int→Int) (u:Tm):∀ (ts:List Tm) (i:Nat) (h:i<ts.length) (_:u.val w f=(ts[i]).val w f) (a:Int),Tm.ats w f (ts.set i u) a=Tm.ats w f ts a
 | t :: ts,0,_,e,a=>by simp only [List.set_cons_zero,Tm.ats];rw [e];rfl
 | t :: ts,i+1,h,e,a=>by simp only [List.set_cons_succ,Tm.ats];exact Yc3 w f u ts i (by simpa using h) (by simpa using e) _
theorem Yqo (w:Wo) (f:Int→Int) (t:Tm):t.val w f=if t.head<0 then f (-1 - t.head) else (w.rows.getD t.head.toNat []).getD (Tm.ats w f t.args 0).toNat 0:=by cases t;rfl
theorem Ycr (w:Wo) (f:Int→Int):∀ (p:List Int) (t u v:Tm),t.atP p=some v→u.val w f=v.val w f→(t.putP p u).val w f=t.val w f
 | [],t,u,v,h,e=>by rw [Tm.atP] at h;cases h;rw [Tm.putP];exact e
 | n :: p,t,u,v,h,e=>by
  rw [Tm.atP] at h
  split at h
  ·cases h
  split at h
  ·rename_i h1 h2
   have hg:t.args.getD n.toNat zeroT=t.args[n.toNat]:=by simp [List.getD,h2]
   have ih:=Ycr w f p _ u v h e
   rw [Tm.putP,hg]
   have e2:(Tm.mk t.head (t.args.set n.toNat ((t.args[n.toNat]).putP p u))).val w f=if t.head<0 then f (-1 - t.head) else (w.rows.getD t.head.toNat []).getD (Tm.ats w f (t.args.set n.toNat ((t.args[n.toNat]).putP p u)) 0).toNat 0:=rfl
   rw [e2,Yqo w f t,Yc3 w f _ t.args n.toNat h2 ih]
  ·cases h
mutual
theorem Zsd {p:Int→Prop} (s:Int→Tm):∀ t:Tm,t.good=true→((t.ap s).allV p↔t.allV fun v=>(s v).allV p)
 | .mk h ts,hg=>by
  have ha:=Zcj hg
  have hh:=(Zdj hg).2.2.2
  simp only [Tm.head,Tm.args] at ha hh
  rw [Tm.ap,Tm.allV]
  by_cases hn:h<0
  ·rw [if_pos hn,hh hn,Tm.allVs];simp [hn]
  ·rw [if_neg hn,Tm.allV,Zu3 s ts ha];simp [hn]
theorem Zu3 {p:Int→Prop} (s:Int→Tm):∀ ts:List Tm,(∀ t∈ts,t.good=true)→(Tm.allVs p (Tm.apL s ts)↔Tm.allVs (fun v=>(s v).allV p) ts)
 | [],_=>Iff.rfl
 | t :: ts,h=>by rw [Tm.apL,Tm.allVs,Tm.allVs,Zsd s t (h t (by simp)),Zu3 s ts fun x hx=>h x (by simp [hx])]
end
theorem Zkq {p:Int→Prop}:∀ ts:List Tm,Tm.allVs p ts↔∀ t∈ts,t.allV p
 | []=>by simp [Tm.allVs]
 | t :: ts=>by rw [Tm.allVs,Zkq ts];simp
theorem Zmh {q:Int→Prop}:∀ (p:List Int) (t u:Tm),t.allV q→u.allV q→(t.putP p u).allV q
 | [],t,u,_,hu=>by rw [Tm.putP];exact hu
 | n :: p,t,u,ht,hu=>by
  rw [Tm.putP]
  cases t with
  | mk hd ts =>
   rw [Tm.allV] at ht ⊢
   simp only [Tm.args,Tm.head] at *
   refine ⟨ht.1,?_⟩
   rw [Zkq] at ht ⊢
   intro x hx
   rcases List.mem_or_eq_of_mem_set hx with hx | rfl
   ·exact ht.2 x hx
   ·refine Zmh p _ u ?_ hu
    by_cases h2:n.toNat<ts.length
    ·rw [show ts.getD n.toNat zeroT=ts[n.toNat] by simp [List.getD,h2]];exact ht.2 _ (List.getElem_mem h2)
    ·rw [show ts.getD n.toNat zeroT=zeroT by simp [List.getD,h2]]
     exact ⟨fun h=>by omega,trivial⟩
theorem Ztc {q:Int→Prop}:∀ (p:List Int) (t v:Tm),t.allV q→t.atP p=some v→v.allV q
 | [],t,v,h,e=>by rw [Tm.atP] at e;cases e;exact h
 | n :: p,t,v,h,e=>by
  rw [Tm.atP] at e
  split at e
  ·cases e
  split at e
  ·rename_i h1 h2
   refine Ztc p _ v ?_ e
   cases t with
   | mk hd ts=>rw [Tm.allV,Zkq] at h;exact h.2 _ (List.getElem_mem h2)
  ·cases e
def thingT (g:List Sy) (t:Tm):Prop:=t.known g=true∧t.truth g=false
mutual
theorem Zva {g:List Sy} (s:Int→Tm):∀ t:Tm,t.good=true→(t.ap s).known g=true→(t.ap s).things g=true→(t.head<0→(t.ap s).truth g=false)→t.allV fun v=>thingT g (s v)
 | .mk h ts,hg,hk,ht,h0=>by
  have ha:=Zcj hg
  have hh:=(Zdj hg).2.2.2
  simp only [Tm.head,Tm.args] at ha hh h0
  rw [Tm.allV]
  rw [Tm.ap] at hk ht h0
  by_cases hn:h<0
  ·rw [if_pos hn] at hk ht h0
   rw [hh hn]
   exact ⟨fun _=>⟨hk,h0 hn⟩,trivial⟩
  ·rw [if_neg hn] at hk ht
   rw [Tm.known] at hk
   rw [Tm.things] at ht
   simp only [Bool.or_eq_true,Bool.and_eq_true,decide_eq_true_eq] at hk
   refine ⟨fun k=>absurd k hn,Zqj s ts ha ?_ ht⟩
   rcases hk with hk | hk
   ·exact absurd hk hn
   ·exact hk.2
theorem Zqj {g:List Sy} (s:Int→Tm):∀ ts:List Tm,(∀ t∈ts,t.good=true)→Tm.knowns g (Tm.apL s ts)=true→Tm.thingsL g (Tm.apL s ts)=true→Tm.allVs (fun v=>thingT g (s v)) ts
 | [],_,_,_=>trivial
 | t :: ts,hg,hk,ht=>by
  rw [Tm.apL] at hk ht
  rw [Tm.knowns] at hk
  rw [Tm.thingsL] at ht
  simp only [Bool.and_eq_true,Bool.not_eq_true'] at hk ht
  rw [Tm.allVs]
  exact ⟨Zva s t (hg t (by simp)) hk.1 ht.1.2 (fun _=>ht.1.1),Zqj s ts (fun x hx=>hg x (by simp [hx])) hk.2 ht.2⟩
end
def inW (w:Wo) (f:Int→Int):Prop:=∀ v,0≤f v∧f v<w.size
theorem Zv5 {g:List Sy} {c:List Li} {u:Un} {t:Tm} (hl:rtT g u.l) (hr:rtT g u.r) (ht:rtT g t) (hb:unitBad u=false) (h:(turnT g c u t).2=true) :
  ∃ s:Int→Tm,u.l.ap s=t∧(turnT g c u t).1=u.r.ap s∧(u.l.head<0→t.truth g=false):=by
 unfold unitBad at hb
 simp only [Bool.or_eq_false_iff,decide_eq_false_iff_not,Bool.not_eq_false'] at hb
 obtain ⟨hb1,hb2⟩:=hb
 have hcl:=(Zb8 hl.1).1
 have hct:=(Zb8 ht.1).1
 have hgr:=(Zbf (Zb8 hr.1).1).2.2
 obtain ⟨m1,m2,m3,m4⟩:=Yhx hcl hct hl.2 ht.2
 unfold turnT turnF at h ⊢
 split at h
 ·cases h
 split at h
 ·cases h
 split at h
 ·cases h
 split at h
 ·cases h
 rename_i c1 c2 c3 c4
 rw [if_neg c1,if_neg c2,if_neg c3,if_neg c4]
 simp only
 have e1:mT u t=matP [u.l] [t]:=rfl
 have c5:(matP [u.l] [t]).2.1=true:=by
  rw [e1] at c2
  cases hc:(matP [u.l] [t]).2.1 with
  | true=>rfl
  | false=>exact absurd (.inr hc) c2
 obtain ⟨k1,k2,k3⟩:=m4 c5
 have k4:=k3 u.r hgr hb2
 rw [Yha] at k2 k4
 refine ⟨_,k2,?_,fun hn=>?_⟩
 ·generalize hy:u.r.ap (ofB (allD [u.l] [t]).1)=y at *
  have ha:aT u t=if y.check=0 then (y,0) else (zeroT,y.check):=by
   unfold aT appS
   rw [e1,k4,if_neg]
   rintro (h | h)
   ·exact h k1
   ·exact h (Zb8 hr.1).1
  by_cases hyc:y.check=0
  ·rw [ha,if_pos hyc]
  ·rw [ha,if_neg hyc] at c3
   exact absurd hyc c3
 ·rw [Zp1,Zp1] at c1
  rw [← Decidable.not_not.1 c1]
  have:decide (0≤u.l.head)=false:=by simp;omega
  unfold Tm.truth
  rw [this];rfl
theorem Ya8 {g:List Sy} {w:Wo} {c:List Li} {u:Un} {t:Tm} (hw:worldOk g w=true) (hl:rtT g u.l) (hr:rtT g u.r) (ht:rtT g t) (hb:unitBad u=false) (h:(turnT g c u t).2=true)
  (hu:∀ f,inW w f→u.l.val w f=u.r.val w f) {f:Int→Int} (hf:inW w f):(turnT g c u t).1.val w f=t.val w f:=by
 obtain ⟨s,h1,h2,h3⟩:=Zv5 hl hr ht hb h
 have hs:=(Zcf hw).2.1
 obtain ⟨t1,t2,t3⟩:=Zb8 ht.1
 have hgl:=(Zbf (Zb8 hl.1).1).2.2
 have hth:=Zva s u.l hgl (by rw [h1];exact t2) (by rw [h1];exact t3) (by rw [h1];exact h3)
 have hin:∀ v,thingT g (s v)→0≤(s v).val w f∧(s v).val w f<w.size:=fun v hv=>Zkc hs hf _ (Zu5 hw _ hv.1 hv.2)
 have hwi:within u.r u.l=true:=by
  unfold unitBad at hb
  simp only [Bool.or_eq_false_iff,decide_eq_false_iff_not,Bool.not_eq_false'] at hb
  exact hb.2
 let k:Int→Int:=fun v=>if v∈u.l.vars then (s v).val w f else 0
 have hth':=(Zdq (p:=fun v=>thingT g (s v)) u.l).2 hth
 have hk:inW w k:=fun v=>by
  simp only [k]
  split
  ·rename_i hv;exact hin v (hth' v hv)
  ·omega
 have e1:u.l.val w (fun v=>(s v).val w f)=u.l.val w k:=Zfa w _ ((Zdq _).1 fun v hv=>by simp only [k];rw [if_pos hv])
 have e2:u.r.val w (fun v=>(s v).val w f)=u.r.val w k:=Zfa w _ ((Zdq _).1 fun v hv=>by
  have hvl:v∈u.l.vars:=by
   unfold within at hwi
   exact of_decide_eq_true (List.all_eq_true.1 hwi v hv)
  simp only [k];rw [if_pos hvl])
 rw [h2,Zzb,e2,← hu k hk,← e1,← Zzb,h1]
theorem Zx9 {g:List Sy} {c:List Li} {u:Un} {t:Tm} (hl:rtT g u.l) (hr:rtT g u.r) (ht:rtT g t) (hb:unitBad u=false) (h:(turnT g c u t).2=true) {p:Int→Prop} (hp:t.allV p):(turnT g c u t).1.allV p:=by
 obtain ⟨s,h1,h2,_⟩:=Zv5 hl hr ht hb h
 have hgl:=(Zbf (Zb8 hl.1).1).2.2
 have hgr:=(Zbf (Zb8 hr.1).1).2.2
 rw [h2,Zsd s _ hgr]
 rw [← h1,Zsd s _ hgl] at hp
 have hwi:within u.r u.l=true:=by
  unfold unitBad at hb
  simp only [Bool.or_eq_false_iff,decide_eq_false_iff_not,Bool.not_eq_false'] at hb
  exact hb.2
 refine (Zdq _).1 fun v hv=>(Zdq _).2 hp v ?_
 unfold within at hwi
 exact of_decide_eq_true (List.all_eq_true.1 hwi v hv)
def unitHolds (w:Wo) (es:List (List Li)) (k:Int):Prop:=∀ f,inW w f→anyHolds w f (es.getD k.toNat [])=true
theorem Zv1 {u:Un}:∀ (es:List (List Li)) (i:Nat),u∈rawU es i→∃ (j:Nat) (h:j<es.length) (e:Li),u.off=((i+j:Nat):Int)∧es[j]=[e]∧e.neg=false∧((u.l=e.l∧u.r=e.r)∨(u.l=e.r∧u.r=e.l))
 | [],_,h=>by rw [rawU] at h;cases h
 | c :: es,i,h=>by
  rw [rawU] at h
  rcases List.mem_append.1 h with h | h
  ·match c,h with
   | [],h=>cases h
   | e :: _ :: _,h=>cases h
   | [e],h =>
    unfold uOf at h
    simp only at h
    cases hn:e.neg with
    | true=>rw [hn,if_pos rfl] at h;cases h
    | false =>
     rw [hn,if_neg (by simp)] at h
     simp only [List.mem_cons,List.not_mem_nil,or_false] at h
     rcases h with rfl | rfl
     ·exact ⟨0,by simp,e,by simp,rfl,hn, .inl ⟨rfl,rfl⟩⟩
     ·exact ⟨0,by simp,e,by simp,rfl,hn, .inr ⟨rfl,rfl⟩⟩
  ·obtain ⟨j,hj,e,a1,a2,a3,a4⟩:=Zv1 es (i+1) h
   exact ⟨j+1,by simpa using hj,e,by rw [a1];omega,by simpa using a2,a3,a4⟩
theorem Yj6 {w:Wo} {es:List (List Li)} {u:Un} (hu:u∈unitsOf es):unitBad u=false∧0≤u.off∧u.off<es.length∧(unitHolds w es u.off→∀ f,inW w f→u.l.val w f=u.r.val w f):=by
 unfold unitsOf at hu
 obtain ⟨h1,h2⟩:=List.mem_filter.1 hu
 obtain ⟨j,hj,e,a1,a2,a3,a4⟩:=Zv1 es 0 h1
 rw [Nat.zero_add] at a1
 refine ⟨by simpa using h2,by omega,by omega,fun hh f hf=>?_⟩
 have:=hh f hf
 rw [a1,Int.toNat_natCast,show es.getD j []=es[j] by simp [List.getD,hj],a2] at this
 simp [anyHolds,Li.holds,a3] at this
 rcases a4 with ⟨b1,b2⟩ | ⟨b1,b2⟩
 ·rw [b1,b2];exact this
 ·rw [b1,b2];exact this.symm
theorem Yd6 {w:Wo} {f:Int→Int} {l:Li}:∀ (c:List Li) (j:Nat) (h:j<c.length),l.holds w f=c[j].holds w f→anyHolds w f (c.set j l)=anyHolds w f c
 | a :: c,0,_,e=>by simp only [List.set_cons_zero,anyHolds,List.any_cons];rw [e];rfl
 | a :: c,j+1,h,e=>by
  have ih:=Yd6 (w:=w) (f:=f) (l:=l) c j (by simpa using h) (by simpa using e)
  simp only [List.set_cons_succ,anyHolds,List.any_cons] at ih ⊢
  rw [ih]
def allC (p:Int→Prop) (c:List Li):Prop:=∀ l∈c,l.l.allV p∧l.r.allV p
theorem Ybn {g:List Sy} {w:Wo} {es:List (List Li)} {c:List Li} (hw:worldOk g w=true) (hu:∀ u∈unitsOf es,rtT g u.l∧rtT g u.r) (hc:rtC g c) (h0:(stepP g (unitsOf es) c).2.2.2=0) (h1:(stepP g (unitsOf es) c).2.2.1=true) :
  (0≤(stepP g (unitsOf es) c).2.1∧(stepP g (unitsOf es) c).2.1<es.length)∧(∀ p,allC p c→allC p (stepP g (unitsOf es) c).1) ∧
  (unitHolds w es (stepP g (unitsOf es) c).2.1→∀ f,inW w f→anyHolds w f (stepP g (unitsOf es) c).1=anyHolds w f c):=by
 unfold stepP stepF at h0 h1 ⊢
 rcases Zdr (TT g c) (unitsOf es) (spotsF c 0) with ⟨f1,_⟩ | ⟨k,hk,x,f1,f2,_⟩
 ·rw [f1] at h1;cases h1
 ·rw [f1] at h0 h1 ⊢
  simp only at h0 h1 ⊢
  split at h1
  ·rename_i hcc
   rw [if_pos hcc]
   simp only
   obtain ⟨m1,m2,m3⟩:=Zhs f2
   have hs:=List.getElem_mem hk
   obtain ⟨j,hj,g1,g2,g3⟩:=Zcv c 0 _ hs
   rw [Nat.zero_add] at g1
   have hst:rtT g ((spotsF c 0)[k]).t:=Yfk hc _ hs
   obtain ⟨u1,u2,u3,u4⟩:=Yj6 (w:=w) m1
   have hx:=hu _ m1
   refine ⟨⟨u2,u3⟩,fun p hp=>?_,fun hh f hf=>?_⟩
   ·rw [m2,Zs7 hj g1]
    have hpj:=hp _ (List.getElem_mem hj)
    have hps:∀ b,(c[j].side b).allV p:=fun b=>by unfold Li.side;cases b;exact hpj.1;exact hpj.2
    have hpt:((spotsF c 0)[k]).t.allV p:=Ztc _ _ _ (hps _) g2
    have hq:=Zx9 hx.1 hx.2 hst u1 m3 hpt
    intro l hl
    rcases List.mem_or_eq_of_mem_set hl with hl | rfl
    ·exact hp l hl
    ·unfold Li.putS
     split
     ·exact ⟨hpj.1,Zmh _ _ _ (hps _) hq⟩
     ·exact ⟨Zmh _ _ _ (hps _) hq,hpj.2⟩
   ·rw [m2,Zs7 hj g1]
    have hq:=Ya8 hw hx.1 hx.2 hst u1 m3 (u4 hh) hf
    refine Yd6 c j hj ?_
    have e:=Ycr w f _ _ _ _ g2 hq
    have e1:(TT g c x.1 (spotsF c 0)[k]).1=(turnT g c x.1 (spotsF c 0)[k].t).1:=rfl
    rw [e1]
    generalize (turnT g c x.1 (spotsF c 0)[k].t).1=y at *
    unfold Li.putS Li.holds
    unfold Li.side at e ⊢
    cases hrt:(spotsF c 0)[k].rt<;>(rw [hrt] at e;simp only [Bool.false_eq_true,if_true,if_false] at e ⊢;rw [e])
  ·cases h1
end Go.Proofs
namespace Go.Proofs
open Go Go.Abs
attribute [local go_sem] Nat.reduceAdd Nat.reduceSub Nat.reduceMul Nat.reduceLeDiff Nat.reduceEqDiff Nat.reduceBEq Nat.reduceLT Nat.le_refl Int.natCast_zero Nat.sub_zero List.length_map Int.toNat_natCast Int.natCast_one Int.reduceEq Int.reduceLT Int.reduceLE Int.reduceNe Int.sub_zero Int.zero_add Int.toNat_one
def digF (s:Int):List Int→Int→Int→Int
 | [],_,_=>0
 | x :: xs,n,v=>if v=x then n % s else digF s xs (n / s) v
theorem Zi4 {s:Int} (hs : 1≤s):∀ (vs:List Int) (n v:Int),0≤digF s vs n v∧digF s vs n v<s
 | [],n,v=>by rw [digF];omega
 | x :: xs,n,v=>by
  rw [digF]
  split
  ·exact ⟨Int.emod_nonneg _ (by omega),Int.emod_lt_of_pos _ (by omega)⟩
  ·exact Zi4 hs xs _ v
theorem Yci {s:Int} (hs : 1≤s) (f:Int→Int) (hf:∀ v,0≤f v∧f v<s):∀ vs:List Int,vs.Nodup→∃ n:Int,0≤n∧n<s ^ vs.length∧∀ v∈vs,digF s vs n v=f v
 | [],_=>⟨0,by simp,by simp,fun v h=>by cases h⟩
 | x :: xs,hn=>by
  rw [List.nodup_cons] at hn
  obtain ⟨m,h1,h2,h3⟩:=Yci hs f hf xs hn.2
  obtain ⟨f1,f2⟩:=hf x
  have e1:(f x+s*m) % s=f x:=by rw [Int.add_mul_emod_self_left];exact Int.emod_eq_of_lt f1 f2
  have e2:(f x+s*m) / s=m:=by rw [Int.add_mul_ediv_left _ _ (by omega:s≠0),Int.ediv_eq_zero_of_lt f1 f2];omega
  have h4 : 0≤s*m:=Int.mul_nonneg (by omega) h1
  have h5:s*(m+1)≤s*s ^ xs.length:=Int.mul_le_mul_of_nonneg_left (by omega) (by omega)
  have h6:s*(m+1)=s*m+s:=by rw [Int.mul_add,Int.mul_one]
  refine ⟨f x+s*m,by omega,?_,fun v hv=>?_⟩
  ·have e:s ^ (xs.length+1)=s*s ^ xs.length:=by rw [Int.pow_succ,Int.mul_comm]
   rw [List.length_cons,e];omega
  ·rw [digF,e1,e2]
   rcases List.mem_cons.1 hv with e | hv'
   ·rw [if_pos e,e]
   ·rw [if_neg (fun e:v=x=>hn.1 (by rw [← e];exact hv'))];exact h3 v hv'
def rowsN (w:Wo) (c:List Li):Nat:=(w.size ^ (clauseVars c).length).toNat
def holdsW (w:Wo) (c:List Li):Bool:=(List.range (rowsN w c)).all fun n=>anyHolds w (digF w.size (clauseVars c) n) c
theorem Yd3 {w:Wo} {f k:Int→Int} {c:List Li} (h:∀ v∈clauseVars c,f v=k v):anyHolds w f c=anyHolds w k c:=by
 have h2:=(Zgv c).1 h
 unfold anyHolds
 rw [Bool.eq_iff_iff,List.any_eq_true,List.any_eq_true]
 have key:∀ l∈c,l.holds w f=l.holds w k:=fun l hl=>by
  obtain ⟨i,hi,rfl⟩:=List.mem_iff_getElem.1 hl
  obtain ⟨a,b⟩:=h2 i hi
  unfold Li.holds
  rw [Zfa w _ a,Zfa w _ b]
 constructor
 ·rintro ⟨l,hl,e⟩;exact ⟨l,hl,by rw [← key l hl];exact e⟩
 ·rintro ⟨l,hl,e⟩;exact ⟨l,hl,by rw [key l hl];exact e⟩
theorem Zi2 {w:Wo} {c:List Li} (hs : 1≤w.size):holdsW w c=true↔∀ f,inW w f→anyHolds w f c=true:=by
 unfold holdsW rowsN
 rw [List.all_eq_true]
 constructor
 ·intro h f hf
  obtain ⟨n,h1,h2,h3⟩:=Yci hs f hf (clauseVars c) (Zdm _ _ List.nodup_nil)
  have:=h n.toNat (List.mem_range.2 (by omega))
  rw [Int.toNat_of_nonneg h1] at this
  rw [← Yd3 (w:=w) h3];exact this
 ·intro h n _
  exact h _ fun v=>Zi4 hs _ _ v
theorem Zul {s:Int} (hs : 1≤s):∀ (k:Nat) (n:Int),0≤n→n*s ^ k≤700→powW s k n=n*s ^ k
 | 0,n,_,_=>by simp [powW]
 | k+1,n,h0,h=>by
  have e:n*s ^ (k+1)=n*s*s ^ k:=by rw [Int.pow_succ,Int.mul_assoc,Int.mul_comm (s ^ k) s]
  rw [e] at h ⊢
  have hp : 1≤s ^ k:=Int.pow_pos (by omega)
  have h1 : 0≤n*s:=Int.mul_nonneg h0 (by omega)
  have h2:n*s*1≤n*s*s ^ k:=Int.mul_le_mul_of_nonneg_left hp h1
  rw [powW,Zab (by omega)]
  exact Zul hs k _ h1 h
theorem Zth {w:Wo} {c:List Li} (h1 : 1≤w.size) (h2:w.size≤4) (h:worldMany w c 700≤700):w.size ^ (clauseVars c).length≤700:=by
 have hm:manyL w.size 700 (clauseVars c).length 1≤700:=by unfold worldMany at h;omega
 have e:=Zor h1 h2 (by decide) _ 1 (by omega) hm
 omega
theorem Zq7 {s:Int} (h1 : 1≤s) (h2:s≤4):∀ (k:Nat) (n:Int),1≤n→n*s ^ k≤700→manyL s 700 k n≤700
 | 0,n,_,h=>by rw [manyL];simpa using h
 | k+1,n,hn,h=>by
  have e:n*s ^ (k+1)=n*s*s ^ k:=by rw [Int.pow_succ,Int.mul_assoc,Int.mul_comm (s ^ k) s]
  rw [e] at h
  have hp : 1≤s ^ k:=Int.pow_pos (by omega)
  have h3:n*1≤n*s:=Int.mul_le_mul_of_nonneg_left h1 (by omega)
  have h4:n*s*1≤n*s*s ^ k:=Int.mul_le_mul_of_nonneg_left hp (by omega)
  rw [manyL,if_pos (by omega),Zab (by omega)]
  exact Zq7 h1 h2 k _ (by omega) h
theorem Zon:∀ (a b:List Int),a.Nodup→(∀ v∈a,v∈b)→a.length≤b.length
 | [],b,_,_=>Nat.zero_le _
 | x :: a,b,hn,hs=>by
  rw [List.nodup_cons] at hn
  have hx:=hs x (by simp)
  have ih:=Zon a (b.erase x) hn.2 fun v hv=>(List.mem_erase_of_ne (fun e:v=x=>hn.1 (by rw [← e];exact hv))).2 (hs v (by simp [hv]))
  rw [List.length_erase_of_mem hx] at ih
  have:=List.length_pos_of_mem hx
  rw [List.length_cons];omega
theorem Yi9 {s:Int} (hs : 1≤s) {i j:Nat} (h:i≤j):s ^ i≤s ^ j:=by
 obtain ⟨d,rfl⟩:=Nat.exists_eq_add_of_le h
 rw [Int.pow_add]
 have h1 : 1≤s ^ d:=Int.pow_pos (by omega)
 have h2 : 1≤s ^ i:=Int.pow_pos (by omega)
 have:=Int.mul_le_mul_of_nonneg_left h1 (show 0≤s ^ i by omega)
 omega
theorem Zpu {w:Wo} {c d:List Li} (h1 : 1≤w.size) (h2:w.size≤4) (h:worldMany w c 700≤700) (hv:∀ v∈clauseVars d,v∈clauseVars c):worldMany w d 700≤700:=by
 have hc:=Zth h1 h2 h
 have hl:(clauseVars d).length≤(clauseVars c).length:=Zon _ _ (Zdm _ _ List.nodup_nil) hv
 have hp:w.size ^ (clauseVars d).length≤w.size ^ (clauseVars c).length:=Yi9 h1 hl
 have:=Zq7 h1 h2 (clauseVars d).length 1 (by omega) (by omega)
 unfold worldMany;omega
theorem Yk2 {c:List Li} (h:∀ l∈c,l.l.fit∧l.r.fit):Tm.fits (sides c):=by
 induction c with
 | nil=>trivial
 | cons l c ih =>
  obtain ⟨a,b⟩:=h l (by simp)
  exact ⟨a,b,ih fun x hx=>h x (by simp [hx])⟩
theorem Ygj {c:List Li} (h:∀ l∈c,l.l.size≤400∧l.r.size≤400):Tm.sizes (sides c)≤800*c.length:=by
 induction c with
 | nil=>exact Nat.le_refl _
 | cons l c ih =>
  obtain ⟨a,b⟩:=h l (by simp)
  have:=ih fun x hx=>h x (by simp [hx])
  have e:sides (l :: c)=l.l :: l.r :: sides c:=rfl
  rw [e];simp only [Tm.sizes,List.length_cons];omega
theorem Zp3 {g:List Sy} {c:List Li} (h:rtC g c):Tm.fits (sides c)∧Tm.sizes (sides c)≤25600∧c.length≤32:=by
 have hl:=(Zgi h.1).2.1
 have:=Ygj (c:=c) fun l hl=>by
  obtain ⟨a1,a2⟩:=Ze0 h hl
  exact ⟨(Zcg a1).2,(Zcg a2).2⟩
 exact ⟨Yk2 h.2,by omega,hl⟩
theorem Zsk (w:Wo) (of:List Int) (f:Int→Int) (hw : 1≤w.size) (hw4:w.size≤4) (hf:∀ v,0≤f v∧f v<w.size) (c:List Li) (hlen:c.length<2 ^ 62) (ho:∀ (i:Nat) (h:i<c.length),(c[i].l.fit∧c[i].r.fit∧c[i].l.size<2 ^ 62∧c[i].r.size<2 ^ 62)∧c[i].l.okW w∧c[i].r.okW w)
  (ha:∀ (i:Nat) (h:i<c.length),c[i].l.allV (fun v=>f v=ofL of v)∧c[i].r.allV (fun v=>f v=ofL of v)) :
  CallEq Tryz.prog 47 [w.toA, .ps 1 (ints of), .ps 5 (lits c)] (.bool (anyHolds w f c)):=by
 refine CallEq.begin (rs:=[.tmp 6]) (m:=18) 1000 Tryz.func47 rfl rfl rfl (by decide) trivial ?_
 simp only [go_sem,Zee]
 refine EvK.loopI (ι:={i:Nat // i≤c.length∧anyHolds w f (c.drop i)=anyHolds w f c}) 1000 (fun i=>mkT 21 [(1, .ps 1 (ints of)),(2, .ps 5 (lits c)),(3, .ptr 0 0),(7, .int .i64 i.1)]) (fun _=>[some (.var [.int .i64 w.size, .ps 1 (rowsA w.rows)])]) (fun i=>c.length - i.1) ⟨0,by simp⟩ ?_ (fun _=>Nat.zero_le _) ?_
 ·simp only [go_sem,Za4,Za3,Zb5,Int.natCast_zero,Nat.zero_lt_one]
 ·rintro ⟨i,hi,hpre⟩
  by_cases hlt:(i:Int)<c.length
  ·have hlt':i<c.length:=by omega
   have hd:anyHolds w f (c.drop i)=(c[i].holds w f||anyHolds w f (c.drop (i+1))):=by
    rw [List.drop_eq_getElem_cons hlt'];rfl
   rw [hd] at hpre
   obtain ⟨⟨g1,g2,g3,g4⟩,g5,g6⟩:=ho i hlt'
   obtain ⟨g7,g8⟩:=ha i hlt'
   simp only [go_sem,Zaf,hlt]
   refine EvK.draw [] 1 1 mixed rfl rfl (Nat.le_refl _) ?_
   simp only [go_sem,padS,Zaf,Int.toNat_natCast,Zc6 hlt',Zaw,Nat.le_refl]
   rw [← Zee]
   (repeat ((with_reducible refine And.intro ?_ ?_); ·omega))
   refine Zar (Zry w of f hw hw4 hf c[i] g1 g2 g3 g4 g5 g6 g7 g8) ?_ ?_ ?_
   ·simp only [Li.toA,Li.cs];exact Za1 _ _ _
   ·simp [go_sem,Zeo,Za4,Zcp]
   simp only [go_sem]
   refine EvK.go 1000 ?_
   cases e:c[i].holds w f with
   | true =>
    rw [e,Bool.true_or] at hpre
    simp only [go_sem]
    refine EvK.go 1000 ?_
    simp only [go_sem,← hpre]
   | false =>
    rw [e,Bool.false_or] at hpre
    simp only [go_sem]
    refine ⟨⟨i+1,hlt',hpre⟩,?_,by simp only;omega⟩
    simp only [go_sem,Za4,Za3,Zb5,Nat.zero_lt_one]
    rw [Zab (by omega)];trivial
  ·have hi':i=c.length:=by omega
   subst hi'
   rw [List.drop_length] at hpre
   simp only [go_sem,Zaf,hlt]
   refine EvK.go 1000 ?_
   simp only [go_sem,← hpre]
   rfl
set_option maxRecDepth 20000 in
set_option maxHeartbeats 1000000 in
theorem Zez {g:List Sy} {w:Wo} {c:List Li} (hw:worldOk g w=true) (hc:rtC g c) (hm:worldMany w c 700≤700):CallEq Tryz.prog 21 [w.toA, .ps 5 (lits c)] (.bool (holdsW w c)):=by
 refine CallEq.begin (rs:=[.tmp 4]) (m:=49) 1000 Tryz.func21 rfl rfl rfl (by decide) trivial ?_
 obtain ⟨q1,q2,q3,q4,q5,q6⟩:=Zcf hw
 obtain ⟨hf,hs,hcl⟩:=Zp3 hc
 have hA:=Zth q2 q3 hm
 have hpw:=Zul q2 (clauseVars c).length 1 (by omega) (by omega)
 rw [Int.one_mul] at hpw
 have hp1 : 1≤w.size ^ (clauseVars c).length:=Int.pow_pos (by omega)
 have hrange:=Zrn hc.1
 have hnd:(clauseVars c).Nodup:=Zdm _ _ List.nodup_nil
 have hvl:=Zf7 (sides c) []
 have hvl2:(clauseVars c).length<1000000:=by unfold clauseVars;simp only [List.length_nil] at hvl;omega
 have hWA:=fun (of:List Int) (f:Int→Int) (hf1:∀ v,0≤f v∧f v<w.size) (ha:∀ v∈clauseVars c,f v=ofL of v)=>Zsk w of f q2 q3 hf1 c (by omega) (fun i h=>by
  have h1:=Zm5 hf i h
  have h2:=Zkp i h
  exact ⟨⟨h1.1,h1.2,by omega,by omega⟩,Ygk hw hc.1 hf i h⟩) ((Zgv c).1 ha)
 have hdef:holdsW w c=(List.range (rowsN w c)).all fun n=>anyHolds w (digF w.size (clauseVars c) n) c:=rfl
 have hN:((rowsN w c:Nat):Int)=w.size ^ (clauseVars c).length:=by unfold rowsN;omega
 have hV5:=Zq2 (sides c) hf (by omega)
 have hdefV:Tm.varsL (sides c) []=clauseVars c:=rfl
 rw [hdefV] at hV5
 rw [← hN] at hpw hA
 rw [hdef]
 generalize rowsN w c=N at *
 generalize clauseVars c=vs at *
 simp only [go_sem,Zee]
 refine VCall.isoT [] (Zlk c (by omega)) (Za1 _ _ _) (by simp [go_sem,Za3]) ?_;rw [Zah];simp only [ite_self];refine EvK.go 1000 ?_
 simp only [go_sem]
 refine VCall.isoT [] (hV5) (Za1 _ _ _) (by simp [go_sem,Za0]) ?_;rw [Zah];simp only [ite_self];refine EvK.go 1000 ?_
 simp only [go_sem,Zad]
 refine VCall.isoT [] (Zm9 w.size vs.length (by omega)) (Za1 _ _ _) (by simp [go_sem, ]) ?_;simp only [flatR,flatA,flatC,if_true];refine EvK.go 1000 ?_
 rw [Int.toNat_natCast,hpw]
 simp only [go_sem, -List.reduceReplicate,Ydl]
 refine EvK.loopI (ι:={q:Nat×List Int // q.1≤N∧q.2.length=256∧∀ m:Nat,m<q.1→anyHolds w (digF w.size vs m) c=true}) 1000 (fun q=>mkT 51 [(1, .ps 5 (lits c)),(2, .ptr 0 0),(5, .ps 1 (ints vs)),(6, .int .i64 N),(7, .os 1 0 256 1),(8, .int .i64 q.1.1)])
  (fun q=>[some (.var [.int .i64 w.size, .ps 1 (rowsA w.rows)]),some (.row (ints q.1.2) 0)]) (fun q=>N - q.1.1) ⟨(0,List.replicate 256 0),Nat.zero_le _,List.length_replicate,fun m h=>absurd h (by simp)⟩ ?_ (fun _=>Nat.zero_le _) ?_
 ·simp only [go_sem,Za4,Za3,Zb5, -List.reduceReplicate,show Int.toNat 256=256 from rfl]
 ·rintro ⟨⟨n,o⟩,hn,ho,hpre⟩
  simp only at hn ho hpre
  by_cases hlt:(n:Int)<N
  case neg =>
   have hn':n=N:=by omega
   subst hn'
   simp only [go_sem,hlt]
   refine EvK.go 1000 ?_
   simp only [go_sem,List.all_eq_true.2 (fun m hm=>hpre m (List.mem_range.1 hm))]
  have hlt':n<N:=by omega
  simp only [go_sem,hlt]
  refine EvK.loopI (ι:={q:Nat×Int×List Int // q.1≤vs.length∧q.2.2.length=256∧(0≤q.2.1∧q.2.1≤n)∧(∀ v∈vs.take q.1,q.2.2.getD v.toNat 0=digF w.size vs n v)∧∀ v,v ∉ vs.take q.1→digF w.size vs n v=digF w.size (vs.drop q.1) q.2.1 v}) 1000
   (fun q=>mkT 51 [(1, .ps 5 (lits c)),(2, .ptr 0 0),(5, .ps 1 (ints vs)),(6, .int .i64 N),(7, .os 1 0 256 1),(8, .int .i64 n),(9, .int .i64 q.1.2.1),(10, .int .i64 q.1.1)])
   (fun q=>[some (.var [.int .i64 w.size, .ps 1 (rowsA w.rows)]),some (.row (ints q.1.2.2) 0)]) (fun q=>vs.length - q.1.1) ⟨(0,n,o),Nat.zero_le _,ho,⟨by simp only;omega,Int.le_refl _⟩,fun v hv=>absurd hv (by simp),fun v _=>by simp⟩ ?_ (fun _=>Nat.zero_le _) ?_
  ·simp only [go_sem,Za4,Za3,Zb5]
  ·rintro ⟨⟨i,L,p⟩,hi,hp,⟨hL0,hL1⟩,hset,hrest⟩
   simp only at hi hp hL0 hL1 hset hrest
   by_cases hil:(i:Int)<vs.length
   ·have hil':i<vs.length:=by omega
    have hw1:IntKind.i64.wrap ((i:Int)+1)=((i+1:Nat):Int):=by rw [Zab (by omega)];omega
    have g1:=Zbe hil'
    have hr:=hrange _ (List.getElem_mem hil')
    have hni:=Zxd hnd hil'
    have htk:vs.take (i+1)=vs.take i++[vs[i]]:=by rw [List.take_add_one,List.getElem?_eq_getElem hil',Option.toList_some]
    rw [List.drop_eq_getElem_cons hil'] at hrest
    generalize vs[i]=x at *
    have hmod:L.tmod w.size=L % w.size:=Int.tmod_eq_emod_of_nonneg hL0
    have hdiv:L.tdiv w.size=L / w.size:=Int.tdiv_eq_ediv_of_nonneg hL0
    have hd0 : 0≤L / w.size:=Int.ediv_nonneg hL0 (by omega)
    have hd1:L / w.size≤L:=Int.ediv_le_self _ hL0
    obtain ⟨u,hcell⟩:∃ u,(ints p).getD x.toNat .undef = .int .i64 u:=⟨_,Zbe (by omega)⟩
    simp only [go_sem,hil,Zad]
    refine EvK.draw [.no, .no, .no, .no, .no, .no, .no, .no, .no, .no,⟨none,[1],[]⟩] 2 2 mixed rfl rfl (by decide) ?_
    simp only [go_sem,padS,Zad,g1,hmod,hcell,Ydn]
    (repeat ((with_reducible refine And.intro ?_ ?_); ·omega))
    refine EvK.go 1000 ?_
    simp only [go_sem,hdiv]
    refine ⟨by omega,⟨(i+1,L / w.size,p.set x.toNat (L % w.size)),by simp only;omega,by simp only [List.length_set];exact hp,⟨hd0,by simp only;omega⟩,fun v hv=>?_,fun v hv=>?_⟩,?_,by simp only;omega⟩
    ·simp only [htk] at hv ⊢
     rcases List.mem_append.1 hv with hv | hv
     ·have hvr:=hrange v (List.mem_of_mem_take hv)
      have hne:v≠x:=fun e=>hni (by rw [← e];exact hv)
      rw [← hset v hv]
      simp only [List.getD_eq_getElem?_getD,List.getElem?_set]
      rw [if_neg (by omega)]
     ·have e:=List.mem_singleton.1 hv
      subst e
      rw [hrest v hni,digF,if_pos rfl]
      simp only [List.getD_eq_getElem?_getD,List.getElem?_set]
      rw [if_pos trivial,if_pos (by omega)];rfl
    ·simp only [htk,List.mem_append,List.mem_singleton,not_or] at hv ⊢
     rw [hrest v hv.1,digF,if_neg hv.2]
    ·simp only [go_sem,Za4,Za3,Zb5,hw1]
     rw [Zab (by omega)]
   ·have hje:i=vs.length:=by omega
    subst hje
    rw [List.take_length] at hset
    have hA2:=hWA p (digF w.size vs n) (fun v=>Zi4 q2 vs n v) (fun v hv=>by
     have h1:=hrange v hv
     unfold ofL
     rw [if_pos (by omega),← hset v hv])
    simp only [go_sem,hil,Zad]
    refine EvK.go 1000 ?_
    simp only [go_sem]
    rw [← Zee]
    refine VCall.isoT [1] hA2 ?_ (by simp [go_sem,Zeo,Za4,Za3]) ?_
    ·simp only [go_sem,Zb1,Zba,Zad]
     rw [List.take_of_length_le (by rw [Zad];omega)];exact ⟨by omega,Za1 _ _ _⟩
    simp only [flatR,flatA,flatC,if_true]
    refine EvK.go 1000 ?_
    cases e:anyHolds w (digF w.size vs n) c with
    | false =>
     have hall:((List.range N).all fun n=>anyHolds w (digF w.size vs n) c)=false:=by
      cases ha:(List.range N).all fun n=>anyHolds w (digF w.size vs n) c with
      | false=>rfl
      | true =>
       have:=List.all_eq_true.1 ha n (List.mem_range.2 hlt')
       rw [e] at this;cases this
     simp only [go_sem]
     refine EvK.go 1000 ?_
     simp only [go_sem,hall]
    | true =>
     simp only [go_sem]
     refine ⟨⟨(n+1,p),hlt',hp,fun m hm=>?_⟩,?_,by simp only;omega⟩
     ·by_cases hmn:m=n
      ·subst hmn;exact e
      ·exact hpre m (by simp only at hm;omega)
     ·simp only [go_sem,Za4,Za3,Zb5]
      rw [Zab (by omega)];rfl
end Go.Proofs
namespace Go.Proofs
open Go Go.Abs
theorem Zo2 {g:List Sy} {w:Wo} {es:List (List Li)} (hw:worldOk g w=true) (hu:∀ u∈unitsOf es,rtT g u.l∧rtT g u.r):∀ (n:Nat) (c:List Li) (u:List Int),rtC g c→(normF (stepP g (unitsOf es)) n c u).2.2=0 →
  ∃ more,(normF (stepP g (unitsOf es)) n c u).2.1=u++more∧(∀ k∈more,0≤k∧k<es.length)∧(∀ p,allC p c→allC p (normF (stepP g (unitsOf es)) n c u).1) ∧
   ((∀ k∈more,unitHolds w es k)→∀ f,inW w f→anyHolds w f (normF (stepP g (unitsOf es)) n c u).1=anyHolds w f c)
 | 0,c,u,h,h0=>by rw [normF] at h0;cases h0
 | n+1,c,u,h,h0=>by
  rw [normF] at h0 ⊢
  by_cases h1:(stepP g (unitsOf es) c).2.2.2=0
  ·rw [if_neg (fun k=>k h1)] at h0 ⊢
   by_cases h2:(stepP g (unitsOf es) c).2.2.1=false
   ·rw [if_pos h2]
    exact ⟨[],by simp,fun k hk=>(by cases hk),fun p hp=>hp,fun _ f _=>rfl⟩
   ·rw [if_neg h2] at h0 ⊢
    have h2':(stepP g (unitsOf es) c).2.2.1=true:=by simpa using h2
    by_cases h3 : 200<u.length+1
    ·rw [if_pos h3] at h0;cases h0
    ·rw [if_neg h3] at h0 ⊢
     obtain ⟨v1,v2,v3⟩:=Ybn hw hu h h1 h2'
     obtain ⟨more,a1,a2,a3,a4⟩:=Zo2 hw hu n _ _ (Zn9 hu h h1) h0
     refine ⟨(stepP g (unitsOf es) c).2.1 :: more,by rw [a1];simp,fun k hk=>?_,fun p hp=>a3 p (v2 p hp),fun hk f hf=>?_⟩
     ·rcases List.mem_cons.1 hk with rfl | hk
      ·exact v1
      ·exact a2 k hk
     ·rw [a4 (fun k hk'=>hk k (by simp [hk'])) f hf]
      exact v3 (hk _ (by simp)) f hf
  ·rw [if_pos h1] at h0;exact absurd h0 h1
theorem Zq9 {c:List Li} {p:Int→Prop}:(∀ v∈clauseVars c,p v)↔allC p c:=by
 rw [Zgv]
 constructor
 ·intro h l hl
  obtain ⟨i,hi,rfl⟩:=List.mem_iff_getElem.1 hl
  exact h i hi
 ·intro h i hi
  exact h _ (List.getElem_mem hi)
theorem Yc9 {g:List Sy} {w:Wo} {es:List (List Li)} {c:List Li} (h:inX es c) (h0:(normX g es c).2.2=0) (hw:worldOk g w=true) :
  (∀ k∈(normX g es c).2.1,0≤k∧k<es.length)∧(∀ v∈clauseVars (normX g es c).1,v∈clauseVars c)∧((∀ k∈(normX g es c).2.1,holdsW w (es.getD k.toNat [])=true)→holdsW w c=holdsW w (normX g es c).1):=by
 obtain ⟨hwr,hx,_,_⟩:=Ztx h h0
 have hi:=Zic h hwr
 have hs:=(Zcf hw).2.1
 have e1:normX g es c=normF (stepP g (unitsOf es)) 201 c []:=by unfold normX normalF;exact if_neg (fun k=>k hwr)
 rw [e1] at h0 ⊢
 obtain ⟨more,a1,a2,a3,a4⟩:=Zo2 hw hi.2.1 201 c [] hi.1 h0
 rw [List.nil_append] at a1
 rw [a1]
 refine ⟨a2,Zq9.2 (a3 _ (Zq9.1 fun v hv=>hv)),fun hh=>?_⟩
 have key:=a4 fun k hk=>(Zi2 hs).1 (hh k hk)
 rw [Bool.eq_iff_iff,Zi2 hs,Zi2 hs]
 constructor
 ·intro q f hf;rw [key f hf];exact q f hf
 ·intro q f hf;rw [← key f hf];exact q f hf
end Go.Proofs
namespace Go.Proofs
open Go Go.Abs
attribute [local go_sem] Nat.reduceAdd Nat.reduceSub Nat.reduceMul Nat.reduceLeDiff Nat.reduceEqDiff Nat.reduceBEq Nat.reduceLT Nat.le_refl Int.natCast_zero Nat.sub_zero List.length_map Int.toNat_natCast Int.natCast_one Int.reduceEq Int.reduceLT Int.reduceLE Int.reduceNe Int.sub_zero Int.zero_add Int.toNat_one
theorem Zyw {g:List Sy} {es:List (List Li)} {c:List Li} (h:inX es c) (hw:wrongL g (c :: es)=0):∀ x∈es,rtC g x:=fun x hx =>
 ⟨Zgn hw x (by simp [hx]),(h.2 x (by simp [hx])).2⟩
set_option maxHeartbeats 1000000 in
theorem Zh5 (g:List Sy) (w:Wo) (es:List (List Li)) (c:List Li) (f1:∀ x∈es,fitC x) (f2:fitC c) (hcl:c.length≤2600000000000) {W:World} {vs:Array Value}
  (h2:vs.size=([.ps 4 (syms g),w.toA, .ps 1 (clsA es), .ps 5 (lits c)]:List AVal).length)
  (h3:∀ k,k<([.ps 4 (syms g),w.toA, .ps 1 (clsA es), .ps 5 (lits c)]:List AVal).length→Rep W noM noB (vs.getD k undef) (([.ps 4 (syms g),w.toA, .ps 1 (clsA es), .ps 5 (lits c)]:List AVal).getD k .undef)) :
  Calls Tryz.prog 6 vs W fun e w'=>e = .returned (.bool true)∧RowKit.Below W.heap.size W w':=by
 refine Zvr (args:=[.ps 4 (syms g),w.toA, .ps 1 (clsA es), .ps 5 (lits c)]) (rs:=[.tmp 8]) (m:=130) 1000 Tryz.func6 rfl rfl rfl rfl ?_ (fun x hx=>by cases hx) h2 h3
 clear h2 h3
 simp only [go_sem,Zee]
 refine VCall.isoT [] (Yli g es c hcl) (Za1 _ _ _) (by simp [go_sem,Za5,Zav,Za3]) ?_;simp only [flatR,flatA,flatC,if_true];refine EvK.go 1000 ?_
 cases hfew:(symsFew g&&(fewE es&&fewC c)) with
 | false=>simp only [go_sem]
 | true =>
 simp only [Bool.and_eq_true] at hfew
 obtain ⟨hg,he,hc⟩:=hfew
 have hin:=Yrn he hc f1 f2
 have hN:=Ztn g es c hin
 have hnb:=Ybm (g:=g) (es:=es) (c:=c)
 have hok:=Ztx (g:=g) hin
 have hval:=fun h=>Yc9 (g:=g) (w:=w) hin h
 have hil:(normX g es c).2.1.length≤200:=by
  unfold normX normalF
  split
  ·exact Nat.zero_le _
  ·exact Zuh _ _ _ _ (Nat.zero_le _)
 generalize normX g es c=N at *
 obtain ⟨x,l,h⟩:=N
 try simp only at hN
 try simp only at hnb
 try simp only at hok
 try simp only at hval
 try simp only at hil
 simp only [go_sem,Nat.le_refl]
 rw [← Zee]
 refine VCall.isoT [] (Zrt w) (Za1 _ _ _) (by simp [go_sem,Zeo]) ?_;simp only [flatR,flatA,flatC,if_true];refine EvK.go 1000 ?_
 cases hwf:w.few with
 | false=>simp only [go_sem]
 | true =>
 simp only [go_sem]
 refine VCall.isoT [] (hN) (Za1 _ _ _) (by simp [go_sem,Za5,Zav,Za3]) ?_;rw [Zah];simp only [ite_self];refine EvK.go 1000 ?_
 by_cases h1:h=0
 case neg =>
  obtain ⟨rfl,rfl⟩:=hnb h1
  simp only [go_sem,h1]
  refine VCall.isoT [] (Zeb) (Za1 _ _ _) (by simp [go_sem, ]) ?_;simp only [flatR,flatA,flatC,if_true];refine EvK.go 1000 ?_
  simp only [go_sem,Zaf,Zad,List.length_nil,show IntKind.i64.wrap 0=0 from rfl,decide_true]
 subst h1
 obtain ⟨hwr,hx,_,_⟩:=hok rfl
 have hcr:=(Zic hin hwr).1
 have hes:=Zyw hin hwr
 have hsz:∀ {d:List Li},rtC g d→∀ (i:Nat) (h:i<d.length),d[i].l.size<2 ^ 62∧d[i].r.size<2 ^ 62:=fun hd i h=>by
  obtain ⟨a1,a2⟩:=Ze0 hd (List.getElem_mem h)
  have b1:=(Zcg a1).2
  have b2:=(Zcg a2).2
  omega
 have hM:∀ {d:List Li},rtC g d→CallEq Tryz.prog 20 [w.toA, .ps 5 (lits d), .int .i64 700] (.int .i64 (worldMany w d 700)):=fun hd=>by
  obtain ⟨d1,d2,d3⟩:=Zp3 hd
  exact Znl w _ 700 (by decide) (by omega) d1 (by omega)
 have hK:∀ {d:List Li},rtC g d→CallEq Tryz.prog 19 [.ps 4 (syms g), .ps 5 (lits d)] (.int .i64 0):=fun hd=>by
  have:=Zl9 g _ (hsz hd)
  rw [hd.1] at this;exact this
 simp only [go_sem,Nat.le_refl]
 rw [← Zee]
 refine VCall.isoT [] (Zmk g w) (Za1 _ _ _) (by simp [go_sem,Za5,Zeo]) ?_;simp only [flatR,flatA,flatC,if_true];refine EvK.go 1000 ?_
 cases hwo:worldOk g w with
 | false =>
  simp only [go_sem]
  refine VCall.isoT [] (Zeb) (Za1 _ _ _) (by simp [go_sem, ]) ?_;simp only [flatR,flatA,flatC,if_true];refine EvK.go 1000 ?_
  simp only [go_sem]
 | true =>
 obtain ⟨v1,v2,v3⟩:=hval rfl hwo
 obtain ⟨q1,q2,q3,_⟩:=Zcf hwo
 simp only [go_sem]
 refine VCall.isoT [] (hK hcr) (Za1 _ _ _) (by simp [go_sem,Za5,Za3]) ?_;simp only [flatR,flatA,flatC,if_true];refine EvK.go 1000 ?_
 simp only [go_sem,Nat.le_refl]
 rw [← Zee]
 refine VCall.isoT [] (hM hcr) (Za1 _ _ _) (by simp [go_sem,Zeo,Za3]) ?_;simp only [flatR,flatA,flatC,if_true];refine EvK.go 1000 ?_
 by_cases hm : 700<worldMany w c 700
 ·simp only [go_sem,hm]
  refine VCall.isoT [] (Zeb) (Za1 _ _ _) (by simp [go_sem, ]) ?_;simp only [flatR,flatA,flatC,if_true];refine EvK.go 1000 ?_
  simp only [go_sem]
 have hm':worldMany w c 700≤700:=by omega
 have hmx:=Zpu q2 q3 hm' v2
 have hel:=(Yde he).1
 simp only [go_sem,hm]
 refine EvK.loopI (ι:={i:Nat // i≤l.length∧∀ k∈l.take i,holdsW w (es.getD k.toNat [])=true}) 1000 (fun i=>mkT 134 [(0, .ps 4 (syms g)),(2, .ps 1 (clsA es)),(3, .ps 5 (lits c)),(5, .ptr 0 0),(8, .bool false),(9, .ps 5 (lits x)),(10, .ps 1 (ints l)),(12, .int .i64 i.1)])
  (fun _=>[some (.var [.int .i64 w.size, .ps 1 (rowsA w.rows)])]) (fun i=>l.length - i.1) ⟨0,Nat.zero_le _,fun k hk=>(by cases hk)⟩ ?_ (fun _=>Nat.zero_le _) ?_
 ·simp only [go_sem,Za4,Za3,Zb5,Zav,Za5]
 ·rintro ⟨i,hi,hpre⟩
  by_cases hlt:(i:Int)<l.length
  ·have hlt':i<l.length:=by omega
   have hw1:IntKind.i64.wrap ((i:Int)+1)=((i+1:Nat):Int):=by rw [Zab (by omega)];omega
   have g1:=Zbe hlt'
   obtain ⟨k1,k2⟩:=v1 _ (List.getElem_mem hlt')
   have htk:l.take (i+1)=l.take i++[l[i]]:=by rw [List.take_add_one,List.getElem?_eq_getElem hlt',Option.toList_some]
   generalize l[i]=k at *
   have k3:k.toNat<es.length:=by omega
   have g2:=Zj8 k3
   have k4:=hes _ (List.getElem_mem k3)
   have k5:es.getD k.toNat []=es[k.toNat]:=by simp [List.getD,k3]
   generalize es[k.toNat]=d at *
   have k6:¬ k<0:=by omega
   have k7:¬ (es.length:Int)≤k:=by omega
   have k8:=hM k4
   simp only [go_sem,hlt,Zad,Zbi,g1,k6,k7,g2,k1,k2]
   (repeat ((with_reducible refine And.intro ?_ ?_); ·omega))
   refine VCall.isoT [] (hK k4) (Za1 _ _ _) (by simp [go_sem,Za5,Za3]) ?_;simp only [flatR,flatA,flatC,if_true];refine EvK.go 1000 ?_
   simp only [go_sem]
   refine EvK.draw [] 1 1 mixed rfl rfl (by decide) ?_
   simp only [go_sem,padS,Zad,Zbi,g1,g2,Nat.le_refl]
   rw [← Zee]
   (repeat ((with_reducible refine And.intro ?_ ?_); ·omega))
   refine Zar k8 (Za1 _ _ _) (by simp [go_sem,Zeo,Za3]) ?_
   by_cases hmd : 700<worldMany w d 700
   ·simp only [go_sem,hmd]
    refine EvK.go 1000 ?_
    simp only [go_sem]
    refine VCall.isoT [] (Zeb) (Za1 _ _ _) (by simp [go_sem, ]) ?_;simp only [flatR,flatA,flatC,if_true];refine EvK.go 1000 ?_
    simp only [go_sem]
    refine EvK.go 1000 ?_
    simp only [go_sem]
   ·have k9:=Zez hwo k4 (by omega)
    simp only [go_sem,hmd,padS,Zad,Zbi,g1,g2,Nat.le_refl]
    rw [← Zee]
    (repeat ((with_reducible refine And.intro ?_ ?_); ·omega))
    refine Zar k9 (Za1 _ _ _) (by simp [go_sem,Zeo,Za3]) ?_
    simp only [go_sem]
    refine EvK.go 1000 ?_
    cases hh:holdsW w d with
    | false =>
     simp only [go_sem]
     refine VCall.isoT [] (Zeb) (Za1 _ _ _) (by simp [go_sem, ]) ?_;simp only [flatR,flatA,flatC,if_true];refine EvK.go 1000 ?_
     simp only [go_sem]
     refine EvK.go 1000 ?_
     simp only [go_sem]
    | true =>
     simp only [go_sem]
     refine ⟨⟨i+1,hlt',fun k' hk'=>?_⟩,?_,by simp only;omega⟩
     ·rw [htk] at hk'
      rcases List.mem_append.1 hk' with hk' | hk'
      ·exact hpre k' hk'
      ·rw [List.mem_singleton.1 hk',k5];exact hh
     ·simp only [go_sem,Za4,Za3,Zb5,Zav,Za5,hw1]
  ·have hi':i=l.length:=by omega
   subst hi'
   rw [List.take_length] at hpre
   have hfin:=v3 hpre
   have hmx2:¬ 700<worldMany w x 700:=by omega
   simp only [go_sem,hlt,Zad]
   refine EvK.go 1000 ?_
   simp only [go_sem]
   refine VCall.isoT [] (hK hx) (Za1 _ _ _) (by simp [go_sem,Za5,Za3]) ?_;simp only [flatR,flatA,flatC,if_true];refine EvK.go 1000 ?_
   simp only [go_sem,Nat.le_refl]
   rw [← Zee]
   refine VCall.isoT [] (hM hx) (Za1 _ _ _) (by simp [go_sem,Zeo,Za3]) ?_;simp only [flatR,flatA,flatC,if_true];refine EvK.go 1000 ?_
   simp only [go_sem,hmx2]
   refine EvK.draw [] 1 1 mixed rfl rfl (by decide) ?_
   simp only [go_sem,padS,Nat.le_refl]
   refine Zar Zeb (Za1 _ _ _) trivial ?_
   simp only [go_sem,padS,Nat.le_refl]
   rw [← Zee]
   refine Zar (Zez hwo hcr hm') (Za1 _ _ _) (by simp [go_sem,Zeo,Za3]) ?_
   simp only [go_sem,padS,Nat.le_refl]
   rw [← Zee]
   refine Zar (Zez hwo hx hmx) (Za1 _ _ _) (by simp [go_sem,Zeo,Za3]) ?_
   simp only [go_sem,hfin]
   refine EvK.go 1000 ?_
   simp only [go_sem,beq_self_eq_true]
end Go.Proofs
