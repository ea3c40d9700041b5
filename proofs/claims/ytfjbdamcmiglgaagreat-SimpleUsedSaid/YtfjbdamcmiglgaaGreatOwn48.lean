/- For every input the law SimpleUsed answers true, and leaves its arguments as they are. Conditions: none beyond the statement's own. -/
import Derived.Test.YtfjbdamcmiglgaaGreatOwn47
import Derived.Test.YtfjbdamcmiglgaaGreatRows
import Derived.WalkKit
import Derived.ProofKit
import Derived.OpenShut
import Derived.ShutString
import Derived.ChangeOld
import Derived.Below
import Derived.SizedLaws
set_option linter.unusedVariables false
set_option linter.unusedSectionVars false
set_option linter.unusedSimpArgs false
namespace Go.Proofs.YtfjbdamcmiglgaaGreat.simpleUsedDone
open Go.Proofs Go.ChangeShapes Go.WideShapes Go.ChangeAt Go.RowKit
open Go.cV (zF mS Kh Ka rJ sr)
theorem own:ownKnob Tryz.prog.godebug=none:=by kernel_rfl
theorem laidOut:laidOutB Tryz.prog=true:=by kernel_rfl
theorem closed:mS Tryz.prog [22,23,24,74,70,68,79,9,3,4]=true:=by kernel_rfl
theorem walk (W:World) (args:Array Value) (tr:List Go.cV.ae) (h1:args.toList.length=tr.length) (h2:∀ k,k<tr.length→Go.cV.bR W rJ sr (args.toList.getD k undef) (tr.getD k .undef)) (h3:tr.length=3)
  (h4:∀ (j:Nat) t,Tryz.f6.params.toList[j]? = some t→zF Tryz.prog t (tr.getD j .undef)) :
  Calls Tryz.prog 6 args W fun e W'=>e = .returned (.bool true)∧Below W.heap.size W W':=by
 have ht:tr=[tr.getD 0 .undef,tr.getD 1 .undef,tr.getD 2 .undef]:=by
  rcases tr with _ | ⟨a,_ | ⟨b,_ | ⟨c,_ | ⟨y,l⟩⟩⟩⟩<;>first | rfl | simp at h3
 obtain ⟨x0,e0⟩:=Ym3 (h4 0 _ (by rfl))
 obtain ⟨x1,e1,f1⟩:=Yot (h4 1 _ (by rfl))
 obtain ⟨x2,e2,f2,g2⟩:=Zh (h4 2 _ (by rfl))
 rw [e0,e1,e2] at ht
 subst ht
 exact Zja x0 x1 x2 f1 f2 g2 (by simpa using h1) (by simpa using h2)
set_option maxRecDepth 100000 in
theorem lifted (os:Os) (started:os.Started) (H:Type) (enc:TypeId×Value→H) :
  ReturnsInHanded {} Tryz.checked os 6 .any (Rows.simpleUsedSpec.pre6 enc Tryz.prog Tryz.f6 Rows.simpleUsedRow.domain false) (Rows.simpleUsedSpec.post enc Tryz.prog Tryz.f6 false true false false):=by
 refine returnsInHanded_of_change_sized (C:=Tryz.checked) own started (by kernel_rfl) Tryz.func6
  (ChangeSpec.witness6 (enc:=enc) (C:=Tryz.checked) false ⟨#[], #[.slice none 0 0, .slice none 0 0, .slice none 0 0],[]⟩ 8 (by kernel_rfl) (by kernel_rfl) (by kernel_rfl) (by kernel_rfl)) ?_
 intro W base args ds gs before GU hW amm ft _
 have Mq:=hW
 obtain ⟨p,q,hA0,hV,rfl,Ew,oS⟩:=hW
 have hA:DataW.TrodAll enc Tryz.prog W 0 (fun _=>true) true Tryz.f6.params.toList args.toList ds p:=hA0
 obtain ⟨rfl,rfl⟩:=trodVars_none hV
 obtain ⟨tr,a1,a2,a3,a4⟩:=Kh closed _ _ _ _ hA (by kernel_rfl) (fun j t v e1 e2=>GU j t v (by simpa using e1) (by simpa using e2)) (fun n hn=>by
  have:=List.all_eq_true.1 ft n (by rw [List.append_nil,show Tryz.f6.params.toList++Rows.simpleUsedSpec.plain.varTypes Tryz.checked.prog=Tryz.f6.params.toList from List.append_nil _];exact hn)
  simpa using this)
 have hlen:ds.length=3:=(Go.cV.p5 _ _ _ _ hA).trans rfl
 refine (walk W args tr a1 a2 (a3.trans rfl) a4).mono fun e W' ⟨he,UX⟩=>?_
 subst he
 match ds,hlen with
 | [d1,d2,d3],_ =>
 exact ⟨_,rfl,_,_,_,[],_,[],Mq,trodAll_mk1 (shut_bool Tryz.underlying4 _),Ka laidOut UX _ _ _ _ hA (by kernel_rfl),rfl,UX.frame _,fun h=>by cases h⟩
theorem proved:Rows.SimpleUsedSaid :=
 OpenClaim.holds_of_wide 6 Tryz.f6 rfl rfl rfl rfl rfl rfl rfl ⟨rfl,rfl,rfl,rfl,rfl⟩ rfl rfl rfl rfl rfl (by kernel_rfl) Tryz.func6 (by kernel_rfl)
  (of_decide_eq_true (by kernel_rfl)) (by unfold Func.isWrapper;first | (rw [if_pos (by decide +kernel)];kernel_rfl) | (rw [if_neg (by decide +kernel)];exact ⟨rfl,rfl⟩))
  (fun os started H enc _=>lifted os started H enc)
end Go.Proofs.YtfjbdamcmiglgaaGreat.simpleUsedDone
