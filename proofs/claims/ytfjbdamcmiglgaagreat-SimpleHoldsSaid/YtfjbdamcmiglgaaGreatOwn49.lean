/- For every input the law SimpleHolds answers true, and leaves its arguments as they are. Conditions: none beyond the statement's own. -/
import Derived.Test.YtfjbdamcmiglgaaGreatOwn48
import Derived.Test.YtfjbdamcmiglgaaGreatRows
import Derived.WalkKit
import Derived.ProofKit
import Derived.OpenShut
import Derived.ShutString
import Derived.ChangeOld
import Derived.Below
import Derived.SizedLaws
set_option linter.unusedVariables false
set_option linter.unusedSectionVars false
set_option linter.unusedSimpArgs false
namespace Go.Proofs.YtfjbdamcmiglgaaGreat.simpleHoldsDone
open Go.Proofs Go.ChangeShapes Go.WideShapes Go.ChangeAt Go.RowKit
open Go.dm (z7 nJ Mw LO sX tP)
theorem own:ownKnob Tryz.prog.godebug=none:=by kernel_rfl
theorem laidOut:laidOutB Tryz.prog=true:=by kernel_rfl
theorem closed:nJ Tryz.prog [22,23,24,74,70,68,79,9,3,4,38,36,26]=true:=by kernel_rfl
theorem walk (W:World) (args:Array Value) (tr:List Go.dm.ah) (h1:args.toList.length=tr.length) (h2:∀ k,k<tr.length→Go.dm.cf W sX tP (args.toList.getD k undef) (tr.getD k .undef)) (h3:tr.length=4)
  (h4:∀ (j:Nat) t,Tryz.f4.params.toList[j]? = some t→z7 Tryz.prog t (tr.getD j .undef)) :
  Calls Tryz.prog 4 args W fun e W'=>e = .returned (.bool true)∧Below W.heap.size W W':=by
 have ht:tr=[tr.getD 0 .undef,tr.getD 1 .undef,tr.getD 2 .undef,tr.getD 3 .undef]:=by
  rcases tr with _ | ⟨a,_ | ⟨b,_ | ⟨c,_ | ⟨d,_ | ⟨y,l⟩⟩⟩⟩⟩<;>first | rfl | simp at h3
 obtain ⟨x0,e0⟩:=Ym9 (h4 0 _ (by rfl));obtain ⟨x1,e1⟩:=Yxj (h4 1 _ (by rfl));obtain ⟨x2,e2,f2⟩:=Ytc (h4 2 _ (by rfl));obtain ⟨x3,e3,f3,g3⟩:=Yho (h4 3 _ (by rfl));rw [e0,e1,e2,e3] at ht;subst ht;exact Zjg x0 x1 x2 x3 f2 f3 g3 (by simpa using h1) (by simpa using h2)
set_option maxRecDepth 100000 in
theorem lifted (os:Os) (started:os.Started) (H:Type) (enc:TypeId×Value→H) :
  ReturnsInHanded {} Tryz.checked os 4 .any (Rows.simpleHoldsSpec.pre6 enc Tryz.prog Tryz.f4 Rows.simpleHoldsRow.domain false) (Rows.simpleHoldsSpec.post enc Tryz.prog Tryz.f4 false true false false):=by
 refine returnsInHanded_of_change_sized (C:=Tryz.checked) own started (by kernel_rfl) Tryz.func4
  (ChangeSpec.witness6 (enc:=enc) (C:=Tryz.checked) false ⟨#[], #[.slice none 0 0, .agg #[.int .i64 0, .slice none 0 0], .slice none 0 0, .slice none 0 0],[]⟩ 8 (by kernel_rfl) (by kernel_rfl) (by kernel_rfl) (by kernel_rfl)) ?_
 intro W base args ds gs before H_ hW apf fJ _;have On:=hW;obtain ⟨p,q,hA0,hV,rfl,FJ,ph⟩:=hW;have hA:DataW.TrodAll enc Tryz.prog W 0 (fun _=>true) true Tryz.f4.params.toList args.toList ds p:=hA0;obtain ⟨rfl,rfl⟩:=trodVars_none hV;obtain ⟨tr,a1,a2,a3,a4⟩:=Mw closed _ _ _ _ hA (by kernel_rfl) (fun j t v e1 e2=>H_ j t v (by simpa using e1) (by simpa using e2)) (fun n hn=>by
  have:=List.all_eq_true.1 fJ n (by rw [List.append_nil,show Tryz.f4.params.toList++Rows.simpleHoldsSpec.plain.varTypes Tryz.checked.prog=Tryz.f4.params.toList from List.append_nil _];exact hn)
  simpa using this)
 have hlen:ds.length=4:=(Go.dm.qK _ _ _ _ hA).trans rfl;refine (walk W args tr a1 a2 (a3.trans rfl) a4).mono fun e W' ⟨he,Xq⟩=>?_;subst he
 match ds,hlen with
 | [d1,d2,d3,d4],_ =>
 exact ⟨_,rfl,_,_,_,[],_,[],On,trodAll_mk1 (shut_bool Tryz.underlying4 _),LO laidOut Xq _ _ _ _ hA (by kernel_rfl),rfl,Xq.frame _,fun h=>by cases h⟩
theorem proved:Rows.SimpleHoldsSaid :=
 OpenClaim.holds_of_wide 4 Tryz.f4 rfl rfl rfl rfl rfl rfl rfl ⟨rfl,rfl,rfl,rfl,rfl⟩ rfl rfl rfl rfl rfl (by kernel_rfl) Tryz.func4 (by kernel_rfl)
  (of_decide_eq_true (by kernel_rfl)) (by unfold Func.isWrapper;first | (rw [if_pos (by decide +kernel)];kernel_rfl) | (rw [if_neg (by decide +kernel)];exact ⟨rfl,rfl⟩))
  (fun os started H enc _=>lifted os started H enc)
end Go.Proofs.YtfjbdamcmiglgaaGreat.simpleHoldsDone
