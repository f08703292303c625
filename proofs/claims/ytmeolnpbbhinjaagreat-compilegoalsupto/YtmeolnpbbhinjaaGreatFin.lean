/- CompileGoals: the statement CompileGoalsUptoSaid, from the contract of its function. No conditions. -/
import Derived.Test.YtmeolnpbbhinjaaGreatPart7
set_option maxRecDepth 100000
open Go Go.Proofs
namespace Go.Proofs.YtmeolnpbbhinjaaGreat.compileGoals
open Go.ChangeShapes Go.WideShapes Go.ChangeAt Go.RowKit Go.AM Go.Proofs.YtmeolnpbbhinjaaGreat.base
theorem contract (H:Type) (enc:TypeId×Value→H) (W:World) (base:Nat) (args:Array Value) (ds gs:List (DataW H)) (before:List MemPlace)
  (hval:∀ (j:Nat) t v,Tryz.f6.params[j]? =some t→args[j]? =some v→Value.okWide Tryz.prog W .any base t v)
  (hW:DataW.Whole enc Tryz.prog Tryz.f6.params.toList Rows.compileGoalsSpec.vars false W args.toList ds gs before) (hk:Rows.uptoSmall H (ds++gs)=true):
  Calls Tryz.prog 6 args W fun e W'=> ∃ v,e= .returned v∧Rows.compileGoalsSpec.post enc Tryz.prog Tryz.f6 false true false false W args v W':=by
 have hW':=hW;obtain ⟨p,q,hA0,hV,rfl,hfz,hnd⟩:=hW;have hA:DataW.TrodAll enc Tryz.prog W 0 (fun _=>true) true Tryz.f6.params.toList args.toList ds p:=hA0;rw [Tryz.params6] at hA hval;obtain ⟨v0,vs0,d0,ds0,p0,q0,hargs,rfl,rfl,h0,r0⟩:=trodAll_cons hA;obtain ⟨v1,vs1,d1,ds1,p1,q1,rfl,rfl,rfl,h1,r1⟩:=trodAll_cons r0;obtain ⟨rfl,rfl,rfl⟩:=trodAll_nil r1;obtain rfl:args= #[v0,v1]:=by cases args;simp_all
 obtain ⟨rfl,rfl⟩:=trodVars_none hV;obtain ⟨f0,f1,f2,f3,hT⟩:=tmTy;obtain ⟨a0,e0,z0⟩:=zs9 bulk hT (hval 0 25 v0 rfl rfl) h0;obtain ⟨a1,e1,w1⟩:=open_num Tryz.underlying3 (hval 1 3 v1 rfl rfl) h1;have w1:=zqh w1;have hu:=upto hk;simp only [List.append_nil,Rows.uptoBulkAll] at hu;have hc:=c_lcg a0 a1 (by first | (simp only [B];omega) | omega);refine (law_true (fun g hg=>(noGl g hg).elim) hc (vals:=[v0,v1]) (.cons e0 (.cons e1 .nil))).mono fun e W' ⟨he,foot,hf,g⟩=> ?_;refine ⟨_,he,zqp laidOut hW' rfl (fun ds' hd=> ?_) (fun t ht=> ?_) (by kernel_rfl) Tryz.underlying4 g hf⟩
 · match ds',hd with
   | [_,_],_=>rfl
 · rw [Tryz.params6] at ht;simp only [List.mem_cons,List.not_mem_nil,or_false] at ht;rcases ht with rfl | rfl
   · exact ⟨rec25,lt25⟩
   · exact ⟨rec3,lt3⟩
set_option maxRecDepth 100000 in
theorem lifted (os:Os)(started:os.Started)(H:Type)(enc:TypeId×Value→H)(F:Stop.Interp):
  ReturnsInHanded {} Tryz.checked os 6 .any ((Rows.OpenSpec.upto Rows.compileGoalsSpec).pre6 enc Tryz.prog Tryz.f6 Rows.compileGoalsUptoRow.domain false) (((Rows.OpenSpec.upto Rows.compileGoalsSpec).at F).post enc Tryz.prog Tryz.f6 false true false false):=by
 refine returnsInHanded_of_cond (C:=Tryz.checked) (s:=Rows.OpenSpec.upto Rows.compileGoalsSpec) (k:=Rows.uptoSmall) rfl own started (by kernel_rfl) Tryz.func6
  (OpenSpec.witness (enc:=enc) (C:=Tryz.checked) (s:=Rows.OpenSpec.upto Rows.compileGoalsSpec) (k:=Rows.uptoSmall) rfl false
   ⟨#[], #[.agg #[.int .i64 0, .string ⟨#[]⟩, .int .i64 0, .slice none 0 0], .int .i64 0],[]⟩ 8 (by kernel_rfl) (by kernel_rfl) (by kernel_rfl)
   (x:=([.agg [.lit (.int .i64 0), .lit (.string []), .lit (.int .i64 0), .nil], .lit (.int .i64 0)],[],[])) (by kernel_rfl) rfl (by kernel_rfl)) ?_
 intro W base args ds gs before hval hW _ hk _;exact contract H enc W base args ds gs before hval hW hk
theorem proved:Rows.CompileGoalsUptoSaid:=
 OpenClaim.holds_of_cond 6 Tryz.f6 rfl rfl rfl rfl rfl rfl rfl ⟨rfl,rfl,rfl,rfl,rfl⟩ rfl rfl rfl rfl rfl (by kernel_rfl) Tryz.func6 (by kernel_rfl)
  (of_decide_eq_true (by kernel_rfl)) (by unfold Func.isWrapper;first | (rw [if_pos (by decide+kernel)];kernel_rfl) | (rw [if_neg (by decide+kernel)];exact ⟨rfl,rfl⟩))
  (fun os started H enc _ F=>lifted os started H enc F)
end Go.Proofs.YtmeolnpbbhinjaaGreat.compileGoals
