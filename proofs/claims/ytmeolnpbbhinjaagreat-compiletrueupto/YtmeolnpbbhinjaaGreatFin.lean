/- CompileTrue: the statement CompileTrueUptoSaid, from the contract of its function. No conditions. -/
import Derived.Test.YtmeolnpbbhinjaaGreatPart5
set_option maxRecDepth 100000
open Go Go.Proofs
namespace Go.Proofs.YtmeolnpbbhinjaaGreat.compileTrue
open Go.ChangeShapes Go.WideShapes Go.ChangeAt Go.RowKit Go.AM Go.Proofs.YtmeolnpbbhinjaaGreat.base
theorem contract (H:Type) (enc:TypeId×Value→H) (W:World) (base:Nat) (args:Array Value) (ds gs:List (DataW H)) (before:List MemPlace)
  (hval:∀ (j:Nat) t v,Tryz.f5.params[j]? =some t→args[j]? =some v→Value.okWide Tryz.prog W .any base t v)
  (hW:DataW.Whole enc Tryz.prog Tryz.f5.params.toList Rows.compileTrueSpec.vars false W args.toList ds gs before) (hk:Rows.uptoSmall H (ds++gs)=true):
  Calls Tryz.prog 5 args W fun e W'=> ∃ v,e= .returned v∧Rows.compileTrueSpec.post enc Tryz.prog Tryz.f5 false true false false W args v W':=by
 have hW':=hW;obtain ⟨p,q,hA0,hV,rfl,hfz,hnd⟩:=hW;have hA:DataW.TrodAll enc Tryz.prog W 0 (fun _=>true) true Tryz.f5.params.toList args.toList ds p:=hA0;rw [Tryz.params5] at hA hval;obtain ⟨v0,vs0,d0,ds0,p0,q0,hargs,rfl,rfl,h0,r0⟩:=trodAll_cons hA;obtain ⟨v1,vs1,d1,ds1,p1,q1,rfl,rfl,rfl,h1,r1⟩:=trodAll_cons r0;obtain ⟨v2,vs2,d2,ds2,p2,q2,rfl,rfl,rfl,h2,r2⟩:=trodAll_cons r1;obtain ⟨v3,vs3,d3,ds3,p3,q3,rfl,rfl,rfl,h3,r3⟩:=trodAll_cons r2;obtain ⟨v4,vs4,d4,ds4,p4,q4,rfl,rfl,rfl,h4,r4⟩:=trodAll_cons r3;obtain ⟨rfl,rfl,rfl⟩:=trodAll_nil r4;obtain rfl:args= #[v0,v1,v2,v3,v4]:=by cases args;simp_all
 obtain ⟨rfl,rfl⟩:=trodVars_none hV;obtain ⟨f0,f1,f2,f3,hT⟩:=tmTy;obtain ⟨a0,e0,z0⟩:=z7n bulk hT (hval 0 25 v0 rfl rfl) h0;obtain ⟨a1,e1,w1⟩:=open_num Tryz.underlying3 (hval 1 3 v1 rfl rfl) h1;have w1:=znj w1;obtain ⟨a2,e2,z2⟩:=z7n bulk hT (hval 2 25 v2 rfl rfl) h2;obtain ⟨a3,e3,z3⟩:=z7n bulk hT (hval 3 25 v3 rfl rfl) h3;obtain ⟨a4,e4,z4⟩:=z7n bulk hT (hval 4 25 v4 rfl rfl) h4;have hu:=upto hk;simp only [List.append_nil,Rows.uptoBulkAll] at hu;have hc:=c_lct a0 a1 a2 a3 a4 (by first | (simp only [B];omega) | omega) (by first | (simp only [B];omega) | omega) (by first | (simp only [B];omega) | omega) (by first | (simp only [B];omega) | omega);refine (law_true (fun g hg=>(noGl g hg).elim) hc (vals:=[v0,v1,v2,v3,v4]) (.cons e0 (.cons e1 (.cons e2 (.cons e3 (.cons e4 .nil)))))).mono fun e W' ⟨he,foot,hf,g⟩=> ?_;refine ⟨_,he,zpx laidOut hW' rfl (fun ds' hd=> ?_) (fun t ht=> ?_) (by kernel_rfl) Tryz.underlying4 g hf⟩
 · match ds',hd with
   | [_,_,_,_,_],_=>rfl
 · rw [Tryz.params5] at ht;simp only [List.mem_cons,List.not_mem_nil,or_false] at ht;rcases ht with rfl | rfl | rfl | rfl | rfl
   · exact ⟨rec25,lt25⟩
   · exact ⟨rec3,lt3⟩
   · exact ⟨rec25,lt25⟩
   · exact ⟨rec25,lt25⟩
   · exact ⟨rec25,lt25⟩
set_option maxRecDepth 100000 in
theorem lifted (os:Os)(started:os.Started)(H:Type)(enc:TypeId×Value→H)(F:Stop.Interp):
  ReturnsInHanded {} Tryz.checked os 5 .any ((Rows.OpenSpec.upto Rows.compileTrueSpec).pre6 enc Tryz.prog Tryz.f5 Rows.compileTrueUptoRow.domain false) (((Rows.OpenSpec.upto Rows.compileTrueSpec).at F).post enc Tryz.prog Tryz.f5 false true false false):=by
 refine returnsInHanded_of_cond (C:=Tryz.checked) (s:=Rows.OpenSpec.upto Rows.compileTrueSpec) (k:=Rows.uptoSmall) rfl own started (by kernel_rfl) Tryz.func5
  (OpenSpec.witness (enc:=enc) (C:=Tryz.checked) (s:=Rows.OpenSpec.upto Rows.compileTrueSpec) (k:=Rows.uptoSmall) rfl false
   ⟨#[], #[.agg #[.int .i64 0, .string ⟨#[]⟩, .int .i64 0, .slice none 0 0], .int .i64 0, .agg #[.int .i64 0, .string ⟨#[]⟩, .int .i64 0, .slice none 0 0], .agg #[.int .i64 0, .string ⟨#[]⟩, .int .i64 0, .slice none 0 0], .agg #[.int .i64 0, .string ⟨#[]⟩, .int .i64 0, .slice none 0 0]],[]⟩ 8 (by kernel_rfl) (by kernel_rfl) (by kernel_rfl)
   (x:=([.agg [.lit (.int .i64 0), .lit (.string []), .lit (.int .i64 0), .nil], .lit (.int .i64 0), .agg [.lit (.int .i64 0), .lit (.string []), .lit (.int .i64 0), .nil], .agg [.lit (.int .i64 0), .lit (.string []), .lit (.int .i64 0), .nil], .agg [.lit (.int .i64 0), .lit (.string []), .lit (.int .i64 0), .nil]],[],[])) (by kernel_rfl) rfl (by kernel_rfl)) ?_
 intro W base args ds gs before hval hW _ hk _;exact contract H enc W base args ds gs before hval hW hk
theorem proved:Rows.CompileTrueUptoSaid:=
 OpenClaim.holds_of_cond 5 Tryz.f5 rfl rfl rfl rfl rfl rfl rfl ⟨rfl,rfl,rfl,rfl,rfl⟩ rfl rfl rfl rfl rfl (by kernel_rfl) Tryz.func5 (by kernel_rfl)
  (of_decide_eq_true (by kernel_rfl)) (by unfold Func.isWrapper;first | (rw [if_pos (by decide+kernel)];kernel_rfl) | (rw [if_neg (by decide+kernel)];exact ⟨rfl,rfl⟩))
  (fun os started H enc _ F=>lifted os started H enc F)
end Go.Proofs.YtmeolnpbbhinjaaGreat.compileTrue
