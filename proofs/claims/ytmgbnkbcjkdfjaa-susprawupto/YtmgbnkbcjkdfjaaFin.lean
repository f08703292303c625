/- SuspRaw: the statement SuspRawUptoSaid, from the contract of its function. No conditions. -/
import Derived.Test.YtmgbnkbcjkdfjaaPart4
set_option maxRecDepth 100000
open Go Go.Proofs
namespace Go.Proofs.Ytmgbnkbcjkdfjaa.suspRaw
open Go.ChangeShapes Go.WideShapes Go.ChangeAt Go.RowKit Go.AM Go.Proofs.Ytmgbnkbcjkdfjaa.base
theorem contract (H:Type) (enc:TypeId×Value→H) (W:World) (base:Nat) (args:Array Value) (ds gs:List (DataW H)) (before:List MemPlace)
  (hval:∀ (j:Nat) t v,Try.f3.params[j]? =some t→args[j]? =some v→Value.okWide Try.prog W .any base t v)
  (hW:DataW.Whole enc Try.prog Try.f3.params.toList Rows.suspRawSpec.vars false W args.toList ds gs before) (hk:Rows.uptoSmall H (ds++gs)=true):
  Calls Try.prog 3 args W fun e W'=> ∃ v,e= .returned v∧Rows.suspRawSpec.post enc Try.prog Try.f3 false true false false W args v W':=by
 have hW':=hW;obtain ⟨p,q,hA0,hV,rfl,hfz,hnd⟩:=hW;have hA:DataW.TrodAll enc Try.prog W 0 (fun _=>true) true Try.f3.params.toList args.toList ds p:=hA0;rw [Try.params3] at hA hval;obtain ⟨v0,vs0,d0,ds0,p0,q0,hargs,rfl,rfl,h0,r0⟩:=trodAll_cons hA;obtain ⟨v1,vs1,d1,ds1,p1,q1,rfl,rfl,rfl,h1,r1⟩:=trodAll_cons r0;obtain ⟨v2,vs2,d2,ds2,p2,q2,rfl,rfl,rfl,h2,r2⟩:=trodAll_cons r1;obtain ⟨v3,vs3,d3,ds3,p3,q3,rfl,rfl,rfl,h3,r3⟩:=trodAll_cons r2;obtain ⟨rfl,rfl,rfl⟩:=trodAll_nil r3;obtain rfl:args= #[v0,v1,v2,v3]:=by cases args;simp_all
 obtain ⟨rfl,rfl⟩:=trodVars_none hV;obtain ⟨f0,f1,f2,f3,hT⟩:=tmTy;have hC0:CelTy Try.prog 32 _ _ _ _ _:=⟨Try.underlying32,Try.underlying30,Try.underlying3,Try.underlying3,Try.underlying3,Try.underlying3,⟨rfl,rfl,rfl,rfl,rfl⟩,⟨by kernel_rfl,by kernel_rfl,by kernel_rfl,by kernel_rfl,by kernel_rfl⟩,by kernel_rfl⟩;obtain ⟨a0,e0,z0⟩:=zcx (n:=5) (F:=fun c:Cel=>c.r) (sz:=fun _=>1) bulk (fun _=>rfl) hC0.cT (by omega) (fun _=>Nat.le_refl _) (fun k=>rd_cel bulk hC0 k) Try.underlying22 (hval 0 22 v0 rfl rfl) h0;have hC1:CelTy Try.prog 32 _ _ _ _ _:=⟨Try.underlying32,Try.underlying30,Try.underlying3,Try.underlying3,Try.underlying3,Try.underlying3,⟨rfl,rfl,rfl,rfl,rfl⟩,⟨by kernel_rfl,by kernel_rfl,by kernel_rfl,by kernel_rfl,by kernel_rfl⟩,by kernel_rfl⟩;obtain ⟨a1,e1,z1⟩:=zcx (n:=5) (F:=fun c:Cel=>c.r) (sz:=fun _=>1) bulk (fun _=>rfl) hC1.cT (by omega) (fun _=>Nat.le_refl _) (fun k=>rd_cel bulk hC1 k) Try.underlying22 (hval 1 22 v1 rfl rfl) h1;obtain ⟨a2,e2,w2⟩:=zfl Try.underlying3 (hval 2 3 v2 rfl rfl) h2;have w2:=zbs w2;obtain ⟨a3,e3,w3⟩:=zfl Try.underlying3 (hval 3 3 v3 rfl rfl) h3;have w3:=zbs w3;have hu:=upto hk;simp only [List.append_nil,Rows.uptoBulkAll] at hu;have hc:=zi3 a0 a1 a2 a3;refine (law_true (fun g hg=>(noGl g hg).elim) hc (vals:=[v0,v1,v2,v3]) (.cons e0 (.cons e1 (.cons e2 (.cons e3 .nil))))).mono fun e W' ⟨he,foot,hf,g⟩=> ?_;refine ⟨_,he,zj0 laidOut hW' rfl (fun ds' hd=> ?_) (fun t ht=> ?_) (by kernel_rfl) Try.underlying4 g hf⟩
 · match ds',hd with
   | [_,_,_,_],_=>rfl
 · rw [Try.params3] at ht;simp only [List.mem_cons,List.not_mem_nil,or_false] at ht;rcases ht with rfl | rfl | rfl | rfl
   · exact ⟨rec22,lt22⟩
   · exact ⟨rec22,lt22⟩
   · exact ⟨rec3,lt3⟩
   · exact ⟨rec3,lt3⟩
set_option maxRecDepth 100000 in
theorem lifted (os:Os)(started:os.Started)(H:Type)(enc:TypeId×Value→H)(F:Stop.Interp):
  ReturnsInHanded {} Try.checked os 3 .any ((Rows.OpenSpec.upto Rows.suspRawSpec).pre6 enc Try.prog Try.f3 Rows.suspRawUptoRow.domain false) (((Rows.OpenSpec.upto Rows.suspRawSpec).at F).post enc Try.prog Try.f3 false true false false):=by
 refine returnsInHanded_of_cond (C:=Try.checked) (s:=Rows.OpenSpec.upto Rows.suspRawSpec) (k:=Rows.uptoSmall) rfl own started (by kernel_rfl) Try.func3
  (OpenSpec.witness (enc:=enc) (C:=Try.checked) (s:=Rows.OpenSpec.upto Rows.suspRawSpec) (k:=Rows.uptoSmall) rfl false
   ⟨#[], #[.slice none 0 0, .slice none 0 0, .int .i64 0, .int .i64 0],[]⟩ 8 (by kernel_rfl) (by kernel_rfl) (by kernel_rfl)
   (x:=([.nil, .nil, .lit (.int .i64 0), .lit (.int .i64 0)],[],[])) (by kernel_rfl) rfl (by kernel_rfl)) ?_
 intro W base args ds gs before hval hW _ hk _;exact contract H enc W base args ds gs before hval hW hk
theorem proved:Rows.SuspRawUptoSaid:=
 OpenClaim.holds_of_cond 3 Try.f3 rfl rfl rfl rfl rfl rfl rfl ⟨rfl,rfl,rfl,rfl,rfl⟩ rfl rfl rfl rfl rfl (by kernel_rfl) Try.func3 (by kernel_rfl)
  (of_decide_eq_true (by kernel_rfl)) (by unfold Func.isWrapper;first | (rw [if_pos (by decide+kernel)];kernel_rfl) | (rw [if_neg (by decide+kernel)];exact ⟨rfl,rfl⟩))
  (fun os started H enc _ F=>lifted os started H enc F)
end Go.Proofs.Ytmgbnkbcjkdfjaa.suspRaw
