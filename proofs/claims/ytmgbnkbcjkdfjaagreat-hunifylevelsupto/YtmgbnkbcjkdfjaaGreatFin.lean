/- HunifyLevels: the statement HunifyLevelsUptoSaid, from the contract of its function. No conditions. -/
import Derived.Test.YtmgbnkbcjkdfjaaGreatPart7
set_option maxRecDepth 100000
open Go Go.Proofs
namespace Go.Proofs.YtmgbnkbcjkdfjaaGreat.hunifyLevels
open Go.ChangeShapes Go.WideShapes Go.ChangeAt Go.RowKit Go.AM Go.Proofs.YtmgbnkbcjkdfjaaGreat.base
theorem contract (H:Type) (enc:TypeId×Value→H) (W:World) (base:Nat) (args:Array Value) (ds gs:List (DataW H)) (before:List MemPlace)
  (hval:∀ (j:Nat) t v,Tryz.f7.params[j]? =some t→args[j]? =some v→Value.okWide Tryz.prog W .any base t v)
  (hW:DataW.Whole enc Tryz.prog Tryz.f7.params.toList Rows.hunifyLevelsSpec.vars false W args.toList ds gs before) (hk:Rows.uptoSmall H (ds++gs)=true):
  Calls Tryz.prog 7 args W fun e W'=> ∃ v,e= .returned v∧Rows.hunifyLevelsSpec.post enc Tryz.prog Tryz.f7 false true false false W args v W':=by
 have hW':=hW;obtain ⟨p,q,hA0,hV,rfl,hfz,hnd⟩:=hW;have hA:DataW.TrodAll enc Tryz.prog W 0 (fun _=>true) true Tryz.f7.params.toList args.toList ds p:=hA0;rw [Tryz.params7] at hA hval;obtain ⟨v0,vs0,d0,ds0,p0,q0,hargs,rfl,rfl,h0,r0⟩:=trodAll_cons hA;obtain ⟨v1,vs1,d1,ds1,p1,q1,rfl,rfl,rfl,h1,r1⟩:=trodAll_cons r0;obtain ⟨v2,vs2,d2,ds2,p2,q2,rfl,rfl,rfl,h2,r2⟩:=trodAll_cons r1;obtain ⟨rfl,rfl,rfl⟩:=trodAll_nil r2;obtain rfl:args= #[v0,v1,v2]:=by cases args;simp_all
 obtain ⟨rfl,rfl⟩:=trodVars_none hV;obtain ⟨f0,f1,f2,f3,hT⟩:=tmTy;obtain ⟨a0,e0,z0⟩:=znp (n:=1) (F:=fun l:Int=> [FV.int .i64 l]) (sz:=fun _=>1) bulk (fun _=>rfl) (by kernel_rfl) (by omega) (fun _=>Nat.le_refl _) (fun k=>zqr Tryz.underlying3 bulk.one k) Tryz.underlying22 (hval 0 22 v0 rfl rfl) h0;obtain ⟨a1,e1,z1⟩:=zdd bulk hT Tryz.underlying23 (hval 1 23 v1 rfl rfl) h1;obtain ⟨a2,e2,z2⟩:=zdd bulk hT Tryz.underlying23 (hval 2 23 v2 rfl rfl) h2;have hu:=upto hk;simp only [List.append_nil,Rows.uptoBulkAll] at hu;have hc:=zm0 a0 a1 a2 (fun t ht=>Nat.le_trans (Tm.bks_mem ht) (by first | (simp only [B];omega) | omega)) (fun t ht=>Nat.le_trans (Tm.bks_mem ht) (by first | (simp only [B];omega) | omega));refine (law_true (fun g hg=>(noGl g hg).elim) hc (vals:=[v0,v1,v2]) (.cons e0 (.cons e1 (.cons e2 .nil)))).mono fun e W' ⟨he,foot,hf,g⟩=> ?_;refine ⟨_,he,zps laidOut hW' rfl (fun ds' hd=> ?_) (fun t ht=> ?_) (by kernel_rfl) Tryz.underlying4 g hf⟩
 · match ds',hd with
   | [_,_,_],_=>rfl
 · rw [Tryz.params7] at ht;simp only [List.mem_cons,List.not_mem_nil,or_false] at ht;rcases ht with rfl | rfl | rfl
   · exact ⟨rec22,lt22⟩
   · exact ⟨rec23,lt23⟩
   · exact ⟨rec23,lt23⟩
set_option maxRecDepth 100000 in
theorem lifted (os:Os)(started:os.Started)(H:Type)(enc:TypeId×Value→H)(F:Stop.Interp):
  ReturnsInHanded {} Tryz.checked os 7 .any ((Rows.OpenSpec.upto Rows.hunifyLevelsSpec).pre6 enc Tryz.prog Tryz.f7 Rows.hunifyLevelsUptoRow.domain false) (((Rows.OpenSpec.upto Rows.hunifyLevelsSpec).at F).post enc Tryz.prog Tryz.f7 false true false false):=by
 refine returnsInHanded_of_cond (C:=Tryz.checked) (s:=Rows.OpenSpec.upto Rows.hunifyLevelsSpec) (k:=Rows.uptoSmall) rfl own started (by kernel_rfl) Tryz.func7
  (OpenSpec.witness (enc:=enc) (C:=Tryz.checked) (s:=Rows.OpenSpec.upto Rows.hunifyLevelsSpec) (k:=Rows.uptoSmall) rfl false
   ⟨#[], #[.slice none 0 0, .slice none 0 0, .slice none 0 0],[]⟩ 8 (by kernel_rfl) (by kernel_rfl) (by kernel_rfl)
   (x:=([.nil, .nil, .nil],[],[])) (by kernel_rfl) rfl (by kernel_rfl)) ?_
 intro W base args ds gs before hval hW _ hk _;exact contract H enc W base args ds gs before hval hW hk
theorem and2 {a b:Bool}(ha:a=true)(hb:b=true):(a&&b)=true:=by rw [ha,hb];rfl
set_option maxRecDepth 100000 in
theorem j_maps:mapsRowed Tryz.pinned.checked.prog=true:=by kernel_rfl
set_option maxRecDepth 100000 in
theorem j_in:(Rows.hunifyLevelsUptoRow.inPlace==Tryz.pinned.checked.prog.inPlace 7)=true:=by kernel_rfl
set_option maxRecDepth 100000 in
theorem j_un:(Rows.hunifyLevelsUptoRow.unfollowed==Tryz.pinned.checked.prog.unfollowed 7)=true:=by kernel_rfl
set_option maxRecDepth 100000 in
theorem j_re:(Rows.hunifyLevelsUptoRow.recurses==Tryz.pinned.checked.prog.recurses 7)=true:=by kernel_rfl
set_option maxRecDepth 100000 in
theorem j_na:(Rows.hunifyLevelsUptoRow.named==Tryz.pinned.checked.prog.varsNamed 7)=true:=by kernel_rfl
set_option maxHeartbeats 4000000 in
set_option maxRecDepth 100000 in
theorem joined:joinedFacts Tryz.pinned.checked.prog 7 Tryz.f7 (Rows.OpenSpec.upto Rows.hunifyLevelsSpec).bare Rows.hunifyLevelsUptoRow=true:=by
 unfold joinedFacts;exact (and2 (and2 (and2 (and2 (and2 (and2 (and2 (and2 (and2 (and2 (and2 (and2 (and2 (and2 (and2 (and2 (and2 (and2 (and2 (and2 (and2 (and2 (and2 (and2 (and2 (and2 (and2 (and2 (and2 (and2 (and2 (by as_aux_lemma=>kernel_rfl) (by as_aux_lemma=>kernel_rfl)) j_maps) (by as_aux_lemma=>kernel_rfl)) (by as_aux_lemma=>kernel_rfl)) (by as_aux_lemma=>kernel_rfl)) (by as_aux_lemma=>kernel_rfl)) (by as_aux_lemma=>kernel_rfl)) (by as_aux_lemma=>kernel_rfl)) j_in) j_un) j_re) j_na) (by as_aux_lemma=>kernel_rfl)) (by as_aux_lemma=>kernel_rfl)) (by as_aux_lemma=>kernel_rfl)) (by as_aux_lemma=>kernel_rfl)) (by as_aux_lemma=>kernel_rfl)) (by as_aux_lemma=>kernel_rfl)) (by as_aux_lemma=>kernel_rfl)) (by as_aux_lemma=>kernel_rfl)) (by as_aux_lemma=>kernel_rfl)) (by as_aux_lemma=>kernel_rfl)) (by as_aux_lemma=>kernel_rfl)) (by as_aux_lemma=>kernel_rfl)) (by as_aux_lemma=>kernel_rfl)) (by as_aux_lemma=>kernel_rfl)) (by as_aux_lemma=>kernel_rfl)) (by as_aux_lemma=>kernel_rfl)) (by as_aux_lemma=>kernel_rfl)) (by as_aux_lemma=>kernel_rfl)) (by as_aux_lemma=>kernel_rfl))
theorem proved:Rows.HunifyLevelsUptoSaid:=
 OpenClaim.holds_of_cond 7 Tryz.f7 rfl rfl rfl rfl rfl rfl rfl ⟨rfl,rfl,rfl,rfl,rfl⟩ rfl rfl rfl rfl rfl (by kernel_rfl) Tryz.func7 joined
  (of_decide_eq_true (by kernel_rfl)) (by unfold Func.isWrapper;first | (rw [if_pos (by decide+kernel)];kernel_rfl) | (rw [if_neg (by decide+kernel)];exact ⟨rfl,rfl⟩))
  (fun os started H enc _ F=>lifted os started H enc F)
end Go.Proofs.YtmgbnkbcjkdfjaaGreat.hunifyLevels
