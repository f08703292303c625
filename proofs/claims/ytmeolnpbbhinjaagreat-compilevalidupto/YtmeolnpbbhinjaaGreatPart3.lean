/- Contracts of the code's functions over plain values, and plain laws: part 3. No conditions. -/
import Derived.Test.YtmeolnpbbhinjaaGreatPart2
import Derived.ProofKit
import Derived.OpenShut
import Derived.JoinedCond
import Derived.WalkKit
import Derived.RangeFuncIn
import Derived.IntWalk
import Derived.Test.YtmeolnpbbhinjaaGreatProg
namespace Go.AM
open Go.ChangeShapes Go.WideShapes Go.ChangeAt Go.RowKit
section
variable {H:Type} {enc:TypeId×Value→H} {P:Program} {w:World}
abbrev z8z:Nat→Prop:=fun _=>False
def RdN (enc:TypeId×Value→H)(P:Program)(w:World)(b:DataW H→Nat)(fuel:Nat)(t:TypeId){α:Type}(F:α→List FV)(sz:α→Nat):Prop:=
 ∀ cs x,DataW.trod enc P w 0 (fun _=>true) true fuel t cs=some x→∃ a,LRep (FRep w z8z) (F a) cs∧sz a≤b x.1
theorem rd_int {b:DataW H→Nat}{t:TypeId}{k:IntKind}(ht:P.underlying t=some (.int k))(hb:∀ d,1≤b d)(fuel:Nat):RdN enc P w b fuel t (fun n:Int=> [.int k n]) (fun _=>1):=by
 intro cs x h;obtain ⟨n,rfl,rfl,_⟩:=DataW.trod_int ht h;exact ⟨n, .cons (.int k n) .nil,hb _⟩
def Num (k:IntKind):={ n:Int // (Lit.int k n).wf=true }
theorem rd_num {b:DataW H→Nat}{t:TypeId}{k:IntKind}(ht:P.underlying t=some (.int k))(hb:∀ d,1≤b d)(fuel:Nat):RdN enc P w b fuel t (fun n:Num k=> [.int k n.1]) (fun _=>1):=by
 intro cs x h;obtain ⟨n,rfl,rfl,hw⟩:=DataW.trod_int ht h;exact ⟨⟨n,hw⟩, .cons (.int k n) .nil,hb _⟩
theorem rd_str {b:DataW H→Nat}{t:TypeId}(ht:P.underlying t=some .string)(hb:∀ l:List UInt8,l.length+1≤b (.lit (.string l)))(fuel:Nat):RdN enc P w b fuel t (fun l:List UInt8=> [.str l]) (fun l=>l.length+1):=by
 intro cs x h;obtain ⟨s,rfl,rfl,_⟩:=DataW.trod_string ht h;refine ⟨s.data.toList, .cons ?_ .nil,hb _⟩;have:(⟨s.data.toList.toArray⟩:ByteArray)=s:=by simp
 have h2:=FRep.str (w:=w) (X:=z8z) s.data.toList;rw [this] at h2;exact h2
def zco {α:Type}(sz:α→Nat):List α→Nat
 | []=>0
 | a::l=>sz a+zco sz l
theorem sum_le {α:Type}{sz:α→Nat}{b:DataW H→Nat}{bs:List (DataW H)→Nat}(hbs:∀ d l,bs (d::l)=b d+bs l):∀ {xs:List α} {es:List (DataW H×List MemPlace)},xs.length=es.length→(∀ (i:Nat) (x:α) (y:DataW H×List MemPlace),xs[i]? =some x→es[i]? =some y→sz x≤b y.1)→zco sz xs≤bs (es.map (·.1))
 | [],_,_,_=>by simp [zco]
 | x::xs,[],h,_=>by simp at h
 | x::xs,e::es,h,hr=>by
  have h1:=hr 0 x e rfl rfl;have h2:=sum_le (sz:=sz) hbs (xs:=xs) (es:=es) (by simpa using h) fun i x y hx hy=>hr (i+1) x y (by simpa using hx) (by simpa using hy);simp only [zco,List.map_cons,hbs];omega
theorem zgr {a:Addr}{n:Nat}{cs:List Value}(h:w.cells? 0 a n=some cs):cs.length=n∧∀ j u,cs[j]? =some u→w.cell? (a.add j)=some u:=by
 unfold World.cells? at h;rw [if_pos (Nat.zero_le _)] at h;refine ⟨by have:=mapM_some_length h;simpa using this,fun j u hu=> ?_⟩
 have hj:j<n:=by
  have h1:=(List.getElem?_eq_some_iff.1 hu).1;have:=mapM_some_length h;simp at this;omega
 have:=mapM_some_get h j j (by simp [hj]);rw [this,hu]
theorem zsr {a:Addr}{u:Value}(h:w.cell? a=some u):a.spot=none:=by
 unfold World.cell? at h;split at h
 · split at h
   · cases h
   · rename_i hs;simpa using hs
 · cases h
theorem cell_blk {a:Addr}{u:Value}(h:w.cell? a=some u):a.block<w.heap.size:=by
 apply Decidable.byContradiction;intro hn;have:w.heap[a.block]? =none:=by simp;omega
 simp [World.cell?,this] at h
theorem add_zero (a:Addr):a.add 0=a:=rfl
theorem zln (b o k:Nat):(Addr.mk b o none).add k=⟨b,o+k,none⟩:=by
 unfold Addr.add;split
 · rename_i h;rw [h];rfl
 · rfl
theorem rd_slice {b:DataW H→Nat} {bs:List (DataW H)→Nat} (hbs:∀ d l,bs (d::l)=b d+bs l) (hb0:∀ d,1≤b d) (hb:∀ es sp,bs es+1≤b (.slice es sp)) {t e:TypeId} (ht:P.underlying t=some (.slice e)) {n:Nat} (hn:P.cellsOf e=n) (hn0:0<n)
  {α:Type} {F:α→List FV} {sz:α→Nat} (hF:∀ a,(F a).length=n) {fuel:Nat} (ih:∀ k,k<fuel→RdN enc P w b k e F sz):RdN enc P w b fuel t (fun l:List α=> [.sl false n (l.map F)]) (fun l=>zco sz l+1):=by
 intro cs x h;rcases DataW.trod_slice ht h with ⟨rfl,rfl⟩ | ⟨a,len,cap,elems,rest,k,rfl,rfl,rfl,_,hlc,_,hlen,hel,hrest,_⟩
 · exact ⟨[], .cons (.slnil n) .nil,by simpa [zco] using hb0 _⟩
 · rw [hn] at hel
   have key:∀ (i:Nat) (y:DataW H×List MemPlace),elems[i]? =some y→∃ x:α,(∃ cs,w.cells? 0 (a.add (i*n)) n=some cs∧LRep (FRep w z8z) (F x) cs)∧sz x≤b y.1:=by
    intro i y hy;have hi:i<len:=by rw [←hlen];exact (List.getElem?_eq_some_iff.1 hy).1
    have h1:=hel i hi;rw [hy] at h1;obtain ⟨cs,h2,h3⟩:=Option.bind_eq_some_iff.1 h1;obtain ⟨x,h4,h5⟩:=ih k (Nat.lt_succ_self _) cs y h3;exact ⟨x,⟨cs,h2,h4⟩,h5⟩
   have key2:∃ xs:List α,xs.length=elems.length∧∀ (i:Nat) (x:α),xs[i]? =some x→(∃ cs,w.cells? 0 (a.add (i*n)) n=some cs∧LRep (FRep w z8z) (F x) cs)∧∀ y,elems[i]? =some y→sz x≤b y.1:=by
    have:∀ (l:List (DataW H×List MemPlace)) (o:Nat),(∀ i,l[i]? =elems[o+i]?)→∃ xs:List α,xs.length=l.length∧∀ (i:Nat) (x:α),xs[i]? =some x→(∃ cs,w.cells? 0 (a.add ((o+i)*n)) n=some cs∧LRep (FRep w z8z) (F x) cs)∧∀ y,l[i]? =some y→sz x≤b y.1:=by
     intro l
     induction l with
     | nil=>exact fun o _=>⟨[],rfl,fun i x h=>by simp at h⟩
     | cons y l ih=>
      intro o ho;obtain ⟨x,hx1,hx2⟩:=key o y (by have:=ho 0;simpa using this.symm);obtain ⟨xs,h1,h2⟩:=ih (o+1) (fun i=>by have:=ho (i+1);rw [show o+1+i=o+(i+1) by omega];simpa using this);refine ⟨x::xs,by simp [h1],fun i x' hx'=> ?_⟩;cases i with
      | zero=>simp at hx';subst hx';exact ⟨by simpa using hx1,fun y' hy'=>by simp at hy';subst hy';exact hx2⟩
      | succ i=>
       have:=h2 i x' (by simpa using hx');rw [show o+1+i=o+(i+1) by omega] at this;exact ⟨this.1,fun y' hy'=>this.2 y' (by simpa using hy')⟩
    obtain ⟨xs,h1,h2⟩:=this elems 0 (fun i=>by simp);exact ⟨xs,h1,fun i x hx=>by simpa using h2 i x hx⟩
   obtain ⟨xs,hxl,hx⟩:=key2;have hsum:=sum_le (sz:=sz) (b:=b) hbs hxl (fun i x y h1 h2=>(hx i x h1).2 y h2);have hb':=hb (elems.map (·.1)) (rest.map (·.1));refine ⟨xs, ?_,show zco sz xs+1≤b (.slice (elems.map (·.1)) (rest.map (·.1))) by omega⟩;by_cases hc0:cap=0
   · have h0:len=0:=by omega
     subst hc0;subst h0;have:xs=[]:=List.length_eq_zero_iff.1 (by omega);subst this;exact .cons (.sl0 false n a) .nil
   · have hone:∃ cs,w.cells? 0 a n=some cs:=by
      by_cases h0:len=0
      · have hr:=(hrest rfl).2 0 (by omega)
        have hr':rest[0]? ≠ none:=by
         rw [List.getElem?_eq_getElem (by rw [(hrest rfl).1];omega)];simp
        rw [hn] at hr;rw [h0,show (0+0)*n=0 by simp,add_zero] at hr;cases hcl:w.cells? 0 a n with
        | none=>rw [hcl] at hr;exact absurd hr.symm hr'
        | some cs=>exact ⟨cs,rfl⟩
      · have:0<xs.length:=by omega
        obtain ⟨⟨cs,h1,_⟩,_⟩:=hx 0 xs[0] (by simp [this]);rw [show 0*n=0 by simp,add_zero] at h1;exact ⟨cs,h1⟩
     obtain ⟨cs0,hq⟩:=hone;obtain ⟨hl0,hq'⟩:=zgr hq;have hq0:=hq' 0 (cs0[0]'(by omega)) (by simp);rw [add_zero] at hq0;have hsp:a.spot=none:=zsr hq0;have hbl:a.block<w.heap.size:=cell_blk hq0;obtain ⟨blk,off,sp⟩:=a;have hsp:sp=none:=hsp;subst hsp;refine .cons (.sl false n (xs.map F) blk off cap len (fun i j=>(w.cell? ⟨blk,off+i*n+j,none⟩).getD (.bool false)) (by rw [List.length_map];omega) (by rw [List.length_map];omega) (fun h=>h) hbl (fun i e he=> ?_) (fun i j e f he hf=> ?_) (fun i j e f he hf=> ?_)) .nil
     · rw [List.getElem?_map] at he;obtain ⟨x,_,rfl⟩:=Option.map_eq_some_iff.1 he;exact hF x
     all_goals
      rw [List.getElem?_map] at he;obtain ⟨x,hxi,rfl⟩:=Option.map_eq_some_iff.1 he;obtain ⟨⟨cs,h1,h2⟩,_⟩:=hx i x hxi;obtain ⟨h3,h4⟩:=zgr h1;have hj:j<cs.length:=by rw [←h2.1];exact (List.getElem?_eq_some_iff.1 hf).1
      have h5:=h4 j cs[j] (by simp);rw [zln,zln] at h5
     · rw [h5];rfl
     · rw [h5];exact h2.2 j f cs[j] hf (by simp)
structure TmTy (P:Program)(T:TypeId)(f0 f1 f2 f3:Field):Prop where
 str:P.underlying T=some (.struct #[f0,f1,f2,f3])
 u0:P.underlying f0.type=some (.int .i64)
 u1:P.underlying f1.type=some .string
 u2:P.underlying f2.type=some (.int .i64)
 u3:P.underlying f3.type=some (.slice T)
 o0:f0.offset=0
 o1:f1.offset=1
 o2:f2.offset=2
 o3:f3.offset=3
 c0:P.cellsOf f0.type=1
 c1:P.cellsOf f1.type=1
 c2:P.cellsOf f2.type=1
 c3:P.cellsOf f3.type=1
 cT:P.cellsOf T=4
structure Bulk (b:DataW H→Nat)(bs:List (DataW H)→Nat):Prop where
 nil:bs []=0
 cons:∀ d l,bs (d::l)=b d+bs l
 one:∀ d,1≤b d
 slice:∀ es sp,bs es+1≤b (.slice es sp)
 str:∀ l:List UInt8,l.length+1≤b (.lit (.string l))
 agg:∀ l,bs l+1≤b (.agg l)
theorem LRep.one {α:Type}{R:α→Value→Prop}{c:α}{u:Value}(h:LRep R [c] [u]):R c u:=h.2 0 c u rfl rfl
theorem none_own {Y:Nat→Prop}(hY:∀ b,¬Y b){Hs:List AObj}:(fun b=>Y b∨Own (fun o=>Hs.getD o .gone) (fun _=>none) b)=z8z:=by
 funext b
 refine propext ⟨fun h=> ?_,fun h=>h.elim⟩;rcases h with h | ⟨o,_,h⟩
 · exact (hY b h).elim
 · cases h
abbrev β0:Nat→Option Nat:=fun _=>none
theorem ztc {w':World}{foot:Nat→Prop}(g:Good w foot w')(hf:∀ b,¬foot b)(may:MemPlace→Prop):w.keptBut w' may:=by
 refine ⟨g.os,g.output,fun i hi=> ?_⟩;rw [g.blk i hi (hf i)];exact (World.keptBut_refl w may).2.2 i hi
theorem zu3 {w':World}{foot:Nat→Prop}(g:Good w foot w')(hf:∀ b,¬foot b){p:MemPlace}(hp:p.block<w.heap.size):w.sameAt w' p:=by
 cases p with
 | cell b o=>exact World.cell?_of_block (a:=⟨b,o,none⟩) (g.blk b hp (hf b))
 | map b=>exact g.blk b hp (hf b)
theorem z80 (hl:laidOutB P=true){w':World}{sp:Nat→Bool}:∀ {ts:List TypeId} {vs:List Value} {ds:List (DataW H)} {p:List MemPlace},DataW.TrodAll enc P w 0 (fun _=>true) true ts vs ds p→
  (∀ t∈ts,P.readableRec t=true∧t<P.types.size)→(∀ x∈p,w.sameAt w' x)→(∀ x∈p,sp x.block=true)→DataW.TrodAll enc P w' 0 sp true ts vs ds p
 | [],_,_,_,h,_,_,_=>by
  obtain ⟨rfl,rfl,rfl⟩:=trodAll_nil h;exact trodAll_mk0
 | t::ts,_,_,_,h,ht,hs,hsp=>by
  obtain ⟨v,vs',d,ds',p,q,rfl,rfl,rfl,⟨n,h1⟩,h2⟩:=trodAll_cons h;have hr:=(ht t List.mem_cons_self).1
  exact ⟨p,q,⟨n,DataW.trod_stays (kids_book hl hr) (book_sized hr) (fun h=>by cases h) ⟨(ht t List.mem_cons_self).2,book_self t⟩ h1 (fun x hx=>hs x (List.mem_append_left _ hx)) (fun x hx=>hsp x (List.mem_append_left _ hx))⟩,
   z80 hl h2 (fun u hu=>ht u (List.mem_cons_of_mem _ hu)) (fun x hx=>hs x (List.mem_append_right _ hx)) (fun x hx=>hsp x (List.mem_append_right _ hx)),rfl⟩
theorem zrm (hl:laidOutB P=true) {f:Func} {s:ChangeSpec} {apart fresh handsOn again:Bool} {w':World} {args:Array Value} {ds gs:List (DataW H)} {before:List MemPlace} {foot:Nat→Prop} {tb:TypeId}
  (hW:DataW.Whole enc P f.params.toList s.vars apart w args.toList ds gs before) (hv:s.vars=[]) (hs:∀ ds':List (DataW H),ds'.length=ds.length→s.fn H ds'={ results:=[.lit (.bool true)],args:=ds' })
  (ht:∀ t∈f.params.toList,P.readableRec t=true∧t<P.types.size) (hr:f.resultTypes= #[tb]) (hb:P.underlying tb=some .bool) (g:Good w foot w') (hf:∀ b,¬foot b):
  s.post enc P f apart fresh handsOn again w args (.bool true) w':=by
 have hlt:=hW.lt;obtain ⟨p,q,h1,h2,he,hz,hn⟩:=hW;rw [hv] at h2;obtain ⟨rfl,rfl⟩:=trodVars_none h2;rw [List.append_nil] at he;subst he;have hold:∀ x∈before,(fun b=>decide (b<w.heap.size)) x.block=true:=fun x hx=>by simpa using hlt x hx
 have hfn:=hs (ds++ []) (by simp)
 have hargs:∀ sp:Nat→Bool,(∀ x∈before,sp x.block=true)→DataW.TrodAll enc P w' 0 sp true f.params.toList args.toList (s.fn H (ds++ [])).args before:=fun sp hsp=>by
  rw [hfn,List.append_nil];exact z80 hl h1 ht (fun x hx=>zu3 g hf (hlt x hx)) hsp
 have hres:∀ (b:Nat) (sp:Nat→Bool) (hd:Bool),DataW.TrodAll enc P w' b sp hd f.resultTypes.toList ((Value.bool true).resultList f.resultTypes.size) (s.fn H (ds++ [])).results []:=fun b sp hd=>by
  rw [hfn,hr];exact trodAll_mk1 ⟨1,by simp [DataW.trod,Value.cells,hb]⟩
 have hvars:∀ sp:Nat→Bool,DataW.TrodVars enc P w' sp s.vars (s.fn H (ds++ [])).vars []:=fun sp=>by
  rw [hfn,hv];rfl
 refine ⟨ds,[],before,[],before,[],⟨before,[],h1,by rw [hv];rfl,by simp,hz,hn⟩,hres _ _ _,hargs _ hold,hvars _,World.keptBut_mono (fun x hx=>⟨hx, ?_⟩) (ztc g hf (· ∈before)),fun _=> ?_⟩
 · simpa using hx
 · refine ⟨ok_one hr rfl (okWide_bool_mk hb _),_,_,([]++before)++ [],⟨[]++before,[],trodAll_append (hargs _ (fun _ _=>rfl)) (hres _ _ _),hvars _,rfl, ?_, ?_⟩, ?_⟩
   · intro b off hp;have hp:MemPlace.cell b off∈before:=by simpa using hp
     have hb:=hlt _ hp
     have:w'.frozen? ⟨b,off,none⟩=w.frozen? ⟨b,off,none⟩:=by
      unfold World.frozen?;rw [g.blk b hb (hf b)]
     rw [this];exact hz b off hp
   · intro ha;simpa using hn ha
   · intro x hx _;simpa using hx
theorem law_true {f:FuncId}{args:List TV}(hgl:Gl P w z8z)(h:AC P f args [] (cb true) []){vals:List Value}(hv:LRep (TRep w z8z β0) args vals):
  Calls P f vals.toArray w fun e w'=>e= .returned (.bool true)∧∃ foot,(∀ b,¬foot b)∧Good w foot w':=by
 have hX:(fun b=>(fun _:Nat=>False) b∨Own (fun o=>([]:List AObj).getD o .gone) β0 b)=z8z:=none_own (fun _ h=>h);refine (h.2.2 w vals β0 (fun _=>False) (fun o b h=>by cases h) (fun b h=>h.elim) (hgl.sub fun b ⟨o,h5,_⟩=>by simp [isLive] at h5) ⟨fun o b h _=>by simp [isLive] at h,fun o h=>by simp [isLive] at h,fun o o' b h=>by simp [isLive] at h,fun o b h=>by cases h⟩ (by rw [hX];exact hv)).mono fun e w' ⟨v,β',h1,h2,h3,h4,_⟩=> ?_;subst h1;cases h4 with
 | a _ _ h4=>
  cases h4 with
  | fz _ _ h4=>
   cases h4;exact ⟨rfl,_,fun b ⟨o,h5,_⟩=>by simp [isLive] at h5,h2⟩
end
end Go.AM

namespace Go.AM
open Go.ChangeShapes Go.WideShapes Go.ChangeAt Go.RowKit
section
variable {H:Type} {enc:TypeId×Value→H} {P:Program} {w:World}
theorem zeo {n:Int}(h:(Lit.int .i64 n).wf=true): -9223372036854775808≤n∧n≤9223372036854775807:=by
 simp only [Lit.wf,IntKind.min,IntKind.max,IntKind.signed,IntKind.bits,Bool.and_eq_true,decide_eq_true_eq,if_true] at h;omega
abbrev TmI:={ t:Tm // okI t }
theorem zgn:∀ l:List TmI,Tm.bks (l.map (·.1))=zco (fun t:TmI=>t.1.bk) l
 | []=>rfl
 | t::l=>by rw [List.map_cons,Tm.bks,zco,zgn l]
theorem okIs_val (l:List TmI):okIs (l.map (·.1)):=zqu fun t ht=>by
 obtain ⟨u,_,rfl⟩:=List.mem_map.1 ht;exact u.2
theorem zld {b:DataW H→Nat}{bs:List (DataW H)→Nat}(hb:Bulk b bs){T:TypeId}{f0 f1 f2 f3:Field}(hT:TmTy P T f0 f1 f2 f3):∀ fuel,RdN enc P w b fuel T (fun t:TmI=>FT t.1) (fun t=>t.1.bk):=by
 intro fuel
 induction fuel using Nat.strongRecOn with
 | _ fuel ih=>
  intro cs x h;obtain ⟨xs,n,rfl,rfl,hl,hxl,hf⟩:=DataW.trod_struct hT.str h;rw [hT.cT] at hl
  match cs,hl with
  | [v0,v1,v2,v3],_=>
  match xs,hxl with
  | [x0,x1,x2,x3],_=>
  have g0:=hf 0 f0 rfl;have g1:=hf 1 f1 rfl;have g2:=hf 2 f2 rfl;have g3:=hf 3 f3 rfl;rw [hT.o0,hT.c0] at g0;rw [hT.o1,hT.c1] at g1;rw [hT.o2,hT.c2] at g2;rw [hT.o3,hT.c3] at g3;obtain ⟨k,r0,_⟩:=rd_int (b:=b) hT.u0 hb.one n _ _ g0;obtain ⟨s,r1,z1⟩:=rd_str (b:=b) hT.u1 hb.str n _ _ g1;have z1:s.length+1≤b x1.1:=z1;obtain ⟨m,r2,_⟩:=rd_num (b:=b) hT.u2 hb.one n _ _ g2;obtain ⟨l,r3,z3⟩:=rd_slice (F:=fun t:TmI=>FT t.1) (sz:=fun t:TmI=>t.1.bk) hb.cons hb.one hb.slice hT.u3 hT.cT (by omega) (fun t=>z3n t.1) (fun k hk=>ih k (by omega)) _ _ g3;have z3:zco (fun t:TmI=>t.1.bk) l+1≤b x3.1:=z3;refine ⟨⟨.mk k s m.1 (l.map (·.1)),zeo m.2,okIs_val l⟩, ?_, ?_⟩
  · have e:FTs (l.map (·.1))=l.map fun t:TmI=>FT t.1:=by rw [z2x,List.map_map];rfl
    show LRep (FRep w z8z) (FT (.mk k s m.1 (l.map (·.1)))) _;rw [FT,e];exact .cons (LRep.one r0) (.cons (LRep.one r1) (.cons (LRep.one r2) (.cons (LRep.one r3) .nil)))
  · have:=hb.one x0.1;show Tm.bk (.mk k s m.1 (l.map (·.1)))≤b (.agg [x0.1,x1.1,x2.1,x3.1]);simp only [Tm.bk,zgn];have h9:=hb.agg [x0.1,x1.1,x2.1,x3.1];simp only [hb.cons,hb.nil] at h9;omega
end
end Go.AM

namespace Go.AM
open Go.ChangeShapes Go.WideShapes Go.ChangeAt Go.RowKit
end Go.AM

namespace Go.AM
open Go.ChangeShapes Go.WideShapes Go.ChangeAt Go.RowKit
mutual
inductive Cd where
 | mk (nm:List UInt8) (ar fr vs sl:Int) (ins:List In1)
inductive In1 where
 | mk (k a:Int) (t:Tm) (l:List Tm) (c:List Cd)
end
namespace Cd
def nm:Cd→List UInt8 | .mk x _ _ _ _ _=>x
def ar:Cd→Int | .mk _ x _ _ _ _=>x
def fr:Cd→Int | .mk _ _ x _ _ _=>x
def vs:Cd→Int | .mk _ _ _ x _ _=>x
def sl:Cd→Int | .mk _ _ _ _ x _=>x
def ins:Cd→List In1 | .mk _ _ _ _ _ x=>x
end Cd
namespace In1
def k:In1→Int | .mk x _ _ _ _=>x
def a:In1→Int | .mk _ x _ _ _=>x
def t:In1→Tm | .mk _ _ x _ _=>x
def l:In1→List Tm | .mk _ _ _ x _=>x
def c:In1→List Cd | .mk _ _ _ _ x=>x
end In1
instance:Inhabited Cd:=⟨.mk [] 0 0 0 0 []⟩
instance:Inhabited In1:=⟨.mk 0 0 default [] []⟩
mutual
def FC:Cd→List FV
 | .mk nm ar fr vs sl ins=> [.str nm, .int .i64 ar, .int .i64 fr, .int .i64 vs, .int .i64 sl, .sl false 8 (FIs ins)]
def FI:In1→List FV
 | .mk k a t l c=> [.int .i64 k, .int .i64 a, .int .i64 t.k, .str t.s, .int .i64 t.n, .sl false 4 (FTs t.l), .sl false 4 (FTs l), .sl false 6 (FCs c)]
def FIs:List In1→List (List FV)
 | []=> []
 | x::l=>FI x::FIs l
def FCs:List Cd→List (List FV)
 | []=> []
 | x::l=>FC x::FCs l
end
theorem z5m:∀ l:List In1,FIs l=l.map FI
 | []=>by rw [FIs];rfl
 | x::l=>by rw [FIs,z5m l];rfl
theorem zap:∀ l:List Cd,FCs l=l.map FC
 | []=>by rw [FCs];rfl
 | x::l=>by rw [FCs,zap l];rfl
theorem zu7 (x:In1):(FI x).length=8:=by cases x;simp [FI]
theorem z0f (l:List In1):(FIs l).length=l.length:=by rw [z5m,List.length_map]
theorem z56 (l:List Cd):(FCs l).length=l.length:=by rw [zap,List.length_map]
mutual
def Cd.sz:Cd→Nat
 | .mk nm _ _ _ _ ins=>1+nm.length+In1.szs ins
def In1.sz1:In1→Nat
 | .mk _ _ t l c=>1+t.bk+Tm.bks l+Cd.szs c
def In1.szs:List In1→Nat
 | []=>0
 | x::l=>In1.sz1 x+In1.szs l
def Cd.szs:List Cd→Nat
 | []=>0
 | x::l=>Cd.sz x+Cd.szs l
end
theorem Cd.szs_mem:∀ {l:List Cd} {c:Cd},c∈l→c.sz≤Cd.szs l
 | x::l,c,h=>by
  rcases List.mem_cons.1 h with rfl | h
  · simp only [Cd.szs];omega
  · have:=Cd.szs_mem h;simp only [Cd.szs];omega
theorem In1.szs_mem:∀ {l:List In1} {c:In1},c∈l→c.sz1≤In1.szs l
 | x::l,c,h=>by
  rcases List.mem_cons.1 h with rfl | h
  · simp only [In1.szs];omega
  · have:=In1.szs_mem h;simp only [In1.szs];omega
theorem In1.szs_length:∀ l:List In1,l.length≤In1.szs l
 | []=>Nat.le_refl _
 | x::l=>by have:=In1.szs_length l;cases x;simp only [List.length_cons,In1.szs,In1.sz1];omega
theorem Cd.szs_length:∀ l:List Cd,l.length≤Cd.szs l
 | []=>Nat.le_refl _
 | x::l=>by have:=Cd.szs_length l;cases x;simp only [List.length_cons,Cd.szs,Cd.sz];omega
theorem Cd.ind {P:Cd→Prop}(h:∀ c,(∀ x∈c.ins,∀ d∈x.c,P d)→P c):∀ c,P c:=by
 have key:∀ n c,Cd.sz c≤n→P c:=by
  intro n
  induction n with
  | zero=>intro c hc;cases c;simp only [Cd.sz] at hc;omega
  | succ n ih=>
   intro c hc;refine h c fun x hx d hd=>ih d ?_;have h1:=In1.szs_mem hx;have h2:=Cd.szs_mem hd;cases c;cases x;simp only [Cd.sz,Cd.ins,In1.sz1,In1.c] at*;omega
 exact fun c=>key _ c (Nat.le_refl _)
abbrev aC (c:Cd):TV:= .agg [.a (.fz (.str c.nm)), .a (.fz (.int .i64 c.ar)), .a (.fz (.int .i64 c.fr)), .a (.fz (.int .i64 c.vs)), .a (.fz (.int .i64 c.sl)), .a (.fz (.sl false 8 (FIs c.ins)))]
abbrev aCs (l:List Cd):TV:= .c (.a (.fz (.sl false 6 (FCs l))))
theorem FC_eta (c:Cd):FC c=[.str c.nm, .int .i64 c.ar, .int .i64 c.fr, .int .i64 c.vs, .int .i64 c.sl, .sl false 8 (FIs c.ins)]:=by cases c;rw [FC];rfl
theorem FI_eta (x:In1):FI x=[.int .i64 x.k, .int .i64 x.a, .int .i64 x.t.k, .str x.t.s, .int .i64 x.t.n, .sl false 4 (FTs x.t.l), .sl false 4 (FTs x.l), .sl false 6 (FCs x.c)]:=by cases x;rw [FI];rfl
end Go.AM

namespace Go.AM
section
variable {β:Type}
def o1 {α:Type}(x:α)(K:α→β):β:=K x
end
end Go.AM

namespace Go.AM
abbrev FR (r:Option Nat):Fence:={ Fence.wide with round:=r }
def z5t (ops:Array Oper):Bool:=ops.all fun o=>match o.op with | .defer _=>false | _=>true
theorem zi2 {ops:Array Oper}(h:z5t ops=true):∀ (i:Nat) (o:Oper),ops[i]? =some o→∀ c,o.op ≠ .defer c:=fun i o ho c e=>by
 have:=Array.all_eq_true_iff_forall_mem.1 h o (Array.mem_of_getElem? ho);rw [e] at this;cases this
theorem ze2 {ops:Array Oper}(h:z5t ops=true):∀ o∈ops.toList,∀ c,o.op ≠ .defer c:=fun o ho=>by
 obtain ⟨i,hi⟩:=List.getElem?_of_mem ho;exact zi2 h i o (by simpa using hi)
theorem calls_in {r:Option Nat}{n:Nat}{P:Program}{f:FuncId}{args:Array Value}{w:World}{R:Ending→World→Prop}(h:Calls P f args w R):CallsIn (FR r) n P f args w R:=by
 have:=(callsIn_wide (n:=n)).2 h;exact this
theorem rows_in {r:Option Nat}{n:Nat}{P:Program}{row:String}{args:Array Value}{w:World}{R:Value→World→Prop}(h:Rows P row args w R):RowsIn (FR r) n P row args w R:=
 fun c cs _=>let ⟨v,w',hr,s⟩:=h c cs;⟨v,w',hr,stepsIn_wide.2 s⟩
theorem op_in {r:Option Nat}{n:Nat}{P:Program}{o:Oper}{a:Act}{w:World}{K:Act→World→Prop}{Q:Exit→Act→World→Prop}(hnd:∀ c,o.op ≠ .defer c)(h:o.wp P a w K Q):o.wpIn (FR r) n P a w K Q:=by
 refine ⟨fun _ _=>trivial, ?_⟩;rw [Oper.semAt_eq _ _ _ hnd];unfold Oper.wp at h;generalize (execOp a.eval o).run P w=res at h ⊢;cases res with
 | ok nx w'=>cases nx with
  | value v=>exact h
  | skip=>exact h
  | defer d=>exact h
  | enter f args=>exact ⟨fun hd=>by simp [Fence.wide] at hd,calls_in h⟩
  | row row args=>exact ⟨fun hd=>by simp [Fence.wide] at hd,rows_in h⟩
  | _=>exact h.elim
 | halt hl w'=>cases hl with
  | panic v=>exact h
  | _=>exact h.elim
theorem zkn {r:Option Nat}{n:Nat}{P:Program}{ops:Array Oper}{Q:Exit→Act→World→Prop}(hq:¬LetsOut Q):∀ {l:List Oper} {a:Act} {w:World},(∀ o∈l,∀ c,o.op ≠ .defer c)→wpList P ops Q l a w→wpListIn (FR r) n P ops Q l a w
 | [],_,_,_,h=>h
 | o::rest,a,w,hd,h=>by
  have ih:∀ a w,wpList P ops Q rest a w→wpListIn (FR r) n P ops Q rest a w:=fun a w h=>zkn hq (fun o ho=>hd o (List.mem_cons_of_mem _ ho)) h;unfold wpList at h;unfold wpListIn;split at h
  · rename_i hw;rw [if_pos hw];rcases h with h | ⟨_,h⟩
    · exact op_in (hd o List.mem_cons_self) (Oper.wp_mono ih h)
    · exact absurd h hq
  · rename_i hw;rw [if_neg hw];exact ⟨fun _ _=>trivial,ih _ _ h⟩
theorem zmx {r:Option Nat}{n:Nat}{P:Program}{ops:Array Oper}{Q:Exit→Act→World→Prop}(hq:¬LetsOut Q)(hd:∀ (i:Nat) (o:Oper),ops[i]? =some o→∀ c,o.op ≠ .defer c):∀ {fuel:Nat} {listed:Array Bool} {a:Act} {w:World},
  wpAny P .any ops Q fuel listed a w→wpAnyIn (FR r) n P .any ops Q fuel listed a w
 | 0,_,_,_,h=>h
 | fuel+1,listed,a,w,h=>by
  refine ⟨h.1,fun i hi=> ?_⟩;have h2:=h.2 i hi;unfold wpOp at h2;unfold wpOpIn;cases ho:ops[i]? with
  | none=>rw [ho] at h2;exact zmx hq hd h2
  | some o=>
   rw [ho] at h2;simp only at h2 ⊢;split at h2
   · rename_i hw;rw [if_pos hw];rcases h2 with h2 | ⟨_,h2⟩
     · exact op_in (hd i o ho) (Oper.wp_mono (fun a w h=>zmx hq hd h) h2)
     · exact absurd h2 hq
   · rename_i hw;rw [if_neg hw];exact ⟨fun _ _=>trivial,zmx hq hd h2⟩
section
variable {P:Program} {w0:World} {foot:Nat→Prop} {Y:Nat→Prop} {pin:Nat→Option (Option Nat)}
theorem zfv {r:Option Nat} {n:Nat} {id:Nat} {ops:Array Oper} {dr:Bool} {s:St} {β:Nat→Option Nat} {a:Act} {w:World} {Q:Exit→Act→World→Prop} {R:St→Prop} (hm:P.follows .mixedOrders=true) (hnd:z5t ops=true) (hq:¬LetsOut Q) (hdst:dstB ops a.tmps.size=true)
  (hl:lex P ops s.nx ops.toList 0 s.env s.heap [] fun e h tr=>(dr=true→zhf ops tr=true)∧R ⟨e,h,s.nx+32*ops.size⟩)
  (hR:RelF P w0 foot Y pin (look s.env) (hook s.heap) β a w) (hb:∀ k,Occ pin β k→k<s.nx)
  (hQ:∀ s' a' w' β',R s'→a'.tmps.size=a.tmps.size→RelF P w0 foot Y pin (look s'.env) (hook s'.heap) β' a' w'→(∀ k,Occ pin β' k→k<s'.nx)→Q .normal a' w'):(Code.region id ops dr).wpIn (FR r) n P Q a w:=by
 have hdst':∀ (j:Nat) (q:Oper) (d:Nat),ops[j]? =some q→q.dst=some d→d<a.tmps.size:=by
  intro j q d hq hd;have:=Array.all_eq_true_iff_forall_mem.1 hdst q (Array.mem_of_getElem? hq);rw [hd] at this;simpa using this
 obtain ⟨δs,e',h',tr',hch,he,hh,htr,hdraw,hRR⟩:=z89 _ _ _ _ _ hl;rw [List.append_nil] at htr
 have hfin:∀ a' w' β',a'.tmps.size=a.tmps.size→RelF P w0 foot Y pin (endE (look s.env) δs) (endH (hook s.heap) δs) β' a' w'→(∀ k,Occ pin β' k→k<s.nx+32*ops.size)→Q .normal a' w':=by
  intro a' w' β' h1 h2 h3;refine hQ _ a' w' β' hRR h1 ?_ h3;show RelF P w0 foot Y pin (look e') (hook h') β' a' w';rw [he,hh];exact h2
 cases dr with
 | false=>
  refine wpIn_region_list (zkn hq (ze2 hnd) (z8a hdst' ops.toList 0 _ _ δs β a w (fun o ho=> ?_) hch rfl hR (by simpa using hb) (fun a' w' β' h1 _ h2 h3=>hfin a' w' β' h1 h2 (by simpa using h3))));obtain ⟨j,hj⟩:=List.getElem?_of_mem ho;exact ⟨j,by simpa using hj⟩
 | true=>
  refine wpIn_region_any hm (zmx hq (zi2 hnd) ?_)
  have hR':RelF P w0 foot Y pin (look s.env) (hook s.heap) β a { w with drawn:=w.drawn+1 }:=by
   have g:Goes w { w with drawn:=w.drawn+1 } (XO Y (hook s.heap) β) (XO Y (hook s.heap) β) β β:=⟨Nat.le_refl _,fun b hb _=>⟨rfl,hb⟩,fun _ _=>rfl,fun o b hb=>⟨hb,hR.objs.lt o b hb⟩⟩
   exact ⟨hR.good.drew,fun i=>(hR.env i).goes g,⟨fun o b h1 h2=>(hR.objs.rep o b h1 h2).goes g rfl,hR.objs.has,hR.objs.inj,hR.objs.lt⟩,hR.own,hR.defers,hR.ylt,hR.pins,hR.gl⟩
  have hfalse:∀ i,(Array.replicate ops.size false).getD i false=false:=by
   intro i;by_cases hi:i<ops.size
   · simp [hi]
   · simp [hi]
  refine zd5 (w0:=w0) (foot:=foot) (Y:=Y) hch htr (hdraw rfl) hdst' hfin ops.size _ β a _ (by simp) ?_ (fun j o e _ h2=>by rw [hfalse] at h2;cases h2) rfl (z6p hR' (fun t=> ?_) (fun x=> ?_)) (fun k hk=> .inl (hb k hk))
  · have:((List.range ops.size).filter fun i=> !(Array.replicate ops.size false).getD i true)=List.range ops.size:=by
     apply List.filter_eq_self.2;intro i hi;simp only [List.mem_range] at hi;simp [hi]
    rw [this];simp
  · have key:∀ n,eD (look s.env) (fun j=>δs.getD j ⟨none, .any,[],[]⟩) (fun j=>(Array.replicate ops.size false).getD j false) n=look s.env:=by
     intro n;induction n with
     | zero=>rfl
     | succ n ih=>simp only [eD];rw [if_neg (by rw [hfalse];simp)];exact ih
    rw [key]
  · have key:∀ n,hD (hook s.heap) (fun j=>δs.getD j ⟨none, .any,[],[]⟩) (fun j=>(Array.replicate ops.size false).getD j false) n=hook s.heap:=by
     intro n;induction n with
     | zero=>rfl
     | succ n ih=>simp only [hD];rw [if_neg (by rw [hfalse];simp)];exact ih
    rw [key]
end
theorem zg3 {P:Program} {w0:World} {foot:Nat→Prop} {Y:Nat→Prop} {pin:Nat→Option (Option Nat)} {r:Option Nat} {n:Nat} {id:Nat} {ops:Array Oper} {s:St} {β:Nat→Option Nat} {a:Act} {w:World} {Q:Exit→Act→World→Prop} {R:St→Prop} (hnd:z5t ops=true) (hq:¬LetsOut Q) (hdst:dstB ops a.tmps.size=true)
  (hl:lex P ops s.nx ops.toList 0 s.env s.heap [] fun e h _=>R ⟨e,h,s.nx+32*ops.size⟩)
  (hR:RelF P w0 foot Y pin (look s.env) (hook s.heap) β a w) (hb:∀ k,Occ pin β k→k<s.nx)
  (hQ:∀ s' a' w' β',R s'→a'.tmps.size=a.tmps.size→a'.defers=a.defers→RelF P w0 foot Y pin (look s'.env) (hook s'.heap) β' a' w'→(∀ k,Occ pin β' k→k<s'.nx)→Q .normal a' w'):(Code.region id ops false).wpIn (FR r) n P Q a w:=by
 have hdst':∀ (j:Nat) (q:Oper) (d:Nat),ops[j]? =some q→q.dst=some d→d<a.tmps.size:=by
  intro j q d hq hd;have:=Array.all_eq_true_iff_forall_mem.1 hdst q (Array.mem_of_getElem? hq);rw [hd] at this;simpa using this
 obtain ⟨δs,e',h',tr',hch,he,hh,_,hRR⟩:=z89 _ _ _ _ _ hl;refine wpIn_region_list (zkn hq (ze2 hnd) (z8a hdst' ops.toList 0 _ _ δs β a w (fun o ho=> ?_) hch rfl hR (by simpa using hb) (fun a' w' β' h1 hd h2 h3=> ?_)))
 · obtain ⟨j,hj⟩:=List.getElem?_of_mem ho;exact ⟨j,by simpa using hj⟩
 · refine hQ _ a' w' β' hRR h1 hd ?_ (by simpa using h3);show RelF P w0 foot Y pin (look e') (hook h') β' a' w';rw [he,hh];exact h2
def AsgS (P:Program)(n:Nat)(A:Code)(s:St)(R:St→Prop):Prop:=
 ∀ (w0:World) (foot Y:Nat→Prop) (pin:Nat→Option (Option Nat)) (r:Option Nat) (n':Nat) (β:Nat→Option Nat) (a:Act) (w:World) (Q:Exit→Act→World→Prop),¬LetsOut Q→a.tmps.size=n→
  RelF P w0 foot Y pin (look s.env) (hook s.heap) β a w→(∀ k,Occ pin β k→k<s.nx)→
  (∀ s' a' w' β',R s'→a'.tmps.size=n→a'.defers=a.defers→RelF P w0 foot Y pin (look s'.env) (hook s'.heap) β' a' w'→(∀ k,Occ pin β' k→k<s'.nx)→Q .normal a' w')→A.wpIn (FR r) n' P Q a w
theorem AsgS.region {P:Program} {n id:Nat} {ops:Array Oper} {s:St} {R:St→Prop} (hnd:z5t ops=true) (hdst:dstB ops n=true)
  (hl:lex P ops s.nx ops.toList 0 s.env s.heap [] fun e h _=>R ⟨e,h,s.nx+32*ops.size⟩):AsgS P n (.region id ops false) s R:=by
 intro w0 foot Y pin r n' β a w Q hq ha hR hb hQ;subst ha;exact zg3 hnd hq hdst hl hR hb hQ
theorem AsgS.seq {P:Program}{n:Nat}{A A':Code}{s:St}{R R':St→Prop}(h1:AsgS P n A s R)(h2:∀ s',R s'→AsgS P n A' s' R'):AsgS P n (.seq A A') s R':=by
 intro w0 foot Y pin r n' β a w Q hq ha hR hb hQ;refine wpIn_seq (h1 w0 foot Y pin r n' β a w _ (fun ⟨_,_,h⟩=>hq ⟨_,_,h⟩) ha hR hb fun s' a' w' β' k1 k2 k3 k4 k5=> ?_);exact h2 s' k1 w0 foot Y pin r n' β' a' w' Q hq k2 k4 k5 fun s2 a2 w2 β2 j1 j2 j3 j4 j5=>hQ s2 a2 w2 β2 j1 j2 (j3.trans k3) j4 j5
section
variable {P:Program} {n m:Nat} {c:Code} {Q:AExit→St→Prop} {s:St}
def AwpR (P:Program)(n m:Nat)(c:Code)(Q:AExit→St→Prop)(s:St):Prop:=
 ∀ (l:Nat) (w0:World) (foot Y:Nat→Prop) (pin:Nat→Option (Option Nat)) (β:Nat→Option Nat) (a:Act) (w:World),(∀ o b,pin o=some b→o<m)→a.tmps.size=n→RelF P w0 foot Y pin (look s.env) (hook s.heap) β a w→(∀ k,Occ pin β k→k<s.nx)→
  c.wpIn (FR (some l)) 0 P (Lift P w0 foot Y pin n Q) a w
theorem AwpR.mono {Q':AExit→St→Prop}(h:AwpR P n m c Q s)(hq:∀ e s,Q e s→Q' e s):AwpR P n m c Q' s:=
 fun l w0 foot Y pin β a w hm hn hR hb=>wpIn_mono (h l w0 foot Y pin β a w hm hn hR hb) (Lift.mono hq)
theorem AwpR.skip (h:Q .normal s):AwpR P n m .skip Q s:=fun _ _ _ _ _ β _ _ _ hn hR hb=>wpIn_skip ⟨s,β,h,hn,hR,hb⟩
theorem AwpR.ret (h:Q .ret s):AwpR P n m .ret Q s:=fun _ _ _ _ _ β _ _ _ hn hR hb=>wpIn_ret ⟨s,β,h,hn,hR,hb⟩
theorem AwpR.exit {i:Nat}(h:Q (.exit i) s):AwpR P n m (.exit i) Q s:=fun _ _ _ _ _ β _ _ _ hn hR hb=>wpIn_exit ⟨s,β,h,hn,hR,hb⟩
theorem AwpR.seq {c₁ c₂:Code}(h:AwpR P n m c₁ (zcz (AwpR P n m c₂ Q) Q) s):AwpR P n m (.seq c₁ c₂) Q s:=fun l w0 foot Y pin β a w hm hn hR hb=>by
 refine wpIn_seq (wpIn_mono (h l w0 foot Y pin β a w hm hn hR hb) fun e a' w' hq=> ?_);cases e with
 | normal=>obtain ⟨s',β',h1,h2,h3,h4⟩:=hq;exact h1 l w0 foot Y pin β' a' w' hm h2 h3 h4
 | exit i=>exact hq
 | ret=>exact hq
 | _=>exact hq.elim
theorem AwpR.cond {x:Operand}{c₁ c₂:Code}{t:Bool}(hc:ev s.env x= .c (.a (.fz (.bool t))))(ht:t=true→AwpR P n m c₁ Q s)(hf:t=false→AwpR P n m c₂ Q s):AwpR P n m (.cond x c₁ c₂) Q s:=fun l w0 foot Y pin β a w hm hn hR hb=>by
 have hv:=hR.eval x;rw [←zhr,hc] at hv;refine wpIn_cond (t:=t) hv.bool_inv ?_;cases t with
 | true=>exact ht rfl l w0 foot Y pin β a w hm hn hR hb
 | false=>exact hf rfl l w0 foot Y pin β a w hm hn hR hb
theorem AwpR.block {i:Nat}(h:AwpR P n m c (z0u i Q) s):AwpR P n m (.block i c) Q s:=fun l w0 foot Y pin β a w hm hn hR hb=>by
 refine wpIn_block (wpIn_mono (h l w0 foot Y pin β a w hm hn hR hb) fun e a' w' hq=> ?_);cases e with
 | normal=>exact hq
 | exit j=>
  obtain ⟨s',β',h1,h2⟩:=hq;simp only [z0u] at h1;simp only [Exit.inBlock];split at h1
  · rename_i hj;rw [if_pos hj];exact ⟨s',β',h1,h2⟩
  · rename_i hj;rw [if_neg hj];exact ⟨s',β',h1,h2⟩
 | ret=>exact hq
 | _=>exact hq.elim
theorem lift_out {w0:World}{foot Y:Nat→Prop}{pin:Nat→Option (Option Nat)}:¬LetsOut (Lift P w0 foot Y pin n Q):=fun ⟨_,_,h⟩=>h
theorem AwpR.region {i:Nat} {ops:Array Oper} {d:Bool} (hP:P.follows .mixedOrders=true) (hd:dstB ops n=true) (hnd:z5t ops=true)
  (hl:lex P ops s.nx ops.toList 0 s.env s.heap [] fun e h tr=>(d=true→zhf ops tr=true)∧Q .normal ⟨e,h,s.nx+32*ops.size⟩):AwpR P n m (.region i ops d) Q s:=fun l w0 foot Y pin β a w _ hn hR hb=>by
 subst hn;exact zfv (R:=Q .normal) hP hnd lift_out hd hl hR hb fun s' a' w' β' h1 h2 h3 h4=>⟨s',β',h1,h2,h3,h4⟩
theorem AwpR.look {e1 e2:Env}{h:AHeap}{nx:Nat}(he:look e1=look e2)(hA:AwpR P n m c Q ⟨e1,h,nx⟩):AwpR P n m c Q ⟨e2,h,nx⟩:=fun l w0 foot Y pin β a w hm hn hR hb=>
 hA l w0 foot Y pin β a w hm hn (by show RelF _ _ _ _ _ (Go.AM.look e1) _ _ _ _;rw [he];exact hR) hb
theorem AwpR.uneq (h:AwpR P n m c (eqQ Q) s):AwpR P n m c Q s:=fun l w0 foot Y pin β a w hm hn hR hb=>by
 refine wpIn_mono (h l w0 foot Y pin β a w hm hn hR hb) fun e a' w' hq=> ?_
 have key:∀ x,At P w0 foot Y pin n (eqQ Q x) a' w'→At P w0 foot Y pin n (Q x) a' w':=by
  rintro x ⟨s',β',⟨e2,h1,h2⟩,h3,h4,h5⟩;exact ⟨_,β',h2,h3,by show RelF _ _ _ _ _ (Go.AM.look e2) _ _ _ _;rw [h1];exact h4,h5⟩
 cases e with
 | normal=>exact key _ hq
 | exit i=>exact key _ hq
 | ret=>exact key _ hq
 | _=>exact hq.elim
end
def z6x:Code→Bool
 | .skip=>true
 | .ret=>true
 | .exit _=>true
 | .seq a b=>z6x a&&z6x b
 | .cond _ a b=>z6x a&&z6x b
 | .block _ c=> !isLoop c&&z6x c
 | .region _ ops _=>z5t ops
 | _=>false
section
variable {P:Program} {sh:FuncId→List Sh} {n m:Nat}
theorem regR_inv (hP:P.follows .mixedOrders=true){i:Nat}{ops:Array Oper}{d:Bool}{K Q:AExit→St→Prop}{s:St}(hnd:z5t ops=true)(hk:∀ e s,K e s→Q e s)(h:regV P sh n ops d K s):AwpR P n m (.region i ops d) Q s:=by
 unfold regV at h;split at h
 · rename_i hd;refine AwpR.uneq (AwpR.region hP hd hnd ?_);have h1:=z43 rfl h;refine zek ?_ h1;rintro e1 h1 tr1 ⟨e2,he,hk2⟩;split at hk2
   · rename_i hb;refine ⟨fun hd2=> ?_,e2,he,hk _ _ hk2⟩;subst hd2;simpa using hb
   · exact hk2.elim
 · exact h.elim
theorem z4n (hP:P.follows .mixedOrders=true){G:Nat→St→Prop}:∀ {c:Code} {K Q:AExit→St→Prop} {s:St},z6x c=true→(∀ e s,K e s→Q e s)→runV P sh n m [] G c K s→AwpR P n m c Q s
 | .skip,K,Q,s,_,hk,h=>AwpR.skip (hk _ _ h)
 | .ret,K,Q,s,_,hk,h=>AwpR.ret (hk _ _ h)
 | .exit i,K,Q,s,_,hk,h=>AwpR.exit (hk _ _ h)
 | .seq a b,K,Q,s,hp,hk,h=>by
  simp only [z6x,Bool.and_eq_true] at hp;refine AwpR.seq (z4n hP hp.1 (fun e s hs=> ?_) h);cases e with
  | normal=>exact z4n hP hp.2 hk hs
  | exit i=>exact hk _ s hs
  | ret=>exact hk _ s hs
 | .cond x a b,K,Q,s,hp,hk,h=>by
  simp only [z6x,Bool.and_eq_true] at hp;unfold runV condV at h;split at h
  · rename_i t ht;split at h
    · rename_i tt;have hsame:∀ y,t=y→look ((tt,bV y)::s.env)=look s.env:=fun y hy=>zce (by simp only [ev] at ht;rw [ht,hy];rfl);cases t with
      | true=>exact AwpR.cond ht (fun _=>AwpR.look (hsame _ rfl) (z4n hP hp.1 hk h)) (fun e=>by cases e)
      | false=>exact AwpR.cond ht (fun e=>by cases e) (fun _=>AwpR.look (hsame _ rfl) (z4n hP hp.2 hk h))
    · cases t with
      | true=>exact AwpR.cond ht (fun _=>z4n hP hp.1 hk h) (fun e=>by cases e)
      | false=>exact AwpR.cond ht (fun e=>by cases e) (fun _=>z4n hP hp.2 hk h)
  · exact h.elim
 | .block i c,K,Q,s,hp,hk,h=>by
  simp only [z6x,Bool.and_eq_true,Bool.not_eq_true'] at hp;unfold runV at h;rw [hp.1] at h;exact AwpR.block (z4n hP hp.2 (z1s hk) h)
 | .region i ops d,K,Q,s,hp,hk,h=>by
  unfold runV at h;simp only [z0o,Option.isSome_none] at h;exact regR_inv hP hp hk h
 | .loop _,_,_,_,hp,_,_=>by cases hp
 | .rangeFunc ..,_,_,_,hp,_,_=>by cases hp
 | .scope _,_,_,_,hp,_,_=>by cases hp
 | .label _,_,_,_,hp,_,_=>by cases hp
 | .goto _,_,_,_,hp,_,_=>by cases hp
 | .refuse _,_,_,_,hp,_,_=>by cases hp
end
end Go.AM

namespace Go.AM
theorem AV.ren_id (x:AV):x.ren (fun o=>o)=x:=by cases x<;>rfl
theorem z7a {α:Type}{f:α→α}(h:∀ x,f x=x)(l:List α):l.map f=l:=by
 rw [show f=id from funext h,List.map_id]
theorem WV.ren_id (x:WV):x.ren (fun o=>o)=x:=by
 cases x with
 | a x=>simp only [WV.ren,AV.ren_id]
 | fn f a b=>
  simp only [WV.ren];rw [z7a (fun p:Bool×List AV=>by rw [z7a AV.ren_id]) a,z7a (fun p:Bool×List AV=>by rw [z7a AV.ren_id]) b]
theorem TV.ren_id (x:TV):x.ren (fun o=>o)=x:=by
 cases x with
 | any=>rfl
 | c x=>simp only [TV.ren,WV.ren_id]
 | agg cs=>simp only [TV.ren];rw [z7a WV.ren_id]
 | tup vs=>simp only [TV.ren];rw [z7a (fun p:Bool×List WV=>by rw [z7a WV.ren_id]) vs]
theorem TRep.cut {w:World}{X:Nat→Prop}{β:Nat→Option Nat}{m:Nat}{x:TV}{v:Value}(h:TRep w X β x v)(hlt:x.lt m=true):TRep w X (cutβ (fun o=>o) m β) x v:=by
 refine TRep.unmap (σ:=fun o=>o) (m:=m) (β2:=β) (X2:=X) (fun _ _ h=>h) (fun o b ho hb=>by simp only [cutβ,ho,if_true];exact hb) hlt ?_;rw [TV.ren_id];exact h
section
variable {P:Program} {w0:World} {foot:Nat→Prop} {Y:Nat→Prop} {pin:Nat→Option (Option Nat)} {e:Nat→TV} {h h':Nat→AObj} {β β':Nat→Option Nat} {a:Act} {W W':World} {m0:Nat}
theorem RelF.under (hR:RelF P w0 foot Y pin e h β a W) (hlt:∀ i,(e i).lt m0=true) (g:Good W (Own h β) W') (hO:Objs h' β' Y W') (hown:∀ o b,isLive (h' o)→β' o=some b→Own h β b∨W.heap.size≤b)
  (hp:∀ o,o<m0→β' o=β o) (hpm:∀ o b,pin o=some b→o<m0):RelF P w0 foot Y pin e h' β' a W':=by
 have old:∀ b,Own h β b→foot b∨w0.heap.size≤b:=fun b ⟨o,h1,h2⟩=>hR.own o b h1 h2
 have gs:Goes W W' (XO Y h β) (XO Y h' β') (cutβ (fun o=>o) m0 β) β':=by
  refine ⟨g.size,fun b hx hb=>⟨g.blk b hb fun ho=>hx (.inr ho),fun hx'=> ?_⟩,g.shp,fun o b hb=> ?_⟩
  · rcases hx' with hy | ⟨o,h1,h2⟩
    · exact hx (.inl hy)
    · rcases hown o b h1 h2 with h3 | h3
      · exact hx (.inr h3)
      · omega
  · simp only [cutβ] at hb;split at hb
    · rename_i ho;exact ⟨by rw [hp o ho];exact hb,hR.objs.lt o b hb⟩
    · cases hb
 refine ⟨hR.good.trans g fun b hb ho=> ?_,fun i=>((hR.env i).cut (hlt i)).goes gs,hO,fun o b h1 h2=> ?_,hR.defers.good hR.objs g,hR.ylt,fun o x hx=> ?_,hR.gl⟩
 · rcases old b ho with h1 | h1
   · exact h1
   · omega
 · rcases hown o b h1 h2 with h3 | h3
   · exact old b h3
   · exact .inr (Nat.le_trans hR.good.size h3)
 · rw [hp o (hpm o x hx)];exact hR.pins o x hx
end
abbrev bk0 (S I:TypeId):Array Oper:= #[
 ⟨some 4, .load S (.tmp 1),S, "iter.go:28", #[],none⟩,
 ⟨some 5, .call ⟨.builtin .len, #[.tmp 4], #[S]⟩,I, "iter.go:28", #[⟨0, .data⟩],none⟩,
 ⟨some 6, .binOp .sub I (.tmp 5) (.const (.int .i64 1)) I,I, "iter.go:28", #[⟨1, .data⟩],none⟩,
 ⟨some 3, .assign (.tmp 6),I, "iter.go:28", #[⟨2, .data⟩,⟨0, .phase⟩,⟨1, .phase⟩,⟨2, .phase⟩],none⟩]
abbrev bk1 (I B:TypeId):Array Oper:= #[
 ⟨some 7, .move (.tmp 3),I, "iter.go:28", #[],none⟩,
 ⟨some 8, .binOp .geq I (.tmp 7) (.const (.int .i64 0)) I,B, "iter.go:28", #[⟨0, .data⟩],none⟩]
abbrev bk3a (S E Y I:TypeId):List Oper:=[
 ⟨some 11, .move (.tmp 0),Y, "iter.go:29", #[],none⟩,
 ⟨some 12, .move (.tmp 3),I, "iter.go:29", #[],none⟩,
 ⟨some 13, .load S (.tmp 1),S, "iter.go:29", #[],none⟩,
 ⟨some 14, .move (.tmp 3),I, "iter.go:29", #[],none⟩,
 ⟨some 15, .indexAddr S (.tmp 13) (.tmp 14),0, "iter.go:29", #[⟨2, .data⟩,⟨3, .data⟩],none⟩,
 ⟨some 16, .load E (.tmp 15),E, "iter.go:29", #[⟨4, .data⟩],none⟩]
abbrev bk3b (E I B:TypeId):List Oper:=[
 ⟨some 17, .call ⟨.value (.tmp 11), #[.tmp 12, .tmp 16], #[I,E]⟩,B, "iter.go:29", #[⟨0, .data⟩,⟨1, .data⟩,⟨5, .data⟩],none⟩,
 ⟨some 18, .unOp .not B (.tmp 17),B, "iter.go:29", #[⟨6, .data⟩],none⟩]
abbrev bk2 (I:TypeId):Array Oper:= #[
 ⟨some 9, .move (.tmp 3),I, "iter.go:28", #[],none⟩,
 ⟨some 10, .binOp .sub I (.tmp 9) (.const (.int .i64 1)) I,I, "iter.go:28", #[⟨0, .data⟩],none⟩,
 ⟨some 3, .assign (.tmp 10),I, "iter.go:28", #[⟨1, .data⟩,⟨0, .phase⟩,⟨1, .phase⟩],none⟩]
abbrev bkRound (S E Y I B:TypeId):Code:=
 .seq (.seq (.region 1 (bk1 I B) false) (.cond (.tmp 8) .skip (.exit 0)))
  (.seq (.block 1 (.seq (.region 3 (bk3a S E Y I++bk3b E I B).toArray false) (.cond (.tmp 18) .ret .skip))) (.region 2 (bk2 I) false))
def bkBody (S E Y I B:TypeId):Code:= .seq (.region 0 (bk0 S I) false) (.block 0 (.loop (bkRound S E Y I B)))
def IsBk (P:Program)(bk:FuncId)(S E:TypeId):Prop:=z2m P bk=true∧∃ (fn:Func) (Y I B:TypeId),P.funcs[bk]? =some fn∧fn.body=some (bkBody S E Y I B)∧fn.ntmps=19∧fn.results= #[]
section
variable {P:Program} {n:Nat} {ops:Array Oper} {Q:Exit→Act→World→Prop} {l:List Oper} {a:Act} {w:World}
theorem z0t {d:Option Nat}{op:Op}{t:TypeId}{p:String}{af:Array Edge}{v:Value}(hnd:∀ c,op ≠ .defer c)(h:(execOp a.eval ⟨d,op,t,p,af,none⟩).run P w= .ok (.value v) w)(k:wpListIn Fence.wide n P ops Q l (a.put d v) w):wpListIn Fence.wide n P ops Q (⟨d,op,t,p,af,none⟩::l) a w:=by
 unfold wpListIn;rw [if_pos (by rfl)];refine ⟨fun _ _=>trivial, ?_⟩;rw [Oper.semAt_eq _ _ _ hnd,h];exact k
theorem za7 {d i:Nat}{v:Value}:(a.put (some d) v).tmps.getD i undef=if i=d∧d<a.tmps.size then v else a.tmps.getD i undef:=by
 simp only [Act.put,Array.getD_eq_getD_getElem?,Array.getElem?_setIfInBounds];by_cases h:i=d
 · subst h;by_cases h2:i<a.tmps.size
   · simp [h2]
   · simp [h2]
 · simp [h,show¬d=i from fun e=>h e.symm]
theorem size_put {d:Option Nat}{v:Value}:(a.put d v).tmps.size=a.tmps.size:=by cases d<;>simp [Act.put]
theorem zn6 {d:Option Nat}{v:Value}:(a.put d v).defers=a.defers:=by cases d<;>rfl
theorem z0m {t:Nat}:a.eval (.tmp t)=a.tmps.getD t undef:=rfl
theorem ztu {I:TypeId}{r:Int}(x y:Operand):(do eqGuard .sub I x y (.int .i64 r) (.int .i64 1);binOp .sub I (.int .i64 r) (.int .i64 1):Sem Value).run P w= .ok (.int .i64 (IntKind.i64.wrap (r-1))) w:=by
 obtain ⟨z,h1,h2⟩:=zfe (P:=P) (w:=w) (X:=fun _=>False) (β:=fun _=>none) (op:= .sub) (t:=I) (x:=iV r) (y:=iV 1) (u:= .int .i64 r) (v:= .int .i64 1) x y rfl (.int_mk _ _) (.int_mk _ _);rw [h1,TRep.int_inv h2]
theorem run_geq {I:TypeId}{r:Int}(x y:Operand):(do eqGuard .geq I x y (.int .i64 r) (.int .i64 0);binOp .geq I (.int .i64 r) (.int .i64 0):Sem Value).run P w= .ok (.bool (r≥0)) w:=by
 obtain ⟨z,h1,h2⟩:=zfe (P:=P) (w:=w) (X:=fun _=>False) (β:=fun _=>none) (op:= .geq) (t:=I) (x:=iV r) (y:=iV 0) (u:= .int .i64 r) (v:= .int .i64 0) x y rfl (.int_mk _ _) (.int_mk _ _);rw [h1,TRep.bool_inv h2]
end
structure Itf (a:Act)(yv bp:Value):Prop where
 size:a.tmps.size=19
 defers:a.defers=[]
 t0:a.tmps.getD 0 undef=yv
 t1:a.tmps.getD 1 undef=bp
theorem Itf.put {a:Act}{yv bp:Value}(h:Itf a yv bp){d:Nat}(hd:2≤d)(v:Value):Itf (a.put (some d) v) yv bp:=
 ⟨by rw [size_put];exact h.size,by rw [zn6];exact h.defers,by rw [za7,if_neg (by omega)];exact h.t0,by rw [za7,if_neg (by omega)];exact h.t1⟩
theorem zb1 {P:Program}{w:World}{s:Sem Value}{v:Value}(h:s.run P w= .ok v w):(do pure (.value (←s)):Sem Next).run P w= .ok (.value v) w:=by
 simp only [Sem.run_bind,h,Result.andThen_ok,Sem.run_pure]
section
variable {P:Program} {a:Act} {w:World} {d:Option Nat} {t I S:TypeId} {p:String} {af:Array Edge} {u v x:Value} {i j:Nat}
theorem xload (h:(Instr.loadAt S (a.eval (.tmp i))).run P w= .ok v w):(execOp a.eval ⟨d, .load S (.tmp i),t,p,af,none⟩).run P w= .ok (.value v) w:=zb1 h
theorem xlen (h:(Builtin.len_ #[S] t #[a.eval (.tmp i)]).run P w= .ok v w):(execOp a.eval ⟨d, .call ⟨.builtin .len, #[.tmp i], #[S]⟩,t,p,af,none⟩).run P w= .ok (.value v) w:=by
 have e:(execOp a.eval ⟨d, .call ⟨.builtin .len, #[.tmp i], #[S]⟩,t,p,af,none⟩).run P w=(do pure (.value (←Builtin.len_ #[S] t #[a.eval (.tmp i)])):Sem Next).run P w:=by
  simp only [execOp,resolve,invoke,Sem.run_bind,Sem.run_pure,Result.andThen_ok,builtin,List.map_toArray,List.map_cons,List.map_nil]
 rw [e];exact zb1 h
theorem zog:(execOp a.eval ⟨d, .move (.tmp i),t,p,af,none⟩).run P w= .ok (.value (a.eval (.tmp i))) w:=rfl
theorem zqe:(execOp a.eval ⟨d, .assign (.tmp i),t,p,af,none⟩).run P w= .ok (.value (a.eval (.tmp i))) w:=rfl
theorem xbin {op:BinOp}{c:Value}(h:(do eqGuard op I (.tmp i) (.const c) (a.eval (.tmp i)) c;binOp op I (a.eval (.tmp i)) c:Sem Value).run P w= .ok v w):(execOp a.eval ⟨d, .binOp op I (.tmp i) (.const c) I,t,p,af,none⟩).run P w= .ok (.value v) w:=by
 refine Eq.trans ?_ (zb1 h);rfl
theorem xnot {b:Bool}(h:a.eval (.tmp i)= .bool b):(execOp a.eval ⟨d, .unOp .not I (.tmp i),t,p,af,none⟩).run P w= .ok (.value (.bool (!b))) w:=by
 have h1:(Op.unary .not (a.eval (.tmp i))).run P w= .ok (.bool (!b)) w:=by rw [h];rfl
 exact zb1 h1
theorem xindex (h:(Instr.indexAt S (a.eval (.tmp i)) (a.eval (.tmp j))).run P w= .ok v w):(execOp a.eval ⟨d, .indexAddr S (.tmp i) (.tmp j),t,p,af,none⟩).run P w= .ok (.value v) w:=zb1 h
end
section
variable {P:Program} {n:Nat} {Q:Exit→Act→World→Prop} {a:Act} {w:World} {S E Yt I B:TypeId} {yv bp sv ev uv:Value}
theorem Itf.same {a:Act}(h:Itf a yv bp){d:Nat}(hd:d<19)(v:Value):(a.put (some d) v).tmps.getD d undef=v:=by rw [za7,if_pos ⟨rfl,by rw [h.size];exact hd⟩]
theorem z0e {a:Act}{d i:Nat}(hd:i≠d)(v:Value):(a.put (some d) v).tmps.getD i undef=a.tmps.getD i undef:=by rw [za7,if_neg (fun h=>hd h.1)]
theorem bk0_in {N:Nat} (hi:Itf a yv bp) (hl:(Instr.loadAt S bp).run P w= .ok sv w) (hn:(Builtin.len_ #[S] I #[sv]).run P w= .ok (.int .i64 N) w)
  (k:∀ a',Itf a' yv bp→a'.tmps.getD 3 undef= .int .i64 (IntKind.i64.wrap ((N:Int)-1))→Q .normal a' w):(Code.region 0 (bk0 S I) false).wpIn Fence.wide n P Q a w:=by
 refine wpIn_region_list ?_;refine z0t (v:=sv) (by simp) (xload (by rw [z0m,hi.t1];exact hl)) ?_;have h1:=hi.put (d:=4) (by omega) sv;have g4:=hi.same (d:=4) (by omega) sv;generalize a.put (some 4) sv=a1 at h1 g4 ⊢;refine z0t (v:= .int .i64 N) (by simp) (xlen (by rw [z0m,g4];exact hn)) ?_;have h2:=h1.put (d:=5) (by omega) (.int .i64 N);have g5:=h1.same (d:=5) (by omega) (.int .i64 N);generalize a1.put (some 5) (.int .i64 N)=a2 at h2 g5 ⊢;refine z0t (v:= .int .i64 (IntKind.i64.wrap ((N:Int)-1))) (by simp) (xbin (by rw [z0m,g5];exact ztu _ _)) ?_;have h3:=h2.put (d:=6) (by omega) (.int .i64 (IntKind.i64.wrap ((N:Int)-1)));have g6:=h2.same (d:=6) (by omega) (.int .i64 (IntKind.i64.wrap ((N:Int)-1)));generalize a2.put (some 6) (.int .i64 (IntKind.i64.wrap ((N:Int)-1)))=a3 at h3 g6 ⊢;refine z0t (by simp) zqe ?_;rw [z0m,g6];exact k _ (h3.put (by omega) _) (h3.same (by omega) _)
theorem bk1_in {r:Int} (hi:Itf a yv bp) (h3:a.tmps.getD 3 undef= .int .i64 r)
  (k:∀ a',Itf a' yv bp→a'.tmps.getD 3 undef= .int .i64 r→a'.tmps.getD 8 undef= .bool (r≥0)→Q .normal a' w):(Code.region 1 (bk1 I B) false).wpIn Fence.wide n P Q a w:=by
 refine wpIn_region_list ?_;refine z0t (by simp) zog ?_;rw [z0m,h3];have h1:=hi.put (d:=7) (by omega) (.int .i64 r);have g7:=hi.same (d:=7) (by omega) (.int .i64 r);have f3:(a.put (some 7) (.int .i64 r)).tmps.getD 3 undef= .int .i64 r:=(z0e (by omega) _).trans h3;generalize a.put (some 7) (.int .i64 r)=a1 at h1 g7 f3 ⊢;refine z0t (v:= .bool (r≥0)) (by simp) (xbin (by rw [z0m,g7];exact run_geq _ _)) ?_;exact k _ (h1.put (by omega) _) ((z0e (by omega) _).trans f3) (h1.same (by omega) _)
theorem bk2_in {r:Int} (hi:Itf a yv bp) (h3:a.tmps.getD 3 undef= .int .i64 r)
  (k:∀ a',Itf a' yv bp→a'.tmps.getD 3 undef= .int .i64 (IntKind.i64.wrap (r-1))→Q .normal a' w):(Code.region 2 (bk2 I) false).wpIn Fence.wide n P Q a w:=by
 refine wpIn_region_list ?_;refine z0t (by simp) zog ?_;rw [z0m,h3];have h1:=hi.put (d:=9) (by omega) (.int .i64 r);have g9:=hi.same (d:=9) (by omega) (.int .i64 r);generalize a.put (some 9) (.int .i64 r)=a1 at h1 g9 ⊢;refine z0t (v:= .int .i64 (IntKind.i64.wrap (r-1))) (by simp) (xbin (by rw [z0m,g9];exact ztu _ _)) ?_;have h2:=h1.put (d:=10) (by omega) (.int .i64 (IntKind.i64.wrap (r-1)));have g10:=h1.same (d:=10) (by omega) (.int .i64 (IntKind.i64.wrap (r-1)));generalize a1.put (some 10) (.int .i64 (IntKind.i64.wrap (r-1)))=a2 at h2 g10 ⊢;refine z0t (by simp) zqe ?_;rw [z0m,g10];exact k _ (h2.put (by omega) _) (h2.same (by omega) _)
theorem bk3_in {r:Int} {l:Nat} {lp:Loop} {R:World→Prop} (hyv:yv= .func (.yield l) #[] #[]) (hi:Itf a yv bp) (h3:a.tmps.getD 3 undef= .int .i64 r)
  (hl:(Instr.loadAt S bp).run P w= .ok sv w) (hx:(Instr.indexAt S sv (.int .i64 r)).run P w= .ok ev w) (he:(Instr.loadAt E ev).run P w= .ok uv w) (hlp:w.heap[l]? =some (.loop lp)) (hps:lp.params.size=2)
  (hr:RoundIn Fence.wide (n-1) P l lp.fn ((lp.params.zip #[.int .i64 r,uv]).foldl (fun tmps (t,a)=>tmps.setIfInBounds t a) lp.tmps) lp.assign lp.body w (fun e w'=>e= .returned (.bool true)∧R w'))
  (k:∀ a' w',Itf a' yv bp→a'.tmps.getD 3 undef= .int .i64 r→a'.tmps.getD 18 undef= .bool false→R w'→Q .normal a' w'):(Code.region 3 (bk3a S E Yt I++bk3b E I B).toArray false).wpIn Fence.wide n P Q a w:=by
 refine wpIn_region_list ?_;refine z0t (by simp) zog ?_;rw [z0m,hi.t0];have h1:=hi.put (d:=11) (by omega) yv;have g11:=hi.same (d:=11) (by omega) yv;have f3:(a.put (some 11) yv).tmps.getD 3 undef= .int .i64 r:=(z0e (by omega) _).trans h3;generalize a.put (some 11) yv=a1 at h1 g11 f3 ⊢;refine z0t (by simp) zog ?_;rw [z0m,f3];have h2:=h1.put (d:=12) (by omega) (.int .i64 r);have g12:=h1.same (d:=12) (by omega) (.int .i64 r)
 replace g11:=(z0e (a:=a1) (d:=12) (i:=11) (by omega) (.int .i64 r)).trans g11
 replace f3:=(z0e (a:=a1) (d:=12) (i:=3) (by omega) (.int .i64 r)).trans f3
 generalize a1.put (some 12) (.int .i64 r)=a2 at h2 g12 g11 f3 ⊢;refine z0t (v:=sv) (by simp) (xload (by rw [z0m,h2.t1];exact hl)) ?_;have h3:=h2.put (d:=13) (by omega) sv;have g13:=h2.same (d:=13) (by omega) sv
 replace g11:=(z0e (a:=a2) (d:=13) (i:=11) (by omega) sv).trans g11
 replace g12:=(z0e (a:=a2) (d:=13) (i:=12) (by omega) sv).trans g12
 replace f3:=(z0e (a:=a2) (d:=13) (i:=3) (by omega) sv).trans f3
 generalize a2.put (some 13) sv=a3 at h3 g13 g12 g11 f3 ⊢;refine z0t (by simp) zog ?_;rw [z0m,f3];have h4:=h3.put (d:=14) (by omega) (.int .i64 r);have g14:=h3.same (d:=14) (by omega) (.int .i64 r)
 replace g11:=(z0e (a:=a3) (d:=14) (i:=11) (by omega) (.int .i64 r)).trans g11
 replace g12:=(z0e (a:=a3) (d:=14) (i:=12) (by omega) (.int .i64 r)).trans g12
 replace g13:=(z0e (a:=a3) (d:=14) (i:=13) (by omega) (.int .i64 r)).trans g13
 replace f3:=(z0e (a:=a3) (d:=14) (i:=3) (by omega) (.int .i64 r)).trans f3
 generalize a3.put (some 14) (.int .i64 r)=a4 at h4 g14 g13 g12 g11 f3 ⊢;refine z0t (v:=ev) (by simp) (xindex (by rw [z0m,z0m,g13,g14];exact hx)) ?_;have h5:=h4.put (d:=15) (by omega) ev;have g15:=h4.same (d:=15) (by omega) ev
 replace g11:=(z0e (a:=a4) (d:=15) (i:=11) (by omega) ev).trans g11
 replace g12:=(z0e (a:=a4) (d:=15) (i:=12) (by omega) ev).trans g12
 replace f3:=(z0e (a:=a4) (d:=15) (i:=3) (by omega) ev).trans f3
 generalize a4.put (some 15) ev=a5 at h5 g15 g12 g11 f3 ⊢;refine z0t (v:=uv) (by simp) (xload (by rw [z0m,g15];exact he)) ?_;have h6:=h5.put (d:=16) (by omega) uv;have g16:=h5.same (d:=16) (by omega) uv
 replace g11:=(z0e (a:=a5) (d:=16) (i:=11) (by omega) uv).trans g11
 replace g12:=(z0e (a:=a5) (d:=16) (i:=12) (by omega) uv).trans g12
 replace f3:=(z0e (a:=a5) (d:=16) (i:=3) (by omega) uv).trans f3
 generalize a5.put (some 16) uv=a6 at h6 g16 g12 g11 f3 ⊢;show wpListIn Fence.wide n P _ Q (bk3b E I B) a6 w;unfold bk3b wpListIn;rw [if_pos (by rfl)];refine ⟨fun _ _=>trivial, ?_⟩;rw [Oper.semAt_eq _ _ _ (by simp)]
 have hrun:(execOp a6.eval ⟨some 17, .call ⟨.value (.tmp 11), #[.tmp 12, .tmp 16], #[I,E]⟩,B, "iter.go:29", #[⟨0, .data⟩,⟨1, .data⟩,⟨5, .data⟩],none⟩).run P w= .ok (.round l lp.fn ((lp.params.zip #[.int .i64 r,uv]).foldl (fun tmps (t,a)=>tmps.setIfInBounds t a) lp.tmps) lp.assign lp.body) w:=by
  have e1:a6.eval (.tmp 11)= .func (.yield l) #[] #[]:=by rw [z0m,g11,hyv]
  have hy:=run_yield (P:=P) (w:=w) (l:=l) (r:=lp) (args:= #[.int .i64 r,uv]) hlp (by simp [hps]);simp only [execOp,resolve,Deferred.ofValue,e1,invoke,callFunc,Sem.run_bind,Sem.run_pure,Result.andThen_ok,List.map_toArray,List.map_cons,List.map_nil,z0m,g12,g16];rw [show (#[]:Array Value)++ #[.int .i64 r,uv]= #[.int .i64 r,uv] from by simp];exact hy
 rw [hrun];refine ⟨fun h=>(by simp [Fence.wide] at h),hr.mono ?_⟩;rintro e w' ⟨rfl,hw⟩;have h7:=h6.put (d:=17) (by omega) (.bool true);have g17:=h6.same (d:=17) (by omega) (.bool true)
 replace f3:=(z0e (a:=a6) (d:=17) (i:=3) (by omega) (.bool true)).trans f3
 show wpListIn _ _ _ _ _ _ (a6.put (some 17) (.bool true)) w';generalize a6.put (some 17) (.bool true)=a7 at h7 g17 f3 ⊢;refine z0t (v:= .bool (!true)) (by simp) (xnot (by rw [z0m,g17])) ?_;exact k _ _ (h7.put (by omega) _) ((z0e (by omega) _).trans f3) (h7.same (by omega) _) hw
end
theorem zta {w0 w:World}{ds:List Deferred}{l:Nat}{r:Loop}{o:Obj}(m:Marks w0 w ds)(hl:w.heap[l]? =some (.loop r)):Marks w0 (w.putObj l o) ds:=by
 obtain ⟨Ds,h1,h2,h3⟩:=m;refine ⟨Ds,h1,h2,fun D hD=>⟨(h3 D hD).1, ?_⟩⟩;have h4:=(h3 D hD).2;have hne:D≠l:=fun e=>by subst e;rw [hl] at h4;cases h4
 rw [World.putObj_heap_other hne];exact h4
section
variable {P:Program} {w0:World} {foot:Nat→Prop} {Y:Nat→Prop} {pin pin':Nat→Option (Option Nat)} {e:Nat→TV} {h:Nat→AObj} {β:Nat→Option Nat} {a:Act} {w:World} {l:Nat} {r:Loop}
theorem RelF.turn (hR:RelF P w0 foot Y pin e h β a w)(hl:w.heap[l]? =some (.loop r))(h0:w0.heap.size≤l)(o:Obj):RelF P w0 foot Y pin e h β a (w.putObj l o):=
 RelF.calm (Calm.put (zbv hl) h0) hR (zta hR.defers hl)
theorem gl_put (hg:Gl P w foot)(hl:w.heap[l]? =some (.loop r))(o:Obj):Gl P (w.putObj l o) foot:=fun k hk=>by
 obtain ⟨h1,h2,h3⟩:=hg k hk;refine ⟨?_,h2,by rw [World.putObj_size];exact h3⟩;unfold Lib.TabIs World.var? at*;rw [hk] at h1 ⊢;simp only [Option.bind_some] at h1 ⊢;by_cases hkl:k=l
 · subst hkl;rw [hl] at h1;cases h1
 · rw [World.putObj_heap_other hkl];exact h1
theorem RelF.rebase (hR:RelF P w0 foot Y pin e h β a w)(hd:a.defers=[])(hp:∀ o x,pin' o=some x→β o=x)(hl:w.heap[l]? =some (.loop r))(o:Obj):
  RelF P (w.putObj l o) (Own h β) Y pin' e h β a (w.putObj l o):=by
 have c:Calm { w with heap:= #[] } w (w.putObj l o):=Calm.put (zbv hl) (Nat.zero_le _)
 exact ⟨⟨Nat.le_refl _,fun _ _ _=>rfl,fun _ _=>rfl,rfl,rfl,rfl⟩,fun i=>TRep.calm c (hR.env i),Objs.calm c hR.objs,fun o b h1 h2=> .inl ⟨o,h1,h2⟩,hd▸Marks.nil _ _,fun b hb=>by rw [World.putObj_size];exact hR.y b hb,hp,gl_put hR.now hl o⟩
theorem RelF.notOwn (hR:RelF P w0 foot Y pin e h β a w)(hl:w.heap[l]? =some (.loop r)):¬Own h β l:=fun ho=>by
 rcases hR.objs.own_heap ho with ⟨us,t,h5⟩ | ⟨ms,ck,h5⟩<;>rw [hl] at h5<;>cases h5
end
structure Out (P:Program)(w0:World)(foot Y:Nat→Prop)(pin:Nat→Option (Option Nat))(env:Env)(m0:Nat)(a:Act)(β0:Nat→Option Nat)(l:Nat)(lp:Loop)(Hx:AHeap)(nxx:Nat)(w:World):Prop where
 ex:∃ β,RelF P w0 foot Y pin (look env) (hook Hx) β a w∧(∀ k,Occ pin β k→k<nxx)∧∀ o,o<m0→β o=β0 o
 lp:w.heap[l]? =some (.loop lp)
theorem zpj {env:Env}{m0:Nat}(h:∀ p∈env,p.2.lt m0=true)(i:Nat):(look env i).lt m0=true:=by
 rcases zfp (l:=env) (i:=i) with h1 | h1
 · rw [h1];rfl
 · exact h _ h1
section
variable {P:Program} {w0:World} {foot Y:Nat→Prop} {pin:Nat→Option (Option Nat)} {env:Env} {m0 n:Nat} {a:Act} {β0:Nat→Option Nat} {l:Nat} {lp:Loop}
variable {α:Type} {H:α→AHeap} {nx:α→Nat} {Next:α→Prop}
theorem zsd {x:α} {w:World} {k:Nat} {p1 p2:Nat} {A body:Code} {v:TV} {uv:Value}
  {β:Nat→Option Nat} (hR:RelF P w0 foot Y pin (look env) (hook (H x)) β a w) (hb:∀ k,Occ pin β k→k<nx x) (hβ:∀ o,o<m0→β o=β0 o) (hlp:w.heap[l]? =some (.loop lp)) (hl0:w0.heap.size≤l) (henv:∀ p∈env,p.2.lt m0=true) (hpm:∀ o b,pin o=some b→o<m0) (hm0:m0≤nx x) (hmx:∀ x,Next x→m0≤nx x) (hn:a.tmps.size=n)
  (htm:lp.tmps=a.tmps) (hpa:lp.params= #[p1,p2]) (has:lp.assign=A) (hbo:lp.body=body) (hst:lp.state= .ready) (hpe:lp.pending=none)
  (hp1:p1<n) (hp2:p2<n)
  (hvr:TRep w (XO Y (hook (H x)) β) β v uv)
  (hround:AsgS P n A ⟨(p2,v)::(p1,iV k)::env,H x,nx x⟩ fun s=>AwpR P n m0 body (fun ex s'=>ex= .normal∧∃ x',Next x'∧Sle m0 s' ⟨[],H x',nx x'⟩) s):
  RoundIn Fence.wide 0 P l lp.fn ((lp.params.zip #[.int .i64 k,uv]).foldl (fun tmps (t,a)=>tmps.setIfInBounds t a) lp.tmps) lp.assign lp.body w (fun e w'=>e= .returned (.bool true)∧∃ x',Next x'∧Out P w0 foot Y pin env m0 a β0 l lp (H x') (nx x') w'):=by
 have hlw:l<w.heap.size:=(Array.getElem?_eq_some_iff.1 hlp).1
 let pin':Nat→Option (Option Nat):=fun o=>if o<m0 then some (β o) else none
 have hpin':∀ o b,pin' o=some b→o<m0:=fun o b h=>by
  simp only [pin'] at h;split at h
  · assumption
  · cases h
 have hpv:∀ {β':Nat→Option Nat},(∀ o x,pin' o=some x→β' o=x)→∀ o,o<m0→β' o=β o:=fun hp o ho=>hp o (β o) (by simp only [pin',ho,if_true]);refine roundIn_of_wpIn trivial ?_;rw [has,hbo,hpa,htm];have etm:((#[p1,p2]:Array Nat).zip #[.int .i64 k,uv]).foldl (fun tmps (t,a)=>tmps.setIfInBounds t a) a.tmps=(a.tmps.setIfInBounds p1 (.int .i64 k)).setIfInBounds p2 uv:=by simp
 rw [etm];have hsz:((a.tmps.setIfInBounds p1 (.int .i64 k)).setIfInBounds p2 uv).size=n:=by simp [hn]
 have hR1:RelF P w (Own (hook (H x)) β) Y pin' (look ((p2,v)::(p1,iV k)::env)) (hook (H x)) β { tmps:=(a.tmps.setIfInBounds p1 (.int .i64 k)).setIfInBounds p2 uv,defers:=[] } w:=by
  refine ⟨⟨Nat.le_refl _,fun _ _ _=>rfl,fun _ _=>rfl,rfl,rfl,rfl⟩,fun i=> ?_,hR.objs,fun o b h1 h2=> .inl ⟨o,h1,h2⟩,Marks.nil _ _,hR.y,fun o x hx=> ?_,hR.now⟩
  · simp only [look,Array.getD_eq_getD_getElem?,Array.getElem?_setIfInBounds,Array.size_setIfInBounds];by_cases h2:p2=i
    · subst h2;simp only [if_true,show p2<a.tmps.size by omega];exact hvr
    · simp only [h2,if_false];by_cases h1:p1=i
      · subst h1;simp only [if_true,show p1<a.tmps.size by omega];exact .int_mk _ _
      · simp only [h1,if_false];have:=hR.env i
        rwa [Array.getD_eq_getD_getElem?] at this
  · simp only [pin'] at hx;split at hx
    · exact Option.some.inj hx
    · cases hx
 refine hround w _ _ _ (some l) _ β _ w _ (fun ⟨_,_,h⟩=>h) hsz hR1 (fun o ho=> ?_) fun s1 a1 w1 β1 hA hs1 hd1 hR1' hb1=> ?_
 · rcases ho with ho | ho
   · exact hb o (.inl ho)
   · cases hq:pin' o with
     | none=>exact absurd hq ho
     | some b=>have:=hpin' o b hq;show o<nx x;omega
 · have hl1:w1.heap[l]? =some (.loop lp):=(hR1'.good.blk l hlw (hR.notOwn hlp)).trans hlp;refine ⟨_,run_beginRound hl1 hst, ?_⟩;have hR2:=hR1'.rebase (pin':=pin') hd1 hR1'.pins hl1 (.loop { lp with state:= .busy })
   refine wpIn_mono (hA l _ _ Y pin' β1 a1 _ hpin' hs1 hR2 hb1) fun ex a2 w2 hq=> ?_;cases ex with
   | normal=>
    obtain ⟨s2,β2,⟨_,x',hx',hsle⟩,h2,h3,h4⟩:=hq;obtain ⟨β3,hR3,hb3⟩:=zfq hsle hpin' h3;have hl1':(w1.putObj l (.loop { lp with state:= .busy })).heap[l]? =some (.loop { lp with state:= .busy }):=World.putObj_heap_same (Array.getElem?_eq_some_iff.1 hl1).1
    have hl2:w2.heap[l]? =some (.loop { lp with state:= .busy }):=(hR3.good.blk l (Array.getElem?_eq_some_iff.1 hl1').1 (hR2.notOwn hl1')).trans hl1'
    refine ⟨_,_,run_endRound none hl2,rfl,x',hx',⟨β3, ?_,fun o ho=> ?_,fun o ho=> ?_⟩, ?_⟩
    · have U1:=hR.under (fun i=>zpj henv i) hR1'.good hR1'.objs hR1'.own (hpv hR1'.pins) hpm;have U2:=U1.turn hl1 hl0 (.loop { lp with state:= .busy })
      have U3:=U2.under (fun i=>zpj henv i) hR3.good hR3.objs hR3.own (fun o ho=>(hpv hR3.pins o ho).trans (hpv hR1'.pins o ho).symm) hpm;exact U3.turn hl2 hl0 _
    · rcases ho with ho | ho
      · exact hb3 o (.inl ho)
      · cases hq:pin o with
        | none=>exact absurd hq ho
        | some b=>have:=hpm o b hq;have:=hmx x' hx';omega
    · exact (hpv hR3.pins o ho).trans (hβ o ho)
    · rw [World.putObj_heap_same (Array.getElem?_eq_some_iff.1 hl2).1];cases lp;simp only at hst hpe;subst hst;subst hpe;rfl
   | ret=>obtain ⟨_,_,⟨h,_⟩,_⟩:=hq;cases h
   | exit i=>obtain ⟨_,_,⟨h,_⟩,_⟩:=hq;cases h
   | goto t=>exact hq.elim
   | panic c=>exact hq.elim
   | outgrown=>exact hq.elim
end
theorem len_run {P:Program}{w:World}{X:Nat→Prop}{β:Nat→Option Nat}{t e ty:TypeId}{d:TyD}{x:TV}{u:Value}{N:Nat}{rd:List Nat}(hd:tyOf P t=some d)(hk:d.kind= .slice e)(hx:TRep w X β x u)(hl:zfm x=some (N,rd)):(Builtin.len_ #[t] ty #[u]).run P w= .ok (.int .i64 N) w:=by
 have ht:=z1l hd hk;unfold zfm at hl;split at hl
 · injection hl with hl;injection hl with h1 h2;subst h1;rw [hx.nils_inv];simp [Builtin.len_,run_underlying ht,goInt]
 · injection hl with hl;injection hl with h1 h2;subst h1
   rename_i nn n es;have h1:=hx.fz_inv;cases h1 with
   | slnil=>simp [Builtin.len_,run_underlying ht,goInt]
   | sl0 _ _ a=>simp [Builtin.len_,run_underlying ht,goInt]
   | sl _ _ _ b off cap len f g1=>subst g1;simp [Builtin.len_,run_underlying ht,goInt]
 · injection hl with hl;injection hl with h1 h2;subst h1
   have h1:=hx.fz_inv;cases h1 with
   | z0 _ a=>simp [Builtin.len_,run_underlying ht,goInt]
   | z0n=>simp [Builtin.len_,run_underlying ht,goInt]
 · injection hl with hl;injection hl with h1 h2;subst h1
   obtain ⟨b,q,cap,sz,tt,_,_,_,_,_,rfl⟩ | ⟨rfl,rfl⟩:=hx.osl_inv
   · simp [Builtin.len_,run_underlying ht,goInt]
   · simp [Builtin.len_,run_underlying ht,goInt]
 · cases hl
theorem i64_id {x:Int}(h1: -9223372036854775808≤x)(h2:x≤9223372036854775807):IntKind.wrap .i64 x=x:=Go.IntWalk.i64_in _ ⟨h1,h2⟩
section
variable {P:Program} {w0:World} {foot Y:Nat→Prop} {pin:Nat→Option (Option Nat)} {e:Nat→TV} {h:AHeap} {β:Nat→Option Nat} {a:Act} {w:World}
theorem RelF.load {S:TypeId}{dS:TyD}{x:TV}{u:Value}{r:TV×List Nat}(hR:RelF P w0 foot Y pin e (hook h) β a w)(hS:tyOf P S=some dS)(hx:TRep w (XO Y (hook h) β) β x u)(hl:z5e dS (fun o=>flat (hook h o)) x=some r):
  ∃ v,(Instr.loadAt S u).run P w= .ok v w∧TRep w (XO Y (hook h) β) β r.1 v:=by
 have hf:∀ o,flat (flat (hook h o))=flat (hook h o):=fun o=>z4e _;have hO:=z86 (h':=fun o=>flat (hook h o)) hf hR.objs;rw [←zcf (h':=fun o=>flat (hook h o)) hf] at hx ⊢;exact zef (P:=P) hO hS hx hl
end
theorem itf0 (y b:Value):Itf { tmps:= #[y,b]++Array.replicate (19-(#[y,b]:Array Value).size) undef,defers:=[] } y b:=
 ⟨by simp,rfl,by simp [Array.getD_eq_getD_getElem?],by simp [Array.getD_eq_getD_getElem?]⟩
theorem awp_back {P:Program} {n m m0:Nat} {env:Env} {α:Type} {H:α→AHeap} {nx:α→Nat} {Inv:α→Prop} {idx:α→Nat} {y v:α→TV} {bk:FuncId} {S E:TypeId} {dS dE:TyD} {g:Operand} {p1 p2:Nat} {A body:Code} {Q:AExit→St→Prop} {N oc:Nat} {xs:TV} {x0:α} {rdn:List Nat}
  (hbk:IsBk P bk S E) (hS:tyOf P S=some dS) (hk:dS.kind= .slice E) (hE:tyOf P E=some dE) (hm:m≤m0) (henv:∀ p∈env,p.2.lt m0=true)
  (hg:ev env g= .c (.fn (.func bk) [] [(false,[.ep oc 1 0 0])])) (hoc:oc<m0) (hnx:∀ x,Inv x→m0≤nx x)
  (hbox:∀ x,Inv x→∃ rd,z5e dS (fun o=>flat (hook (H x) o)) (.c (.a (.ep oc 1 0 0)))=some (xs,rd)) (hlen:zfm xs=some (N,rdn)) (hN:N<9223372036854775808)
  (hel:∀ x k,Inv x→idx x=k+1→∃ rd,z2f P dS xs (iV k)=some (y x)∧z5e dE (fun o=>flat (hook (H x) o)) (y x)=some (v x,rd))
  (hp1:p1<n) (hp2:p2<n)
  (hround:∀ x k,Inv x→idx x=k+1→AsgS P n A ⟨(p2,v x)::(p1,iV k)::env,H x,nx x⟩ fun s=>AwpR P n m0 body (fun ex s'=>ex= .normal∧∃ x',(Inv x'∧idx x'=k)∧Sle m0 s' ⟨[],H x',nx x'⟩) s)
  (hx0:Inv x0) (hi0:idx x0=N) (hdone:∀ x,Inv x→idx x=0→Q .normal ⟨env,H x,nx x⟩):
  Awp P n m (.rangeFunc g #[p1,p2] A body) Q ⟨env,H x0,nx x0⟩:=fun w0 foot Y pin β a w hpm hn hR hb=>by
 obtain ⟨hent,fn,Yt,I,B,hfn,hbody,hnt,hres⟩:=hbk;refine (wpIn_wide (n:=0)).1 (wpIn_rangeFunc fun fid _=> ?_);have hv:=hR.eval g;rw [←zhr,hg] at hv;generalize hav:a.eval g=av at hv;cases hv with
 | fn _ _ _ us vs hl1 hl2=>
 have hus:us=[]:=hl1.nil_inv;subst hus;obtain ⟨bp,vs',rfl,hp,hvs⟩:=hl2.cons_inv;have hvs':vs'=[]:=hvs.nil_inv;subst hvs';obtain ⟨qs,rfl,hq,h1⟩:=hp;have h1:=h1 rfl;obtain ⟨bp,qs',rfl,hbp,hqs⟩:=hq.cons_inv;have hqs':qs'=[]:=hqs.nil_inv;subst hqs';have hbpR:ARep w (XO Y (hook (H x0)) β) β (.ep oc 1 0 0) bp:=hbp;have hsize:=hR.good.size
 let l:=w.heap.size+1
 let lp:Loop:={ state:= .ready,pending:=none,fn:=fid,tmps:=a.tmps,params:= #[p1,p2],assign:=A,body:=body,defers:=w.heap.size }
 let w1:=(w.alloc (.deferred (some []))).alloc (.loop lp)
 have hl1:w1.heap[l]? =some (.loop lp):=by
  have:=World.alloc_heap_new (w.alloc (.deferred (some []))) (.loop lp)
  rwa [World.size_alloc] at this
 have hD1:w1.heap[w.heap.size]? =some (.deferred (some [])):=by
  show ((w.heap.push _).push _)[w.heap.size]? =_;rw [Array.getElem?_push,if_neg (by simp),Array.getElem?_push,if_pos rfl]
 have c1:Calm w0 w w1:=(Calm.alloc w0 w _ hsize).trans (Calm.alloc w0 _ _ (by rw [World.size_alloc];omega))
 have old1:∀ b,b<w.heap.size→w1.heap[b]? =w.heap[b]? :=fun b hb=>by
  show ((w.heap.push _).push _)[b]? =_;rw [Array.getElem?_push,if_neg (by simp;omega),Array.getElem?_push,if_neg (by omega)]
 obtain ⟨Ds,hds,hnds,hdd⟩:=hR.defers;have hm1:Marks w0 w1 a.defers:=⟨Ds,hds,hnds,fun D hD=>⟨(hdd D hD).1,by rw [old1 D (Array.getElem?_eq_some_iff.1 (hdd D hD).2).1];exact (hdd D hD).2⟩⟩;have hRc:RelF P w0 foot Y pin (look env) (hook (H x0)) β a w1:=RelF.calm c1 hR hm1
 have hR1:RelF P w0 foot Y pin (look env) (hook (H x0)) β { a with defers:=mark w.heap.size::a.defers } w1:=by
  refine ⟨hRc.good,hRc.env,hRc.objs,hRc.own,⟨w.heap.size::Ds,by rw [hds];rfl,List.nodup_cons.2 ⟨fun hD=> ?_,hnds⟩,fun D hD=> ?_⟩,hRc.ylt,hRc.pins,hRc.gl⟩
  · have:=(Array.getElem?_eq_some_iff.1 (hdd _ hD).2).1;omega
  · rcases List.mem_cons.1 hD with rfl | hD
    · exact ⟨hsize,hD1⟩
    · exact ⟨(hdd D hD).1,by rw [old1 D (Array.getElem?_eq_some_iff.1 (hdd D hD).2).1];exact (hdd D hD).2⟩
 have hO0:Out P w0 foot Y pin env m0 { a with defers:=mark w.heap.size::a.defers } β l lp (H x0) (nx x0) w1:=⟨⟨β,hR1,hb,fun _ _=>rfl⟩,hl1⟩
 have hl0:w0.heap.size≤l:=by omega
 have hav':a.eval g= .func (.func bk) #[] #[bp]:=hav
 have hres1:(resolve a.eval (rangeCall g l) 0).run P w1= .ok { target:= .fn (.func bk) #[bp],args:= #[.func (.yield l) #[] #[]] } w1:=by
  simp only [resolve,Deferred.ofValue,hav',Sem.run_pure,List.map_toArray,List.map_cons,List.map_nil,show a.eval (.const (.func (.yield l) #[] #[]))= .func (.yield l) #[] #[] from rfl];simp
 have hinv1:(invoke (.fn (.func bk) #[bp]) #[.func (.yield l) #[] #[]]).run P w1= .ok (.enter bk #[.func (.yield l) #[] #[],bp]) w1:=by
  unfold z2m at hent;rw [hfn] at hent;simp only [Bool.and_eq_true,Bool.not_eq_true',beq_eq_false_iff_ne] at hent;have hb:fn.body.isNone=false:=by rw [hbody];rfl
  simp only [invoke,callFunc,Sem.run_bind,Sem.run_pure,Result.andThen_ok,run_program,hfn,beq_eq_false_iff_ne.2 hent.1,Bool.false_eq_true,if_false,hb];rfl
 refine ⟨l,[mark w.heap.size],w1,_,w1,bk, #[.func (.yield l) #[] #[],bp],w1,run_enterLoop_outer fid a.tmps #[p1,p2] _ body,hres1,fun _ _=>trivial,hinv1,fun h=>absurd h (by decide), ?_⟩;refine callsIn_of_wp hfn hbody trivial ?_
 have hi0':Itf { tmps:= #[.func (.yield l) #[] #[],bp]++Array.replicate (fn.ntmps-(#[.func (.yield l) #[] #[],bp]:Array Value).size) undef,defers:=[] } (.func (.yield l) #[] #[]) bp:=by
  rw [hnt];exact itf0 _ _
 generalize ({ tmps:= #[.func (.yield l) #[] #[],bp]++Array.replicate (fn.ntmps-(#[.func (.yield l) #[] #[],bp]:Array Value).size) undef,defers:=[] }:Act)=a0 at hi0' ⊢
 have hend:∀ x W a2,Inv x→idx x=0→Itf a2 (.func (.yield l) #[] #[]) bp→Out P w0 foot Y pin env m0 { a with defers:=mark w.heap.size::a.defers } β l lp (H x) (nx x) W→bodyPost P fn (rangePost Fence.wide 0 P l (Lift P w0 foot Y pin n Q) { a with defers:=[mark w.heap.size]++a.defers }) .normal a2 W:=by
  intro x W a2 hx hix hi2 hO;refine ⟨hi2.defers, .tuple #[],by simp [results,hres], ?_⟩;obtain ⟨β2,hR2,hb2,_⟩:=hO.ex;exact ⟨none,_,run_endLoop hO.lp (by simp [lp]),⟨_,β2,hdone x hx hix,hn,hR2.turn hO.lp hl0 _,hb2⟩⟩
 have hread:∀ x W,Inv x→Out P w0 foot Y pin env m0 { a with defers:=mark w.heap.size::a.defers } β l lp (H x) (nx x) W→∃ β2 sv,RelF P w0 foot Y pin (look env) (hook (H x)) β2 { a with defers:=mark w.heap.size::a.defers } W∧(∀ k,Occ pin β2 k→k<nx x)∧(∀ o,o<m0→β2 o=β o)∧(Instr.loadAt S bp).run P W= .ok sv W∧TRep W (XO Y (hook (H x)) β2) β2 xs sv:=by
  intro x W hx hO;obtain ⟨β2,hR2,hb2,hβ2⟩:=hO.ex;obtain ⟨rd,hld⟩:=hbox x hx
  have hep:TRep W (XO Y (hook (H x)) β2) β2 (.c (.a (.ep oc 1 0 0))) bp:=by
   refine .a _ _ ?_;cases hbpR with
   | ep _ _ _ _ b hb=>exact .ep _ _ _ _ b ((hβ2 oc hoc).trans hb)
  obtain ⟨sv,h1,h2⟩:=hR2.load hS hep hld;exact ⟨β2,sv,hR2,hb2,hβ2,h1,h2⟩
 obtain ⟨β2,sv,hR2,_,_,hld,hxs⟩:=hread x0 w1 hx0 hO0;refine wpIn_seq (bk0_in hi0' hld (len_run hS hk hxs hlen) fun a1 hi1 h31=> ?_);rw [i64_id (by omega) (by omega)] at h31
 refine wpIn_block (wpIn_loop (fun a2 W=> ∃ x,Inv x∧idx x≤N∧Itf a2 (.func (.yield l) #[] #[]) bp∧a2.tmps.getD 3 undef= .int .i64 ((idx x:Int)-1)∧Out P w0 foot Y pin env m0 { a with defers:=mark w.heap.size::a.defers } β l lp (H x) (nx x) W)
  (fun a2 _=>match a2.tmps.getD 3 undef with | .int _ r=>(r+1).toNat | _=>0) ⟨x0,hx0,by omega,hi1,by rw [hi0];exact h31,hO0⟩ ?_)
 rintro a2 W ⟨x,hx,hle,hi2,h32,hO⟩;refine wpIn_seq (wpIn_seq (bk1_in hi2 h32 fun a3 hi3 h33 h8=> ?_));cases hix:idx x with
 | zero=>
  refine wpIn_cond_false (by rw [z0m,h8,hix];rfl) (wpIn_exit ?_);simp only [Exit.then,Exit.inBlock,if_true];exact hend x W a3 hx hix hi3 hO
 | succ k=>
  rw [hix] at h33 h32 h8;have ek:((k+1:Nat):Int)-1=(k:Int):=by omega
  rw [ek] at h33 h32 h8;refine wpIn_cond_true (by rw [z0m,h8];simp) (wpIn_skip ?_);obtain ⟨β3,sv,hR3,hb3,hβ3,hld,hxs⟩:=hread x W hx hO;obtain ⟨rd,hixa,hlde⟩:=hel x k hx hix;obtain ⟨ev,hev,hevr⟩:=z70 hS hixa hxs (.int_mk _ _);obtain ⟨uv,huv,huvr⟩:=hR3.load hE hevr hlde
  refine wpIn_seq (wpIn_block (wpIn_seq (bk3_in (lp:=lp) (R:=fun W'=> ∃ x',(Inv x'∧idx x'=k)∧Out P w0 foot Y pin env m0 { a with defers:=mark w.heap.size::a.defers } β l lp (H x') (nx x') W') rfl hi3 h33 hld hev huv hO.lp rfl
   (zsd (v:=v x) hR3 hb3 hβ3 hO.lp hl0 henv (fun o b hq=>Nat.lt_of_lt_of_le (hpm o b hq) hm) (hnx x hx) (fun x' hx'=>hnx x' hx'.1) hn rfl rfl rfl rfl rfl rfl hp1 hp2 huvr (hround x k hx hix)) fun a4 W' hi4 h34 h18 ⟨x',⟨hx',hix'⟩,hO'⟩=> ?_)))
  · refine wpIn_cond_false (by rw [z0m,h18]) (wpIn_skip ?_);refine bk2_in hi4 h34 fun a5 hi5 h35=> ?_;rw [i64_id (by omega) (by omega)] at h35;refine ⟨⟨x',hx',by omega,hi5,by rw [hix'];exact h35,hO'⟩, ?_⟩;simp only [h35,h32];omega
end Go.AM

namespace Go.AM
def ctxQ (P:Program)(n m:Nat):Code→Nat→(AExit→St→Prop)→(AExit→St→Prop)
 | .seq a b,p,Q=>if (pts a).contains p then ctxQ P n m a p (zcz (Awp P n m b Q) Q) else ctxQ P n m b p Q
 | .cond _ a b,p,Q=>if (pts a).contains p then ctxQ P n m a p Q else ctxQ P n m b p Q
 | .block i c,p,Q=>if p=2*i+1 then Q else ctxQ P n m c p (z0u i Q)
 | .loop c,p,Q=>ctxQ P n m c p (zcz (Alwp P n m c Q) Q)
 | _,_,Q=>Q
def rngP:Code→Option (Operand×Nat×Nat×Code×Code)
 | .rangeFunc g ps A b=>match ps.toList with
  | [p1,p2]=>some (g,p1,p2,A,b)
  | _=>none
 | _=>none
theorem rngP_inv {c:Code}{g:Operand}{p1 p2:Nat}{A:Code}{b:Code}(h:rngP c=some (g,p1,p2,A,b)):c= .rangeFunc g #[p1,p2] A b:=by
 unfold rngP at h;split at h
 · rename_i g' ps A' b';split at h
   · rename_i q1 q2 hps;injection h with h
     simp only [Prod.mk.injEq] at h;obtain ⟨rfl,rfl,rfl,rfl,rfl⟩:=h;have:ps= #[q1,q2]:=by apply Array.ext';simpa using hps
     rw [this]
   · cases h
 · cases h
def asgB (n:Nat):Code→Bool
 | .region _ ops false=>z5t ops&&dstB ops n
 | .seq (.region _ ops false) (.region _ ops' false)=>(z5t ops&&dstB ops n)&&(z5t ops'&&dstB ops' n)
 | _=>false
def asgV (P:Program)(sh:FuncId→List Sh)(n:Nat)(A:Code)(K:AExit→St→Prop)(s:St):Prop:=
 match A with
 | .region _ ops _=>regV P sh n ops false K s
 | .seq (.region _ ops _) (.region _ ops' _)=>regV P sh n ops false (zcn (regV P sh n ops' false K) fun _ _=>False) s
 | _=>False
theorem zf5 {P:Program}{sh:FuncId→List Sh}{n id:Nat}{ops:Array Oper}{K:AExit→St→Prop}{s:St}{R:St→Prop}(hnd:z5t ops=true)(hdst:dstB ops n=true)(h:regV P sh n ops false K s)(hk:∀ s',K .normal s'→∀ e,look s'.env=look e→R ⟨e,s'.heap,s'.nx⟩):AsgS P n (.region id ops false) s R:=by
 unfold regV at h;split at h
 · refine AsgS.region hnd hdst (zek ?_ (z43 rfl h));rintro e h _ ⟨e2,he,hk2⟩;simp only [Bool.not_false,Bool.true_or] at hk2;exact hk _ hk2 e he
 · exact h.elim
def z8p:Code→Nat→Option (Operand×Nat×Nat×Code×Code)
 | .seq a b,p=>if (pts a).contains p then z8p a p else z8p b p
 | .cond _ a b,p=>if (pts a).contains p then z8p a p else z8p b p
 | .block i c,p=>if p=2*i+1 then rngP c else z8p c p
 | .loop c,p=>z8p c p
 | _,_=>none
section
variable {P:Program} {n m:Nat}
theorem z59 {g:Operand}{p1 p2:Nat}{A:Code}{y:Code}{s:St}:∀ {c:Code} {p:Nat} {Q:AExit→St→Prop},z8p c p=some (g,p1,p2,A,y)→(∀ i,Awp P n m (.rangeFunc g #[p1,p2] A y) (z0u i (ctxQ P n m c p Q)) s)→rz P n m c p Q s
 | .seq a b,p,Q,hr,h=>by
  unfold z8p at hr;unfold rz;unfold ctxQ at h;split
  · rename_i hc;rw [if_pos hc] at hr;simp only [hc,if_true] at h;exact z59 hr h
  · rename_i hc;rw [if_neg hc] at hr;simp only [hc] at h;exact z59 hr h
 | .cond _ a b,p,Q,hr,h=>by
  unfold z8p at hr;unfold rz;unfold ctxQ at h;split
  · rename_i hc;rw [if_pos hc] at hr;simp only [hc,if_true] at h;exact z59 hr h
  · rename_i hc;rw [if_neg hc] at hr;simp only [hc] at h;exact z59 hr h
 | .block i c,p,Q,hr,h=>by
  unfold z8p at hr;unfold rz;unfold ctxQ at h;split
  · rename_i hc;rw [if_pos hc] at hr;simp only [hc,if_true] at h;rw [rngP_inv hr];exact h i
  · rename_i hc;rw [if_neg hc] at hr;simp only [hc,if_false] at h;exact z59 hr h
 | .loop c,p,Q,hr,h=>by
  unfold z8p at hr;unfold rz;unfold ctxQ at h;exact z59 hr h
 | .skip,_,_,hr,_=>by cases hr
 | .rangeFunc ..,_,_,hr,_=>by cases hr
 | .exit _,_,_,hr,_=>by cases hr
 | .scope _,_,_,hr,_=>by cases hr
 | .label _,_,_,hr,_=>by cases hr
 | .goto _,_,_,hr,_=>by cases hr
 | .ret,_,_,hr,_=>by cases hr
 | .region ..,_,_,hr,_=>by cases hr
 | .refuse _,_,_,hr,_=>by cases hr
end
def aftV (P:Program)(sh:FuncId→List Sh)(n m:Nat)(lv:List (Nat×List Nat))(G:Nat→St→Prop):Code→Nat→(AExit→St→Prop)→St→Prop
 | .seq a b,p,K,s=>match (pts a).contains p with
  | true=>aftV P sh n m lv G a p (zcn (runV P sh n m lv G b K) K) s
  | false=>aftV P sh n m lv G b p K s
 | .cond _ a b,p,K,s=>match (pts a).contains p with
  | true=>aftV P sh n m lv G a p K s
  | false=>aftV P sh n m lv G b p K s
 | .block i c,p,K,s=>match p==2*i+1 with
  | true=>K .normal s
  | false=>match c with
   | .loop b=>aftV P sh n m lv G b p (zcn (z9z m lv G (2*i+1)) (z0u i K)) s
   | c=>aftV P sh n m lv G c p (z0u i K) s
 | _,_,_,_=>False
section
variable {P:Program} {sh:FuncId→List Sh} {n m:Nat} {lv:List (Nat×List Nat)} {G:Nat→St→Prop}
theorem z5a (hP:P.follows .mixedOrders=true):∀ {c:Code} {p:Nat} {K Q:AExit→St→Prop} {s:St},(pts c).Nodup→GOK P n m G c Q→(∀ e s,K e s→Q e s)→aftV P sh n m lv G c p K s→ctxQ P n m c p Q .normal s
 | .seq a b,p,K,Q,s,hn,hG,hk,h=>by
  have hn':=List.nodup_append.1 hn;unfold aftV at h;unfold ctxQ;split at h
  · rename_i hp;rw [if_pos hp];exact z5a hP hn'.1 hG.left (z39 (fun s hs=>z2w hP hn'.2.1 (hG.right hn) hk hs) hk) h
  · rename_i hp;rw [if_neg (by simp only [hp];decide)];exact z5a hP hn'.2.1 (hG.right hn) hk h
 | .cond x a b,p,K,Q,s,hn,hG,hk,h=>by
  have hn':=List.nodup_append.1 hn;unfold aftV at h;unfold ctxQ;split at h
  · rename_i hp;rw [if_pos hp];exact z5a hP hn'.1 hG.condL hk h
  · rename_i hp;rw [if_neg (by simp only [hp];decide)];exact z5a hP hn'.2.1 (hG.condR hn) hk h
 | .block i c,p,K,Q,s,hn,hG,hk,h=>by
  unfold aftV at h;unfold ctxQ;split at h
  · rename_i hp;rw [if_pos (by simpa using hp)];exact hk _ _ h
  · rename_i hp;rw [if_neg (by simpa using hp)];split at h
    · rename_i b;have hn2:(pts b).Nodup:=(List.nodup_cons.1 hn).2;unfold ctxQ;exact z5a hP hn2 (GOK.loop (hG.block hn)) (z39 (fun s hs=>hG.head hs) (z1s hk)) h
    · exact z5a hP (List.nodup_cons.1 hn).2 (hG.block hn) (z1s hk) h
 | .skip,_,_,_,_,_,_,_,h=>h.elim
 | .exit _,_,_,_,_,_,_,_,h=>h.elim
 | .ret,_,_,_,_,_,_,_,h=>h.elim
 | .loop _,_,_,_,_,_,_,_,h=>h.elim
 | .region ..,_,_,_,_,_,_,_,h=>h.elim
 | .rangeFunc ..,_,_,_,_,_,_,_,h=>h.elim
 | .scope _,_,_,_,_,_,_,_,h=>h.elim
 | .label _,_,_,_,_,_,_,_,h=>h.elim
 | .goto _,_,_,_,_,_,_,_,h=>h.elim
 | .refuse _,_,_,_,_,_,_,_,h=>h.elim
end
def vcA (P:Program)(sh:FuncId→List Sh)(lv:List (Nat×List Nat))(f:FuncId)(m:Nat)(R:TV→List AObj→Prop)(G:Nat→St→Prop)(p:Nat)(s:St):Prop:=
 match P.funcs[f]? with
 | some fn=>match fn.body with
  | some c=>match z8d (pts c) with
   | true=>aftV P sh fn.ntmps m lv G c p (endV P (ownB (sh f)) fn.results.toList m (lvU lv) R) s
   | false=>False
  | none=>False
 | none=>False
def endR (m0:Nat)(U:List Nat)(R:AHeap→Nat→Prop):AExit→St→Prop
 | .normal,s=>z9z m0 [(0,[]),(1000001,U)] (fun _ s'=>R s'.heap s'.nx) 0 s
 | _,_=>False
def vcR (P:Program)(sh:FuncId→List Sh)(f:FuncId)(m0:Nat)(U:List Nat)(p:Nat)(env:Env)(k:Int)(v:TV)(h:AHeap)(nx:Nat)(R:AHeap→Nat→Prop):Prop:=
 match P.funcs[f]? with
 | some fn=>match fn.body with
  | some c=>match z8p c p with
   | some (_,p1,p2,A,body)=>asgV P sh fn.ntmps A (zcn (runV P sh fn.ntmps m0 [] (fun _ _=>False) body (endR m0 U R)) fun _ _=>False) ⟨(p2,v)::(p1,iV k)::env,h,nx⟩
   | none=>False
  | none=>False
 | none=>False
def prepV (m0:Nat)(U live:List Nat)(K:St→Prop)(s:St):Prop:=z9z m0 [(0,live),(1000001,U)] (fun _ s'=>K s') 0 s
def rngB (P:Program)(f:FuncId)(p:Nat):Option Operand:=
 match P.funcs[f]? with
 | some fn=>match fn.body with
  | some c=>match z8p c p with
   | some (g,p1,p2,A,body)=>match z8d (pts c)&&asgB fn.ntmps A&&z6x body&&Nat.blt p1 fn.ntmps&&Nat.blt p2 fn.ntmps with
    | true=>some g
    | false=>none
   | none=>none
  | none=>none
 | none=>none
theorem Sle.less {m m0:Nat}{s s':St}(h:Sle m0 s s')(hm:m≤m0):Sle m s s':=by
 obtain ⟨σ,E,h1,h2,h3,h4⟩:=h;exact ⟨σ,E,h1,Nat.le_trans hm h2,fun o ho=>h3 o (Nat.lt_of_lt_of_le ho hm),h4⟩
theorem Sle.noEnv {m:Nat}{s s':St}(h:Sle m s s'):Sle m s ⟨[],s'.heap,s'.nx⟩:=by
 obtain ⟨σ,E,h1,h2,h3,h4,h5⟩:=h;exact ⟨σ,E,h1,h2,h3,(fun p hp=>by cases hp),h5⟩
theorem zgf {m:Nat}{lv:List (Nat×List Nat)}{G:Nat→St→Prop}{p:Nat}{s:St}(h:z9z m lv G p s):∃ s',Sle m s s'∧G p s':=zav h
theorem RPt.back {P:Program} {sh:FuncId→List Sh} {lv:List (Nat×List Nat)} {f:FuncId} {m m0 p oc N:Nat} {r:TV} {Hs':List AObj} {U live rdn:List Nat} {env:Env} {s0:St} {α:Type} {H:α→AHeap} {nx:α→Nat} {Inv:α→Prop} {idx:α→Nat} {y v:α→TV} {x0:α} {bk:FuncId} {S E:TypeId} {dS dE:TyD} {g:Operand} {xs:TV}
  (hP:P.follows .mixedOrders=true) (hrg:rngB P f p=some g) (hbk:IsBk P bk S E) (hS:tyOf P S=some dS) (hk:dS.kind= .slice E) (hE:tyOf P E=some dE)
  (hs:prepV m0 U live (fun s'=>s'=⟨env,H x0,nx x0⟩) s0) (hm:Nat.ble m m0=true) (henv:env.all (fun p=>p.2.lt m0)=true)
  (hg:ev env g= .c (.fn (.func bk) [] [(false,[.ep oc 1 0 0])])) (hoc:Nat.blt oc m0=true) (hnx:∀ x,Inv x→m0≤nx x)
  (hbox:∀ x,Inv x→∃ rd,z5e dS (fun o=>flat (hook (H x) o)) (.c (.a (.ep oc 1 0 0)))=some (xs,rd)) (hlen:zfm xs=some (N,rdn)) (hN:N<9223372036854775808)
  (hel:∀ x k,Inv x→idx x=k+1→∃ rd,z2f P dS xs (iV k)=some (y x)∧z5e dE (fun o=>flat (hook (H x) o)) (y x)=some (v x,rd))
  (hround:∀ x k,Inv x→idx x=k+1→vcR P sh f m0 U p env k (v x) (H x) (nx x) fun h n=> ∃ x',(Inv x'∧idx x'=k)∧h=H x'∧n=nx x')
  (hx0:Inv x0) (hi0:idx x0=N) (hdone:∀ x,Inv x→idx x=0→vcA P sh lv f m (fun r0 Hs0=>TV.Le r0 r∧Hs0=Hs') (RPt P f m r Hs') p ⟨env,H x,nx x⟩):
  RPt P f m r Hs' p s0:=by
 have hm':m≤m0:=Nat.le_of_ble_eq_true hm;obtain ⟨s',hsle,rfl⟩:=zgf hs;unfold rngB at hrg;unfold vcR at hround;split at hrg
 · rename_i fn hf;simp only [hf] at hround;split at hrg
   · rename_i c hb;simp only [hb] at hround;split at hrg
     · rename_i g' p1 p2 A body hat;simp only [hat] at hround;split at hrg
       · rename_i hall;injection hrg with hrg
         subst hrg;simp only [Bool.and_eq_true] at hall;obtain ⟨⟨⟨⟨h1,h2⟩,h3⟩,h4⟩,h5⟩:=hall;refine ⟨fn,c,hf,hb,z7c (hsle.less hm') (z59 hat fun i=> ?_)⟩;refine awp_back (m0:=m0) (Inv:=Inv) (idx:=idx) (y:=y) (v:=v) hbk hS hk hE hm' (fun p hp=>List.all_eq_true.1 henv p hp) hg (by simpa using hoc) hnx hbox hlen hN hel (by simpa using h4) (by simpa using h5) (fun x k hx hix=> ?_) hx0 hi0 (fun x hx hix=> ?_)
         · have hr:=hround x k hx hix
           have fin:∀ s':St,zcn (runV P sh fn.ntmps m0 [] (fun _ _=>False) body (endR m0 U fun h n=> ∃ x',(Inv x'∧idx x'=k)∧h=H x'∧n=nx x')) (fun _ _=>False) .normal s'→∀ e,look s'.env=look e→AwpR P fn.ntmps m0 body (fun ex s'=>ex= .normal∧∃ x',(Inv x'∧idx x'=k)∧Sle m0 s' ⟨[],H x',nx x'⟩) ⟨e,s'.heap,s'.nx⟩:=by
            intro s' hk2 e he;refine AwpR.look he (AwpR.mono (z4n hP h3 (fun _ _ h=>h) hk2) fun ex s hs=> ?_);cases ex with
            | normal=>
             have hs:z9z m0 [(0,[]),(1000001,U)] (fun _ s'=> ∃ x',(Inv x'∧idx x'=k)∧s'.heap=H x'∧s'.nx=nx x') 0 s:=hs;obtain ⟨s2,hs2,x',hx',e1,e2⟩:=zgf hs;exact ⟨rfl,x',hx',e1▸e2▸hs2.noEnv⟩
            | exit i=>exact hs.elim
            | ret=>exact hs.elim
           unfold asgB at h2;split at h2
           · simp only [Bool.and_eq_true] at h2;exact zf5 h2.1 h2.2 hr fin
           · simp only [Bool.and_eq_true] at h2;refine AsgS.seq (zf5 (R:=fun s'=> ∃ s'',look s'.env=look s''.env∧s'.heap=s''.heap∧s'.nx=s''.nx∧regV P sh fn.ntmps _ false _ s'') h2.1.1 h2.1.2 hr fun s' hk2 e he=>⟨s',he.symm,rfl,rfl,hk2⟩) fun s' hs'=> ?_;obtain ⟨s'',e1,e2,e3,hk3⟩:=hs';intro w0 foot Y pin r n' β a w Q q1 q2 q3 q4 q5;refine zf5 h2.2.1 h2.2.2 hk3 fin w0 foot Y pin r n' β a w Q q1 q2 ?_ ?_ q5
             · rw [←e1,←e2];exact q3
             · rw [←e3];exact q4
           · cases h2
         · have ha:=hdone x hx hix;unfold vcA at ha;simp only [hf,hb,h1] at ha;exact z5a hP (z3f h1) (zjz hf hb) (fun e s h=>zen e s h) ha
       · cases hrg
     · cases hrg
   · cases hrg
 · cases hrg
def zs6 (P:Program)(S E:TypeId)(n:Nat):Bool:=
 match tyOf P S,tyOf P E with
 | some dS,some dE=>(match dS.kind with | .slice e=>Nat.beq e E | _=>false) && !dS.agg&&dE.agg&&Nat.beq dE.size n
 | _,_=>false
theorem RPt.backF {P:Program} {sh:FuncId→List Sh} {lv:List (Nat×List Nat)} {f:FuncId} {m m0 p oc n:Nat} {r:TV} {Hs':List AObj} {U live:List Nat} {env:Env} {s0:St} {α:Type} {H:α→AHeap} {nx:α→Nat} {Inv:α→Prop} {idx:α→Nat} {x0:α} {bk:FuncId} {S E:TypeId} {g:Operand} {es:List (List FV)}
  (hP:P.follows .mixedOrders=true) (hrg:rngB P f p=some g) (hbk:IsBk P bk S E) (hT:zs6 P S E n=true)
  (hs:prepV m0 U live (fun s'=>s'=⟨env,H x0,nx x0⟩) s0) (hm:Nat.ble m m0=true) (henv:env.all (fun p=>p.2.lt m0)=true)
  (hg:ev env g= .c (.fn (.func bk) [] [(false,[.ep oc 1 0 0])])) (hoc:Nat.blt oc m0=true) (hnx:∀ x,Inv x→m0≤nx x)
  (hbox:∀ x,Inv x→hook (H x) oc= .arr 1 [[.a (.fz (.sl false n es))]]) (hrow:∀ e∈es,e.length=n) (hN:es.length<9223372036854775808)
  (hidx:∀ x,Inv x→idx x≤es.length)
  (hround:∀ x k,Inv x→idx x=k+1→k<es.length→vcR P sh f m0 U p env k (.agg (fzs (es.getD k []))) (H x) (nx x) fun h n=> ∃ x',(Inv x'∧idx x'=k)∧h=H x'∧n=nx x')
  (hx0:Inv x0) (hi0:idx x0=es.length) (hdone:∀ x,Inv x→idx x=0→vcA P sh lv f m (fun r0 Hs0=>TV.Le r0 r∧Hs0=Hs') (RPt P f m r Hs') p ⟨env,H x,nx x⟩):
  RPt P f m r Hs' p s0:=by
 unfold zs6 at hT;split at hT
 · rename_i dS dE hS hE;split at hT
   · rename_i e hk;simp only [Bool.and_eq_true,Bool.not_eq_true'] at hT;obtain ⟨⟨⟨h1,h2⟩,h3⟩,h4⟩:=hT;have h1:=Nat.eq_of_beq_eq_true h1;have h4:=Nat.eq_of_beq_eq_true h4;subst h1
     have red:∀ (d:TyD) (l:List WV),d.agg=true→d.size=l.length→zcs d l=some (.agg l):=fun d l ha hl=>by
      unfold zcs;rw [ha,if_pos rfl,if_pos (by omega),hl,List.take_length]
     refine RPt.back (y:=fun x=> .c (.a (.fz (.pt (es.getD (idx x-1) []))))) (v:=fun x=> .agg (fzs (es.getD (idx x-1) []))) (xs:= .c (.a (.fz (.sl false n es)))) (N:=es.length) (rdn:=[]) hP hrg hbk hS hk hE hs hm henv hg hoc hnx (fun x hx=> ?_) rfl hN (fun x k hx hix=> ?_) (fun x k hx hix=> ?_) hx0 hi0 hdone
     · refine ⟨[oc], ?_⟩;unfold z5e;simp only [hbox x hx];show (if 1=1 then _ else none)=_
       rw [if_pos rfl];show (match zcs dS [.a (.fz (.sl false n es))] with | some v=>some (v,[oc]) | none=>none)=_
       unfold zcs;rw [h2];rfl
     · have hle:=hidx x hx;have hlt:k<es.length:=by omega
       have hr:=hrow (es.getD k []) (by simp [List.getD,hlt]);refine ⟨[], ?_, ?_⟩
       · unfold z2f iV;simp only [hk,hE,zd3];rw [if_pos ⟨h4,by omega,by omega⟩,Int.toNat_natCast,hix,Nat.add_sub_cancel]
       · unfold z5e;simp only [hix,Nat.add_sub_cancel];rw [red dE _ h3 (by rw [h4];unfold fzs;rw [List.length_map,hr])]
     · have hle:=hidx x hx;have:=hround x k hx hix (by omega);simp only [hix,Nat.add_sub_cancel];exact this
   · cases hT
 · cases hT
end Go.AM

namespace Go.AM
open Go.ChangeShapes Go.WideShapes Go.ChangeAt Go.RowKit
abbrev Cl:=Int×Tm×Tm
abbrev FL (c:Cl):List FV:=[.int .i64 c.1, .int .i64 c.2.1.k, .str c.2.1.s, .int .i64 c.2.1.n, .sl false 4 (FTs c.2.1.l), .int .i64 c.2.2.k, .str c.2.2.s, .int .i64 c.2.2.n, .sl false 4 (FTs c.2.2.l)]
def CLs (l:List Cl):List (List FV):=l.map FL
theorem z0i (l:List Cl):(CLs l).length=l.length:=by simp [CLs]
abbrev aCl (c:Cl):TV:= .agg [.a (.fz (.int .i64 c.1)), .a (.fz (.int .i64 c.2.1.k)), .a (.fz (.str c.2.1.s)), .a (.fz (.int .i64 c.2.1.n)), .a (.fz (.sl false 4 (FTs c.2.1.l))), .a (.fz (.int .i64 c.2.2.k)), .a (.fz (.str c.2.2.s)), .a (.fz (.int .i64 c.2.2.n)), .a (.fz (.sl false 4 (FTs c.2.2.l)))]
abbrev aCls (l:List Cl):TV:= .c (.a (.fz (.sl false 9 (CLs l))))
section
variable {H:Type} {enc:TypeId×Value→H} {P:Program} {w:World}
abbrev ClI:={ n:Int // -9223372036854775808≤n∧n≤9223372036854775807 }×TmI×TmI
abbrev ClI.c (v:ClI):Cl:=(v.1.1,v.2.1.1,v.2.2.1)
structure ClTy (P:Program)(T Tt:TypeId)(f0 f1 f2:Field):Prop where
 str:P.underlying T=some (.struct #[f0,f1,f2])
 u0:P.underlying f0.type=some (.int .i64)
 t1:f1.type=Tt
 t2:f2.type=Tt
 o0:f0.offset=0
 o1:f1.offset=1
 o2:f2.offset=5
 c0:P.cellsOf f0.type=1
 cT:P.cellsOf T=9
theorem FT_FL (v:ClI):FL v.c=[.int .i64 v.1.1]++(FT v.2.1.1++FT v.2.2.1):=by
 obtain ⟨n,⟨a,_⟩,⟨b,_⟩⟩:=v;cases a;cases b;rfl
theorem rd_cl {b:DataW H→Nat}{bs:List (DataW H)→Nat}(hb:Bulk b bs){T Tt:TypeId}{g0 g1 g2 g3 f0 f1 f2:Field}(hT:TmTy P Tt g0 g1 g2 g3)(hV:ClTy P T Tt f0 f1 f2)(fuel:Nat):
  RdN enc P w b fuel T (fun v:ClI=>FL v.c) (fun v=>v.2.1.1.bk+v.2.2.1.bk+1):=by
 intro cs x h;obtain ⟨xs,n,rfl,rfl,hl,hxl,hf⟩:=DataW.trod_struct hV.str h;rw [hV.cT] at hl
 match cs,hl with
 | [v0,v1,v2,v3,v4,v5,v6,v7,v8],_=>
 match xs,hxl with
 | [x0,x1,x2],_=>
 have q0:=hf 0 f0 rfl;have q1:=hf 1 f1 rfl;have q2:=hf 2 f2 rfl;rw [hV.o0,hV.c0] at q0;rw [hV.o1,hV.t1,hT.cT] at q1;rw [hV.o2,hV.t2,hT.cT] at q2;obtain ⟨i,r0,z0⟩:=rd_num (b:=b) hV.u0 hb.one n _ _ q0;obtain ⟨t,r1,z1⟩:=zld hb hT n _ _ q1;obtain ⟨u,r2,z2⟩:=zld hb hT n _ _ q2;have z0:1≤b x0.1:=z0;have z1:t.1.bk≤b x1.1:=z1;have z2:u.1.bk≤b x2.1:=z2;refine ⟨(⟨i.1,zeo i.2⟩,t,u), ?_, ?_⟩
 · show LRep (FRep w z8z) (FL (ClI.c (⟨i.1,zeo i.2⟩,t,u))) [v0,v1,v2,v3,v4,v5,v6,v7,v8];rw [FT_FL];exact .cons (LRep.one r0) (LRep.append r1 r2)
 · show t.1.bk+u.1.bk+1≤b (.agg [x0.1,x1.1,x2.1]);have h9:=hb.agg [x0.1,x1.1,x2.1];simp only [hb.cons,hb.nil] at h9;omega
end
end Go.AM

set_option maxRecDepth 100000
open Go Go.Proofs
namespace Go.AM
abbrev RW:=List (List FV)
abbrev RT (a:TV)(b:List AObj)(r:TV)(H:List AObj):Prop:=TV.Le a r∧b=H
open List (getD length take drop)
open Int (toNat)
abbrev Q0 (a:FV):WV:= .a (.fz a)
abbrev Q1 (a:Int):FV:= .int .i64 a
abbrev Q2 (a:Int):WV:=Q0 (Q1 a)
abbrev Q3 (a:Bool):WV:=Q0 (.bool a)
abbrev Q4 (a:Nat)(b:RW):FV:= .sl false a b
abbrev Q5 (a:List UInt8):WV:=Q0 (.str a)
abbrev Q6 (a:Nat)(b:WV):Nat×TV:=(a, .c b)
abbrev Q7 (a:Nat)(b:List TV)(c:List AObj)(d:TV)(e:List AObj):Prop:=AC Tryz.prog a b c d e
abbrev Q8 (a:Nat)(b:RW):WV:=Q0 (Q4 a b)
abbrev Q9 (a b:Nat)(c:List (List WV)):Nat×AObj:=(a, .arr b c)
abbrev Q10 (a b c d:Nat):WV:= .a (.ep a b c d)
abbrev Q13 (a:Bool):TV:= .c (Q3 a)
abbrev Q14 (a b c d:Nat):WV:= .a (.osl a b c d)
abbrev Q16 (a:Int)(b:List UInt8)(c:Int)(d:WV):List WV:=[Q2 a,Q5 b,Q2 c,d]
abbrev Q19 (a:Int)(b:List UInt8)(c:Int)(d:WV):TV:= .agg (Q16 a b c d)
abbrev Q20 (a:Nat)(b:Int):Nat×TV:=Q6 a (Q2 b)
abbrev Q21 (a:Bool)(b:List AObj)(c:TV)(d:List AObj):Prop:=RT (Q13 a) b c d
abbrev Q22 (a:List WV):Bool×(List WV):=(false,a)
abbrev Q23 (a:Int):TV:= .c (Q2 a)
abbrev Q24  :WV:=Q0 .N
abbrev Q28 (a:List UInt8)(b c d e:Int)(f:WV):List WV:=[Q5 a,Q2 b,Q2 c,Q2 d,Q2 e,f]
abbrev Q30 (a:Nat)(b:List WV):AObj:= .arr a [b]
abbrev Q31 (a:Nat)(b:Bool):Nat×TV:=Q6 a (Q3 b)
abbrev Q32 (a:List UInt8)(b c d e:Int)(f:Nat)(g:RW):List WV:=Q28 a b c d e (Q8 f g)
abbrev Q33 (a:List AObj)(b:TV)(c:List AObj):Prop:=Q21 false a b c
abbrev Q34 (a b:Nat)(c:TV)(d:List AObj)(e:Nat)(f:List (Nat×TV))(g:List (Nat×AObj))(h:Nat):Prop:=RPt Tryz.prog a b c d e ⟨f,g,h⟩
abbrev Q35 (a:Nat)(b:List TV)(c:List AObj)(d:Bool)(e:List AObj):Prop:=Q7 a b c (Q13 d) e
abbrev Q36 (a:WV)(b c d e:Nat):List WV:=[a,Q14 b c d e]
abbrev Q39 (a:AObj)(b:Nat)(c:RW):List AObj:=[a, .gone, .arz b c]
abbrev Q42 (a b c:Nat):Nat×TV:=Q6 a (Q10 b c 0 0)
abbrev Q43 (a:Nat)(b:Int)(c d e f:Nat):AObj:=Q30 a (Q36 (Q2 b) c d e f)
abbrev Q44 (a:List (Bool×(List WV)))(b:List AObj)(c:TV)(d:List AObj):Prop:=RT (.tup a) b c d
abbrev Q45 (a:Bool×(List WV))(b:List WV):List (Bool×(List WV)):=[a,Q22 b]
abbrev Q49 (a b c:Int)(d:List UInt8)(e:Int)(f g h:WV):List WV:=[Q2 a,Q2 b,Q2 c,Q5 d,Q2 e,f,g,h]
abbrev Q50 (a b:Nat)(c:RW):Nat×AObj:=(a, .arz b c)
abbrev Q51 (a:Int):List WV:=[Q2 a]
abbrev Q52 (a:TV)(b:List AObj):Prop:=Q33 [] a b
abbrev Q53  :WV:=Q3 false
abbrev Q54 (a b c:Nat×TV)(d:Nat)(e:Int):List (Nat×TV):=[a,b,c,Q20 d e]
abbrev Q56 (a b:Nat)(c:List (List WV))(d:Nat×AObj):List (Nat×AObj):=[Q9 a b c,d]
abbrev Q57 (a b:Nat)(c:TV)(d:List AObj)(e:Nat)(f:List (Nat×TV))(g h:Nat)(i:List (List WV))(j:Nat×AObj)(k:Nat):Prop:=Q34 a b c d e f (Q56 g h i j) k
abbrev Q58 (a b c d:Nat):TV:= .c (Q10 a b c d)
abbrev Q59 (a:AObj)(b:Nat)(c:RW):List AObj:=[a, .arz b c]
abbrev Q61 (a:Int)(b:List UInt8)(c:Int)(d:Nat)(e:RW):List WV:=Q16 a b c (Q8 d e)
abbrev Q62 (a:List UInt8)(b c d e:Int)(f:Nat)(g:RW):List (List WV):=[Q32 a b c d e f g]
abbrev Q64 (a:List WV):Bool×(List WV):=(true,a)
abbrev Q65 (a:Bool×(List WV))(b:Int):List (Bool×(List WV)):=Q45 a (Q51 b)
abbrev Q66 (a b c:Int)(d:List UInt8)(e:Int)(f:FV)(g h:WV):List WV:=Q49 a b c d e (Q0 f) g h
abbrev Q67 (a:Nat)(b:List TV)(c:List AObj)(d:List (Bool×(List WV)))(e:List AObj):Prop:=Q7 a b c (.tup d) e
abbrev Q68 (a b:Nat):Nat×TV:=Q42 a 0 b
abbrev Q69 (a b:Nat×TV)(c:Nat)(d:Int):List (Nat×TV):=[a,b,Q20 c d]
abbrev Q70 (a:Nat)(b:RW):List AObj:=[.arz a b]
abbrev Q73 (a:Nat)(b:List TV)(c:List AObj)(d:Int)(e:List AObj):Prop:=Q7 a b c (Q23 d) e
abbrev Q76 (a:Nat)(b:List TV)(c:Bool):Prop:=Q35 a b [] c []
abbrev Q77 (a b:Nat)(c:RW):Nat×TV:=Q6 a (Q8 b c)
abbrev Q78 (a:Bool)(b:TV)(c:List AObj):Prop:=Q21 a [] b c
abbrev Q79 (a:Int)(b:List AObj)(c:TV)(d:List AObj):Prop:=RT (Q23 a) b c d
abbrev Q80 (a b c:Nat):WV:=Q14 a b 0 c
abbrev Q81 (a b:Nat×TV)(c:Nat)(d:Bool)(e f g h:Nat×TV):List (Nat×TV):=[a,b,Q31 c d,e,f,g,h]
abbrev Q82 (a:TV)(b:Int):List TV:=[a,Q23 b]
abbrev Q83 (a:Nat)(b:Int)(c d e f g:Nat)(h:RW):List AObj:=Q59 (Q43 a b c d e f) g h
abbrev Q84 (a:List WV)(b:Int):List (Bool×(List WV)):=Q65 (Q22 a) b
abbrev Q85 (a b c d:Nat):Nat×TV:=Q6 a (Q80 b c d)
abbrev Q86 (a:Int)(b:List UInt8)(c:Int)(d:RW):TV:=Q19 a b c (Q8 4 d)
abbrev Q87 (a:Nat):Nat×TV:=Q31 a false
abbrev Q88 (a b c:Nat):List WV:=[Q80 a b c]
abbrev Q89 (a b:List WV):List (Bool×(List WV)):=Q45 (Q64 a) b
abbrev Q92 (a:Int)(b:List UInt8)(c:Int)(d:Nat)(e:RW):List (List WV):=[Q61 a b c d e]
abbrev Q95 (a:Int)(b:List UInt8)(c:Int)(d:FV):TV:=Q19 a b c (Q0 d)
abbrev Q96 (a b:Nat)(c:Nat×TV)(d:Nat)(e:Int):List (Nat×TV):=Q69 (Q68 a b) c d e
abbrev Q97 (a b c d:Nat):AObj:=Q30 a (Q88 b c d)
abbrev Q98 (a b:Nat):Nat×TV:=Q42 a 1 b
abbrev Q99 (a:Nat)(b:RW):TV:= .c (Q8 a b)
abbrev Q101 (a:Nat):Nat×TV:=Q68 2 a
abbrev Q104 (a:TV)(b:List WV):List TV:=[a, .agg b]
abbrev Q105  :WV:=Q3 true
abbrev Q106 (a:TV)(b:Int)(c:TV):List TV:=[a,Q23 b,c]
abbrev Q107 (a:List (Bool×(List WV)))(b:TV)(c:List AObj):Prop:=Q44 a [] b c
abbrev Q108 (a b:List WV)(c:TV)(d:List AObj):Prop:=Q107 (Q89 a b) c d
abbrev Q109 (a b c d:Nat)(e:List WV):List TV:=Q104 (Q58 a b c d) e
abbrev Q110 (a:Int)(b:List UInt8)(c:Int):List WV:=Q16 a b c Q24
abbrev Q111 (a b c d:Nat×TV)(e:Nat)(f:Int):List (Nat×TV):=[a,b,c,d,Q20 e f]
abbrev Q113 (a b c:WV):TV:= .agg [a,b,c]
abbrev Q115 (a:Nat)(b:List UInt8)(c d e f:Int)(g:Nat)(h:RW):List AObj:=[Q30 a (Q32 b c d e f g h)]
abbrev Q118 (a b c:WV)(d:List WV)(e:TV)(f:List AObj):Prop:=Q108 [a,Q53,b,c] d e f
abbrev Q121 (a:TV)(b:WV):List TV:=[a, .c b]
abbrev Q122 (a:Nat)(b:RW)(c:WV):List TV:=Q121 (Q99 a b) c
abbrev Q123 (a:TV)(b:List AObj):Prop:=Q78 true a b
abbrev Q125  :List WV:=[Q24]
abbrev Q126 (a:Int):List (Bool×(List WV)):=Q84 Q125 a
abbrev Q127 (a:Int)(b:List UInt8)(c:Int):TV:=Q19 a b c Q24
abbrev Q128 (a b c d e:Nat×TV)(f:Nat)(g:Int):List (Nat×TV):=[a,b,c,d,e,Q20 f g]
abbrev Q129 (a b:WV)(c:List WV)(d:TV)(e:List AObj):Prop:=Q118 a Q53 b c d e
abbrev Q130 (a:Int):AObj:=Q30 1 (Q51 a)
abbrev Q131 (a:Int):List AObj:=[Q130 a]
abbrev Q132 (a:Nat)(b:TV)(c:Bool):Prop:=Q76 a [b] c
abbrev Q133 (a:Nat)(b:Int)(c:List UInt8)(d:Int)(e:FV)(f:Bool):Prop:=Q132 a (Q95 b c d e) f
abbrev Q134 (a:Int)(b:AObj):List AObj:=[Q130 a,b]
abbrev Q135 (a:WV)(b:List WV)(c:TV)(d:List AObj):Prop:=Q129 a Q105 b c d
abbrev Q136 (a:RW):FV:=Q4 4 a
abbrev Q142 (a b:Int)(c:List UInt8)(d:Int)(e:WV)(f:Int)(g:List UInt8)(h:Int)(i:WV):List WV:=[Q2 a,Q2 b,Q5 c,Q2 d,e,Q2 f,Q5 g,Q2 h,i]
abbrev Q144 (a b:Nat):AV:= .ep a b 0 0
abbrev Q145 (a:Nat):AV:=Q144 0 a
abbrev Q146  :AV:=Q145 1
abbrev Q147 (a:Nat)(b:TV)(c:Int)(d:Bool):Prop:=Q76 a (Q82 b c) d
abbrev Q148 (a:Int)(b:List UInt8)(c:Int):List (List WV):=[Q110 a b c]
abbrev Q149 (a b:Nat)(c:Int)(d:List UInt8)(e:Int):Nat×AObj:=Q9 a b (Q148 c d e)
abbrev Q152 (a b:Nat×TV)(c:Nat)(d:Int)(e:Nat)(f:Int):List (Nat×TV):=Q54 a b (Q20 c d) e f
abbrev Q153 (a:List UInt8)(b c d e:Int)(f:Nat)(g:RW):TV:= .agg (Q32 a b c d e f g)
abbrev Q158 (a:Int)(b:Nat)(c:RW):List AObj:=Q39 (Q43 2 a 2 8 0 b) 8 c
abbrev Q159 (a b c d e:Nat)(f:List WV)(g:List AObj)(h i:Int)(j:Nat)(k:RW):Prop:=Q73 a (Q109 b c d e f) g h (Q158 i j k)
abbrev Q160 (a:List (Bool×(List WV)))(b:Int)(c:Nat)(d:RW)(e:TV)(f:List AObj):Prop:=Q44 a (Q158 b c d) e f
abbrev Q161 (a:Nat):Nat×TV:=Q6 a Q24
abbrev Q162 (a:Int)(b:TV)(c:List AObj):Prop:=Q79 a [] b c
abbrev Q164 (a:List UInt8):TV:= .c (Q5 a)
abbrev Q165 (a b c:Nat):TV:= .c (Q80 a b c)
abbrev Q166 (a:Nat)(b:RW):Nat×TV:=Q77 a 4 b
abbrev Q167 (a b c d e:Nat)(f:RW):List AObj:=Q39 (Q97 a b c d) e f
abbrev Q168 (a:List WV)(b:TV)(c:List AObj):Prop:=Q135 Q105 a b c
abbrev Q169 (a b:Int)(c:List UInt8)(d:Int)(e:Nat)(f:RW)(g:Int)(h:List UInt8)(i:Int)(j:Nat)(k:RW):List WV:=Q142 a b c d (Q8 e f) g h i (Q8 j k)
abbrev Q171 (a b:Nat):TV:=Q58 a b 0 0
abbrev Q172 (a:Nat):TV:=Q171 0 a
abbrev Q173 (a:TV)(b:Nat):List TV:=[a,Q172 b]
abbrev Q174 (a b c:Int)(d:List UInt8)(e:Int)(f g:WV):List WV:=Q49 a b c d e f Q24 g
abbrev Q175 (a b c:Int)(d:List UInt8)(e:Int)(f:WV):List WV:=Q174 a b c d e f Q24
abbrev Q181 (a:Int)(b:WV)(c:Bool):TV:=Q113 (Q2 a) b (Q3 c)
abbrev Q182 (a:Bool)(b c:Int):TV:=Q113 (Q3 a) (Q2 b) (Q2 c)
abbrev Q183 (a:Int)(b:TV)(c:List AObj):Prop:=Q107 (Q126 a) b c
abbrev Q184 (a:Nat)(b c:TV):List TV:=[Q172 a,b,c]
abbrev Q185 (a:Nat)(b:List TV)(c:List (Bool×(List WV)))(d:List AObj):Prop:=Q67 a b [] c d
abbrev Q186 (a:Nat)(b:List TV)(c:List (Bool×(List WV))):Prop:=Q185 a b c []
abbrev Q188 (a:Nat)(b:Int)(c:List UInt8)(d:Int)(e:RW):Nat×AObj:=Q9 a 4 (Q92 b c d 4 e)
abbrev Q189 (a:Int):Nat×TV:=Q20 1 a
theorem hP:Tryz.prog.follows .mixedOrders=true:=by kernel_rfl
def sh:FuncId→List Sh
 | 9=> [⟨Cd×Int,fun x=>(.tup (Q65 (Q64 (Q32 x.1.nm x.1.ar x.1.fr x.1.vs x.1.sl 8 (FIs x.1.ins))) x.2)),fun _ H=>H,true,false⟩]
 | 10=> [⟨Cd×Int,fun x=>(.tup (Q65 (Q64 (Q32 x.1.nm x.1.ar x.1.fr x.1.vs x.1.sl 8 (FIs x.1.ins))) x.2)),fun _ H=>H,true,false⟩]
 | 14=> [⟨Tm×List Tm,fun x=>(.tup (Q89 (cT x.1) [Q8 4 (FTs x.2)])),fun _ H=>H,true,false⟩]
 | 16=> [⟨Tm,fun x=>(aT x),fun _ H=>H,true,false⟩]
 | 19=> [⟨Cd×Int,fun x=>(.tup (Q65 (Q64 (Q32 x.1.nm x.1.ar x.1.fr x.1.vs x.1.sl 8 (FIs x.1.ins))) x.2)),fun _ H=>H,true,false⟩]
 | 20=> [⟨Cd×Int,fun x=>(.tup (Q65 (Q64 (Q32 x.1.nm x.1.ar x.1.fr x.1.vs x.1.sl 8 (FIs x.1.ins))) x.2)),fun _ H=>H,true,false⟩]
 | 22=> [⟨Cd×Int,fun x=>(.tup (Q65 (Q64 (Q32 x.1.nm x.1.ar x.1.fr x.1.vs x.1.sl 8 (FIs x.1.ins))) x.2)),fun _ H=>H,true,false⟩]
 | 23=> [⟨Cd,fun x=>(Q153 x.nm x.ar x.fr x.vs x.sl 8 (FIs x.ins)),fun _ H=>H,true,false⟩]
 | 24=> [⟨Cd,fun x=>(Q153 x.nm x.ar x.fr x.vs x.sl 8 (FIs x.ins)),fun _ H=>H,true,false⟩]
 | 39=> [⟨Bool,fun x=>(Q13 x),fun _ H=>H,true,true⟩]
 | 41=> [⟨List Tm,fun x=>(Q99 4 (FTs x)),fun _ H=>H,true,false⟩]
 | 43=> [⟨Int×List In1,fun _=>(.tup []),fun x _=>(Q158 x.1 (length x.2) (FIs x.2)),true,false⟩]
 | 44=> [⟨Int×List In1,fun _=>(.tup []),fun x _=>(Q158 x.1 (length x.2) (FIs x.2)),true,false⟩]
 | 45=> [⟨Int×List In1,fun _=>(.tup []),fun x _=>(Q158 x.1 (length x.2) (FIs x.2)),true,false⟩]
 | 52=> [⟨Tm,fun x=>(aT x),fun _ H=>H,true,false⟩]
 | 53=> [⟨Tm×Tm,fun x=>(.tup [Q64 (cT x.1),Q64 (cT x.2)]),fun _ H=>H,true,false⟩]
 | 54=> [⟨Tm×List Tm,fun x=>(.tup (Q89 (cT x.1) [Q8 4 (FTs x.2)])),fun _ H=>H,true,false⟩]
 | 55=> [⟨Int×Int×List In1,fun x=>(Q23 x.1),fun x _=>(Q158 x.2.1 (length x.2.2) (FIs x.2.2)),true,false⟩]
 | 56=> [⟨Tm,fun x=>(aT x),fun _ H=>H,true,true⟩]
 | 57=> [⟨Int×Int×List In1,fun x=>(Q23 x.1),fun x _=>(Q158 x.2.1 (length x.2.2) (FIs x.2.2)),true,false⟩]
 | 67=> [⟨Int,fun x=>(.tup (Q126 x)),fun _ _=> [],false,false⟩,⟨List Cl,fun x=>(.tup (Q84 (Q88 0 9 (length x)) 0)),fun x _=>(Q70 9 (CLs x)),false,false⟩]
 | 68=> [⟨Tm,fun x=>(aT x),fun _ H=>H,true,false⟩]
 | 82=> [⟨Bool×RW,fun x=>(Q13 x.1),fun x H=>List.set H 1 (.arz 3 x.2),true,true⟩]
 | 84=> [⟨Int,fun x=>(Q23 x),fun _ H=>H,true,true⟩]
 | 85=> [⟨Unit,fun _=>(.c Q24),fun _ _=> [],false,false⟩,⟨Unit,fun _=>(Q165 0 4 0),fun _ _=>(Q70 4 []),false,false⟩]
 | 86=> [⟨Int×List In1,fun _=>(.tup []),fun x _=>(Q158 x.1 (length x.2) (FIs x.2)),true,false⟩]
 | 87=> [⟨Tm×Int×List In1,fun x=>(aT x.1),fun x _=>(Q158 x.2.1 (length x.2.2) (FIs x.2.2)),true,false⟩]
 | 88=> [⟨Tm,fun x=>(aT x),fun _ H=>H,true,false⟩]
 | 89=> [⟨Int,fun x=>(.tup (Q126 x)),fun _ _=> [],false,false⟩,⟨List Cl,fun x=>(.tup (Q84 (Q88 0 9 (length x)) 0)),fun x _=>(Q70 9 (CLs x)),false,false⟩]
 | 91=> [⟨List UInt8×Int,fun x=>(.tup [Q22 [Q5 x.1],Q22 Q125,Q22 (Q51 x.2)]),fun _ _=> [],false,false⟩,⟨List UInt8×List Tm×Int,fun x=>(.tup [Q22 [Q5 x.1],Q22 (Q88 0 4 (length x.2.1)),Q22 (Q51 x.2.2)]),fun x _=>(Q70 4 (FTs x.2.1)),false,false⟩]
 | 92=> [⟨List Cl×Int,fun x=>(.tup (Q84 [Q8 9 (CLs x.1)] x.2)),fun _ H=>H,true,false⟩]
 | 93=> [⟨Tm,fun x=>(aT x),fun _ H=>H,true,false⟩]
 | 96=> [⟨Tm,fun x=>(aT x),fun _ H=>H,true,false⟩]
 | 97=> [⟨List Tm,fun _=>(.c (.fn (.func 131) [] [(false,[Q146])])),fun x _=> [Q30 1 [Q8 4 (FTs x)]],true,false⟩]
 | 98=> [⟨Tm,fun x=>(aT x),fun _ H=>H,true,false⟩]
 | 99=> [⟨Tm,fun x=>(aT x),fun _ H=>H,true,false⟩]
 | 100=> [⟨Bool,fun x=>(.c (Q0 (.sl x 4 []))),fun _ _=> [],false,false⟩,⟨RW,fun x=>(Q165 0 4 (length x)),fun x _=>(Q70 4 x),false,false⟩]
 | 101=> [⟨Tm,fun x=>(aT x),fun _ H=>H,true,false⟩]
 | 102=> [⟨Tm,fun x=>(aT x),fun _ H=>H,true,false⟩]
 | 105=> [⟨Bool×RW,fun x=>(Q13 x.1),fun x H=>List.set H 0 (.arz 3 x.2),true,true⟩]
 | 109=> [⟨Int,fun x=>(.tup (Q126 x)),fun _ _=> [],false,false⟩,⟨List Cl,fun x=>(.tup (Q84 (Q88 0 9 (length x)) 0)),fun x _=>(Q70 9 (CLs x)),false,false⟩]
 | 114=> [⟨Int,fun x=>(Q23 x),fun _ H=>H,true,true⟩]
 | 115=> [⟨Int,fun _=>(.tup []),fun x _=>(Q131 x),false,false⟩,⟨Unit,fun _=>(.tup []),fun _ _=> [Q30 1 Q125],false,false⟩,⟨Nat×RW,fun _=>(.tup []),fun x _=>(Q59 (Q97 1 1 1 x.1) 1 x.2),false,false⟩,⟨Nat×RW,fun _=>(.tup []),fun x _=>(Q167 1 2 1 x.1 1 x.2),false,false⟩]
 | 116=> [⟨Int,fun _=>(.tup []),fun x _=>(Q131 x),false,false⟩]
 | 124=> [⟨Int×List In1,fun _=>(.tup []),fun x _=>(Q158 x.1 (length x.2) (FIs x.2)),true,false⟩]
 | 125=> [⟨Tm×Int×List In1,fun x=>(aT x.1),fun x _=>(Q158 x.2.1 (length x.2.2) (FIs x.2.2)),true,false⟩]
 | 126=> [⟨Int×List In1,fun _=>(.tup []),fun x _=>(Q158 x.1 (length x.2) (FIs x.2)),true,false⟩]
 | 127=> [⟨Tm,fun x=>(aT x),fun _ H=>H,true,false⟩]
 | 130=> [⟨List Cl×Int,fun x=>(.tup (Q84 [Q8 9 (CLs x.1)] x.2)),fun _ H=>H,true,false⟩]
 | 132=> [⟨Tm,fun x=>(aT x),fun _ H=>H,true,false⟩]
 | 133=> [⟨Tm,fun x=>(aT x),fun _ H=>H,true,false⟩]
 | 134=> [⟨Tm,fun x=>(aT x),fun _ H=>H,true,false⟩]
 | 135=> [⟨Tm,fun x=>(aT x),fun _ H=>H,true,false⟩]
 | 136=> [⟨Tm,fun x=>(aT x),fun _ H=>H,true,false⟩]
 | 140=> [⟨Tm,fun x=>(aT x),fun _ H=>H,true,false⟩]
 | 146=> [⟨Int×List In1,fun _=>(.tup []),fun x _=>(Q158 x.1 (length x.2) (FIs x.2)),true,false⟩]
 | 147=> [⟨List Cl×Int,fun x=>(.tup (Q84 [Q8 9 (CLs x.1)] x.2)),fun _ H=>H,true,false⟩]
 | 148=> [⟨Tm,fun x=>(aT x),fun _ H=>H,true,false⟩]
 | 149=> [⟨Int×List Cl,fun x=>(Q23 x.1),fun x _=>(Q167 1 2 9 (length x.2) 9 (CLs x.2)),true,false⟩]
 | 150=> [⟨List Cl,fun _=>(.tup []),fun x _=>(Q167 1 2 9 (length x) 9 (CLs x)),true,false⟩]
 | 157=> [⟨Tm,fun x=>(aT x),fun _ H=>H,true,false⟩]
 | 158=> [⟨Int×List Tm×Bool,fun x=>(Q181 x.1 (Q8 4 (FTs x.2.1)) x.2.2),fun _ H=>H,true,false⟩]
 | 159=> [⟨List Tm,fun _=>(.tup []),fun x H=>List.set H 0 (.arz 4 (FTs x)),true,true⟩]
 | 160=> [⟨Int×List Tm×Bool,fun x=>(Q181 x.1 (Q8 4 (FTs x.2.1)) x.2.2),fun _ H=>H,true,false⟩]
 | _=> []
abbrev VQ (l:List (Nat×List Nat))(f m:Nat)(r:TV)(H:List AObj)(p:Nat)(s:St):Prop:=vcP Tryz.prog sh l f m (fun r0 Hs0=>TV.Le r0 r∧Hs0=H) (RPt Tryz.prog f m r H) p s
abbrev VE (l:List (Nat×List Nat))(f m:Nat)(r:TV)(H:List AObj)(a:List TV)(h:List AObj):Prop:=vcE Tryz.prog sh l f a h (fun r0 Hs0=>TV.Le r0 r∧Hs0=H) (RPt Tryz.prog f m r H)
def shO:FuncId→List Sh
 | 54=> [⟨Tm,fun x=>(.tup (Q89 (cT x) Q125)),fun _ _=> [],false,false⟩,⟨Tm×List Tm,fun x=>(.tup (Q89 (cT x.1) (Q88 0 4 (length x.2)))),fun x _=>(Q70 4 (FTs x.2)),false,false⟩]
 | f=>sh f
def lv7:List (Nat×List Nat):=[]
theorem v7  (r:TV) (b:List AObj):VE lv7 7 0 r b [] []=
  (((4:Nat)=4∧1≤1)∧(∃ c:Tm,((Q7 16 [Q127 0 [112] 0,Q99 4 [[(Q1 3),(.str []),(Q1 0), .N]]] [] (aT c) [])∧(((4:Nat)=4∧1≤1)∧(∃ e:Tm,((Q7 16 [Q127 0 [113] 0,Q99 4 [[(Q1 3),(.str []),(Q1 0), .N]]] [] (aT e) [])∧(((4:Nat)=4∧2≤2)∧(∃ d:Tm,((Q7 16 [Q127 0 [44] 0,Q99 4 [(FT4 e),[(Q1 0),(.str [114]),(Q1 0), .N]]] [] (aT d) [])∧(∃ a:Cd×Int,((Q186 9 [.agg (Q169 1 c.k c.s c.n 4 (FTs c.l) d.k d.s d.n 4 (FTs d.l))] (Q65 (Q64 (Q32 a.1.nm a.1.ar a.1.fr a.1.vs a.1.sl 8 (FIs a.1.ins))) a.2))∧((FV.L 8 (Q4 8 (FIs a.1.ins))=true)∧(br (((length (FIs a.1.ins):Int):Int) !=(3:Int)) (Q52 r b) (∃ f:Bool,((Q132 13 (Q153 a.1.nm a.1.ar a.1.fr a.1.vs a.1.sl 8 (FIs a.1.ins)) f)∧(br ((a.2:Int)==(0:Int)) (br f (br ((a.1.nm:List UInt8)==[112]) (br ((a.1.ar:Int)==(1:Int)) (br ((a.1.vs:Int)==(1:Int)) (br ((a.1.sl:Int)==(1:Int)) (((FV.L 8 (Q4 8 (FIs a.1.ins))=true)∧((0≤(0:Int))∧(((0:Int)<(length (FIs a.1.ins):Int))∧(([(Q1 (FV.I (getD (getD (FIs a.1.ins) 0 []) 0 FV.N))),(Q1 (FV.I (getD (getD (FIs a.1.ins) 0 []) 1 FV.N))),(Q1 (FV.I (getD (getD (FIs a.1.ins) 0 []) 2 FV.N))),(.str (FV.S (getD (getD (FIs a.1.ins) 0 []) 3 FV.N))),(Q1 (FV.I (getD (getD (FIs a.1.ins) 0 []) 4 FV.N))),(getD (getD (FIs a.1.ins) 0 []) 5 FV.N),(getD (getD (FIs a.1.ins) 0 []) 6 FV.N),(getD (getD (FIs a.1.ins) 0 []) 7 FV.N)]:List FV)=(getD (FIs a.1.ins) 0 [])))))∧(br (((FV.I (getD (getD (FIs a.1.ins) 0 []) 0 FV.N)):Int)==(0:Int)) (((FV.L 8 (Q4 8 (FIs a.1.ins))=true)∧((0≤(1:Int))∧(((1:Int)<(length (FIs a.1.ins):Int))∧(([(Q1 (FV.I (getD (getD (FIs a.1.ins) 1 []) 0 FV.N))),(Q1 (FV.I (getD (getD (FIs a.1.ins) 1 []) 1 FV.N))),(Q1 (FV.I (getD (getD (FIs a.1.ins) 1 []) 2 FV.N))),(.str (FV.S (getD (getD (FIs a.1.ins) 1 []) 3 FV.N))),(Q1 (FV.I (getD (getD (FIs a.1.ins) 1 []) 4 FV.N))),(getD (getD (FIs a.1.ins) 1 []) 5 FV.N),(getD (getD (FIs a.1.ins) 1 []) 6 FV.N),(getD (getD (FIs a.1.ins) 1 []) 7 FV.N)]:List FV)=(getD (FIs a.1.ins) 1 [])))))∧(br (((FV.I (getD (getD (FIs a.1.ins) 1 []) 0 FV.N)):Int)==(2:Int)) (((FV.L 8 (Q4 8 (FIs a.1.ins))=true)∧((0≤(2:Int))∧(((2:Int)<(length (FIs a.1.ins):Int))∧(([(Q1 (FV.I (getD (getD (FIs a.1.ins) 2 []) 0 FV.N))),(Q1 (FV.I (getD (getD (FIs a.1.ins) 2 []) 1 FV.N))),(Q1 (FV.I (getD (getD (FIs a.1.ins) 2 []) 2 FV.N))),(.str (FV.S (getD (getD (FIs a.1.ins) 2 []) 3 FV.N))),(Q1 (FV.I (getD (getD (FIs a.1.ins) 2 []) 4 FV.N))),(getD (getD (FIs a.1.ins) 2 []) 5 FV.N),(getD (getD (FIs a.1.ins) 2 []) 6 FV.N),(getD (getD (FIs a.1.ins) 2 []) 7 FV.N)]:List FV)=(getD (FIs a.1.ins) 2 [])))))∧(br (((FV.I (getD (getD (FIs a.1.ins) 2 []) 0 FV.N)):Int)==(3:Int)) (((FV.L 8 (Q4 8 (FIs a.1.ins))=true)∧((0≤(2:Int))∧(((2:Int)<(length (FIs a.1.ins):Int))∧(([(Q1 (FV.I (getD (getD (FIs a.1.ins) 2 []) 0 FV.N))),(Q1 (FV.I (getD (getD (FIs a.1.ins) 2 []) 1 FV.N))),(Q1 (FV.I (getD (getD (FIs a.1.ins) 2 []) 2 FV.N))),(.str (FV.S (getD (getD (FIs a.1.ins) 2 []) 3 FV.N))),(Q1 (FV.I (getD (getD (FIs a.1.ins) 2 []) 4 FV.N))),(getD (getD (FIs a.1.ins) 2 []) 5 FV.N),(getD (getD (FIs a.1.ins) 2 []) 6 FV.N),(getD (getD (FIs a.1.ins) 2 []) 7 FV.N)]:List FV)=(getD (FIs a.1.ins) 2 [])))))∧(Q78 (((FV.S (getD (getD (FIs a.1.ins) 2 []) 3 FV.N)):List UInt8)==[114]) r b)) (Q52 r b))) (Q52 r b))) (Q52 r b))) (Q52 r b)) (Q52 r b)) (Q52 r b)) (Q52 r b)) (Q52 r b)) (Q52 r b))))))))))))))))):=by kernel_rfl
def lv8:List (Nat×List Nat):=[]
theorem v8 (i c_1:Int)(b:List UInt8)(c:Int)(d:RW)(e:Int)(f:List UInt8)(g:Int)(h:RW)(r:TV)(a:List AObj):VE lv8 8 0 r a [.agg (Q169 i c_1 b c 4 d e f g 4 h)] []=
  (∃ j:Bool,((Q147 17 (Q86 c_1 b c d) 80 j)∧(∃ k:Bool,((Q147 17 (Q86 e f g h) 80 k)∧(∃ l:Bool,((Q147 18 (Q86 c_1 b c d) 1000 l)∧(∃ m:Bool,((Q147 18 (Q86 e f g h) 1000 m)∧(br j (Q123 r a) (br k (Q123 r a) (br (!l) (Q123 r a) (br (!m) (Q123 r a) (Q78 (decide ((i:Int)>(5000:Int))) r a))))))))))))):=by kernel_rfl
def lv9:List (Nat×List Nat):=[]
theorem v9 (c_0 c_1:Int)(c:List UInt8)(d:Int)(e:RW)(f:Int)(g:List UInt8)(h:Int)(i:RW)(r:TV)(j:List AObj):VE lv9 9 0 r j [.agg (Q169 c_0 c_1 c d 4 e f g h 4 i)] []=
  (((9:Nat)=9∧1≤1)∧(∃ k:Bool,((Q76 21 [Q99 9 [[(Q1 c_0),(Q1 c_1),(.str c),(Q1 d),(Q136 e),(Q1 f),(.str g),(Q1 h),(Q136 i)]],Q127 0 [116,114,117,101] 0,Q23 0] k)∧((true=true)∧(br (!k) (Q107 (Q65 (Q64 (Q28 [] 0 0 0 0 Q24)) 240) r j) (∃ b:Cd,((Q7 23 (Q82 (.agg (Q169 c_0 c_1 c d 4 e f g h 4 i)) 0) [] (Q153 b.nm b.ar b.fr b.vs b.sl 8 (FIs b.ins)) [])∧(∃ a:Cd×Int,((Q186 22 [Q153 b.nm b.ar b.fr b.vs b.sl 8 (FIs b.ins)] (Q65 (Q64 (Q32 a.1.nm a.1.ar a.1.fr a.1.vs a.1.sl 8 (FIs a.1.ins))) a.2))∧(Q107 (Q65 (Q64 (Q32 a.1.nm a.1.ar a.1.fr a.1.vs a.1.sl 8 (FIs a.1.ins))) a.2) r j)))))))))):=by kernel_rfl
def lv16:List (Nat×List Nat):=[]
theorem v16 (a:Int)(c:List UInt8)(d:Int)(f_3 args:RW)(r:TV)(b:List AObj):VE lv16 16 0 r b [Q86 a c d f_3,Q99 4 args] []=
  ((FV.L 4 (Q136 args)=true)∧(br (((length args:Int):Int)==(0:Int)) (RT (Q86 a c d f_3) [] r b) (br ((a:Int)==(6:Int)) ((FV.L 4 (Q136 f_3)=true)∧(br (decide (((length f_3:Int):Int)>(0:Int))) (((1:Nat)=1∧2≤2)∧(∃ e:List Tm,((Q7 41 [Q99 1 [[(Q136 f_3)],[(Q136 args)]]] [] (Q99 4 (FTs e)) [])∧(RT (Q86 6 [] 0 (FTs e)) [] r b)))) (((4:Nat)=4∧1≤1)∧(((1:Nat)=1∧2≤2)∧(∃ f:List Tm,((Q7 41 [Q99 1 [[(Q136 [[(Q1 a),(.str c),(Q1 d),(Q136 f_3)]])],[(Q136 args)]]] [] (Q99 4 (FTs f)) [])∧(RT (Q86 6 [] 0 (FTs f)) [] r b))))))) (((4:Nat)=4∧1≤1)∧(((1:Nat)=1∧2≤2)∧(∃ g:List Tm,((Q7 41 [Q99 1 [[(Q136 [[(Q1 a),(.str c),(Q1 d),(Q136 f_3)]])],[(Q136 args)]]] [] (Q99 4 (FTs g)) [])∧(RT (Q86 6 [] 0 (FTs g)) [] r b)))))))):=by kernel_rfl
def lv13:List (Nat×List Nat):=[(3,[5,68,69])]
theorem v13 (c:List UInt8)(c_1 c_2 c_3 c_4:Int)(a:RW)(r:TV)(b:List AObj):VE lv13 13 0 r b [Q153 c c_1 c_2 c_3 c_4 8 a] []=
  ((FV.L 8 (Q4 8 a)=true)∧(∃ d:Bool,((Q132 33 (Q164 c) d)∧(br d (∃ e:Bool,((Q132 35 (Q164 c) e)∧(br (!(!e)) (Q52 r b) (((1:Nat)=1∧4≤4)∧(∃ f:Bool,((Q132 36 (Q99 1 [[(Q1 c_1)],[(Q1 c_2)],[(Q1 c_3)],[(Q1 c_4)]]) f)∧((true=true)∧(br (!f) (Q52 r b) (br (decide (((IntKind.wrap .i64 (c_2+c_3)):Int)>c_4)) (Q52 r b) (br (((length a:Int):Int)==(0:Int)) (Q52 r b) (((FV.L 8 (Q4 8 a)=true)∧((0≤(IntKind.wrap .i64 ((length a:Int)-(1:Int))))∧(((IntKind.wrap .i64 ((length a:Int)-(1:Int)))<(length a:Int))∧(([(Q1 (FV.I (getD (getD a (toNat (IntKind.wrap .i64 ((length a:Int)-(1:Int)))) []) 0 FV.N))),(Q1 (FV.I (getD (getD a (toNat (IntKind.wrap .i64 ((length a:Int)-(1:Int)))) []) 1 FV.N))),(Q1 (FV.I (getD (getD a (toNat (IntKind.wrap .i64 ((length a:Int)-(1:Int)))) []) 2 FV.N))),(.str (FV.S (getD (getD a (toNat (IntKind.wrap .i64 ((length a:Int)-(1:Int)))) []) 3 FV.N))),(Q1 (FV.I (getD (getD a (toNat (IntKind.wrap .i64 ((length a:Int)-(1:Int)))) []) 4 FV.N))),(getD (getD a (toNat (IntKind.wrap .i64 ((length a:Int)-(1:Int)))) []) 5 FV.N),(getD (getD a (toNat (IntKind.wrap .i64 ((length a:Int)-(1:Int)))) []) 6 FV.N),(getD (getD a (toNat (IntKind.wrap .i64 ((length a:Int)-(1:Int)))) []) 7 FV.N)]:List FV)=(getD a (toNat (IntKind.wrap .i64 ((length a:Int)-(1:Int)))) [])))))∧(br (((FV.I (getD (getD a (toNat (IntKind.wrap .i64 ((length a:Int)-(1:Int)))) []) 0 FV.N)):Int)==(4:Int)) ((FV.L 8 (Q4 8 a)=true)∧(Q34 13 0 r b 3 (Q96 5 6 (Q20 68 (length a:Int)) 69 0) [Q9 0 6 (Q62 c c_1 c_2 c_3 c_4 8 a)] 1)) (br (((FV.I (getD (getD a (toNat (IntKind.wrap .i64 ((length a:Int)-(1:Int)))) []) 0 FV.N)):Int)==(3:Int)) ((FV.L 8 (Q4 8 a)=true)∧(Q34 13 0 r b 3 (Q96 5 6 (Q20 68 (length a:Int)) 69 0) [Q9 0 6 (Q62 c c_1 c_2 c_3 c_4 8 a)] 1)) (br (((FV.I (getD (getD a (toNat (IntKind.wrap .i64 ((length a:Int)-(1:Int)))) []) 0 FV.N)):Int)==(8:Int)) ((FV.L 8 (Q4 8 a)=true)∧(Q34 13 0 r b 3 (Q96 5 6 (Q20 68 (length a:Int)) 69 0) [Q9 0 6 (Q62 c c_1 c_2 c_3 c_4 8 a)] 1)) (Q52 r b))))))))))))))) (∃ g:Bool,((Q132 34 (Q164 c) g)∧(br g (∃ h:Bool,((Q132 35 (Q164 c) h)∧(br (!(!h)) (Q52 r b) (((1:Nat)=1∧4≤4)∧(∃ i:Bool,((Q132 36 (Q99 1 [[(Q1 c_1)],[(Q1 c_2)],[(Q1 c_3)],[(Q1 c_4)]]) i)∧((true=true)∧(br (!i) (Q52 r b) (br (decide (((IntKind.wrap .i64 (c_2+c_3)):Int)>c_4)) (Q52 r b) (br (((length a:Int):Int)==(0:Int)) (Q52 r b) (((FV.L 8 (Q4 8 a)=true)∧((0≤(IntKind.wrap .i64 ((length a:Int)-(1:Int))))∧(((IntKind.wrap .i64 ((length a:Int)-(1:Int)))<(length a:Int))∧(([(Q1 (FV.I (getD (getD a (toNat (IntKind.wrap .i64 ((length a:Int)-(1:Int)))) []) 0 FV.N))),(Q1 (FV.I (getD (getD a (toNat (IntKind.wrap .i64 ((length a:Int)-(1:Int)))) []) 1 FV.N))),(Q1 (FV.I (getD (getD a (toNat (IntKind.wrap .i64 ((length a:Int)-(1:Int)))) []) 2 FV.N))),(.str (FV.S (getD (getD a (toNat (IntKind.wrap .i64 ((length a:Int)-(1:Int)))) []) 3 FV.N))),(Q1 (FV.I (getD (getD a (toNat (IntKind.wrap .i64 ((length a:Int)-(1:Int)))) []) 4 FV.N))),(getD (getD a (toNat (IntKind.wrap .i64 ((length a:Int)-(1:Int)))) []) 5 FV.N),(getD (getD a (toNat (IntKind.wrap .i64 ((length a:Int)-(1:Int)))) []) 6 FV.N),(getD (getD a (toNat (IntKind.wrap .i64 ((length a:Int)-(1:Int)))) []) 7 FV.N)]:List FV)=(getD a (toNat (IntKind.wrap .i64 ((length a:Int)-(1:Int)))) [])))))∧(br (((FV.I (getD (getD a (toNat (IntKind.wrap .i64 ((length a:Int)-(1:Int)))) []) 0 FV.N)):Int)==(4:Int)) ((FV.L 8 (Q4 8 a)=true)∧(Q34 13 0 r b 3 (Q96 5 6 (Q20 68 (length a:Int)) 69 0) [Q9 0 6 (Q62 c c_1 c_2 c_3 c_4 8 a)] 1)) (br (((FV.I (getD (getD a (toNat (IntKind.wrap .i64 ((length a:Int)-(1:Int)))) []) 0 FV.N)):Int)==(3:Int)) ((FV.L 8 (Q4 8 a)=true)∧(Q34 13 0 r b 3 (Q96 5 6 (Q20 68 (length a:Int)) 69 0) [Q9 0 6 (Q62 c c_1 c_2 c_3 c_4 8 a)] 1)) (br (((FV.I (getD (getD a (toNat (IntKind.wrap .i64 ((length a:Int)-(1:Int)))) []) 0 FV.N)):Int)==(8:Int)) ((FV.L 8 (Q4 8 a)=true)∧(Q34 13 0 r b 3 (Q96 5 6 (Q20 68 (length a:Int)) 69 0) [Q9 0 6 (Q62 c c_1 c_2 c_3 c_4 8 a)] 1)) (Q52 r b))))))))))))))) (Q52 r b)))))))):=by kernel_rfl
theorem v13_3a (x68 d:Int)(a:List UInt8)(h0_1 h0_2 h0_3 h0_4:Int)(b:RW)(r:TV)(c:List AObj):VQ lv13 13 0 r c 3 ⟨Q96 5 6 (Q20 68 x68) 69 d,[Q9 0 6 (Q62 a h0_1 h0_2 h0_3 h0_4 8 b)],1⟩=
  (br (decide ((d:Int)<x68)) (∃ e:Bool,((Q147 37 (Q153 a h0_1 h0_2 h0_3 h0_4 8 b) d e)∧(br (!e) (Q52 r c) (Q34 13 0 r c 3 (Q96 5 6 (Q20 68 x68) 69 (IntKind.wrap .i64 (d+1))) [Q9 0 6 (Q62 a h0_1 h0_2 h0_3 h0_4 8 b)] 1)))) (∃ f:Bool,((Q132 38 (Q153 a h0_1 h0_2 h0_3 h0_4 8 b) f)∧(Q78 f r c)))):=by kernel_rfl
def lv17:List (Nat×List Nat):=[]
theorem v17 (b:Int)(c:List UInt8)(d:Int)(e:RW)(a:Int)(r:TV)(f:List AObj):VE lv17 17 0 r f (Q82 (Q86 b c d e) a) []=
  (∃ g:Int,((Q73 42 (Q82 (Q86 b c d e) a) [] g [])∧(Q78 (decide ((g:Int)<(0:Int))) r f))):=by kernel_rfl
def lv18:List (Nat×List Nat):=[(1,[1,2,5])]
theorem v18 (d:Int)(e:List UInt8)(b:Int)(f:RW)(a:Int)(r:TV)(c:List AObj):VE lv18 18 0 r c (Q82 (Q86 d e b f) a) []=
  (br ((d:Int) !=(2:Int)) (br (decide ((b:Int)>a)) (Q52 r c) (br (decide ((b:Int)<(IntKind.wrap .i64 (0-a)))) (Q52 r c) (Q34 18 0 r c 1 (Q69 (Q189 a) (Q101 4) 5 0) [Q188 0 d e b f] 1))) (Q34 18 0 r c 1 (Q69 (Q189 a) (Q101 4) 5 0) [Q188 0 d e b f] 1)):=by kernel_rfl
theorem v18_1a (x1 e h0_0:Int)(c:List UInt8)(d:Int)(a:RW)(r:TV)(b:List AObj):VQ lv18 18 0 r b 1 ⟨Q69 (Q189 x1) (Q101 4) 5 e,[Q188 0 h0_0 c d a],1⟩=
  ((FV.L 4 (Q136 a)=true)∧(br (decide ((e:Int)<(length a:Int))) (((FV.L 4 (Q136 a)=true)∧((0≤e)∧((e<(length a:Int))∧(((rE (getD a (toNat e) [])):List FV)=(getD a (toNat e) [])))))∧(∃ f:Bool,((Q147 18 (aE (getD a (toNat e) [])) x1 f)∧(br (!f) (Q52 r b) (Q34 18 0 r b 1 (Q69 (Q189 x1) (Q101 4) 5 (IntKind.wrap .i64 (e+1))) [Q188 0 h0_0 c d a] 1))))) (Q123 r b))):=by kernel_rfl
def lv21:List (Nat×List Nat):=[]
theorem v21 (g:RW)(a:Int)(b:List UInt8)(c:Int)(d:RW)(e:Int)(r:TV)(f:List AObj):VE lv21 21 0 r f [Q99 9 g,Q86 a b c d,Q23 e] []=
  (∃ i:Bool,((Q132 46 (Q23 e) i)∧(br (!i) (Q52 r f) (∃ j:Bool,((Q76 47 (Q106 (Q86 a b c d) e (Q23 0)) j)∧(br (!j) (Q52 r f) (∃ h:Int,((Q73 48 [Q86 a b c d] [] h [])∧(br ((h:Int) !=(0:Int)) (Q52 r f) (∃ k:Bool,((Q76 49 (Q122 9 g (.fn (.func 50) [] [])) k)∧(Q78 (!k) r f)))))))))))):=by kernel_rfl
def lv23:List (Nat×List Nat):=[(1,[1,2,4,5,16,17]),(5,[1,2,4,8,9,10,11,45,46,47])]
theorem v23 (x_0 x_1:Int)(a:List UInt8)(b:Int)(c:RW)(d:Int)(e:List UInt8)(f:Int)(g:RW)(i:Int)(r:TV)(h:List AObj):VE lv23 23 0 r h (Q82 (.agg (Q169 x_0 x_1 a b 4 c d e f 4 g)) i) []=
  (Q57 23 0 r h 1 (Q128 (Q189 i) (Q101 9) (Q98 4 6) (Q161 5) (Q20 16 x_0) 17 0) 0 9 [Q169 x_0 x_1 a b 4 c d e f 4 g] (Q9 1 6 [Q28 [] 0 0 0 0 Q24]) 2):=by kernel_rfl
theorem v23_1a (x1 x16 i h0_0 h0_1:Int)(a:List UInt8)(b:Int)(c:RW)(d:Int)(e:List UInt8)(f:Int)(g:RW)(h:List UInt8)(h1_1 h1_2 h1_3 h1_4:Int)(r:TV)(j:List AObj):VQ lv23 23 0 r j 1 ⟨Q128 (Q189 x1) (Q101 9) (Q98 4 6) (Q161 5) (Q20 16 x16) 17 i,Q56 0 9 [Q169 h0_0 h0_1 a b 4 c d e f 4 g] (Q9 1 6 [Q28 h h1_1 h1_2 h1_3 h1_4 Q24]),2⟩=
  (br (decide ((i:Int)<x16)) (∃ m:Tm,((Q7 52 [Q23 (IntKind.wrap .i64 (x1+i))] [] (aT m) [])∧((1≤1)∧((z0k 1 56)∧(Q34 23 0 r j 1 (Q128 (Q189 x1) (Q101 9) (Q98 4 6) (Q85 5 2 4 1) (Q20 16 x16) 17 (IntKind.wrap .i64 (i+1))) [Q9 0 9 [Q169 h0_0 h0_1 a b 4 c d e f 4 g],Q9 1 6 [Q28 h h1_1 h1_2 h1_3 h1_4 Q24],Q50 2 4 [(FT4 m)]] 3))))) (∃ l:Tm×Tm,((Q186 53 (Q121 (.agg (Q169 h0_0 h0_1 a b 4 c d e f 4 g)) Q24) [Q64 (cT l.1),Q64 (cT l.2)])∧(∃ k:Tm×List Tm,((Q186 54 [(aT l.1)] (Q89 (cT k.1) [Q8 4 (FTs k.2)]))∧((FV.L 4 (Q136 (FTs k.2))=true)∧(Q34 23 0 r j 5 [Q189 x1,Q101 9,Q98 4 6,Q42 8 2 4,Q42 9 3 4,Q166 10 (FTs k.2),Q42 11 4 2,Q166 45 (FTs k.2),Q20 46 (length (FTs k.2):Int),Q20 47 0] [Q9 0 9 [Q169 h0_0 h0_1 a b 4 c d e f 4 g],Q9 1 6 [Q28 h h1_1 h1_2 h1_3 h1_4 Q24],Q9 2 4 [(cT l.2)],Q9 3 4 [(cT k.1)],Q9 4 2 [Q36 (Q2 (IntKind.wrap .i64 (x1+h0_0))) 5 8 0 0],Q50 5 8 []] 6))))))):=by kernel_rfl
theorem v23_1b (m:Int)(a:Nat)(x16 j h0_0 h0_1:Int)(b:List UInt8)(c:Int)(d:RW)(e:Int)(f:List UInt8)(g:Int)(h:RW)(i:List UInt8)(h1_1 h1_2 h1_3 h1_4:Int)(n:RW)(r:TV)(k:List AObj):VQ lv23 23 0 r k 1 ⟨Q128 (Q189 m) (Q101 9) (Q98 4 6) (Q85 5 2 4 a) (Q20 16 x16) 17 j,[Q9 0 9 [Q169 h0_0 h0_1 b c 4 d e f g 4 h],Q9 1 6 [Q28 i h1_1 h1_2 h1_3 h1_4 Q24],Q50 2 4 n],3⟩=
  (br (decide ((j:Int)<x16)) (∃ p:Tm,((Q7 52 [Q23 (IntKind.wrap .i64 (m+j))] [] (aT p) [])∧((1≤1)∧((a≤(length n)∧z0k (a+1) 56)∧(Q34 23 0 r k 1 (Q128 (Q189 m) (Q101 9) (Q98 4 6) (Q85 5 2 4 (a+1)) (Q20 16 x16) 17 (IntKind.wrap .i64 (j+1))) [Q9 0 9 [Q169 h0_0 h0_1 b c 4 d e f g 4 h],Q9 1 6 [Q28 i h1_1 h1_2 h1_3 h1_4 Q24],Q50 2 4 ((take a n)++ [(FT4 p)])] 3))))) (((4:Nat)=4∧(0+a)≤(length n))∧(∃ o:Tm×Tm,((Q186 53 [.agg (Q169 h0_0 h0_1 b c 4 d e f g 4 h),Q99 4 (take a (drop 0 n))] [Q64 (cT o.1),Q64 (cT o.2)])∧(∃ l:Tm×List Tm,((Q186 54 [(aT o.1)] (Q89 (cT l.1) [Q8 4 (FTs l.2)]))∧((FV.L 4 (Q136 (FTs l.2))=true)∧(Q34 23 0 r k 5 [Q189 m,Q101 9,Q98 4 6,Q42 8 2 4,Q42 9 3 4,Q166 10 (FTs l.2),Q42 11 4 2,Q166 45 (FTs l.2),Q20 46 (length (FTs l.2):Int),Q20 47 0] [Q9 0 9 [Q169 h0_0 h0_1 b c 4 d e f g 4 h],Q9 1 6 [Q28 i h1_1 h1_2 h1_3 h1_4 Q24],Q9 2 4 [(cT o.2)],Q9 3 4 [(cT l.1)],Q9 4 2 [Q36 (Q2 (IntKind.wrap .i64 (m+h0_0))) 5 8 0 0],Q50 5 8 []] 6)))))))):=by kernel_rfl
theorem v23_5a (y:Int)(x10 x45:RW)(x46 a h0_0 h0_1:Int)(h:List UInt8)(i:Int)(j:RW)(k:Int)(l:List UInt8)(m:Int)(n:RW)(o:List UInt8)(h1_1 h1_2 h1_3 h1_4 h2_0:Int)(c:List UInt8)(d:Int)(e:RW)(p:Int)(f:List UInt8)(q:Int)(s:RW)(g:Int)(b:Nat)(z:RW)(r:TV)(t:List AObj):VQ lv23 23 0 r t 5 ⟨[Q189 y,Q101 9,Q98 4 6,Q42 8 2 4,Q42 9 3 4,Q166 10 x10,Q42 11 4 2,Q166 45 x45,Q20 46 x46,Q20 47 a],[Q9 0 9 [Q169 h0_0 h0_1 h i 4 j k l m 4 n],Q9 1 6 [Q28 o h1_1 h1_2 h1_3 h1_4 Q24],Q188 2 h2_0 c d e,Q188 3 p f q s,Q9 4 2 [Q36 (Q2 g) 5 8 0 b],Q50 5 8 z],6⟩=
  (br (decide ((a:Int)<x46)) (((FV.L 4 (Q136 x45)=true)∧((0≤a)∧((a<(length x45:Int))∧(((rE (getD x45 (toNat a) [])):List FV)=(getD x45 (toNat a) [])))))∧(br (((FV.I (getD (getD x45 (toNat a) []) 0 FV.N)):Int)==(0:Int)) (∃ v:Int×Int×List In1,((Q159 55 0 2 0 0 (Q66 1 a (FV.I (getD (getD x45 (toNat a) []) 0 FV.N)) (FV.S (getD (getD x45 (toNat a) []) 1 FV.N)) (FV.I (getD (getD x45 (toNat a) []) 2 FV.N)) (getD (getD x45 (toNat a) []) 3 FV.N) Q24 Q24) (Q83 2 g 1 8 0 b 8 z) v.1 v.2.1 (length v.2.2) (FIs v.2.2))∧(Q34 23 0 r t 5 [Q189 y,Q101 9,Q98 4 6,Q42 8 2 4,Q42 9 3 4,Q166 10 x10,Q42 11 4 2,Q166 45 x45,Q20 46 x46,Q20 47 (IntKind.wrap .i64 (a+1))] [Q9 0 9 [Q169 h0_0 h0_1 h i 4 j k l m 4 n],Q9 1 6 [Q28 o h1_1 h1_2 h1_3 h1_4 Q24],Q188 2 h2_0 c d e,Q188 3 p f q s,Q9 4 2 [Q36 (Q2 v.2.1) 5 8 0 (length v.2.2)],Q50 5 8 (FIs v.2.2)] 6))) (br (((FV.I (getD (getD x45 (toNat a) []) 0 FV.N)):Int)==(2:Int)) (∃ w:Int×Int×List In1,((Q159 55 0 2 0 0 (Q66 1 a (FV.I (getD (getD x45 (toNat a) []) 0 FV.N)) (FV.S (getD (getD x45 (toNat a) []) 1 FV.N)) (FV.I (getD (getD x45 (toNat a) []) 2 FV.N)) (getD (getD x45 (toNat a) []) 3 FV.N) Q24 Q24) (Q83 2 g 1 8 0 b 8 z) w.1 w.2.1 (length w.2.2) (FIs w.2.2))∧(Q34 23 0 r t 5 [Q189 y,Q101 9,Q98 4 6,Q42 8 2 4,Q42 9 3 4,Q166 10 x10,Q42 11 4 2,Q166 45 x45,Q20 46 x46,Q20 47 (IntKind.wrap .i64 (a+1))] [Q9 0 9 [Q169 h0_0 h0_1 h i 4 j k l m 4 n],Q9 1 6 [Q28 o h1_1 h1_2 h1_3 h1_4 Q24],Q188 2 h2_0 c d e,Q188 3 p f q s,Q9 4 2 [Q36 (Q2 w.2.1) 5 8 0 (length w.2.2)],Q50 5 8 (FIs w.2.2)] 6))) (∃ x:Int×Int×List In1,((Q159 55 0 2 0 0 (Q66 0 a (FV.I (getD (getD x45 (toNat a) []) 0 FV.N)) (FV.S (getD (getD x45 (toNat a) []) 1 FV.N)) (FV.I (getD (getD x45 (toNat a) []) 2 FV.N)) (getD (getD x45 (toNat a) []) 3 FV.N) Q24 Q24) (Q83 2 g 1 8 0 b 8 z) x.1 x.2.1 (length x.2.2) (FIs x.2.2))∧(Q34 23 0 r t 5 [Q189 y,Q101 9,Q98 4 6,Q42 8 2 4,Q42 9 3 4,Q166 10 x10,Q42 11 4 2,Q166 45 x45,Q20 46 x46,Q20 47 (IntKind.wrap .i64 (a+1))] [Q9 0 9 [Q169 h0_0 h0_1 h i 4 j k l m 4 n],Q9 1 6 [Q28 o h1_1 h1_2 h1_3 h1_4 Q24],Q188 2 h2_0 c d e,Q188 3 p f q s,Q9 4 2 [Q36 (Q2 x.2.1) 5 8 0 (length x.2.2)],Q50 5 8 (FIs x.2.2)] 6)))))) (∃ u:Int×List In1,((Q67 43 [Q172 2,Q86 h2_0 c d e] (Q83 2 g 1 8 0 b 8 z) [] (Q158 u.1 (length u.2) (FIs u.2)))∧((FV.L 4 (Q136 x10)=true)∧(((8:Nat)=8∧(0+(length u.2))≤(length (FIs u.2)))∧(RT (Q153 f (length x10:Int) y h0_0 u.1 8 (take (length u.2) (drop 0 (FIs u.2)))) [] r t)))))):=by kernel_rfl
def lv22:List (Nat×List Nat):=[]
theorem v22 (a:List UInt8)(c_1 c_2 c_3 c_4:Int)(b:RW)(r:TV)(c:List AObj):VE lv22 22 0 r c [Q153 a c_1 c_2 c_3 c_4 8 b] []=
  (∃ d:Bool,((Q132 13 (Q153 a c_1 c_2 c_3 c_4 8 b) d)∧(br (!d) (Q107 (Q65 (Q64 (Q28 [] 0 0 0 0 Q24)) 240) r c) (Q107 (Q65 (Q64 (Q32 a c_1 c_2 c_3 c_4 8 b)) 0) r c)))):=by kernel_rfl
def lv12:List (Nat×List Nat):=[(1,[0,8])]
theorem v12 (g:RW)(a:Int)(b:List UInt8)(c:Int)(d:RW)(f:Int)(r:TV)(e:List AObj):VE lv12 12 0 r e [Q99 9 g,Q86 a b c d,Q23 f] []=
  (∃ j:Bool,((Q132 28 (Q86 a b c d) j)∧(br (decide ((f:Int)<(0:Int))) (Q52 r e) (br (decide ((f:Int)>(4096:Int))) (Q52 r e) (br (!j) (Q52 r e) (∃ h:Int,((Q73 29 (Q82 (Q86 a b c d) 0) [] h [])∧(br (decide ((h:Int)>(0:Int))) (Q52 r e) (∃ k:Bool,((Q147 30 (Q86 a b c d) f k)∧(br (!k) (Q52 r e) (∃ i:Int,((Q73 31 [Q86 a b c d] [] i [])∧(br ((i:Int) !=(0:Int)) (Q52 r e) (Q34 12 0 r e 1 [Q77 0 9 g,Q20 8 0] [] 0))))))))))))))):=by kernel_rfl
theorem v12_1a (a:RW)(b:Int)(r:TV)(c:List AObj):VQ lv12 12 0 r c 1 ⟨[Q77 0 9 a,Q20 8 b],[],0⟩=
  ((FV.L 9 (Q4 9 a)=true)∧(br (decide ((b:Int)<(length a:Int))) (((FV.L 9 (Q4 9 a)=true)∧((0≤b)∧((b<(length a:Int))∧(([(Q1 (FV.I (getD (getD a (toNat b) []) 0 FV.N))),(Q1 (FV.I (getD (getD a (toNat b) []) 1 FV.N))),(.str (FV.S (getD (getD a (toNat b) []) 2 FV.N))),(Q1 (FV.I (getD (getD a (toNat b) []) 3 FV.N))),(getD (getD a (toNat b) []) 4 FV.N),(Q1 (FV.I (getD (getD a (toNat b) []) 5 FV.N))),(.str (FV.S (getD (getD a (toNat b) []) 6 FV.N))),(Q1 (FV.I (getD (getD a (toNat b) []) 7 FV.N))),(getD (getD a (toNat b) []) 8 FV.N)]:List FV)=(getD a (toNat b) [])))))∧(∃ h:Bool,((Q133 28 (FV.I (getD (getD a (toNat b) []) 1 FV.N)) (FV.S (getD (getD a (toNat b) []) 2 FV.N)) (FV.I (getD (getD a (toNat b) []) 3 FV.N)) (getD (getD a (toNat b) []) 4 FV.N) h)∧(∃ i:Bool,((Q133 28 (FV.I (getD (getD a (toNat b) []) 5 FV.N)) (FV.S (getD (getD a (toNat b) []) 6 FV.N)) (FV.I (getD (getD a (toNat b) []) 7 FV.N)) (getD (getD a (toNat b) []) 8 FV.N) i)∧(br (decide (((FV.I (getD (getD a (toNat b) []) 0 FV.N)):Int)<(0:Int))) (Q52 r c) (br (decide (((FV.I (getD (getD a (toNat b) []) 0 FV.N)):Int)>(4096:Int))) (Q52 r c) (br (!h) (Q52 r c) (br (!i) (Q52 r c) (∃ j:Bool,((Q147 30 (Q95 (FV.I (getD (getD a (toNat b) []) 1 FV.N)) (FV.S (getD (getD a (toNat b) []) 2 FV.N)) (FV.I (getD (getD a (toNat b) []) 3 FV.N)) (getD (getD a (toNat b) []) 4 FV.N)) 0 j)∧(br (!j) (Q52 r c) (∃ l:Bool,((Q147 30 (Q95 (FV.I (getD (getD a (toNat b) []) 5 FV.N)) (FV.S (getD (getD a (toNat b) []) 6 FV.N)) (FV.I (getD (getD a (toNat b) []) 7 FV.N)) (getD (getD a (toNat b) []) 8 FV.N)) 0 l)∧(br (!l) (Q52 r c) (∃ e:Int,((Q73 29 (Q82 (Q95 (FV.I (getD (getD a (toNat b) []) 1 FV.N)) (FV.S (getD (getD a (toNat b) []) 2 FV.N)) (FV.I (getD (getD a (toNat b) []) 3 FV.N)) (getD (getD a (toNat b) []) 4 FV.N)) 0) [] e [])∧(br (decide ((e:Int)>(FV.I (getD (getD a (toNat b) []) 0 FV.N)))) (Q52 r c) (∃ f:Int,((Q73 29 (Q82 (Q95 (FV.I (getD (getD a (toNat b) []) 5 FV.N)) (FV.S (getD (getD a (toNat b) []) 6 FV.N)) (FV.I (getD (getD a (toNat b) []) 7 FV.N)) (getD (getD a (toNat b) []) 8 FV.N)) 0) [] f [])∧(br (decide ((f:Int)>(FV.I (getD (getD a (toNat b) []) 0 FV.N)))) (Q52 r c) (∃ d:Tm×List Tm,((Q186 14 [Q95 (FV.I (getD (getD a (toNat b) []) 1 FV.N)) (FV.S (getD (getD a (toNat b) []) 2 FV.N)) (FV.I (getD (getD a (toNat b) []) 3 FV.N)) (getD (getD a (toNat b) []) 4 FV.N)] (Q89 (cT d.1) [Q8 4 (FTs d.2)]))∧(br ((d.1.k:Int) !=(0:Int)) (Q52 r c) (∃ m:Bool,((Q132 32 (Q164 d.1.s) m)∧(br m (Q52 r c) (∃ g:Int,((Q73 31 [Q95 (FV.I (getD (getD a (toNat b) []) 5 FV.N)) (FV.S (getD (getD a (toNat b) []) 6 FV.N)) (FV.I (getD (getD a (toNat b) []) 7 FV.N)) (getD (getD a (toNat b) []) 8 FV.N)] [] g [])∧(br ((g:Int) !=(0:Int)) (Q52 r c) (Q34 12 0 r c 1 [Q77 0 9 a,Q20 8 (IntKind.wrap .i64 (b+1))] [] 0))))))))))))))))))))))))))))))) (Q123 r c))):=by kernel_rfl
def lv41:List (Nat×List Nat):=[(1,[0,3,9,10,11]),(5,[6,25,26,27])]
theorem v41 (a:RW)(r:TV)(b:List AObj):VE lv41 41 0 r b [Q99 1 a] []=
  ((FV.L 1 (Q4 1 a)=true)∧(Q34 41 0 r b 1 (Q111 (Q77 0 1 a) (Q20 3 0) (Q77 9 1 a) (Q20 10 (length a:Int)) 11 0) [] 0)):=by kernel_rfl
theorem v41_1a (e:RW)(f:Int)(b:RW)(x10 a:Int)(r:TV)(d:List AObj):VQ lv41 41 0 r d 1 ⟨Q111 (Q77 0 1 e) (Q20 3 f) (Q77 9 1 b) (Q20 10 x10) 11 a,[],0⟩=
  (br (decide ((a:Int)<x10)) (((FV.L 1 (Q4 1 b)=true)∧((0≤a)∧((a<(length b:Int))∧(([(getD (getD b (toNat a) []) 0 FV.N)]:List FV)=(getD b (toNat a) [])))))∧((FV.L 4 (getD (getD b (toNat a) []) 0 FV.N)=true)∧(br (decide (((IntKind.wrap .i64 (f+(((length (FV.ses (getD (getD b (toNat a) []) 0 FV.N))):Nat):Int))):Int)<(0:Int))) False (Q34 41 0 r d 1 (Q111 (Q77 0 1 e) (Q20 3 (IntKind.wrap .i64 (f+(((length (FV.ses (getD (getD b (toNat a) []) 0 FV.N))):Nat):Int)))) (Q77 9 1 b) (Q20 10 x10) 11 (IntKind.wrap .i64 (a+1))) [] 0)))) ((∃ _:Unit,((Q7 85 (Q82 (.c Q24) f) [] (.c Q24) [])∧((FV.L 1 (Q4 1 e)=true)∧(Q34 41 0 r d 5 (Q152 (Q161 6) (Q77 25 1 e) 26 (length e:Int) 27 0) [] 0))))∨(∃ _:Unit,((Q7 85 (Q82 (.c Q24) f) [] (Q165 0 4 0) (Q70 4 []))∧((FV.L 1 (Q4 1 e)=true)∧(Q34 41 0 r d 5 (Q152 (Q85 6 0 4 0) (Q77 25 1 e) 26 (length e:Int) 27 0) [Q50 0 4 []] 1)))))):=by kernel_rfl
theorem v41_5a (b:RW)(x26 a:Int)(r:TV)(d:List AObj):VQ lv41 41 0 r d 5 ⟨Q152 (Q161 6) (Q77 25 1 b) 26 x26 27 a,[],0⟩=
  (br (decide ((a:Int)<x26)) (((FV.L 1 (Q4 1 b)=true)∧((0≤a)∧((a<(length b:Int))∧(([(getD (getD b (toNat a) []) 0 FV.N)]:List FV)=(getD b (toNat a) [])))))∧((FV.L 4 (getD (getD b (toNat a) []) 0 FV.N)=true)∧(br (List.isEmpty (FV.ses (getD (getD b (toNat a) []) 0 FV.N))) (Q34 41 0 r d 5 (Q152 (Q161 6) (Q77 25 1 b) 26 x26 27 (IntKind.wrap .i64 (a+1))) [] 0) ((z0k (length (FV.ses (getD (getD b (toNat a) []) 0 FV.N))) 56)∧(Q34 41 0 r d 5 (Q152 (Q85 6 0 4 (length (FV.ses (getD (getD b (toNat a) []) 0 FV.N)))) (Q77 25 1 b) 26 x26 27 (IntKind.wrap .i64 (a+1))) [Q50 0 4 (FV.ses (getD (getD b (toNat a) []) 0 FV.N))] 1))))) (RT (.c Q24) [] r d)):=by kernel_rfl
theorem v41_5b (c:Nat)(b:RW)(x26 a:Int)(e:RW)(r:TV)(d:List AObj):VQ lv41 41 0 r d 5 ⟨Q152 (Q85 6 0 4 c) (Q77 25 1 b) 26 x26 27 a,[Q50 0 4 e],1⟩=
  (br (decide ((a:Int)<x26)) (((FV.L 1 (Q4 1 b)=true)∧((0≤a)∧((a<(length b:Int))∧(([(getD (getD b (toNat a) []) 0 FV.N)]:List FV)=(getD b (toNat a) [])))))∧((FV.L 4 (getD (getD b (toNat a) []) 0 FV.N)=true)∧((c≤(length e)∧z0k (c+(length (FV.ses (getD (getD b (toNat a) []) 0 FV.N)))) 56)∧(Q34 41 0 r d 5 (Q152 (Q85 6 0 4 (c+(length (FV.ses (getD (getD b (toNat a) []) 0 FV.N))))) (Q77 25 1 b) 26 x26 27 (IntKind.wrap .i64 (a+1))) [Q50 0 4 ((take c e)++(FV.ses (getD (getD b (toNat a) []) 0 FV.N)))] 1)))) (((4:Nat)=4∧(0+c)≤(length e))∧(RT (Q99 4 (take c (drop 0 e))) [] r d))):=by kernel_rfl
def lv33:List (Nat×List Nat):=[]
theorem v33 (s:List UInt8)(r:TV)(a:List AObj):VE lv33 33 0 r a [Q164 s] []=
  (∃ d:Bool,((Q132 69 (Q164 s) d)∧(br d ((0≤(0:Int)∧(0:Int)<(length s:Int))∧(∃ e:Bool,((Q132 70 (.c (Q0 (.int .u8 ((UInt8.toNat (getD s 0 0):Nat):Int)))) e)∧(br e (∃ b:Int,((Q73 71 (Q121 (Q164 s) (.fn (.func 72) [] [])) [] b [])∧(Q78 ((b:Int)==(length s:Int)) r a))) (Q52 r a))))) (Q52 r a)))):=by kernel_rfl
def lv35:List (Nat×List Nat):=[]
theorem v35 (a:List UInt8)(r:TV)(b:List AObj):VE lv35 35 0 r b [Q164 a] []=
  (br ((a:List UInt8)==[58,45]) (Q123 r b) (br ((a:List UInt8)==[44]) (Q123 r b) (br ((a:List UInt8)==[59]) (Q123 r b) (br ((a:List UInt8)==[61,62]) (Q123 r b) (br ((a:List UInt8)==[61]) (Q123 r b) (br ((a:List UInt8)==[105,115]) (Q123 r b) (br ((a:List UInt8)==[60]) (Q123 r b) (br ((a:List UInt8)==[61,60]) (Q123 r b) (br ((a:List UInt8)==[62]) (Q123 r b) (br ((a:List UInt8)==[62,61]) (Q123 r b) (br ((a:List UInt8)==[116,114,117,101]) (Q123 r b) (br ((a:List UInt8)==[102,97,105,108]) (Q123 r b) (br ((a:List UInt8)==[33]) (Q123 r b) (br ((a:List UInt8)==[112,105]) (Q123 r b) (br ((a:List UInt8)==[115,105,103,109,97]) (Q123 r b) (Q52 r b)))))))))))))))):=by kernel_rfl
def lv36:List (Nat×List Nat):=[]
theorem v36 (l:RW)(r:TV)(a:List AObj):VE lv36 36 0 r a [Q99 1 l] []=
  (∃ b:Bool,((Q76 75 (Q122 1 l (.fn (.func 76) [] [])) b)∧(Q78 (!b) r a))):=by kernel_rfl
def lv34:List (Nat×List Nat):=[]
theorem v34 (s:List UInt8)(r:TV)(a:List AObj):VE lv34 34 0 r a [Q164 s] []=
  (∃ c:Bool,((Q132 69 (Q164 s) c)∧(br c (∃ b:Int,((Q73 71 (Q121 (Q164 s) (.fn (.func 73) [] [])) [] b [])∧(br ((b:Int)==(length s:Int)) (Q123 r a) (br (((length s:Int):Int)==(1:Int)) (∃ d:Bool,((Q76 74 (Q121 (Q164 [44,59,33]) (Q5 s)) d)∧(Q78 d r a))) (Q52 r a))))) (Q52 r a)))):=by kernel_rfl
def lv37:List (Nat×List Nat):=[]
theorem v37 (e:List UInt8)(c_1 c_2 c_3 c_4:Int)(a:RW)(b:Int)(r:TV)(d:List AObj):VE lv37 37 0 r d (Q82 (Q153 e c_1 c_2 c_3 c_4 8 a) b) []=
  (((FV.L 8 (Q4 8 a)=true)∧((0≤b)∧((b<(length a:Int))∧(([(Q1 (FV.I (getD (getD a (toNat b) []) 0 FV.N))),(Q1 (FV.I (getD (getD a (toNat b) []) 1 FV.N))),(Q1 (FV.I (getD (getD a (toNat b) []) 2 FV.N))),(.str (FV.S (getD (getD a (toNat b) []) 3 FV.N))),(Q1 (FV.I (getD (getD a (toNat b) []) 4 FV.N))),(getD (getD a (toNat b) []) 5 FV.N),(getD (getD a (toNat b) []) 6 FV.N),(getD (getD a (toNat b) []) 7 FV.N)]:List FV)=(getD a (toNat b) [])))))∧(br (((FV.I (getD (getD a (toNat b) []) 0 FV.N)):Int) !=(14:Int)) (∃ b1:Bool,((Q35 77 (Q173 (Q95 (FV.I (getD (getD a (toNat b) []) 2 FV.N)) (FV.S (getD (getD a (toNat b) []) 3 FV.N)) (FV.I (getD (getD a (toNat b) []) 4 FV.N)) (getD (getD a (toNat b) []) 5 FV.N)) 6) (Q115 6 e c_1 c_2 c_3 c_4 8 a) b1 (Q115 6 e c_1 c_2 c_3 c_4 8 a))∧(br b1 (∃ b2:Bool,((Q133 80 (FV.I (getD (getD a (toNat b) []) 2 FV.N)) (FV.S (getD (getD a (toNat b) []) 3 FV.N)) (FV.I (getD (getD a (toNat b) []) 4 FV.N)) (getD (getD a (toNat b) []) 5 FV.N) b2)∧(br (!b2) (Q52 r d) (∃ z3:Bool,((Q35 39 (Q121 (.c (Q0 (getD (getD a (toNat b) []) 6 FV.N))) (.fn (.func 77) [] [(false,[(Q145 6)])])) (Q115 6 e c_1 c_2 c_3 c_4 8 a) z3 (Q115 6 e c_1 c_2 c_3 c_4 8 a))∧(br z3 (Q52 r d) (∃ j:Bool,(∃ m:Bool,(∃ b6:Bool,(∃ b7:Bool,(∃ b8:Bool,((Q186 81 (Q82 (Q153 e c_1 c_2 c_3 c_4 8 a) b) (Q89 [Q3 j,Q3 m,Q3 b6,Q3 b7] [Q3 b8]))∧(br (!b8) (Q52 r d) (br (!b7) (br (((FV.I (getD (getD a (toNat b) []) 1 FV.N)):Int) !=(0:Int)) (Q52 r d) (br (!b6) ((FV.L 6 (getD (getD a (toNat b) []) 7 FV.N)=true)∧(br (decide (((((length (FV.ses (getD (getD a (toNat b) []) 7 FV.N))):Nat):Int):Int)>(0:Int))) (Q52 r d) (br (!m) ((FV.L 4 (getD (getD a (toNat b) []) 6 FV.N)=true)∧(br (decide (((((length (FV.ses (getD (getD a (toNat b) []) 6 FV.N))):Nat):Int):Int)>(0:Int))) (Q52 r d) (br j (∃ b9:Bool,((Q35 77 (Q173 (Q95 (FV.I (getD (getD a (toNat b) []) 2 FV.N)) (FV.S (getD (getD a (toNat b) []) 3 FV.N)) (FV.I (getD (getD a (toNat b) []) 4 FV.N)) (getD (getD a (toNat b) []) 5 FV.N)) 6) (Q115 6 e c_1 c_2 c_3 c_4 8 a) b9 (Q115 6 e c_1 c_2 c_3 c_4 8 a))∧(Q78 (!b9) r d))) (∃ n:Bool,((Q133 80 (FV.I (getD (getD a (toNat b) []) 2 FV.N)) (FV.S (getD (getD a (toNat b) []) 3 FV.N)) (FV.I (getD (getD a (toNat b) []) 4 FV.N)) (getD (getD a (toNat b) []) 5 FV.N) n)∧(Q78 n r d)))))) (br j (∃ o:Bool,((Q35 77 (Q173 (Q95 (FV.I (getD (getD a (toNat b) []) 2 FV.N)) (FV.S (getD (getD a (toNat b) []) 3 FV.N)) (FV.I (getD (getD a (toNat b) []) 4 FV.N)) (getD (getD a (toNat b) []) 5 FV.N)) 6) (Q115 6 e c_1 c_2 c_3 c_4 8 a) o (Q115 6 e c_1 c_2 c_3 c_4 8 a))∧(Q78 (!o) r d))) (∃ p:Bool,((Q133 80 (FV.I (getD (getD a (toNat b) []) 2 FV.N)) (FV.S (getD (getD a (toNat b) []) 3 FV.N)) (FV.I (getD (getD a (toNat b) []) 4 FV.N)) (getD (getD a (toNat b) []) 5 FV.N) p)∧(Q78 p r d))))))) (br (!m) ((FV.L 4 (getD (getD a (toNat b) []) 6 FV.N)=true)∧(br (decide (((((length (FV.ses (getD (getD a (toNat b) []) 6 FV.N))):Nat):Int):Int)>(0:Int))) (Q52 r d) (br j (∃ q:Bool,((Q35 77 (Q173 (Q95 (FV.I (getD (getD a (toNat b) []) 2 FV.N)) (FV.S (getD (getD a (toNat b) []) 3 FV.N)) (FV.I (getD (getD a (toNat b) []) 4 FV.N)) (getD (getD a (toNat b) []) 5 FV.N)) 6) (Q115 6 e c_1 c_2 c_3 c_4 8 a) q (Q115 6 e c_1 c_2 c_3 c_4 8 a))∧(Q78 (!q) r d))) (∃ s:Bool,((Q133 80 (FV.I (getD (getD a (toNat b) []) 2 FV.N)) (FV.S (getD (getD a (toNat b) []) 3 FV.N)) (FV.I (getD (getD a (toNat b) []) 4 FV.N)) (getD (getD a (toNat b) []) 5 FV.N) s)∧(Q78 s r d)))))) (br j (∃ t:Bool,((Q35 77 (Q173 (Q95 (FV.I (getD (getD a (toNat b) []) 2 FV.N)) (FV.S (getD (getD a (toNat b) []) 3 FV.N)) (FV.I (getD (getD a (toNat b) []) 4 FV.N)) (getD (getD a (toNat b) []) 5 FV.N)) 6) (Q115 6 e c_1 c_2 c_3 c_4 8 a) t (Q115 6 e c_1 c_2 c_3 c_4 8 a))∧(Q78 (!t) r d))) (∃ u:Bool,((Q133 80 (FV.I (getD (getD a (toNat b) []) 2 FV.N)) (FV.S (getD (getD a (toNat b) []) 3 FV.N)) (FV.I (getD (getD a (toNat b) []) 4 FV.N)) (getD (getD a (toNat b) []) 5 FV.N) u)∧(Q78 u r d))))))) (br (!b6) ((FV.L 6 (getD (getD a (toNat b) []) 7 FV.N)=true)∧(br (decide (((((length (FV.ses (getD (getD a (toNat b) []) 7 FV.N))):Nat):Int):Int)>(0:Int))) (Q52 r d) (br (!m) ((FV.L 4 (getD (getD a (toNat b) []) 6 FV.N)=true)∧(br (decide (((((length (FV.ses (getD (getD a (toNat b) []) 6 FV.N))):Nat):Int):Int)>(0:Int))) (Q52 r d) (br j (∃ v:Bool,((Q35 77 (Q173 (Q95 (FV.I (getD (getD a (toNat b) []) 2 FV.N)) (FV.S (getD (getD a (toNat b) []) 3 FV.N)) (FV.I (getD (getD a (toNat b) []) 4 FV.N)) (getD (getD a (toNat b) []) 5 FV.N)) 6) (Q115 6 e c_1 c_2 c_3 c_4 8 a) v (Q115 6 e c_1 c_2 c_3 c_4 8 a))∧(Q78 (!v) r d))) (∃ w:Bool,((Q133 80 (FV.I (getD (getD a (toNat b) []) 2 FV.N)) (FV.S (getD (getD a (toNat b) []) 3 FV.N)) (FV.I (getD (getD a (toNat b) []) 4 FV.N)) (getD (getD a (toNat b) []) 5 FV.N) w)∧(Q78 w r d)))))) (br j (∃ x:Bool,((Q35 77 (Q173 (Q95 (FV.I (getD (getD a (toNat b) []) 2 FV.N)) (FV.S (getD (getD a (toNat b) []) 3 FV.N)) (FV.I (getD (getD a (toNat b) []) 4 FV.N)) (getD (getD a (toNat b) []) 5 FV.N)) 6) (Q115 6 e c_1 c_2 c_3 c_4 8 a) x (Q115 6 e c_1 c_2 c_3 c_4 8 a))∧(Q78 (!x) r d))) (∃ y:Bool,((Q133 80 (FV.I (getD (getD a (toNat b) []) 2 FV.N)) (FV.S (getD (getD a (toNat b) []) 3 FV.N)) (FV.I (getD (getD a (toNat b) []) 4 FV.N)) (getD (getD a (toNat b) []) 5 FV.N) y)∧(Q78 y r d))))))) (br (!m) ((FV.L 4 (getD (getD a (toNat b) []) 6 FV.N)=true)∧(br (decide (((((length (FV.ses (getD (getD a (toNat b) []) 6 FV.N))):Nat):Int):Int)>(0:Int))) (Q52 r d) (br j (∃ z:Bool,((Q35 77 (Q173 (Q95 (FV.I (getD (getD a (toNat b) []) 2 FV.N)) (FV.S (getD (getD a (toNat b) []) 3 FV.N)) (FV.I (getD (getD a (toNat b) []) 4 FV.N)) (getD (getD a (toNat b) []) 5 FV.N)) 6) (Q115 6 e c_1 c_2 c_3 c_4 8 a) z (Q115 6 e c_1 c_2 c_3 c_4 8 a))∧(Q78 (!z) r d))) (∃ A:Bool,((Q133 80 (FV.I (getD (getD a (toNat b) []) 2 FV.N)) (FV.S (getD (getD a (toNat b) []) 3 FV.N)) (FV.I (getD (getD a (toNat b) []) 4 FV.N)) (getD (getD a (toNat b) []) 5 FV.N) A)∧(Q78 A r d)))))) (br j (∃ B:Bool,((Q35 77 (Q173 (Q95 (FV.I (getD (getD a (toNat b) []) 2 FV.N)) (FV.S (getD (getD a (toNat b) []) 3 FV.N)) (FV.I (getD (getD a (toNat b) []) 4 FV.N)) (getD (getD a (toNat b) []) 5 FV.N)) 6) (Q115 6 e c_1 c_2 c_3 c_4 8 a) B (Q115 6 e c_1 c_2 c_3 c_4 8 a))∧(Q78 (!B) r d))) (∃ C:Bool,((Q133 80 (FV.I (getD (getD a (toNat b) []) 2 FV.N)) (FV.S (getD (getD a (toNat b) []) 3 FV.N)) (FV.I (getD (getD a (toNat b) []) 4 FV.N)) (getD (getD a (toNat b) []) 5 FV.N) C)∧(Q78 C r d)))))))))))))))))))) (∃ D:Bool,((Q35 39 (Q121 (.c (Q0 (getD (getD a (toNat b) []) 6 FV.N))) (.fn (.func 77) [] [(false,[(Q145 6)])])) (Q115 6 e c_1 c_2 c_3 c_4 8 a) D (Q115 6 e c_1 c_2 c_3 c_4 8 a))∧(br D (Q52 r d) (∃ f:Bool,(∃ h:Bool,(∃ k:Bool,(∃ E:Bool,(∃ F:Bool,((Q186 81 (Q82 (Q153 e c_1 c_2 c_3 c_4 8 a) b) (Q89 [Q3 f,Q3 h,Q3 k,Q3 E] [Q3 F]))∧(br (!F) (Q52 r d) (br (!E) (br (((FV.I (getD (getD a (toNat b) []) 1 FV.N)):Int) !=(0:Int)) (Q52 r d) (br (!k) ((FV.L 6 (getD (getD a (toNat b) []) 7 FV.N)=true)∧(br (decide (((((length (FV.ses (getD (getD a (toNat b) []) 7 FV.N))):Nat):Int):Int)>(0:Int))) (Q52 r d) (br (!h) ((FV.L 4 (getD (getD a (toNat b) []) 6 FV.N)=true)∧(br (decide (((((length (FV.ses (getD (getD a (toNat b) []) 6 FV.N))):Nat):Int):Int)>(0:Int))) (Q52 r d) (br f (∃ G:Bool,((Q35 77 (Q173 (Q95 (FV.I (getD (getD a (toNat b) []) 2 FV.N)) (FV.S (getD (getD a (toNat b) []) 3 FV.N)) (FV.I (getD (getD a (toNat b) []) 4 FV.N)) (getD (getD a (toNat b) []) 5 FV.N)) 6) (Q115 6 e c_1 c_2 c_3 c_4 8 a) G (Q115 6 e c_1 c_2 c_3 c_4 8 a))∧(Q78 (!G) r d))) (∃ H:Bool,((Q133 80 (FV.I (getD (getD a (toNat b) []) 2 FV.N)) (FV.S (getD (getD a (toNat b) []) 3 FV.N)) (FV.I (getD (getD a (toNat b) []) 4 FV.N)) (getD (getD a (toNat b) []) 5 FV.N) H)∧(Q78 H r d)))))) (br f (∃ I:Bool,((Q35 77 (Q173 (Q95 (FV.I (getD (getD a (toNat b) []) 2 FV.N)) (FV.S (getD (getD a (toNat b) []) 3 FV.N)) (FV.I (getD (getD a (toNat b) []) 4 FV.N)) (getD (getD a (toNat b) []) 5 FV.N)) 6) (Q115 6 e c_1 c_2 c_3 c_4 8 a) I (Q115 6 e c_1 c_2 c_3 c_4 8 a))∧(Q78 (!I) r d))) (∃ J:Bool,((Q133 80 (FV.I (getD (getD a (toNat b) []) 2 FV.N)) (FV.S (getD (getD a (toNat b) []) 3 FV.N)) (FV.I (getD (getD a (toNat b) []) 4 FV.N)) (getD (getD a (toNat b) []) 5 FV.N) J)∧(Q78 J r d))))))) (br (!h) ((FV.L 4 (getD (getD a (toNat b) []) 6 FV.N)=true)∧(br (decide (((((length (FV.ses (getD (getD a (toNat b) []) 6 FV.N))):Nat):Int):Int)>(0:Int))) (Q52 r d) (br f (∃ K:Bool,((Q35 77 (Q173 (Q95 (FV.I (getD (getD a (toNat b) []) 2 FV.N)) (FV.S (getD (getD a (toNat b) []) 3 FV.N)) (FV.I (getD (getD a (toNat b) []) 4 FV.N)) (getD (getD a (toNat b) []) 5 FV.N)) 6) (Q115 6 e c_1 c_2 c_3 c_4 8 a) K (Q115 6 e c_1 c_2 c_3 c_4 8 a))∧(Q78 (!K) r d))) (∃ L:Bool,((Q133 80 (FV.I (getD (getD a (toNat b) []) 2 FV.N)) (FV.S (getD (getD a (toNat b) []) 3 FV.N)) (FV.I (getD (getD a (toNat b) []) 4 FV.N)) (getD (getD a (toNat b) []) 5 FV.N) L)∧(Q78 L r d)))))) (br f (∃ M:Bool,((Q35 77 (Q173 (Q95 (FV.I (getD (getD a (toNat b) []) 2 FV.N)) (FV.S (getD (getD a (toNat b) []) 3 FV.N)) (FV.I (getD (getD a (toNat b) []) 4 FV.N)) (getD (getD a (toNat b) []) 5 FV.N)) 6) (Q115 6 e c_1 c_2 c_3 c_4 8 a) M (Q115 6 e c_1 c_2 c_3 c_4 8 a))∧(Q78 (!M) r d))) (∃ N:Bool,((Q133 80 (FV.I (getD (getD a (toNat b) []) 2 FV.N)) (FV.S (getD (getD a (toNat b) []) 3 FV.N)) (FV.I (getD (getD a (toNat b) []) 4 FV.N)) (getD (getD a (toNat b) []) 5 FV.N) N)∧(Q78 N r d))))))) (br (!k) ((FV.L 6 (getD (getD a (toNat b) []) 7 FV.N)=true)∧(br (decide (((((length (FV.ses (getD (getD a (toNat b) []) 7 FV.N))):Nat):Int):Int)>(0:Int))) (Q52 r d) (br (!h) ((FV.L 4 (getD (getD a (toNat b) []) 6 FV.N)=true)∧(br (decide (((((length (FV.ses (getD (getD a (toNat b) []) 6 FV.N))):Nat):Int):Int)>(0:Int))) (Q52 r d) (br f (∃ O:Bool,((Q35 77 (Q173 (Q95 (FV.I (getD (getD a (toNat b) []) 2 FV.N)) (FV.S (getD (getD a (toNat b) []) 3 FV.N)) (FV.I (getD (getD a (toNat b) []) 4 FV.N)) (getD (getD a (toNat b) []) 5 FV.N)) 6) (Q115 6 e c_1 c_2 c_3 c_4 8 a) O (Q115 6 e c_1 c_2 c_3 c_4 8 a))∧(Q78 (!O) r d))) (∃ P:Bool,((Q133 80 (FV.I (getD (getD a (toNat b) []) 2 FV.N)) (FV.S (getD (getD a (toNat b) []) 3 FV.N)) (FV.I (getD (getD a (toNat b) []) 4 FV.N)) (getD (getD a (toNat b) []) 5 FV.N) P)∧(Q78 P r d)))))) (br f (∃ S:Bool,((Q35 77 (Q173 (Q95 (FV.I (getD (getD a (toNat b) []) 2 FV.N)) (FV.S (getD (getD a (toNat b) []) 3 FV.N)) (FV.I (getD (getD a (toNat b) []) 4 FV.N)) (getD (getD a (toNat b) []) 5 FV.N)) 6) (Q115 6 e c_1 c_2 c_3 c_4 8 a) S (Q115 6 e c_1 c_2 c_3 c_4 8 a))∧(Q78 (!S) r d))) (∃ T:Bool,((Q133 80 (FV.I (getD (getD a (toNat b) []) 2 FV.N)) (FV.S (getD (getD a (toNat b) []) 3 FV.N)) (FV.I (getD (getD a (toNat b) []) 4 FV.N)) (getD (getD a (toNat b) []) 5 FV.N) T)∧(Q78 T r d))))))) (br (!h) ((FV.L 4 (getD (getD a (toNat b) []) 6 FV.N)=true)∧(br (decide (((((length (FV.ses (getD (getD a (toNat b) []) 6 FV.N))):Nat):Int):Int)>(0:Int))) (Q52 r d) (br f (∃ U:Bool,((Q35 77 (Q173 (Q95 (FV.I (getD (getD a (toNat b) []) 2 FV.N)) (FV.S (getD (getD a (toNat b) []) 3 FV.N)) (FV.I (getD (getD a (toNat b) []) 4 FV.N)) (getD (getD a (toNat b) []) 5 FV.N)) 6) (Q115 6 e c_1 c_2 c_3 c_4 8 a) U (Q115 6 e c_1 c_2 c_3 c_4 8 a))∧(Q78 (!U) r d))) (∃ V:Bool,((Q133 80 (FV.I (getD (getD a (toNat b) []) 2 FV.N)) (FV.S (getD (getD a (toNat b) []) 3 FV.N)) (FV.I (getD (getD a (toNat b) []) 4 FV.N)) (getD (getD a (toNat b) []) 5 FV.N) V)∧(Q78 V r d)))))) (br f (∃ W:Bool,((Q35 77 (Q173 (Q95 (FV.I (getD (getD a (toNat b) []) 2 FV.N)) (FV.S (getD (getD a (toNat b) []) 3 FV.N)) (FV.I (getD (getD a (toNat b) []) 4 FV.N)) (getD (getD a (toNat b) []) 5 FV.N)) 6) (Q115 6 e c_1 c_2 c_3 c_4 8 a) W (Q115 6 e c_1 c_2 c_3 c_4 8 a))∧(Q78 (!W) r d))) (∃ X:Bool,((Q133 80 (FV.I (getD (getD a (toNat b) []) 2 FV.N)) (FV.S (getD (getD a (toNat b) []) 3 FV.N)) (FV.I (getD (getD a (toNat b) []) 4 FV.N)) (getD (getD a (toNat b) []) 5 FV.N) X)∧(Q78 X r d)))))))))))))))))))) (∃ g:Bool,(∃ i:Bool,(∃ l:Bool,(∃ Y:Bool,(∃ Z:Bool,((Q186 81 (Q82 (Q153 e c_1 c_2 c_3 c_4 8 a) b) (Q89 [Q3 g,Q3 i,Q3 l,Q3 Y] [Q3 Z]))∧(br (!Z) (Q52 r d) (br (!Y) (br (((FV.I (getD (getD a (toNat b) []) 1 FV.N)):Int) !=(0:Int)) (Q52 r d) (br (!l) ((FV.L 6 (getD (getD a (toNat b) []) 7 FV.N)=true)∧(br (decide (((((length (FV.ses (getD (getD a (toNat b) []) 7 FV.N))):Nat):Int):Int)>(0:Int))) (Q52 r d) (br (!i) ((FV.L 4 (getD (getD a (toNat b) []) 6 FV.N)=true)∧(br (decide (((((length (FV.ses (getD (getD a (toNat b) []) 6 FV.N))):Nat):Int):Int)>(0:Int))) (Q52 r d) (br g (∃ a0:Bool,((Q35 77 (Q173 (Q95 (FV.I (getD (getD a (toNat b) []) 2 FV.N)) (FV.S (getD (getD a (toNat b) []) 3 FV.N)) (FV.I (getD (getD a (toNat b) []) 4 FV.N)) (getD (getD a (toNat b) []) 5 FV.N)) 6) (Q115 6 e c_1 c_2 c_3 c_4 8 a) a0 (Q115 6 e c_1 c_2 c_3 c_4 8 a))∧(Q78 (!a0) r d))) (∃ a2:Bool,((Q133 80 (FV.I (getD (getD a (toNat b) []) 2 FV.N)) (FV.S (getD (getD a (toNat b) []) 3 FV.N)) (FV.I (getD (getD a (toNat b) []) 4 FV.N)) (getD (getD a (toNat b) []) 5 FV.N) a2)∧(Q78 a2 r d)))))) (br g (∃ a3:Bool,((Q35 77 (Q173 (Q95 (FV.I (getD (getD a (toNat b) []) 2 FV.N)) (FV.S (getD (getD a (toNat b) []) 3 FV.N)) (FV.I (getD (getD a (toNat b) []) 4 FV.N)) (getD (getD a (toNat b) []) 5 FV.N)) 6) (Q115 6 e c_1 c_2 c_3 c_4 8 a) a3 (Q115 6 e c_1 c_2 c_3 c_4 8 a))∧(Q78 (!a3) r d))) (∃ a4:Bool,((Q133 80 (FV.I (getD (getD a (toNat b) []) 2 FV.N)) (FV.S (getD (getD a (toNat b) []) 3 FV.N)) (FV.I (getD (getD a (toNat b) []) 4 FV.N)) (getD (getD a (toNat b) []) 5 FV.N) a4)∧(Q78 a4 r d))))))) (br (!i) ((FV.L 4 (getD (getD a (toNat b) []) 6 FV.N)=true)∧(br (decide (((((length (FV.ses (getD (getD a (toNat b) []) 6 FV.N))):Nat):Int):Int)>(0:Int))) (Q52 r d) (br g (∃ a5:Bool,((Q35 77 (Q173 (Q95 (FV.I (getD (getD a (toNat b) []) 2 FV.N)) (FV.S (getD (getD a (toNat b) []) 3 FV.N)) (FV.I (getD (getD a (toNat b) []) 4 FV.N)) (getD (getD a (toNat b) []) 5 FV.N)) 6) (Q115 6 e c_1 c_2 c_3 c_4 8 a) a5 (Q115 6 e c_1 c_2 c_3 c_4 8 a))∧(Q78 (!a5) r d))) (∃ a6:Bool,((Q133 80 (FV.I (getD (getD a (toNat b) []) 2 FV.N)) (FV.S (getD (getD a (toNat b) []) 3 FV.N)) (FV.I (getD (getD a (toNat b) []) 4 FV.N)) (getD (getD a (toNat b) []) 5 FV.N) a6)∧(Q78 a6 r d)))))) (br g (∃ a7:Bool,((Q35 77 (Q173 (Q95 (FV.I (getD (getD a (toNat b) []) 2 FV.N)) (FV.S (getD (getD a (toNat b) []) 3 FV.N)) (FV.I (getD (getD a (toNat b) []) 4 FV.N)) (getD (getD a (toNat b) []) 5 FV.N)) 6) (Q115 6 e c_1 c_2 c_3 c_4 8 a) a7 (Q115 6 e c_1 c_2 c_3 c_4 8 a))∧(Q78 (!a7) r d))) (∃ a8:Bool,((Q133 80 (FV.I (getD (getD a (toNat b) []) 2 FV.N)) (FV.S (getD (getD a (toNat b) []) 3 FV.N)) (FV.I (getD (getD a (toNat b) []) 4 FV.N)) (getD (getD a (toNat b) []) 5 FV.N) a8)∧(Q78 a8 r d))))))) (br (!l) ((FV.L 6 (getD (getD a (toNat b) []) 7 FV.N)=true)∧(br (decide (((((length (FV.ses (getD (getD a (toNat b) []) 7 FV.N))):Nat):Int):Int)>(0:Int))) (Q52 r d) (br (!i) ((FV.L 4 (getD (getD a (toNat b) []) 6 FV.N)=true)∧(br (decide (((((length (FV.ses (getD (getD a (toNat b) []) 6 FV.N))):Nat):Int):Int)>(0:Int))) (Q52 r d) (br g (∃ a9:Bool,((Q35 77 (Q173 (Q95 (FV.I (getD (getD a (toNat b) []) 2 FV.N)) (FV.S (getD (getD a (toNat b) []) 3 FV.N)) (FV.I (getD (getD a (toNat b) []) 4 FV.N)) (getD (getD a (toNat b) []) 5 FV.N)) 6) (Q115 6 e c_1 c_2 c_3 c_4 8 a) a9 (Q115 6 e c_1 c_2 c_3 c_4 8 a))∧(Q78 (!a9) r d))) (∃ aa:Bool,((Q133 80 (FV.I (getD (getD a (toNat b) []) 2 FV.N)) (FV.S (getD (getD a (toNat b) []) 3 FV.N)) (FV.I (getD (getD a (toNat b) []) 4 FV.N)) (getD (getD a (toNat b) []) 5 FV.N) aa)∧(Q78 aa r d)))))) (br g (∃ ab:Bool,((Q35 77 (Q173 (Q95 (FV.I (getD (getD a (toNat b) []) 2 FV.N)) (FV.S (getD (getD a (toNat b) []) 3 FV.N)) (FV.I (getD (getD a (toNat b) []) 4 FV.N)) (getD (getD a (toNat b) []) 5 FV.N)) 6) (Q115 6 e c_1 c_2 c_3 c_4 8 a) ab (Q115 6 e c_1 c_2 c_3 c_4 8 a))∧(Q78 (!ab) r d))) (∃ ac:Bool,((Q133 80 (FV.I (getD (getD a (toNat b) []) 2 FV.N)) (FV.S (getD (getD a (toNat b) []) 3 FV.N)) (FV.I (getD (getD a (toNat b) []) 4 FV.N)) (getD (getD a (toNat b) []) 5 FV.N) ac)∧(Q78 ac r d))))))) (br (!i) ((FV.L 4 (getD (getD a (toNat b) []) 6 FV.N)=true)∧(br (decide (((((length (FV.ses (getD (getD a (toNat b) []) 6 FV.N))):Nat):Int):Int)>(0:Int))) (Q52 r d) (br g (∃ ad:Bool,((Q35 77 (Q173 (Q95 (FV.I (getD (getD a (toNat b) []) 2 FV.N)) (FV.S (getD (getD a (toNat b) []) 3 FV.N)) (FV.I (getD (getD a (toNat b) []) 4 FV.N)) (getD (getD a (toNat b) []) 5 FV.N)) 6) (Q115 6 e c_1 c_2 c_3 c_4 8 a) ad (Q115 6 e c_1 c_2 c_3 c_4 8 a))∧(Q78 (!ad) r d))) (∃ ae:Bool,((Q133 80 (FV.I (getD (getD a (toNat b) []) 2 FV.N)) (FV.S (getD (getD a (toNat b) []) 3 FV.N)) (FV.I (getD (getD a (toNat b) []) 4 FV.N)) (getD (getD a (toNat b) []) 5 FV.N) ae)∧(Q78 ae r d)))))) (br g (∃ af:Bool,((Q35 77 (Q173 (Q95 (FV.I (getD (getD a (toNat b) []) 2 FV.N)) (FV.S (getD (getD a (toNat b) []) 3 FV.N)) (FV.I (getD (getD a (toNat b) []) 4 FV.N)) (getD (getD a (toNat b) []) 5 FV.N)) 6) (Q115 6 e c_1 c_2 c_3 c_4 8 a) af (Q115 6 e c_1 c_2 c_3 c_4 8 a))∧(Q78 (!af) r d))) (∃ ag:Bool,((Q133 80 (FV.I (getD (getD a (toNat b) []) 2 FV.N)) (FV.S (getD (getD a (toNat b) []) 3 FV.N)) (FV.I (getD (getD a (toNat b) []) 4 FV.N)) (getD (getD a (toNat b) []) 5 FV.N) ag)∧(Q78 ag r d)))))))))))))))):=by kernel_rfl
def lv38:List (Nat×List Nat):=[(1,[3,4,22,23,24])]
theorem v38 (c:List UInt8)(c_1 c_2 c_3 c_4:Int)(a:RW)(r:TV)(b:List AObj):VE lv38 38 0 r b [Q153 c c_1 c_2 c_3 c_4 8 a] []=
  ((FV.L 8 (Q4 8 a)=true)∧((((length a:Int)=(length a:Int))∧((0≤(length a:Int))∧(((3:Nat)=3)∧(((0:Nat)<3)∧(((0:Nat)<24)∧(z0k (toNat (length a:Int)) 24))))))∧((0≤(0:Int)∧(0:Int)<(((toNat (length a:Int)):Nat):Int))∧((0<(length (List.replicate (toNat (length a:Int)) ([(.bool false),(Q1 0),(Q1 0)]:List FV)))∧(length (getD (List.replicate (toNat (length a:Int)) ([(.bool false),(Q1 0),(Q1 0)]:List FV)) 0 []))=3)∧((FV.L 8 (Q4 8 a)=true)∧(Q57 38 0 r b 1 (Q111 (Q68 3 1) (Q6 4 (.fn (.func 82) [] [(false,[Q146])])) (Q77 22 8 a) (Q20 23 (length a:Int)) 24 0) 0 1 [Q88 1 3 (toNat (length a:Int))] (Q50 1 3 (List.set (List.replicate (toNat (length a:Int)) ([(.bool false),(Q1 0),(Q1 0)]:List FV)) 0 (z5d (getD (List.replicate (toNat (length a:Int)) ([(.bool false),(Q1 0),(Q1 0)]:List FV)) 0 []) 0 [(.bool true)]))) 2)))))):=by kernel_rfl
theorem v38_1a (c:RW)(x23 a:Int)(b:Nat)(e:RW)(r:TV)(d:List AObj):VQ lv38 38 0 r d 1 ⟨Q111 (Q68 3 1) (Q6 4 (.fn (.func 82) [] [(false,[Q146])])) (Q77 22 8 c) (Q20 23 x23) 24 a,Q56 0 1 [Q88 1 3 b] (Q50 1 3 e),2⟩=
  (br (decide ((a:Int)<x23)) (((FV.L 8 (Q4 8 c)=true)∧((0≤a)∧((a<(length c:Int))∧(([(Q1 (FV.I (getD (getD c (toNat a) []) 0 FV.N))),(Q1 (FV.I (getD (getD c (toNat a) []) 1 FV.N))),(Q1 (FV.I (getD (getD c (toNat a) []) 2 FV.N))),(.str (FV.S (getD (getD c (toNat a) []) 3 FV.N))),(Q1 (FV.I (getD (getD c (toNat a) []) 4 FV.N))),(getD (getD c (toNat a) []) 5 FV.N),(getD (getD c (toNat a) []) 6 FV.N),(getD (getD c (toNat a) []) 7 FV.N)]:List FV)=(getD c (toNat a) [])))))∧((0≤a∧a<(b:Int))∧((((0+(toNat a))<(length e))∧((([(.bool (FV.asB (getD (getD e (0+(toNat a)) []) 0 FV.N)))]:List FV)=(take 1 (drop 0 (getD e (0+(toNat a)) []))))∧((1:Nat)=1)))∧(br (!(FV.asB (getD (getD e (0+(toNat a)) []) 0 FV.N))) (Q57 38 0 r d 1 (Q111 (Q68 3 1) (Q6 4 (.fn (.func 82) [] [(false,[Q146])])) (Q77 22 8 c) (Q20 23 x23) 24 (IntKind.wrap .i64 (a+1))) 0 1 [Q88 1 3 b] (Q50 1 3 e) 2) ((0≤a∧a<(b:Int))∧((((0+(toNat a))<(length e))∧((([(.bool (FV.asB (getD (getD e (0+(toNat a)) []) 0 FV.N))),(Q1 (FV.I (getD (getD e (0+(toNat a)) []) 1 FV.N))),(Q1 (FV.I (getD (getD e (0+(toNat a)) []) 2 FV.N)))]:List FV)=(take 3 (drop 0 (getD e (0+(toNat a)) []))))∧((3:Nat)=3)))∧(∃ g:Bool,(∃ h:Int,(∃ i:Int,(∃ n:Bool,(∃ o:Bool,((Q186 83 (Q82 (Q182 (FV.asB (getD (getD e (0+(toNat a)) []) 0 FV.N)) (FV.I (getD (getD e (0+(toNat a)) []) 1 FV.N)) (FV.I (getD (getD e (0+(toNat a)) []) 2 FV.N))) (FV.I (getD (getD c (toNat a) []) 0 FV.N))) [Q64 [Q3 g,Q2 h,Q2 i],Q22 [Q3 n],Q22 [Q3 o]])∧(br (!o) (Q52 r d) (br (((FV.I (getD (getD c (toNat a) []) 0 FV.N)):Int)==(9:Int)) (br n (∃ j:Bool×RW,((Q35 82 [Q23 (FV.I (getD (getD c (toNat a) []) 1 FV.N)),Q182 g h i,Q172 1] (Q59 (Q97 1 1 3 b) 3 e) j.1 (Q59 (Q97 1 1 3 b) 3 j.2))∧(br (!j.1) (Q52 r d) (br (((FV.I (getD (getD c (toNat a) []) 0 FV.N)):Int) !=(10:Int)) (∃ l:Bool×RW,((Q35 82 [Q23 (IntKind.wrap .i64 (a+1)),Q182 g h i,Q172 1] (Q59 (Q97 1 1 3 b) 3 j.2) l.1 (Q59 (Q97 1 1 3 b) 3 l.2))∧(br (!l.1) (Q52 r d) (Q57 38 0 r d 1 (Q111 (Q68 3 1) (Q6 4 (.fn (.func 82) [] [(false,[Q146])])) (Q77 22 8 c) (Q20 23 x23) 24 (IntKind.wrap .i64 (a+1))) 0 1 [Q88 1 3 b] (Q50 1 3 l.2) 2)))) (Q57 38 0 r d 1 (Q111 (Q68 3 1) (Q6 4 (.fn (.func 82) [] [(false,[Q146])])) (Q77 22 8 c) (Q20 23 x23) 24 (IntKind.wrap .i64 (a+1))) 0 1 [Q88 1 3 b] (Q50 1 3 j.2) 2))))) (Q57 38 0 r d 1 (Q111 (Q68 3 1) (Q6 4 (.fn (.func 82) [] [(false,[Q146])])) (Q77 22 8 c) (Q20 23 x23) 24 (IntKind.wrap .i64 (a+1))) 0 1 [Q88 1 3 b] (Q50 1 3 e) 2)) (br n (br (((FV.I (getD (getD c (toNat a) []) 0 FV.N)):Int)==(10:Int)) (∃ k:Bool×RW,((Q35 82 [Q23 (FV.I (getD (getD c (toNat a) []) 1 FV.N)),Q182 g h i,Q172 1] (Q59 (Q97 1 1 3 b) 3 e) k.1 (Q59 (Q97 1 1 3 b) 3 k.2))∧(br (!k.1) (Q52 r d) (br (((FV.I (getD (getD c (toNat a) []) 0 FV.N)):Int) !=(10:Int)) (∃ m:Bool×RW,((Q35 82 [Q23 (IntKind.wrap .i64 (a+1)),Q182 g h i,Q172 1] (Q59 (Q97 1 1 3 b) 3 k.2) m.1 (Q59 (Q97 1 1 3 b) 3 m.2))∧(br (!m.1) (Q52 r d) (Q57 38 0 r d 1 (Q111 (Q68 3 1) (Q6 4 (.fn (.func 82) [] [(false,[Q146])])) (Q77 22 8 c) (Q20 23 x23) 24 (IntKind.wrap .i64 (a+1))) 0 1 [Q88 1 3 b] (Q50 1 3 m.2) 2)))) (Q57 38 0 r d 1 (Q111 (Q68 3 1) (Q6 4 (.fn (.func 82) [] [(false,[Q146])])) (Q77 22 8 c) (Q20 23 x23) 24 (IntKind.wrap .i64 (a+1))) 0 1 [Q88 1 3 b] (Q50 1 3 k.2) 2))))) (br (((FV.I (getD (getD c (toNat a) []) 0 FV.N)):Int) !=(10:Int)) (∃ f:Bool×RW,((Q35 82 [Q23 (IntKind.wrap .i64 (a+1)),Q182 g h i,Q172 1] (Q59 (Q97 1 1 3 b) 3 e) f.1 (Q59 (Q97 1 1 3 b) 3 f.2))∧(br (!f.1) (Q52 r d) (Q57 38 0 r d 1 (Q111 (Q68 3 1) (Q6 4 (.fn (.func 82) [] [(false,[Q146])])) (Q77 22 8 c) (Q20 23 x23) 24 (IntKind.wrap .i64 (a+1))) 0 1 [Q88 1 3 b] (Q50 1 3 f.2) 2)))) (Q57 38 0 r d 1 (Q111 (Q68 3 1) (Q6 4 (.fn (.func 82) [] [(false,[Q146])])) (Q77 22 8 c) (Q20 23 x23) 24 (IntKind.wrap .i64 (a+1))) 0 1 [Q88 1 3 b] (Q50 1 3 e) 2))) (Q57 38 0 r d 1 (Q111 (Q68 3 1) (Q6 4 (.fn (.func 82) [] [(false,[Q146])])) (Q77 22 8 c) (Q20 23 x23) 24 (IntKind.wrap .i64 (a+1))) 0 1 [Q88 1 3 b] (Q50 1 3 e) 2)))))))))))))))) (Q123 r d)):=by kernel_rfl
def lv42:List (Nat×List Nat):=[(1,[2,5,6])]
theorem v42 (b:Int)(c:List UInt8)(d:Int)(e:RW)(a:Int)(r:TV)(f:List AObj):VE lv42 42 0 r f (Q82 (Q86 b c d e) a) []=
  (Q34 42 0 r f 1 (Q96 2 4 (Q20 5 (IntKind.wrap .i64 (a-1))) 6 0) [Q188 0 b c d e] 1):=by kernel_rfl
theorem v42_1a (f e h0_0:Int)(c:List UInt8)(d:Int)(a:RW)(r:TV)(b:List AObj):VQ lv42 42 0 r b 1 ⟨Q96 2 4 (Q20 5 f) 6 e,[Q188 0 h0_0 c d a],1⟩=
  ((FV.L 4 (Q136 a)=true)∧(br (decide ((e:Int)<(length a:Int))) (br (decide ((f:Int)≥(0:Int))) (((FV.L 4 (Q136 a)=true)∧((0≤e)∧((e<(length a:Int))∧(((rE (getD a (toNat e) [])):List FV)=(getD a (toNat e) [])))))∧(∃ g:Int,((Q73 42 (Q82 (aE (getD a (toNat e) [])) f) [] g [])∧(Q34 42 0 r b 1 (Q96 2 4 (Q20 5 g) 6 (IntKind.wrap .i64 (e+1))) [Q188 0 h0_0 c d a] 1)))) (Q162 f r b)) (Q162 f r b))):=by kernel_rfl
def lv46:List (Nat×List Nat):=[]
theorem v46 (n:Int)(r:TV)(a:List AObj):VE lv46 46 0 r a [Q23 n] []=
  (br (decide (((0:Int):Int)≤n)) (Q78 (decide ((n:Int)≤(4096:Int))) r a) (Q52 r a)):=by kernel_rfl
def lv47:List (Nat×List Nat):=[]
theorem v47 (a:Int)(b:List UInt8)(c:Int)(d:RW)(vars loose:Int)(r:TV)(e:List AObj):VE lv47 47 0 r e (Q106 (Q86 a b c d) vars (Q23 loose)) []=
  (∃ g:Bool,((Q132 15 (Q86 a b c d) g)∧(br g (∃ h:Bool,((Q147 90 (Q86 a b c d) vars h)∧(br h (∃ f:Int,((Q73 78 [Q86 a b c d] [] f [])∧(Q78 (decide ((f:Int)≤loose)) r e))) (Q52 r e)))) (Q52 r e)))):=by kernel_rfl
def lv48:List (Nat×List Nat):=[]
theorem v48 (d:Int)(e:List UInt8)(f:Int)(g:RW)(r:TV)(b:List AObj):VE lv48 48 0 r b [Q86 d e f g] []=
  (∃ y:Bool,((Q132 15 (Q86 d e f g) y)∧(br (!y) (Q162 1 r b) ((∃ c:List UInt8×Int,((Q186 91 (Q82 (Q86 d e f g) 133) [Q22 [Q5 c.1],Q22 Q125,Q22 (Q51 c.2)])∧(br ((c.2:Int) !=(0:Int)) (Q162 c.2 r b) (br ((c.1:List UInt8)==[58,45]) (Q162 130 r b) (br ((c.1:List UInt8)==[44]) (((FV.L 4 .N=true)∧((0≤(0:Int))∧(((0:Int)<((0:Nat):Int))∧(([(Q1 0),(.str []),(Q1 0), .N]:List FV)=[]))))∧(∃ w:Int,((Q73 48 [Q127 0 [] 0] [] w [])∧(br ((w:Int) !=(0:Int)) (Q162 w r b) (((FV.L 4 .N=true)∧((0≤(1:Int))∧(((1:Int)<((0:Nat):Int))∧(([(Q1 0),(.str []),(Q1 0), .N]:List FV)=[]))))∧(∃ z:Int,((Q73 48 [Q127 0 [] 0] [] z [])∧(Q162 z r b)))))))) (br ((c.1:List UInt8)==[59]) (((FV.L 4 .N=true)∧((0≤(0:Int))∧(((0:Int)<((0:Nat):Int))∧(([(Q1 0),(.str []),(Q1 0), .N]:List FV)=[]))))∧(∃ x:Int,((Q73 48 [Q127 0 [] 0] [] x [])∧(br ((x:Int) !=(0:Int)) (Q162 x r b) (((FV.L 4 .N=true)∧((0≤(1:Int))∧(((1:Int)<((0:Nat):Int))∧(([(Q1 0),(.str []),(Q1 0), .N]:List FV)=[]))))∧(∃ A:Int,((Q73 48 [Q127 0 [] 0] [] A [])∧(Q162 A r b)))))))) (br ((c.1:List UInt8)==[61,62]) (((FV.L 4 .N=true)∧((0≤(0:Int))∧(((0:Int)<((0:Nat):Int))∧(([(Q1 0),(.str []),(Q1 0), .N]:List FV)=[]))))∧(∃ v:List Cl×Int,((Q186 92 [Q127 0 [] 0] (Q84 [Q8 9 (CLs v.1)] v.2))∧(br ((v.2:Int) !=(0:Int)) (Q162 v.2 r b) (((FV.L 4 .N=true)∧((0≤(1:Int))∧(((1:Int)<((0:Nat):Int))∧(([(Q1 0),(.str []),(Q1 0), .N]:List FV)=[]))))∧(∃ B:Int,((Q73 48 [Q127 0 [] 0] [] B [])∧(Q162 B r b)))))))) (br ((c.1:List UInt8)==[112,105]) (((FV.L 4 .N=true)∧((0≤(0:Int))∧(((0:Int)<((0:Nat):Int))∧(([(Q1 0),(.str []),(Q1 0), .N]:List FV)=[]))))∧(∃ C:Tm,((Q7 93 [Q127 0 [] 0] [] (aT C) [])∧(∃ k:Int,((Q73 48 [(aT C)] [] k [])∧(Q162 k r b)))))) (br ((c.1:List UInt8)==[115,105,103,109,97]) (((FV.L 4 .N=true)∧((0≤(0:Int))∧(((0:Int)<((0:Nat):Int))∧(([(Q1 0),(.str []),(Q1 0), .N]:List FV)=[]))))∧(∃ l:Tm,((Q7 93 [Q127 0 [] 0] [] (aT l) [])∧(∃ m:Int,((Q73 48 [(aT l)] [] m [])∧(Q162 m r b)))))) (Q162 0 r b))))))))))∨(∃ a:List UInt8×List Tm×Int,((Q185 91 (Q82 (Q86 d e f g) 133) [Q22 [Q5 a.1],Q22 (Q88 0 4 (length a.2.1)),Q22 (Q51 a.2.2)] (Q70 4 (FTs a.2.1)))∧(br ((a.2.2:Int) !=(0:Int)) (Q162 a.2.2 r b) (br ((a.1:List UInt8)==[58,45]) (Q162 130 r b) (br ((a.1:List UInt8)==[44]) ((0≤(0:Int)∧(0:Int)<(((length a.2.1):Nat):Int))∧(((0<(length (FTs a.2.1)))∧((((rE (getD (FTs a.2.1) 0 [])):List FV)=(take 4 (drop 0 (getD (FTs a.2.1) 0 []))))∧((4:Nat)=4)))∧(∃ i:Int,((Q73 48 [(aE (getD (FTs a.2.1) 0 []))] [] i [])∧(br ((i:Int) !=(0:Int)) (Q162 i r b) ((0≤(1:Int)∧(1:Int)<(((length a.2.1):Nat):Int))∧(((1<(length (FTs a.2.1)))∧((((rE (getD (FTs a.2.1) 1 [])):List FV)=(take 4 (drop 0 (getD (FTs a.2.1) 1 []))))∧((4:Nat)=4)))∧(∃ n:Int,((Q73 48 [(aE (getD (FTs a.2.1) 1 []))] [] n [])∧(Q162 n r b)))))))))) (br ((a.1:List UInt8)==[59]) ((0≤(0:Int)∧(0:Int)<(((length a.2.1):Nat):Int))∧(((0<(length (FTs a.2.1)))∧((((rE (getD (FTs a.2.1) 0 [])):List FV)=(take 4 (drop 0 (getD (FTs a.2.1) 0 []))))∧((4:Nat)=4)))∧(∃ j:Int,((Q73 48 [(aE (getD (FTs a.2.1) 0 []))] [] j [])∧(br ((j:Int) !=(0:Int)) (Q162 j r b) ((0≤(1:Int)∧(1:Int)<(((length a.2.1):Nat):Int))∧(((1<(length (FTs a.2.1)))∧((((rE (getD (FTs a.2.1) 1 [])):List FV)=(take 4 (drop 0 (getD (FTs a.2.1) 1 []))))∧((4:Nat)=4)))∧(∃ o:Int,((Q73 48 [(aE (getD (FTs a.2.1) 1 []))] [] o [])∧(Q162 o r b)))))))))) (br ((a.1:List UInt8)==[61,62]) ((0≤(0:Int)∧(0:Int)<(((length a.2.1):Nat):Int))∧(((0<(length (FTs a.2.1)))∧((((rE (getD (FTs a.2.1) 0 [])):List FV)=(take 4 (drop 0 (getD (FTs a.2.1) 0 []))))∧((4:Nat)=4)))∧(∃ h:List Cl×Int,((Q186 92 [(aE (getD (FTs a.2.1) 0 []))] (Q84 [Q8 9 (CLs h.1)] h.2))∧(br ((h.2:Int) !=(0:Int)) (Q162 h.2 r b) ((0≤(1:Int)∧(1:Int)<(((length a.2.1):Nat):Int))∧(((1<(length (FTs a.2.1)))∧((((rE (getD (FTs a.2.1) 1 [])):List FV)=(take 4 (drop 0 (getD (FTs a.2.1) 1 []))))∧((4:Nat)=4)))∧(∃ p:Int,((Q73 48 [(aE (getD (FTs a.2.1) 1 []))] [] p [])∧(Q162 p r b)))))))))) (br ((a.1:List UInt8)==[112,105]) ((0≤(0:Int)∧(0:Int)<(((length a.2.1):Nat):Int))∧(((0<(length (FTs a.2.1)))∧((((rE (getD (FTs a.2.1) 0 [])):List FV)=(take 4 (drop 0 (getD (FTs a.2.1) 0 []))))∧((4:Nat)=4)))∧(∃ q:Tm,((Q7 93 [(aE (getD (FTs a.2.1) 0 []))] [] (aT q) [])∧(∃ s:Int,((Q73 48 [(aT q)] [] s [])∧(Q162 s r b))))))) (br ((a.1:List UInt8)==[115,105,103,109,97]) ((0≤(0:Int)∧(0:Int)<(((length a.2.1):Nat):Int))∧(((0<(length (FTs a.2.1)))∧((((rE (getD (FTs a.2.1) 0 [])):List FV)=(take 4 (drop 0 (getD (FTs a.2.1) 0 []))))∧((4:Nat)=4)))∧(∃ t:Tm,((Q7 93 [(aE (getD (FTs a.2.1) 0 []))] [] (aT t) [])∧(∃ u:Int,((Q73 48 [(aT t)] [] u [])∧(Q162 u r b))))))) (Q162 0 r b)))))))))))))):=by kernel_rfl
def lv49:List (Nat×List Nat):=[]
theorem v49_F50 (s:RW)(r:TV)(a:List AObj):VE lv49 49 0 r a (Q122 9 s (.fn (.func 50) [] [])) []=
  (∃ b:Int,((Q73 94 (Q122 9 s (.fn (.func 50) [] [])) [] b [])∧(Q78 (decide ((b:Int)≥(0:Int))) r a))):=by kernel_rfl
def lv52:List (Nat×List Nat):=[]
theorem v52 (n:Int)(r:TV)(a:List AObj):VE lv52 52 0 r a [Q23 n] []=
  (RT (Q127 4 [] n) [] r a):=by kernel_rfl
def lv53:List (Nat×List Nat):=[]
theorem v53 (h c_1:Int)(b:List UInt8)(c:Int)(d:RW)(e:Int)(f:List UInt8)(g:Int)(c_8 a1:RW)(r:TV)(a:List AObj):VE lv53 53 0 r a [.agg (Q169 h c_1 b c 4 d e f g 4 c_8),Q99 4 a1] []=
  ((FV.L 4 (Q136 a1)=true)∧(br ((h:Int) !=(length a1:Int)) (Q107 [Q64 (Q110 0 [] 0),Q64 (Q110 0 [] 0)] r a) (∃ i:Bool,((Q76 39 (Q122 4 a1 (.fn (.func 95) [] [])) i)∧(br i (Q107 [Q64 (Q110 0 [] 0),Q64 (Q110 0 [] 0)] r a) (∃ j:Bool,((Q132 95 (Q86 c_1 b c d) j)∧(br j (Q107 [Q64 (Q110 0 [] 0),Q64 (Q110 0 [] 0)] r a) (∃ k:Bool,((Q132 95 (Q86 e f g c_8) k)∧(br k (Q107 [Q64 (Q110 0 [] 0),Q64 (Q110 0 [] 0)] r a) (∃ l:Tm,((Q7 96 (Q173 (Q86 c_1 b c d) 1) [Q30 1 [Q8 4 a1]] (aT l) [Q30 1 [Q8 4 a1]])∧(∃ m:Tm,((Q7 96 (Q173 (Q86 e f g c_8) 1) [Q30 1 [Q8 4 a1]] (aT m) [Q30 1 [Q8 4 a1]])∧(Q107 [Q64 (cT l),Q64 (cT m)] r a)))))))))))))))):=by kernel_rfl
def lv54:List (Nat×List Nat):=[]
theorem v54 (b:Int)(e:List UInt8)(f:Int)(a:RW)(r:TV)(d:List AObj):VE lv54 54 0 r d [Q86 b e f a] []=
  (br ((b:Int) !=(6:Int)) (Q108 (Q61 b e f 4 a) Q125 r d) (∃ h:Bool,((Q132 15 (Q86 b e f a) h)∧(br (!h) (Q108 (Q61 b e f 4 a) Q125 r d) (((FV.L 4 (Q136 a)=true)∧((0≤(0:Int))∧(((0:Int)<(length a:Int))∧(((rE (getD a 0 [])):List FV)=(getD a 0 [])))))∧((FV.L 4 (Q136 a)=true)∧(((0≤(1:Int))∧(((1:Int)≤(length a:Int))∧((length a:Int)≤(length a:Int))))∧((∃ i:Bool,((Q7 100 [Q99 4 (drop 1 (take (toNat (length a:Int)) a))] [] (.c (Q0 (.sl i 4 []))) [])∧(Q108 (cE (getD a 0 [])) [Q0 (.sl i 4 [])] r d)))∨(∃ g:RW,((Q7 100 [Q99 4 (drop 1 (take (toNat (length a:Int)) a))] [] (Q165 0 4 (length g)) (Q70 4 g))∧(((4:Nat)=4∧(0+(length g))≤(length g))∧(Q108 (cE (getD a 0 [])) [Q8 4 (take (length g) (drop 0 g))] r d)))))))))))):=by kernel_rfl
theorem v54_O (d:Int)(e:List UInt8)(f:Int)(a:RW)(r:TV)(b:List AObj):vcE Tryz.prog shO lv54 54 [Q86 d e f a] [] (fun r0 Hs0=>TV.Le r0 r∧Hs0=b) (RPt Tryz.prog 54 0 r b)=
  (br ((d:Int) !=(6:Int)) (Q108 (Q61 d e f 4 a) Q125 r b) (∃ h:Bool,((Q132 15 (Q86 d e f a) h)∧(br (!h) (Q108 (Q61 d e f 4 a) Q125 r b) (((FV.L 4 (Q136 a)=true)∧((0≤(0:Int))∧(((0:Int)<(length a:Int))∧(((rE (getD a 0 [])):List FV)=(getD a 0 [])))))∧((FV.L 4 (Q136 a)=true)∧(((0≤(1:Int))∧(((1:Int)≤(length a:Int))∧((length a:Int)≤(length a:Int))))∧((∃ i:Bool,((Q7 100 [Q99 4 (drop 1 (take (toNat (length a:Int)) a))] [] (.c (Q0 (.sl i 4 []))) [])∧(Q108 (cE (getD a 0 [])) [Q0 (.sl i 4 [])] r b)))∨(∃ g:RW,((Q7 100 [Q99 4 (drop 1 (take (toNat (length a:Int)) a))] [] (Q165 0 4 (length g)) (Q70 4 g))∧(Q44 (Q89 (cE (getD a 0 [])) (Q88 0 4 (length g))) (Q70 4 g) r b))))))))))):=by kernel_rfl
def lv55:List (Nat×List Nat):=[(1000001,[1])]
theorem v55 (x_0 x_1 x_2:Int)(c:List UInt8)(d:Int)(x_5 x_6 x_7:RW)(b:Int)(a:Nat)(f:RW)(r:TV)(e:List AObj):VE lv55 55 2 r e (Q109 0 2 0 0 (Q49 x_0 x_1 x_2 c d (Q8 4 x_5) (Q8 4 x_6) (Q8 6 x_7))) (Q83 2 b 1 8 0 a 8 f)=
  ((1≤1)∧((a≤(length f)∧z0k (a+1) 120)∧(Q79 (IntKind.wrap .i64 ((((a+1):Nat):Int)-(1:Int))) (Q158 b (a+1) ((take a f)++ [[(Q1 x_0),(Q1 x_1),(Q1 x_2),(.str c),(Q1 d),(Q136 x_5),(Q136 x_6),(Q4 6 x_7)]])) r e))):=by kernel_rfl
def lv43:List (Nat×List Nat):=[(1000001,[1])]
theorem v43 (g:Int)(h:List UInt8)(i:Int)(j:RW)(d:Int)(b:Nat)(k:RW)(r:TV)(c:List AObj):VE lv43 43 2 r c [Q172 2,Q86 g h i j] (Q83 2 d 1 8 0 b 8 k)=
  (∃ a:Int×List In1,((Q67 86 (Q184 2 (Q86 g h i j) (Q13 true)) (Q83 2 d 1 8 0 b 8 k) [] (Q158 a.1 (length a.2) (FIs a.2)))∧(br (((((length a.2):Nat):Int):Int)==(0:Int)) (∃ e:Int×Int×List In1,((Q159 55 0 2 0 0 (Q175 4 0 0 [] 0 Q24) (Q83 2 a.1 1 8 0 (length a.2) 8 (FIs a.2)) e.1 e.2.1 (length e.2.2) (FIs e.2.2))∧(Q160 [] e.2.1 (length e.2.2) (FIs e.2.2) r c))) ((0≤(IntKind.wrap .i64 ((((length a.2):Nat):Int)-(1:Int)))∧(IntKind.wrap .i64 ((((length a.2):Nat):Int)-(1:Int)))<(((length a.2):Nat):Int))∧((((0+(toNat (IntKind.wrap .i64 ((((length a.2):Nat):Int)-(1:Int)))))<(length (FIs a.2)))∧((([(Q1 (FV.I (getD (getD (FIs a.2) (0+(toNat (IntKind.wrap .i64 ((((length a.2):Nat):Int)-(1:Int))))) []) 0 FV.N)))]:List FV)=(take 1 (drop 0 (getD (FIs a.2) (0+(toNat (IntKind.wrap .i64 ((((length a.2):Nat):Int)-(1:Int))))) []))))∧((1:Nat)=1)))∧(br (((FV.I (getD (getD (FIs a.2) (0+(toNat (IntKind.wrap .i64 ((((length a.2):Nat):Int)-(1:Int))))) []) 0 FV.N)):Int) !=(3:Int)) (∃ f:Int×Int×List In1,((Q159 55 0 2 0 0 (Q175 4 0 0 [] 0 Q24) (Q83 2 a.1 1 8 0 (length a.2) 8 (FIs a.2)) f.1 f.2.1 (length f.2.2) (FIs f.2.2))∧(Q160 [] f.2.1 (length f.2.2) (FIs f.2.2) r c))) (Q160 [] a.1 (length a.2) (FIs a.2) r c))))))):=by kernel_rfl
def lv28:List (Nat×List Nat):=[(3,[1,3,7])]
theorem v28 (d:Int)(c:List UInt8)(b:Int)(a:RW)(r:TV)(e:List AObj):VE lv28 28 0 r e [Q86 d c b a] []=
  (br ((d:Int)==(0:Int)) (∃ f:Bool,((Q132 62 (Q164 c) f)∧(∃ g:Bool,((Q132 63 (Q164 c) g)∧(br f (br ((b:Int)==(0:Int)) ((FV.L 4 (Q136 a)=true)∧(Q78 (((length a:Int):Int)==(0:Int)) r e)) (Q52 r e)) (br g (br ((b:Int)==(0:Int)) ((FV.L 4 (Q136 a)=true)∧(Q78 (((length a:Int):Int)==(0:Int)) r e)) (Q52 r e)) (Q52 r e))))))) (br ((d:Int)==(1:Int)) (br (decide ((b:Int)≥(1:Int))) (br ((c:List UInt8)==[]) ((FV.L 4 (Q136 a)=true)∧(Q34 28 0 r e 3 (Q96 1 4 (Q31 3 (((length a:Int):Int)==(0:Int))) 7 0) [Q188 0 d c b a] 1)) (Q34 28 0 r e 3 (Q96 1 4 (Q87 3) 7 0) [Q188 0 d c b a] 1)) (Q34 28 0 r e 3 (Q96 1 4 (Q87 3) 7 0) [Q188 0 d c b a] 1)) (br ((d:Int)==(2:Int)) (br ((c:List UInt8)==[]) ((FV.L 4 (Q136 a)=true)∧(Q34 28 0 r e 3 (Q96 1 4 (Q31 3 (((length a:Int):Int)==(0:Int))) 7 0) [Q188 0 d c b a] 1)) (Q34 28 0 r e 3 (Q96 1 4 (Q87 3) 7 0) [Q188 0 d c b a] 1)) (br ((d:Int)==(3:Int)) (br (decide ((b:Int)≥(0:Int))) (br (decide ((b:Int)≤(4611686018427387904:Int))) (br ((c:List UInt8)==[]) ((FV.L 4 (Q136 a)=true)∧(Q34 28 0 r e 3 (Q96 1 4 (Q31 3 (((length a:Int):Int)==(0:Int))) 7 0) [Q188 0 d c b a] 1)) (Q34 28 0 r e 3 (Q96 1 4 (Q87 3) 7 0) [Q188 0 d c b a] 1)) (Q34 28 0 r e 3 (Q96 1 4 (Q87 3) 7 0) [Q188 0 d c b a] 1)) (Q34 28 0 r e 3 (Q96 1 4 (Q87 3) 7 0) [Q188 0 d c b a] 1)) (br ((d:Int)==(4:Int)) (br (decide ((b:Int)≥(0:Int))) (br (decide ((b:Int)≤(4611686018427387904:Int))) (br ((c:List UInt8)==[]) ((FV.L 4 (Q136 a)=true)∧(Q34 28 0 r e 3 (Q96 1 4 (Q31 3 (((length a:Int):Int)==(0:Int))) 7 0) [Q188 0 d c b a] 1)) (Q34 28 0 r e 3 (Q96 1 4 (Q87 3) 7 0) [Q188 0 d c b a] 1)) (Q34 28 0 r e 3 (Q96 1 4 (Q87 3) 7 0) [Q188 0 d c b a] 1)) (Q34 28 0 r e 3 (Q96 1 4 (Q87 3) 7 0) [Q188 0 d c b a] 1)) (br ((d:Int)==(5:Int)) (br ((b:Int)==(0:Int)) (br ((c:List UInt8)==[]) ((FV.L 4 (Q136 a)=true)∧(Q34 28 0 r e 3 (Q96 1 4 (Q31 3 (((length a:Int):Int)==(1:Int))) 7 0) [Q188 0 d c b a] 1)) (Q34 28 0 r e 3 (Q96 1 4 (Q87 3) 7 0) [Q188 0 d c b a] 1)) (Q34 28 0 r e 3 (Q96 1 4 (Q87 3) 7 0) [Q188 0 d c b a] 1)) (br ((d:Int)==(6:Int)) (br ((b:Int)==(0:Int)) ((FV.L 4 (Q136 a)=true)∧(br (decide (((length a:Int):Int)≥(2:Int))) (((FV.L 4 (Q136 a)=true)∧((0≤(0:Int))∧(((0:Int)<(length a:Int))∧(((rE (getD a 0 [])):List FV)=(getD a 0 [])))))∧((FV.L 4 (Q136 a)=true)∧(br (((FV.I (getD (getD a 0 []) 0 FV.N)):Int) !=(6:Int)) (br ((c:List UInt8)==[]) ((FV.L 4 (Q136 a)=true)∧(Q34 28 0 r e 3 (Q96 1 4 (Q31 3 (((length a:Int):Int)==(length a:Int))) 7 0) [Q188 0 d c b a] 1)) (Q34 28 0 r e 3 (Q96 1 4 (Q87 3) 7 0) [Q188 0 d c b a] 1)) (Q34 28 0 r e 3 (Q96 1 4 (Q87 3) 7 0) [Q188 0 d c b a] 1)))) ((FV.L 4 (Q136 a)=true)∧(Q34 28 0 r e 3 (Q96 1 4 (Q87 3) 7 0) [Q188 0 d c b a] 1)))) ((FV.L 4 (Q136 a)=true)∧(Q34 28 0 r e 3 (Q96 1 4 (Q87 3) 7 0) [Q188 0 d c b a] 1))) (Q34 28 0 r e 3 (Q96 1 4 (Q87 3) 7 0) [Q188 0 d c b a] 1)))))))):=by kernel_rfl
theorem v28_3a (f:Bool)(e h0_0:Int)(c:List UInt8)(d:Int)(a:RW)(r:TV)(b:List AObj):VQ lv28 28 0 r b 3 ⟨Q96 1 4 (Q31 3 f) 7 e,[Q188 0 h0_0 c d a],1⟩=
  ((FV.L 4 (Q136 a)=true)∧(br (decide ((e:Int)<(length a:Int))) (br f (((FV.L 4 (Q136 a)=true)∧((0≤e)∧((e<(length a:Int))∧(((rE (getD a (toNat e) [])):List FV)=(getD a (toNat e) [])))))∧(∃ g:Bool,((Q132 28 (aE (getD a (toNat e) [])) g)∧(Q34 28 0 r b 3 (Q96 1 4 (Q31 3 g) 7 (IntKind.wrap .i64 (e+1))) [Q188 0 h0_0 c d a] 1)))) (Q78 f r b)) (Q78 f r b))):=by kernel_rfl
def lv29:List (Nat×List Nat):=[(1,[1,2,5,6,7])]
theorem v29 (a:Int)(c:List UInt8)(b:Int)(d:RW)(k:Int)(r:TV)(e:List AObj):VE lv29 29 0 r e (Q82 (Q86 a c b d) k) []=
  (br ((a:Int)==(3:Int)) (Q162 (z6a [(0:Int),(IntKind.wrap .i64 ((IntKind.wrap .i64 (b-k))+(1:Int)))]) r e) (∃ f:Bool,((Q132 64 (Q86 a c b d) f)∧(Q34 29 0 r e 1 (Q111 (Q189 k) (Q101 4) (Q20 5 0) (Q31 6 f) 7 0) [Q188 0 a c b d] 1)))):=by kernel_rfl
theorem v29_1a (x1 x5:Int)(f:Bool)(e h0_0:Int)(b:List UInt8)(c:Int)(a:RW)(r:TV)(d:List AObj):VQ lv29 29 0 r d 1 ⟨Q111 (Q189 x1) (Q101 4) (Q20 5 x5) (Q31 6 f) 7 e,[Q188 0 h0_0 b c a],1⟩=
  ((FV.L 4 (Q136 a)=true)∧(br (decide ((e:Int)<(length a:Int))) (br f (((FV.L 4 (Q136 a)=true)∧((0≤e)∧((e<(length a:Int))∧(((rE (getD a (toNat e) [])):List FV)=(getD a (toNat e) [])))))∧(∃ g:Int,((Q73 65 (Q82 (Q86 h0_0 b c a) x1) [] g [])∧(∃ h:Int,((Q73 29 (Q82 (aE (getD a (toNat e) [])) g) [] h [])∧(Q34 29 0 r d 1 (Q111 (Q189 x1) (Q101 4) (Q20 5 (z6a [x5,h])) (Q31 6 f) 7 (IntKind.wrap .i64 (e+1))) [Q188 0 h0_0 b c a] 1)))))) (Q162 x5 r d)) (Q162 x5 r d))):=by kernel_rfl
def lv30:List (Nat×List Nat):=[(1,[1,2,5])]
theorem v30 (a:Int)(d:List UInt8)(c:Int)(e:RW)(n:Int)(r:TV)(b:List AObj):VE lv30 30 0 r b (Q82 (Q86 a d c e) n) []=
  (br ((a:Int)==(1:Int)) (Q52 r b) (br ((a:Int)==(4:Int)) (br (decide ((c:Int)≥n)) (Q52 r b) (Q34 30 0 r b 1 (Q69 (Q189 n) (Q101 4) 5 0) [Q188 0 a d c e] 1)) (Q34 30 0 r b 1 (Q69 (Q189 n) (Q101 4) 5 0) [Q188 0 a d c e] 1))):=by kernel_rfl
theorem v30_1a (x1 e h0_0:Int)(c:List UInt8)(d:Int)(a:RW)(r:TV)(b:List AObj):VQ lv30 30 0 r b 1 ⟨Q69 (Q189 x1) (Q101 4) 5 e,[Q188 0 h0_0 c d a],1⟩=
  ((FV.L 4 (Q136 a)=true)∧(br (decide ((e:Int)<(length a:Int))) (((FV.L 4 (Q136 a)=true)∧((0≤e)∧((e<(length a:Int))∧(((rE (getD a (toNat e) [])):List FV)=(getD a (toNat e) [])))))∧(∃ f:Bool,((Q147 30 (aE (getD a (toNat e) [])) x1 f)∧(br (!f) (Q52 r b) (Q34 30 0 r b 1 (Q69 (Q189 x1) (Q101 4) 5 (IntKind.wrap .i64 (e+1))) [Q188 0 h0_0 c d a] 1))))) (Q123 r b))):=by kernel_rfl
def lv31:List (Nat×List Nat):=[]
theorem v31 (c:Int)(d:List UInt8)(e:Int)(f:RW)(r:TV)(b:List AObj):VE lv31 31 0 r b [Q86 c d e f] []=
  (∃ a:Tm×List Tm,((Q186 14 [Q86 c d e f] (Q89 (cT a.1) [Q8 4 (FTs a.2)]))∧(br ((a.1.k:Int)==(4:Int)) (Q162 133 r b) (br ((a.1.k:Int)==(3:Int)) (Q162 133 r b) (br ((a.1.k:Int) !=(0:Int)) (Q162 130 r b) (∃ q:Bool,((Q132 32 (Q164 a.1.s) q)∧(br (!q) (Q162 0 r b) ((FV.L 4 (Q136 (FTs a.2))=true)∧(∃ t:Int,((Q73 66 [Q164 a.1.s] [] t [])∧(br (((length (FTs a.2):Int):Int) !=t) (Q162 130 r b) (br ((a.1.s:List UInt8)==[58,45]) (Q162 130 r b) (br ((a.1.s:List UInt8)==[44]) (((FV.L 4 (Q136 (FTs a.2))=true)∧((0≤(0:Int))∧(((0:Int)<(length (FTs a.2):Int))∧(((rE (getD (FTs a.2) 0 [])):List FV)=(getD (FTs a.2) 0 [])))))∧(∃ n:Int,((Q73 31 [(aE (getD (FTs a.2) 0 []))] [] n [])∧(br ((n:Int) !=(0:Int)) (Q162 n r b) (((FV.L 4 (Q136 (FTs a.2))=true)∧((0≤(1:Int))∧(((1:Int)<(length (FTs a.2):Int))∧(((rE (getD (FTs a.2) 1 [])):List FV)=(getD (FTs a.2) 1 [])))))∧(∃ u:Int,((Q73 31 [(aE (getD (FTs a.2) 1 []))] [] u [])∧(Q162 u r b)))))))) (br ((a.1.s:List UInt8)==[59]) (((FV.L 4 (Q136 (FTs a.2))=true)∧((0≤(0:Int))∧(((0:Int)<(length (FTs a.2):Int))∧(((rE (getD (FTs a.2) 0 [])):List FV)=(getD (FTs a.2) 0 [])))))∧(∃ o:Int,((Q73 31 [(aE (getD (FTs a.2) 0 []))] [] o [])∧(br ((o:Int) !=(0:Int)) (Q162 o r b) (((FV.L 4 (Q136 (FTs a.2))=true)∧((0≤(1:Int))∧(((1:Int)<(length (FTs a.2):Int))∧(((rE (getD (FTs a.2) 1 [])):List FV)=(getD (FTs a.2) 1 [])))))∧(∃ v:Int,((Q73 31 [(aE (getD (FTs a.2) 1 []))] [] v [])∧(Q162 v r b)))))))) (br ((a.1.s:List UInt8)==[61,62]) (((FV.L 4 (Q136 (FTs a.2))=true)∧((0≤(0:Int))∧(((0:Int)<(length (FTs a.2):Int))∧(((rE (getD (FTs a.2) 0 [])):List FV)=(getD (FTs a.2) 0 [])))))∧((∃ p:Int,((Q186 67 [(aE (getD (FTs a.2) 0 []))] (Q126 p))∧(br ((p:Int) !=(0:Int)) (Q162 p r b) (((FV.L 4 (Q136 (FTs a.2))=true)∧((0≤(1:Int))∧(((1:Int)<(length (FTs a.2):Int))∧(((rE (getD (FTs a.2) 1 [])):List FV)=(getD (FTs a.2) 1 [])))))∧(∃ w:Int,((Q73 31 [(aE (getD (FTs a.2) 1 []))] [] w [])∧(Q162 w r b)))))))∨(∃ g:List Cl,((Q185 67 [(aE (getD (FTs a.2) 0 []))] (Q84 (Q88 0 9 (length g)) 0) (Q70 9 (CLs g)))∧(((FV.L 4 (Q136 (FTs a.2))=true)∧((0≤(1:Int))∧(((1:Int)<(length (FTs a.2):Int))∧(((rE (getD (FTs a.2) 1 [])):List FV)=(getD (FTs a.2) 1 [])))))∧(∃ h:Int,((Q73 31 [(aE (getD (FTs a.2) 1 []))] [] h [])∧(Q162 h r b)))))))) (br ((a.1.s:List UInt8)==[112,105]) (((FV.L 4 (Q136 (FTs a.2))=true)∧((0≤(0:Int))∧(((0:Int)<(length (FTs a.2):Int))∧(((rE (getD (FTs a.2) 0 [])):List FV)=(getD (FTs a.2) 0 [])))))∧(∃ i:Tm,((Q7 68 [(aE (getD (FTs a.2) 0 []))] [] (aT i) [])∧(∃ j:Int,((Q73 31 [(aT i)] [] j [])∧(Q162 j r b)))))) (br ((a.1.s:List UInt8)==[115,105,103,109,97]) (((FV.L 4 (Q136 (FTs a.2))=true)∧((0≤(0:Int))∧(((0:Int)<(length (FTs a.2):Int))∧(((rE (getD (FTs a.2) 0 [])):List FV)=(getD (FTs a.2) 0 [])))))∧(∃ l:Tm,((Q7 68 [(aE (getD (FTs a.2) 0 []))] [] (aT l) [])∧(∃ m:Int,((Q73 31 [(aT l)] [] m [])∧(Q162 m r b)))))) (Q162 0 r b))))))))))))))))))):=by kernel_rfl
def lv14:List (Nat×List Nat):=[]
theorem v14 (b:Int)(d:List UInt8)(e:Int)(a:RW)(r:TV)(c:List AObj):VE lv14 14 0 r c [Q86 b d e a] []=
  (br ((b:Int)==(6:Int)) (((FV.L 4 (Q136 a)=true)∧((0≤(0:Int))∧(((0:Int)<(length a:Int))∧(((rE (getD a 0 [])):List FV)=(getD a 0 [])))))∧((FV.L 4 (Q136 a)=true)∧(((0≤(1:Int))∧(((1:Int)≤(length a:Int))∧((length a:Int)≤(length a:Int))))∧(Q108 (cE (getD a 0 [])) [Q8 4 (drop 1 (take (toNat (length a:Int)) a))] r c)))) (Q108 (Q61 b d e 4 a) Q125 r c)):=by kernel_rfl
def lv32:List (Nat×List Nat):=[(1,[0,3,4])]
theorem v32 (a:List UInt8)(r:TV)(b:List AObj):VE lv32 32 0 r b [Q164 a] []=
  (Q34 32 0 r b 1 (Q69 (Q6 0 (Q5 a)) (Q85 3 0 1 15) 4 0) [Q50 0 1 [[(.str [58,45])],[(.str [44])],[(.str [59])],[(.str [61,62])],[(.str [61])],[(.str [105,115])],[(.str [60])],[(.str [61,60])],[(.str [62])],[(.str [62,61])],[(.str [116,114,117,101])],[(.str [102,97,105,108])],[(.str [33])],[(.str [112,105])],[(.str [115,105,103,109,97])]]] 1):=by kernel_rfl
theorem v32_1a (e:List UInt8)(a:Nat)(b:Int)(d:RW)(r:TV)(c:List AObj):VQ lv32 32 0 r c 1 ⟨Q69 (Q6 0 (Q5 e)) (Q85 3 0 1 a) 4 b,[Q50 0 1 d],1⟩=
  (br (decide ((b:Int)<(a:Int))) ((0≤b∧b<(a:Int))∧((((0+(toNat b))<(length d))∧((([(.str (FV.S (getD (getD d (0+(toNat b)) []) 0 FV.N)))]:List FV)=(take 1 (drop 0 (getD d (0+(toNat b)) []))))∧((1:Nat)=1)))∧(br (((FV.S (getD (getD d (0+(toNat b)) []) 0 FV.N)):List UInt8)==e) (Q123 r c) (Q34 32 0 r c 1 (Q69 (Q6 0 (Q5 e)) (Q85 3 0 1 a) 4 (IntKind.wrap .i64 (b+1))) [Q50 0 1 d] 1)))) (Q52 r c)):=by kernel_rfl
def lv85:List (Nat×List Nat):=[]
theorem v85 (n:Int)(r:TV)(a:List AObj):VE lv85 85 0 r a (Q82 (.c Q24) n) []=
  (br (decide ((n:Int)<(0:Int))) False ((FV.L 4 .N=true)∧(br (decide (((IntKind.wrap .i64 (n-0)):Int)>(0:Int))) ((FV.L 4 .N=true)∧(((0≤(0:Int))∧(((0:Int)≤(0:Int))∧((0:Int)≤((0:Nat):Int))))∧((0<(IntKind.wrap .i64 (n-0))∧z0k (toNat (IntKind.wrap .i64 (n-0))) 56)∧((FV.L 4 .N=true)∧(((0≤(0:Int))∧(((0:Int)≤(0:Int))∧((0:Int)≤(((toNat (IntKind.wrap .i64 (n-0))):Nat):Int))))∧(RT (Q165 0 4 0) (Q70 4 []) r a)))))) (RT (.c Q24) [] r a)))):=by kernel_rfl
def lv69:List (Nat×List Nat):=[]
theorem v69 (s:List UInt8)(r:TV)(a:List AObj):VE lv69 69 0 r a [Q164 s] []=
  (br (!((s:List UInt8)==[])) (Q78 (decide (((length s:Int):Int)≤(32:Int))) r a) (Q52 r a)):=by kernel_rfl
def lv70:List (Nat×List Nat):=[]
theorem v70 (c:Int)(r:TV)(a:List AObj):VE lv70 70 0 r a [.c (Q0 (.int .u8 c))] []=
  (br (decide (((97:Int):Int)≤c)) (Q78 (decide ((c:Int)≤(122:Int))) r a) (Q52 r a)):=by kernel_rfl
def lv71:List (Nat×List Nat):=[(1,[0,1,7,8])]
theorem v71_F72 (s:List UInt8)(r:TV)(a:List AObj):VE lv71 71 0 r a (Q121 (Q164 s) (.fn (.func 72) [] [])) []=
  (Q34 71 0 r a 1 (Q152 (Q6 0 (Q5 s)) (Q6 1 (.fn (.func 72) [] [])) 7 (length s:Int) 8 0) [] 0):=by kernel_rfl
theorem zdm (d:List UInt8)(x7 b:Int)(r:TV)(a:List AObj):VQ lv71 71 0 r a 1 ⟨Q152 (Q6 0 (Q5 d)) (Q6 1 (.fn (.func 72) [] [])) 7 x7 8 b,[],0⟩=
  (br (decide ((b:Int)<x7)) ((0≤b∧b<(length d:Int))∧(∃ e:Bool,((Q132 72 (.c (Q0 (.int .u8 ((UInt8.toNat (getD d (toNat b) 0):Nat):Int)))) e)∧(br (!e) (Q162 b r a) (Q34 71 0 r a 1 (Q152 (Q6 0 (Q5 d)) (Q6 1 (.fn (.func 72) [] [])) 7 x7 8 (IntKind.wrap .i64 (b+1))) [] 0))))) (Q162 (length d:Int) r a)):=by kernel_rfl
def lv75:List (Nat×List Nat):=[]
theorem v75_F76 (s:RW)(r:TV)(a:List AObj):VE lv75 75 0 r a (Q122 1 s (.fn (.func 76) [] [])) []=
  (∃ b:Int,((Q73 114 (Q122 1 s (.fn (.func 76) [] [])) [] b [])∧(Q78 (decide ((b:Int)≥(0:Int))) r a))):=by kernel_rfl
theorem v71_F73 (s:List UInt8)(r:TV)(a:List AObj):VE lv71 71 0 r a (Q121 (Q164 s) (.fn (.func 73) [] [])) []=
  (Q34 71 0 r a 1 (Q152 (Q6 0 (Q5 s)) (Q6 1 (.fn (.func 73) [] [])) 7 (length s:Int) 8 0) [] 0):=by kernel_rfl
theorem zdy (d:List UInt8)(x7 b:Int)(r:TV)(a:List AObj):VQ lv71 71 0 r a 1 ⟨Q152 (Q6 0 (Q5 d)) (Q6 1 (.fn (.func 73) [] [])) 7 x7 8 b,[],0⟩=
  (br (decide ((b:Int)<x7)) ((0≤b∧b<(length d:Int))∧(∃ e:Bool,((Q132 73 (.c (Q0 (.int .u8 ((UInt8.toNat (getD d (toNat b) 0):Nat):Int)))) e)∧(br (!e) (Q162 b r a) (Q34 71 0 r a 1 (Q152 (Q6 0 (Q5 d)) (Q6 1 (.fn (.func 73) [] [])) 7 x7 8 (IntKind.wrap .i64 (b+1))) [] 0))))) (Q162 (length d:Int) r a)):=by kernel_rfl
def lv74:List (Nat×List Nat):=[]
theorem v74 (s substr:List UInt8)(r:TV)(a:List AObj):VE lv74 74 0 r a (Q121 (Q164 s) (Q5 substr)) []=
  (∃ b:Int,((Q73 113 (Q121 (Q164 s) (Q5 substr)) [] b [])∧(Q78 (decide ((b:Int)≥(0:Int))) r a))):=by kernel_rfl
def lv77:List (Nat×List Nat):=[]
theorem v77 (c:Int)(d:List UInt8)(e:Int)(f:RW)(a:List UInt8)(o0_1 o0_2 o0_3 o0_4:Int)(b:RW)(r:TV)(g:List AObj):VE lv77 77 1 r g (Q173 (Q86 c d e f) 6) (Q115 6 a o0_1 o0_2 o0_3 o0_4 8 b)=
  (∃ i:Bool,((Q132 15 (Q86 c d e f) i)∧(br (!i) (Q21 true (Q115 6 a o0_1 o0_2 o0_3 o0_4 8 b) r g) (∃ h:Int,((Q73 78 [Q86 c d e f] [] h [])∧(br (decide ((h:Int)>(0:Int))) (Q21 true (Q115 6 a o0_1 o0_2 o0_3 o0_4 8 b) r g) (∃ j:Bool,((Q147 79 (Q86 c d e f) o0_4 j)∧(Q21 (!j) (Q115 6 a o0_1 o0_2 o0_3 o0_4 8 b) r g))))))))):=by kernel_rfl
def lv80:List (Nat×List Nat):=[]
theorem v80 (a:Int)(b:List UInt8)(c:Int)(d:RW)(r:TV)(e:List AObj):VE lv80 80 0 r e [Q86 a b c d] []=
  (∃ f:Bool,((Q76 118 [Q86 a b c d,Q127 0 [] 0] f)∧(Q78 f r e))):=by kernel_rfl
def lv39:List (Nat×List Nat):=[]
theorem v39_F77 (s:RW)(a:List UInt8)(o0_1 o0_2 o0_3 o0_4:Int)(b:RW)(r:TV)(c:List AObj):VE lv39 39 1 r c (Q122 4 s (.fn (.func 77) [] [(false,[(Q145 6)])])) (Q115 6 a o0_1 o0_2 o0_3 o0_4 8 b)=
  (∃ d:Int,((Q73 84 (Q122 4 s (.fn (.func 77) [] [(false,[(Q145 6)])])) (Q115 6 a o0_1 o0_2 o0_3 o0_4 8 b) d (Q115 6 a o0_1 o0_2 o0_3 o0_4 8 b))∧(Q21 (decide ((d:Int)≥(0:Int))) (Q115 6 a o0_1 o0_2 o0_3 o0_4 8 b) r c))):=by kernel_rfl
def lv81:List (Nat×List Nat):=[]
theorem v81 (e:List UInt8)(c_1 c_2 c_3 c_4:Int)(a:RW)(b:Int)(r:TV)(d:List AObj):VE lv81 81 0 r d (Q82 (Q153 e c_1 c_2 c_3 c_4 8 a) b) []=
  (((FV.L 8 (Q4 8 a)=true)∧((0≤b)∧((b<(length a:Int))∧(([(Q1 (FV.I (getD (getD a (toNat b) []) 0 FV.N))),(Q1 (FV.I (getD (getD a (toNat b) []) 1 FV.N))),(Q1 (FV.I (getD (getD a (toNat b) []) 2 FV.N))),(.str (FV.S (getD (getD a (toNat b) []) 3 FV.N))),(Q1 (FV.I (getD (getD a (toNat b) []) 4 FV.N))),(getD (getD a (toNat b) []) 5 FV.N),(getD (getD a (toNat b) []) 6 FV.N),(getD (getD a (toNat b) []) 7 FV.N)]:List FV)=(getD a (toNat b) [])))))∧(br (((FV.I (getD (getD a (toNat b) []) 0 FV.N)):Int)==(0:Int)) (br (decide (((0:Int):Int)≤(FV.I (getD (getD a (toNat b) []) 1 FV.N)))) (br (decide (((FV.I (getD (getD a (toNat b) []) 1 FV.N)):Int)<c_1)) (br (((FV.I (getD (getD a (toNat b) []) 0 FV.N)):Int)==(0:Int)) (br (decide ((b:Int)>(0:Int))) (((FV.L 8 (Q4 8 a)=true)∧((0≤(IntKind.wrap .i64 (b-1)))∧(((IntKind.wrap .i64 (b-1))<(length a:Int))∧(([(Q1 (FV.I (getD (getD a (toNat (IntKind.wrap .i64 (b-1))) []) 0 FV.N))),(Q1 (FV.I (getD (getD a (toNat (IntKind.wrap .i64 (b-1))) []) 1 FV.N))),(Q1 (FV.I (getD (getD a (toNat (IntKind.wrap .i64 (b-1))) []) 2 FV.N))),(.str (FV.S (getD (getD a (toNat (IntKind.wrap .i64 (b-1))) []) 3 FV.N))),(Q1 (FV.I (getD (getD a (toNat (IntKind.wrap .i64 (b-1))) []) 4 FV.N))),(getD (getD a (toNat (IntKind.wrap .i64 (b-1))) []) 5 FV.N),(getD (getD a (toNat (IntKind.wrap .i64 (b-1))) []) 6 FV.N),(getD (getD a (toNat (IntKind.wrap .i64 (b-1))) []) 7 FV.N)]:List FV)=(getD a (toNat (IntKind.wrap .i64 (b-1))) [])))))∧(∃ g:Bool,((Q132 119 (Q23 (FV.I (getD (getD a (toNat (IntKind.wrap .i64 (b-1))) []) 0 FV.N))) g)∧(br g (Q168 [Q3 (decide (((FV.I (getD (getD a (toNat (IntKind.wrap .i64 (b-1))) []) 1 FV.N)):Int)<(FV.I (getD (getD a (toNat b) []) 1 FV.N))))] r d) (Q168 [Q53] r d))))) (Q168 [Q105] r d)) (br (((FV.I (getD (getD a (toNat b) []) 2 FV.N)):Int)==(0:Int)) (br (decide ((b:Int)>(0:Int))) (((FV.L 8 (Q4 8 a)=true)∧((0≤(IntKind.wrap .i64 (b-1)))∧(((IntKind.wrap .i64 (b-1))<(length a:Int))∧(([(Q1 (FV.I (getD (getD a (toNat (IntKind.wrap .i64 (b-1))) []) 0 FV.N))),(Q1 (FV.I (getD (getD a (toNat (IntKind.wrap .i64 (b-1))) []) 1 FV.N))),(Q1 (FV.I (getD (getD a (toNat (IntKind.wrap .i64 (b-1))) []) 2 FV.N))),(.str (FV.S (getD (getD a (toNat (IntKind.wrap .i64 (b-1))) []) 3 FV.N))),(Q1 (FV.I (getD (getD a (toNat (IntKind.wrap .i64 (b-1))) []) 4 FV.N))),(getD (getD a (toNat (IntKind.wrap .i64 (b-1))) []) 5 FV.N),(getD (getD a (toNat (IntKind.wrap .i64 (b-1))) []) 6 FV.N),(getD (getD a (toNat (IntKind.wrap .i64 (b-1))) []) 7 FV.N)]:List FV)=(getD a (toNat (IntKind.wrap .i64 (b-1))) [])))))∧(∃ h:Bool,((Q132 119 (Q23 (FV.I (getD (getD a (toNat (IntKind.wrap .i64 (b-1))) []) 0 FV.N))) h)∧(br h (Q168 [Q3 (decide (((FV.I (getD (getD a (toNat (IntKind.wrap .i64 (b-1))) []) 1 FV.N)):Int)<(FV.I (getD (getD a (toNat b) []) 1 FV.N))))] r d) (Q168 [Q53] r d))))) (Q168 [Q105] r d)) (br (decide ((b:Int)>(0:Int))) (((FV.L 8 (Q4 8 a)=true)∧((0≤(IntKind.wrap .i64 (b-1)))∧(((IntKind.wrap .i64 (b-1))<(length a:Int))∧(([(Q1 (FV.I (getD (getD a (toNat (IntKind.wrap .i64 (b-1))) []) 0 FV.N))),(Q1 (FV.I (getD (getD a (toNat (IntKind.wrap .i64 (b-1))) []) 1 FV.N))),(Q1 (FV.I (getD (getD a (toNat (IntKind.wrap .i64 (b-1))) []) 2 FV.N))),(.str (FV.S (getD (getD a (toNat (IntKind.wrap .i64 (b-1))) []) 3 FV.N))),(Q1 (FV.I (getD (getD a (toNat (IntKind.wrap .i64 (b-1))) []) 4 FV.N))),(getD (getD a (toNat (IntKind.wrap .i64 (b-1))) []) 5 FV.N),(getD (getD a (toNat (IntKind.wrap .i64 (b-1))) []) 6 FV.N),(getD (getD a (toNat (IntKind.wrap .i64 (b-1))) []) 7 FV.N)]:List FV)=(getD a (toNat (IntKind.wrap .i64 (b-1))) [])))))∧(br (((FV.I (getD (getD a (toNat b) []) 2 FV.N)):Int)==(2:Int)) (∃ i:Bool,((Q132 119 (Q23 (FV.I (getD (getD a (toNat (IntKind.wrap .i64 (b-1))) []) 0 FV.N))) i)∧(br i (Q168 [Q3 (decide (((FV.I (getD (getD a (toNat (IntKind.wrap .i64 (b-1))) []) 1 FV.N)):Int)<(FV.I (getD (getD a (toNat b) []) 1 FV.N))))] r d) (Q168 [Q53] r d)))) (Q168 [Q53] r d))) (Q168 [Q3 (((FV.I (getD (getD a (toNat b) []) 2 FV.N)):Int)==(2:Int))] r d)))) (br (decide ((b:Int)>(0:Int))) (((FV.L 8 (Q4 8 a)=true)∧((0≤(IntKind.wrap .i64 (b-1)))∧(((IntKind.wrap .i64 (b-1))<(length a:Int))∧(([(Q1 (FV.I (getD (getD a (toNat (IntKind.wrap .i64 (b-1))) []) 0 FV.N))),(Q1 (FV.I (getD (getD a (toNat (IntKind.wrap .i64 (b-1))) []) 1 FV.N))),(Q1 (FV.I (getD (getD a (toNat (IntKind.wrap .i64 (b-1))) []) 2 FV.N))),(.str (FV.S (getD (getD a (toNat (IntKind.wrap .i64 (b-1))) []) 3 FV.N))),(Q1 (FV.I (getD (getD a (toNat (IntKind.wrap .i64 (b-1))) []) 4 FV.N))),(getD (getD a (toNat (IntKind.wrap .i64 (b-1))) []) 5 FV.N),(getD (getD a (toNat (IntKind.wrap .i64 (b-1))) []) 6 FV.N),(getD (getD a (toNat (IntKind.wrap .i64 (b-1))) []) 7 FV.N)]:List FV)=(getD a (toNat (IntKind.wrap .i64 (b-1))) [])))))∧(Q168 [Q53] r d)) (Q168 [Q53] r d))) (br (decide ((b:Int)>(0:Int))) (((FV.L 8 (Q4 8 a)=true)∧((0≤(IntKind.wrap .i64 (b-1)))∧(((IntKind.wrap .i64 (b-1))<(length a:Int))∧(([(Q1 (FV.I (getD (getD a (toNat (IntKind.wrap .i64 (b-1))) []) 0 FV.N))),(Q1 (FV.I (getD (getD a (toNat (IntKind.wrap .i64 (b-1))) []) 1 FV.N))),(Q1 (FV.I (getD (getD a (toNat (IntKind.wrap .i64 (b-1))) []) 2 FV.N))),(.str (FV.S (getD (getD a (toNat (IntKind.wrap .i64 (b-1))) []) 3 FV.N))),(Q1 (FV.I (getD (getD a (toNat (IntKind.wrap .i64 (b-1))) []) 4 FV.N))),(getD (getD a (toNat (IntKind.wrap .i64 (b-1))) []) 5 FV.N),(getD (getD a (toNat (IntKind.wrap .i64 (b-1))) []) 6 FV.N),(getD (getD a (toNat (IntKind.wrap .i64 (b-1))) []) 7 FV.N)]:List FV)=(getD a (toNat (IntKind.wrap .i64 (b-1))) [])))))∧(Q168 [Q53] r d)) (Q168 [Q53] r d))) (br (((FV.I (getD (getD a (toNat b) []) 0 FV.N)):Int)==(1:Int)) (br (decide (((0:Int):Int)≤(FV.I (getD (getD a (toNat b) []) 1 FV.N)))) (br (decide (((FV.I (getD (getD a (toNat b) []) 1 FV.N)):Int)<c_1)) (br (((FV.I (getD (getD a (toNat b) []) 0 FV.N)):Int)==(0:Int)) (br (decide ((b:Int)>(0:Int))) (((FV.L 8 (Q4 8 a)=true)∧((0≤(IntKind.wrap .i64 (b-1)))∧(((IntKind.wrap .i64 (b-1))<(length a:Int))∧(([(Q1 (FV.I (getD (getD a (toNat (IntKind.wrap .i64 (b-1))) []) 0 FV.N))),(Q1 (FV.I (getD (getD a (toNat (IntKind.wrap .i64 (b-1))) []) 1 FV.N))),(Q1 (FV.I (getD (getD a (toNat (IntKind.wrap .i64 (b-1))) []) 2 FV.N))),(.str (FV.S (getD (getD a (toNat (IntKind.wrap .i64 (b-1))) []) 3 FV.N))),(Q1 (FV.I (getD (getD a (toNat (IntKind.wrap .i64 (b-1))) []) 4 FV.N))),(getD (getD a (toNat (IntKind.wrap .i64 (b-1))) []) 5 FV.N),(getD (getD a (toNat (IntKind.wrap .i64 (b-1))) []) 6 FV.N),(getD (getD a (toNat (IntKind.wrap .i64 (b-1))) []) 7 FV.N)]:List FV)=(getD a (toNat (IntKind.wrap .i64 (b-1))) [])))))∧(∃ j:Bool,((Q132 119 (Q23 (FV.I (getD (getD a (toNat (IntKind.wrap .i64 (b-1))) []) 0 FV.N))) j)∧(br j (Q168 [Q3 (decide (((FV.I (getD (getD a (toNat (IntKind.wrap .i64 (b-1))) []) 1 FV.N)):Int)<(FV.I (getD (getD a (toNat b) []) 1 FV.N))))] r d) (Q168 [Q53] r d))))) (Q168 [Q105] r d)) (br (((FV.I (getD (getD a (toNat b) []) 2 FV.N)):Int)==(0:Int)) (br (decide ((b:Int)>(0:Int))) (((FV.L 8 (Q4 8 a)=true)∧((0≤(IntKind.wrap .i64 (b-1)))∧(((IntKind.wrap .i64 (b-1))<(length a:Int))∧(([(Q1 (FV.I (getD (getD a (toNat (IntKind.wrap .i64 (b-1))) []) 0 FV.N))),(Q1 (FV.I (getD (getD a (toNat (IntKind.wrap .i64 (b-1))) []) 1 FV.N))),(Q1 (FV.I (getD (getD a (toNat (IntKind.wrap .i64 (b-1))) []) 2 FV.N))),(.str (FV.S (getD (getD a (toNat (IntKind.wrap .i64 (b-1))) []) 3 FV.N))),(Q1 (FV.I (getD (getD a (toNat (IntKind.wrap .i64 (b-1))) []) 4 FV.N))),(getD (getD a (toNat (IntKind.wrap .i64 (b-1))) []) 5 FV.N),(getD (getD a (toNat (IntKind.wrap .i64 (b-1))) []) 6 FV.N),(getD (getD a (toNat (IntKind.wrap .i64 (b-1))) []) 7 FV.N)]:List FV)=(getD a (toNat (IntKind.wrap .i64 (b-1))) [])))))∧(∃ k:Bool,((Q132 119 (Q23 (FV.I (getD (getD a (toNat (IntKind.wrap .i64 (b-1))) []) 0 FV.N))) k)∧(br k (Q168 [Q3 (decide (((FV.I (getD (getD a (toNat (IntKind.wrap .i64 (b-1))) []) 1 FV.N)):Int)<(FV.I (getD (getD a (toNat b) []) 1 FV.N))))] r d) (Q168 [Q53] r d))))) (Q168 [Q105] r d)) (br (decide ((b:Int)>(0:Int))) (((FV.L 8 (Q4 8 a)=true)∧((0≤(IntKind.wrap .i64 (b-1)))∧(((IntKind.wrap .i64 (b-1))<(length a:Int))∧(([(Q1 (FV.I (getD (getD a (toNat (IntKind.wrap .i64 (b-1))) []) 0 FV.N))),(Q1 (FV.I (getD (getD a (toNat (IntKind.wrap .i64 (b-1))) []) 1 FV.N))),(Q1 (FV.I (getD (getD a (toNat (IntKind.wrap .i64 (b-1))) []) 2 FV.N))),(.str (FV.S (getD (getD a (toNat (IntKind.wrap .i64 (b-1))) []) 3 FV.N))),(Q1 (FV.I (getD (getD a (toNat (IntKind.wrap .i64 (b-1))) []) 4 FV.N))),(getD (getD a (toNat (IntKind.wrap .i64 (b-1))) []) 5 FV.N),(getD (getD a (toNat (IntKind.wrap .i64 (b-1))) []) 6 FV.N),(getD (getD a (toNat (IntKind.wrap .i64 (b-1))) []) 7 FV.N)]:List FV)=(getD a (toNat (IntKind.wrap .i64 (b-1))) [])))))∧(br (((FV.I (getD (getD a (toNat b) []) 2 FV.N)):Int)==(2:Int)) (∃ l:Bool,((Q132 119 (Q23 (FV.I (getD (getD a (toNat (IntKind.wrap .i64 (b-1))) []) 0 FV.N))) l)∧(br l (Q168 [Q3 (decide (((FV.I (getD (getD a (toNat (IntKind.wrap .i64 (b-1))) []) 1 FV.N)):Int)<(FV.I (getD (getD a (toNat b) []) 1 FV.N))))] r d) (Q168 [Q53] r d)))) (Q168 [Q53] r d))) (Q168 [Q3 (((FV.I (getD (getD a (toNat b) []) 2 FV.N)):Int)==(2:Int))] r d)))) (br (decide ((b:Int)>(0:Int))) (((FV.L 8 (Q4 8 a)=true)∧((0≤(IntKind.wrap .i64 (b-1)))∧(((IntKind.wrap .i64 (b-1))<(length a:Int))∧(([(Q1 (FV.I (getD (getD a (toNat (IntKind.wrap .i64 (b-1))) []) 0 FV.N))),(Q1 (FV.I (getD (getD a (toNat (IntKind.wrap .i64 (b-1))) []) 1 FV.N))),(Q1 (FV.I (getD (getD a (toNat (IntKind.wrap .i64 (b-1))) []) 2 FV.N))),(.str (FV.S (getD (getD a (toNat (IntKind.wrap .i64 (b-1))) []) 3 FV.N))),(Q1 (FV.I (getD (getD a (toNat (IntKind.wrap .i64 (b-1))) []) 4 FV.N))),(getD (getD a (toNat (IntKind.wrap .i64 (b-1))) []) 5 FV.N),(getD (getD a (toNat (IntKind.wrap .i64 (b-1))) []) 6 FV.N),(getD (getD a (toNat (IntKind.wrap .i64 (b-1))) []) 7 FV.N)]:List FV)=(getD a (toNat (IntKind.wrap .i64 (b-1))) [])))))∧(Q168 [Q53] r d)) (Q168 [Q53] r d))) (br (decide ((b:Int)>(0:Int))) (((FV.L 8 (Q4 8 a)=true)∧((0≤(IntKind.wrap .i64 (b-1)))∧(((IntKind.wrap .i64 (b-1))<(length a:Int))∧(([(Q1 (FV.I (getD (getD a (toNat (IntKind.wrap .i64 (b-1))) []) 0 FV.N))),(Q1 (FV.I (getD (getD a (toNat (IntKind.wrap .i64 (b-1))) []) 1 FV.N))),(Q1 (FV.I (getD (getD a (toNat (IntKind.wrap .i64 (b-1))) []) 2 FV.N))),(.str (FV.S (getD (getD a (toNat (IntKind.wrap .i64 (b-1))) []) 3 FV.N))),(Q1 (FV.I (getD (getD a (toNat (IntKind.wrap .i64 (b-1))) []) 4 FV.N))),(getD (getD a (toNat (IntKind.wrap .i64 (b-1))) []) 5 FV.N),(getD (getD a (toNat (IntKind.wrap .i64 (b-1))) []) 6 FV.N),(getD (getD a (toNat (IntKind.wrap .i64 (b-1))) []) 7 FV.N)]:List FV)=(getD a (toNat (IntKind.wrap .i64 (b-1))) [])))))∧(Q168 [Q53] r d)) (Q168 [Q53] r d))) (br (((FV.I (getD (getD a (toNat b) []) 0 FV.N)):Int)==(2:Int)) (∃ m:Bool,((Q133 120 (FV.I (getD (getD a (toNat b) []) 2 FV.N)) (FV.S (getD (getD a (toNat b) []) 3 FV.N)) (FV.I (getD (getD a (toNat b) []) 4 FV.N)) (getD (getD a (toNat b) []) 5 FV.N) m)∧(Q129 Q105 Q53 [Q3 m] r d))) (br (((FV.I (getD (getD a (toNat b) []) 0 FV.N)):Int)==(3:Int)) (∃ n:Bool,((Q133 120 (FV.I (getD (getD a (toNat b) []) 2 FV.N)) (FV.S (getD (getD a (toNat b) []) 3 FV.N)) (FV.I (getD (getD a (toNat b) []) 4 FV.N)) (getD (getD a (toNat b) []) 5 FV.N) n)∧(Q129 Q105 Q53 [Q3 n] r d))) (br (((FV.I (getD (getD a (toNat b) []) 0 FV.N)):Int)==(5:Int)) ((FV.L 4 (getD (getD a (toNat b) []) 6 FV.N)=true)∧(Q108 [Q53,Q105,Q53,Q53] [Q3 (((((length (FV.ses (getD (getD a (toNat b) []) 6 FV.N))):Nat):Int):Int)==(2:Int))] r d)) (br (((FV.I (getD (getD a (toNat b) []) 0 FV.N)):Int)==(6:Int)) (∃ o:Bool,((Q133 121 (FV.I (getD (getD a (toNat b) []) 2 FV.N)) (FV.S (getD (getD a (toNat b) []) 3 FV.N)) (FV.I (getD (getD a (toNat b) []) 4 FV.N)) (getD (getD a (toNat b) []) 5 FV.N) o)∧(Q129 Q105 Q53 [Q3 o] r d))) (br (((FV.I (getD (getD a (toNat b) []) 0 FV.N)):Int)==(9:Int)) (br (decide ((b:Int)<(FV.I (getD (getD a (toNat b) []) 1 FV.N)))) ((FV.L 8 (Q4 8 a)=true)∧(Q135 Q53 [Q3 (decide (((FV.I (getD (getD a (toNat b) []) 1 FV.N)):Int)<(length a:Int)))] r d)) (Q135 Q53 [Q53] r d)) (br (((FV.I (getD (getD a (toNat b) []) 0 FV.N)):Int)==(10:Int)) (br (decide ((b:Int)<(FV.I (getD (getD a (toNat b) []) 1 FV.N)))) ((FV.L 8 (Q4 8 a)=true)∧(Q135 Q53 [Q3 (decide (((FV.I (getD (getD a (toNat b) []) 1 FV.N)):Int)<(length a:Int)))] r d)) (Q135 Q53 [Q53] r d)) (br (((FV.I (getD (getD a (toNat b) []) 0 FV.N)):Int)==(11:Int)) (br (decide (((IntKind.wrap .i64 (c_2+c_3)):Int)≤(FV.I (getD (getD a (toNat b) []) 1 FV.N)))) (Q135 Q53 [Q3 (decide (((FV.I (getD (getD a (toNat b) []) 1 FV.N)):Int)<c_4))] r d) (Q135 Q53 [Q53] r d)) (br (((FV.I (getD (getD a (toNat b) []) 0 FV.N)):Int)==(13:Int)) (br (decide (((IntKind.wrap .i64 (c_2+c_3)):Int)≤(FV.I (getD (getD a (toNat b) []) 1 FV.N)))) (Q135 Q53 [Q3 (decide (((FV.I (getD (getD a (toNat b) []) 1 FV.N)):Int)<c_4))] r d) (Q135 Q53 [Q53] r d)) (br (((FV.I (getD (getD a (toNat b) []) 0 FV.N)):Int)==(14:Int)) (∃ f:Bool,((Q35 123 (Q121 (.c (Q0 (getD (getD a (toNat b) []) 7 FV.N))) (.fn (.func 122) [] [(false,[(Q145 6)])])) (Q115 6 e c_1 c_2 c_3 c_4 8 a) f (Q115 6 e c_1 c_2 c_3 c_4 8 a))∧(Q118 Q53 Q105 Q53 [Q3 (!f)] r d))) (br (((FV.I (getD (getD a (toNat b) []) 0 FV.N)):Int)==(4:Int)) (Q129 Q53 Q53 [Q105] r d) (br (((FV.I (getD (getD a (toNat b) []) 0 FV.N)):Int)==(7:Int)) (Q129 Q53 Q53 [Q105] r d) (br (((FV.I (getD (getD a (toNat b) []) 0 FV.N)):Int)==(8:Int)) (Q129 Q53 Q53 [Q105] r d) (br (((FV.I (getD (getD a (toNat b) []) 0 FV.N)):Int)==(12:Int)) (Q129 Q53 Q53 [Q105] r d) (br (((FV.I (getD (getD a (toNat b) []) 0 FV.N)):Int)==(15:Int)) (Q129 Q53 Q53 [Q105] r d) (Q129 Q53 Q53 [Q53] r d)))))))))))))))))):=by kernel_rfl
def lv83:List (Nat×List Nat):=[]
theorem v83 (c:Bool)(a b k:Int)(r:TV)(d:List AObj):VE lv83 83 0 r d (Q82 (Q182 c a b) k) []=
  (br ((k:Int)==(4:Int)) (br ((a:Int)==(0:Int)) (Q107 [Q64 [Q3 c,Q2 a,Q2 b],Q22 [Q53],Q22 [Q3 ((b:Int)==(0:Int))]] r d) (Q107 [Q64 [Q3 c,Q2 a,Q2 b],Q22 [Q53],Q22 [Q53]] r d)) (br ((k:Int)==(3:Int)) (br ((a:Int)==(0:Int)) (Q107 [Q64 [Q3 c,Q2 a,Q2 b],Q22 [Q53],Q22 [Q3 ((b:Int)==(0:Int))]] r d) (Q107 [Q64 [Q3 c,Q2 a,Q2 b],Q22 [Q53],Q22 [Q53]] r d)) (br ((k:Int)==(8:Int)) (Q107 [Q64 [Q3 c,Q2 a,Q2 b],Q22 [Q53],Q22 [Q105]] r d) (br ((k:Int)==(11:Int)) (br (decide (((IntKind.wrap .i64 (a+1)):Int)≥(0:Int))) (Q107 [Q64 [Q3 c,Q2 (IntKind.wrap .i64 (a+1)),Q2 b],Q22 [Q105],Q22 [Q3 (decide ((b:Int)≥(0:Int)))]] r d) (Q107 [Q64 [Q3 c,Q2 (IntKind.wrap .i64 (a+1)),Q2 b],Q22 [Q105],Q22 [Q53]] r d)) (br ((k:Int)==(12:Int)) (br (decide (((IntKind.wrap .i64 (a-1)):Int)≥(0:Int))) (Q107 [Q64 [Q3 c,Q2 (IntKind.wrap .i64 (a-1)),Q2 b],Q22 [Q105],Q22 [Q3 (decide ((b:Int)≥(0:Int)))]] r d) (Q107 [Q64 [Q3 c,Q2 (IntKind.wrap .i64 (a-1)),Q2 b],Q22 [Q105],Q22 [Q53]] r d)) (br ((k:Int)==(14:Int)) (br (decide ((a:Int)≥(0:Int))) (Q107 [Q64 [Q3 c,Q2 a,Q2 (IntKind.wrap .i64 (b+1))],Q22 [Q105],Q22 [Q3 (decide (((IntKind.wrap .i64 (b+1)):Int)≥(0:Int)))]] r d) (Q107 [Q64 [Q3 c,Q2 a,Q2 (IntKind.wrap .i64 (b+1))],Q22 [Q105],Q22 [Q53]] r d)) (br ((k:Int)==(15:Int)) (br (decide ((a:Int)≥(0:Int))) (Q107 [Q64 [Q3 c,Q2 a,Q2 (IntKind.wrap .i64 (b-1))],Q22 [Q105],Q22 [Q3 (decide (((IntKind.wrap .i64 (b-1)):Int)≥(0:Int)))]] r d) (Q107 [Q64 [Q3 c,Q2 a,Q2 (IntKind.wrap .i64 (b-1))],Q22 [Q105],Q22 [Q53]] r d)) (br (decide ((a:Int)≥(0:Int))) (Q107 [Q64 [Q3 c,Q2 a,Q2 b],Q22 [Q105],Q22 [Q3 (decide ((b:Int)≥(0:Int)))]] r d) (Q107 [Q64 [Q3 c,Q2 a,Q2 b],Q22 [Q105],Q22 [Q53]] r d))))))))):=by kernel_rfl
def lv82:List (Nat×List Nat):=[]
theorem v82 (a:Int)(d:Bool)(p_1 p_2:Int)(b:Nat)(c:RW)(r:TV)(e:List AObj):VE lv82 82 2 r e [Q23 a,Q182 d p_1 p_2,Q172 1] (Q59 (Q97 1 1 3 b) 3 c)=
  (br (decide ((a:Int)≥(b:Int))) (Q33 (Q59 (Q97 1 1 3 b) 3 c) r e) ((0≤a∧a<(b:Int))∧((((0+(toNat a))<(length c))∧((([(.bool (FV.asB (getD (getD c (0+(toNat a)) []) 0 FV.N)))]:List FV)=(take 1 (drop 0 (getD c (0+(toNat a)) []))))∧((1:Nat)=1)))∧(br (!(FV.asB (getD (getD c (0+(toNat a)) []) 0 FV.N))) ((0≤a∧a<(b:Int))∧(((0+(toNat a))<(length c)∧(length (getD c (0+(toNat a)) []))=3)∧((0≤a∧a<(b:Int))∧((((0+(toNat a))<(length (List.set c (0+(toNat a)) [(.bool d),(Q1 p_1),(Q1 p_2)])))∧((([(.bool (FV.asB (getD (getD (List.set c (0+(toNat a)) [(.bool d),(Q1 p_1),(Q1 p_2)]) (0+(toNat a)) []) 0 FV.N))),(Q1 (FV.I (getD (getD (List.set c (0+(toNat a)) [(.bool d),(Q1 p_1),(Q1 p_2)]) (0+(toNat a)) []) 1 FV.N))),(Q1 (FV.I (getD (getD (List.set c (0+(toNat a)) [(.bool d),(Q1 p_1),(Q1 p_2)]) (0+(toNat a)) []) 2 FV.N)))]:List FV)=(take 3 (drop 0 (getD (List.set c (0+(toNat a)) [(.bool d),(Q1 p_1),(Q1 p_2)]) (0+(toNat a)) []))))∧((3:Nat)=3)))∧(Q21 ((((FV.asB (getD (getD (List.set c (0+(toNat a)) [(.bool d),(Q1 p_1),(Q1 p_2)]) (0+(toNat a)) []) 0 FV.N)):Bool)==d)&&((((FV.I (getD (getD (List.set c (0+(toNat a)) [(.bool d),(Q1 p_1),(Q1 p_2)]) (0+(toNat a)) []) 1 FV.N)):Int)==p_1)&&((((FV.I (getD (getD (List.set c (0+(toNat a)) [(.bool d),(Q1 p_1),(Q1 p_2)]) (0+(toNat a)) []) 2 FV.N)):Int)==p_2)&&true))) (Q59 (Q97 1 1 3 b) 3 (List.set c (0+(toNat a)) [(.bool d),(Q1 p_1),(Q1 p_2)])) r e))))) ((0≤a∧a<(b:Int))∧((((0+(toNat a))<(length c))∧((([(.bool (FV.asB (getD (getD c (0+(toNat a)) []) 0 FV.N))),(Q1 (FV.I (getD (getD c (0+(toNat a)) []) 1 FV.N))),(Q1 (FV.I (getD (getD c (0+(toNat a)) []) 2 FV.N)))]:List FV)=(take 3 (drop 0 (getD c (0+(toNat a)) []))))∧((3:Nat)=3)))∧(Q21 ((((FV.asB (getD (getD c (0+(toNat a)) []) 0 FV.N)):Bool)==d)&&((((FV.I (getD (getD c (0+(toNat a)) []) 1 FV.N)):Int)==p_1)&&((((FV.I (getD (getD c (0+(toNat a)) []) 2 FV.N)):Int)==p_2)&&true))) (Q59 (Q97 1 1 3 b) 3 c) r e))))))):=by kernel_rfl
def lv15:List (Nat×List Nat):=[]
theorem v15 (e:Int)(d:List UInt8)(c:Int)(a:RW)(r:TV)(b:List AObj):VE lv15 15 0 r b [Q86 e d c a] []=
  (br ((e:Int)==(0:Int)) (∃ f:Bool,((Q132 33 (Q164 d) f)∧(br f (br ((c:Int)==(0:Int)) ((FV.L 4 (Q136 a)=true)∧(Q78 (((length a:Int):Int)==(0:Int)) r b)) (Q52 r b)) (∃ g:Bool,((Q132 34 (Q164 d) g)∧(br g (br ((c:Int)==(0:Int)) ((FV.L 4 (Q136 a)=true)∧(Q78 (((length a:Int):Int)==(0:Int)) r b)) (Q52 r b)) (Q52 r b))))))) (br ((e:Int)==(1:Int)) (br (decide ((c:Int)≥(1:Int))) (br ((d:List UInt8)==[]) ((FV.L 4 (Q136 a)=true)∧(br (((length a:Int):Int)==(0:Int)) (∃ h:Bool,((Q76 39 (Q122 4 a (.fn (.func 40) [] [])) h)∧(Q78 (!h) r b))) (Q52 r b))) (Q52 r b)) (Q52 r b)) (br ((e:Int)==(2:Int)) (br ((d:List UInt8)==[]) ((FV.L 4 (Q136 a)=true)∧(br (((length a:Int):Int)==(0:Int)) (∃ i:Bool,((Q76 39 (Q122 4 a (.fn (.func 40) [] [])) i)∧(Q78 (!i) r b))) (Q52 r b))) (Q52 r b)) (br ((e:Int)==(3:Int)) (br (decide ((c:Int)≥(0:Int))) (br (decide ((c:Int)≤(4611686018427387904:Int))) (br ((d:List UInt8)==[]) ((FV.L 4 (Q136 a)=true)∧(br (((length a:Int):Int)==(0:Int)) (∃ j:Bool,((Q76 39 (Q122 4 a (.fn (.func 40) [] [])) j)∧(Q78 (!j) r b))) (Q52 r b))) (Q52 r b)) (Q52 r b)) (Q52 r b)) (br ((e:Int)==(4:Int)) (br (decide ((c:Int)≥(0:Int))) (br (decide ((c:Int)≤(4611686018427387904:Int))) (br ((d:List UInt8)==[]) ((FV.L 4 (Q136 a)=true)∧(br (((length a:Int):Int)==(0:Int)) (∃ k:Bool,((Q76 39 (Q122 4 a (.fn (.func 40) [] [])) k)∧(Q78 (!k) r b))) (Q52 r b))) (Q52 r b)) (Q52 r b)) (Q52 r b)) (br ((e:Int)==(5:Int)) (br ((c:Int)==(0:Int)) (br ((d:List UInt8)==[]) ((FV.L 4 (Q136 a)=true)∧(br (((length a:Int):Int)==(1:Int)) (∃ l:Bool,((Q76 39 (Q122 4 a (.fn (.func 40) [] [])) l)∧(Q78 (!l) r b))) (Q52 r b))) (Q52 r b)) (Q52 r b)) (br ((e:Int)==(6:Int)) (br ((c:Int)==(0:Int)) ((FV.L 4 (Q136 a)=true)∧(br (decide (((length a:Int):Int)≥(2:Int))) (((FV.L 4 (Q136 a)=true)∧((0≤(0:Int))∧(((0:Int)<(length a:Int))∧(((rE (getD a 0 [])):List FV)=(getD a 0 [])))))∧((FV.L 4 (Q136 a)=true)∧(br (((FV.I (getD (getD a 0 []) 0 FV.N)):Int) !=(6:Int)) (br ((d:List UInt8)==[]) ((FV.L 4 (Q136 a)=true)∧(br (((length a:Int):Int)==(length a:Int)) (∃ m:Bool,((Q76 39 (Q122 4 a (.fn (.func 40) [] [])) m)∧(Q78 (!m) r b))) (Q52 r b))) (Q52 r b)) (Q52 r b)))) ((FV.L 4 (Q136 a)=true)∧(Q52 r b)))) ((FV.L 4 (Q136 a)=true)∧(Q52 r b))) (Q52 r b)))))))):=by kernel_rfl
def lv90:List (Nat×List Nat):=[]
theorem v90 (b:Int)(e:List UInt8)(d:Int)(c:RW)(n:Int)(r:TV)(a:List AObj):VE lv90 90 0 r a (Q82 (Q86 b e d c) n) []=
  (br ((b:Int)==(1:Int)) (Q52 r a) (br ((b:Int)==(4:Int)) (br (decide ((d:Int)≥n)) (Q52 r a) (∃ f:Bool,((Q35 39 (Q122 4 c (.fn (.func 128) [] [(false,[Q146])])) (Q131 n) f (Q131 n))∧(Q78 (!f) r a)))) (∃ g:Bool,((Q35 39 (Q122 4 c (.fn (.func 128) [] [(false,[Q146])])) (Q131 n) g (Q131 n))∧(Q78 (!g) r a))))):=by kernel_rfl
def lv78:List (Nat×List Nat):=[]
theorem v78 (a:Int)(b:List UInt8)(d:Int)(e:RW)(r:TV)(f:List AObj):VE lv78 78 0 r f [Q86 a b d e] []=
  ((∃ i:Int,((Q67 115 (Q106 (Q86 a b d e) 0 (.c (.fn (.func 116) [] [(false,[Q146])]))) (Q131 0) [] (Q131 i))∧(Q162 i r f)))∨((∃ _:Unit,((Q67 115 (Q106 (Q86 a b d e) 0 (.c (.fn (.func 116) [] [(false,[Q146])]))) (Q131 0) [] [Q30 1 Q125])∧(RT (.c Q24) [] r f)))∨((∃ g:Nat×RW,((Q67 115 (Q106 (Q86 a b d e) 0 (.c (.fn (.func 116) [] [(false,[Q146])]))) (Q131 0) [] (Q59 (Q97 1 1 1 g.1) 1 g.2))∧(((1:Nat)=1∧(0+g.1)≤(length g.2))∧(RT (Q99 1 (take g.1 (drop 0 g.2))) [] r f))))∨(∃ h:Nat×RW,((Q67 115 (Q106 (Q86 a b d e) 0 (.c (.fn (.func 116) [] [(false,[Q146])]))) (Q131 0) [] (Q167 1 2 1 h.1 1 h.2))∧(((1:Nat)=1∧(0+h.1)≤(length h.2))∧(RT (Q99 1 (take h.1 (drop 0 h.2))) [] r f))))))):=by kernel_rfl
def lv91:List (Nat×List Nat):=[]
theorem v91 (d:Int)(e:List UInt8)(f:Int)(g:RW)(b:Int)(r:TV)(a:List AObj):vcE Tryz.prog shO lv91 91 (Q82 (Q86 d e f g) b) [] (fun r0 Hs0=>TV.Le r0 r∧Hs0=a) (RPt Tryz.prog 91 0 r a)=
  ((∃ h:Tm,((Q186 54 [Q86 d e f g] (Q89 (cT h) Q125))∧(br ((h.k:Int)==(4:Int)) (Q107 [Q22 [Q5 []],Q22 Q125,Q22 (Q51 b)] r a) (br ((h.k:Int)==(3:Int)) (Q107 [Q22 [Q5 []],Q22 Q125,Q22 (Q51 b)] r a) (br ((h.k:Int) !=(0:Int)) (Q107 [Q22 [Q5 []],Q22 Q125,Q22 (Q51 130)] r a) (∃ i:Bool,((Q132 35 (Q164 h.s) i)∧(br (!i) (Q107 [Q22 [Q5 []],Q22 Q125,Q22 (Q51 0)] r a) ((FV.L 4 .N=true)∧(∃ j:Int,((Q73 129 [Q164 h.s] [] j [])∧(br (((0:Int):Int) !=j) (Q107 [Q22 [Q5 []],Q22 Q125,Q22 (Q51 130)] r a) (Q107 [Q22 [Q5 h.s],Q22 Q125,Q22 (Q51 0)] r a)))))))))))))∨(∃ c:Tm×List Tm,((Q185 54 [Q86 d e f g] (Q89 (cT c.1) (Q88 0 4 (length c.2))) (Q70 4 (FTs c.2)))∧(br ((c.1.k:Int)==(4:Int)) (Q107 [Q22 [Q5 []],Q22 Q125,Q22 (Q51 b)] r a) (br ((c.1.k:Int)==(3:Int)) (Q107 [Q22 [Q5 []],Q22 Q125,Q22 (Q51 b)] r a) (br ((c.1.k:Int) !=(0:Int)) (Q107 [Q22 [Q5 []],Q22 Q125,Q22 (Q51 130)] r a) (∃ l:Bool,((Q132 35 (Q164 c.1.s) l)∧(br (!l) (Q44 [Q22 [Q5 []],Q22 (Q88 0 4 (length c.2)),Q22 (Q51 0)] (Q70 4 (FTs c.2)) r a) (∃ m:Int,((Q73 129 [Q164 c.1.s] [] m [])∧(br (((((length c.2):Nat):Int):Int) !=m) (Q107 [Q22 [Q5 []],Q22 Q125,Q22 (Q51 130)] r a) (Q44 [Q22 [Q5 c.1.s],Q22 (Q88 0 4 (length c.2)),Q22 (Q51 0)] (Q70 4 (FTs c.2)) r a))))))))))))):=by kernel_rfl
def lv92:List (Nat×List Nat):=[]
theorem v92 (a:Int)(b:List UInt8)(c:Int)(d:RW)(r:TV)(e:List AObj):VE lv92 92 0 r e [Q86 a b c d] []=
  (∃ g:Bool,((Q132 15 (Q86 a b c d) g)∧(br (!g) (Q183 1 r e) (∃ f:List Cl×Int,((Q186 130 (Q104 (Q86 a b c d) [Q2 0,Q24,Q53]) (Q84 [Q8 9 (CLs f.1)] f.2))∧(Q107 (Q84 [Q8 9 (CLs f.1)] f.2) r e)))))):=by kernel_rfl
def lv93:List (Nat×List Nat):=[]
theorem v93 (b:Int)(c:List UInt8)(d:Int)(a:RW)(r:TV)(e:List AObj):VE lv93 93 0 r e [Q86 b c d a] []=
  (∃ f:Bool,((Q132 15 (Q86 b c d a) f)∧(br (!f) (RT (Q86 b c d a) [] r e) (br ((b:Int)==(5:Int)) (((FV.L 4 (Q136 a)=true)∧((0≤(0:Int))∧(((0:Int)<(length a:Int))∧(((rE (getD a 0 [])):List FV)=(getD a 0 [])))))∧(RT (aE (getD a 0 [])) [] r e)) (∃ g:Tm,((Q7 99 (Q106 (Q86 b c d a) 0 (Q23 1)) [] (aT g) [])∧(((4:Nat)=4∧1≤1)∧(∃ h:Tm,((Q7 16 [(aT g),Q99 4 [[(Q1 3),(.str []),(Q1 0), .N]]] [] (aT h) [])∧(RT (aT h) [] r e)))))))))):=by kernel_rfl
def lv94:List (Nat×List Nat):=[(1,[0,1,7,8])]
theorem v94_F50 (s:RW)(r:TV)(a:List AObj):VE lv94 94 0 r a (Q122 9 s (.fn (.func 50) [] [])) []=
  ((FV.L 9 (Q4 9 s)=true)∧(Q34 94 0 r a 1 (Q152 (Q77 0 9 s) (Q6 1 (.fn (.func 50) [] [])) 7 (length s:Int) 8 0) [] 0)):=by kernel_rfl
theorem zdf (b:RW)(x7 a:Int)(r:TV)(c:List AObj):VQ lv94 94 0 r c 1 ⟨Q152 (Q77 0 9 b) (Q6 1 (.fn (.func 50) [] [])) 7 x7 8 a,[],0⟩=
  (br (decide ((a:Int)<x7)) (((FV.L 9 (Q4 9 b)=true)∧((0≤a)∧((a<(length b:Int))∧(([(Q1 (FV.I (getD (getD b (toNat a) []) 0 FV.N))),(Q1 (FV.I (getD (getD b (toNat a) []) 1 FV.N))),(.str (FV.S (getD (getD b (toNat a) []) 2 FV.N))),(Q1 (FV.I (getD (getD b (toNat a) []) 3 FV.N))),(getD (getD b (toNat a) []) 4 FV.N),(Q1 (FV.I (getD (getD b (toNat a) []) 5 FV.N))),(.str (FV.S (getD (getD b (toNat a) []) 6 FV.N))),(Q1 (FV.I (getD (getD b (toNat a) []) 7 FV.N))),(getD (getD b (toNat a) []) 8 FV.N)]:List FV)=(getD b (toNat a) [])))))∧(∃ d:Bool,((Q132 50 (.agg (Q142 (FV.I (getD (getD b (toNat a) []) 0 FV.N)) (FV.I (getD (getD b (toNat a) []) 1 FV.N)) (FV.S (getD (getD b (toNat a) []) 2 FV.N)) (FV.I (getD (getD b (toNat a) []) 3 FV.N)) (Q0 (getD (getD b (toNat a) []) 4 FV.N)) (FV.I (getD (getD b (toNat a) []) 5 FV.N)) (FV.S (getD (getD b (toNat a) []) 6 FV.N)) (FV.I (getD (getD b (toNat a) []) 7 FV.N)) (Q0 (getD (getD b (toNat a) []) 8 FV.N)))) d)∧(br d (Q162 a r c) (Q34 94 0 r c 1 (Q152 (Q77 0 9 b) (Q6 1 (.fn (.func 50) [] [])) 7 x7 8 (IntKind.wrap .i64 (a+1))) [] 0))))) (Q162 (-1:Int) r c)):=by kernel_rfl
theorem v39_F95 (s:RW)(r:TV)(a:List AObj):VE lv39 39 0 r a (Q122 4 s (.fn (.func 95) [] [])) []=
  (∃ b:Int,((Q73 84 (Q122 4 s (.fn (.func 95) [] [])) [] b [])∧(Q78 (decide ((b:Int)≥(0:Int))) r a))):=by kernel_rfl
def lv95:List (Nat×List Nat):=[]
theorem v95 (a:Int)(b:List UInt8)(c:Int)(d:RW)(r:TV)(e:List AObj):VE lv95 95 0 r e [Q86 a b c d] []=
  (∃ f:Bool,((Q132 15 (Q86 a b c d) f)∧(Q78 (!f) r e))):=by kernel_rfl
def lv96:List (Nat×List Nat):=[(1,[2,3,7])]
theorem v96 (a:Int)(b:List UInt8)(d:Int)(t_3 o0_0:RW)(r:TV)(e:List AObj):VE lv96 96 1 r e (Q173 (Q86 a b d t_3) 1) [Q30 1 [Q8 4 o0_0]]=
  (∃ f:List Tm,((Q7 97 [Q99 4 o0_0] [] (.c (.fn (.func 131) [] [(false,[Q146])])) [Q30 1 [Q8 4 (FTs f)]])∧(Q34 96 1 r e 1 [Q98 2 4,Q42 3 2 4,Q6 7 (.fn (.func 131) [] [(false,[(Q144 3 1)])])] [Q9 0 1 [[Q8 4 o0_0]],Q188 1 a b d t_3,Q149 2 4 0 [] 0,Q9 3 1 [[Q8 4 (FTs f)]]] 4))):=by kernel_rfl
theorem v96_1an (a:RW)(b:Int)(c:List UInt8)(d:Int)(e:RW)(f:Int)(g:List UInt8)(h:Int)(i:RW)(K:St→Prop):prepV 4 [] [2,3,7] K ⟨[Q98 2 4,Q42 3 2 4,Q6 7 (.fn (.func 131) [] [(false,[(Q144 3 1)])])],[Q9 0 1 [[Q8 4 a]],Q188 1 b c d e,Q149 2 4 f g h,Q9 3 1 [[Q8 4 i]]],4⟩=
  (K ⟨[Q98 2 4,Q42 3 2 4,Q6 7 (.fn (.func 131) [] [(false,[(Q144 3 1)])])],[Q9 0 1 [[Q8 4 a]],Q188 1 b c d e,Q149 2 4 f g h,Q9 3 1 [[Q8 4 i]]],4⟩):=by kernel_rfl
theorem v96_1ara (a:RW)(b:Int)(d:List UInt8)(e:Int)(f:RW)(g:Int)(h:List UInt8)(i:Int)(j:RW)(k:Int)(l:Int)(m:List UInt8)(n:Int)(o:RW)(R:AHeap→Nat→Prop):vcR Tryz.prog sh 96 4 [] 1 [(2,(Q171 1 4)),(3,(Q171 2 4)),(7,(.c (.fn (.func 131) [] [(false,[(Q144 3 1)])])))] k (Q86 l m n o) [(0,(Q30 1 [Q8 4 a])),(1,(Q30 4 (Q61 b d e 4 f))),(2,(Q30 4 (Q110 g h i))),(3,(Q30 1 [Q8 4 j]))] 4 R=
  (∃ p:Tm,((Q7 99 (Q106 (Q86 l m n o) 0 (Q23 k)) [] (aT p) [])∧(∃ q:Tm,((Q7 98 (Q106 (Q86 b d e f) 0 (aT p)) [] (aT q) [])∧(R [(0,(Q30 1 [Q8 4 a])),(1,(Q30 4 (cT q))),(2,(Q30 4 (Q110 g h i))),(3,(Q30 1 [Q8 4 j]))] 4))))):=by kernel_rfl
theorem v96_1aza (a:RW)(b:Int)(c:List UInt8)(d:Int)(e:RW)(g:Int)(h:List UInt8)(i:Int)(j:RW)(r:TV)(f:List AObj):vcA Tryz.prog sh lv96 96 1 (fun r0 Hs0=>TV.Le r0 r∧Hs0=f) (RPt Tryz.prog 96 1 r f) 1 ⟨[Q98 2 4,Q42 3 2 4,Q6 7 (.fn (.func 131) [] [(false,[(Q144 3 1)])])],[Q9 0 1 [[Q8 4 a]],Q188 1 b c d e,Q149 2 4 g h i,Q9 3 1 [[Q8 4 j]]],4⟩=
  (RT (Q86 b c d e) [Q30 1 [Q8 4 a]] r f):=by kernel_rfl
def lv100:List (Nat×List Nat):=[]
theorem v100  (r:TV) (a:List AObj):VE lv100 100 0 r a [.c Q24] []=
  (RT (.c Q24) [] r a):=by kernel_rfl
theorem v100_i1 (s:RW)(r:TV)(a:List AObj):VE lv100 100 0 r a [.c (Q0 (.sl true 4 s))] []=
  ((FV.L 4 (.sl true 4 s)=true)∧((0≤0∧z0k (0+(length s)) 56)∧(RT (Q165 0 4 (0+(length s))) (Q70 4 ([]++s)) r a))):=by kernel_rfl
def lv86:List (Nat×List Nat):=[(1000001,[1])]
theorem v86 (e:Int)(f:List UInt8)(g:Int)(h:RW)(u:Bool)(c:Int)(a:Nat)(i:RW)(r:TV)(d:List AObj):VE lv86 86 2 r d (Q184 2 (Q86 e f g h) (Q13 u)) (Q83 2 c 1 8 0 a 8 i)=
  (∃ b:Tm×List Tm,((Q186 54 [Q86 e f g h] (Q89 (cT b.1) [Q8 4 (FTs b.2)]))∧(br ((b.1.s:List UInt8)==[116,114,117,101]) (Q160 [] c a i r d) (br ((b.1.s:List UInt8)==[102,97,105,108]) (∃ y:Int×Int×List In1,((Q159 55 0 2 0 0 (Q175 8 0 0 [] 0 Q24) (Q83 2 c 1 8 0 a 8 i) y.1 y.2.1 (length y.2.2) (FIs y.2.2))∧(Q160 [] y.2.1 (length y.2.2) (FIs y.2.2) r d))) (br ((b.1.s:List UInt8)==[33]) (∃ z:Int×Int×List In1,((Q159 55 0 2 0 0 (Q175 7 0 0 [] 0 Q24) (Q83 2 c 1 8 0 a 8 i) z.1 z.2.1 (length z.2.2) (FIs z.2.2))∧(Q160 [] z.2.1 (length z.2.2) (FIs z.2.2) r d))) (br ((b.1.s:List UInt8)==[44]) (((FV.L 4 (Q136 (FTs b.2))=true)∧((0≤(0:Int))∧(((0:Int)<(length (FTs b.2):Int))∧(((rE (getD (FTs b.2) 0 [])):List FV)=(getD (FTs b.2) 0 [])))))∧(∃ B:Int×List In1,((Q67 86 (Q184 2 (aE (getD (FTs b.2) 0 [])) (Q13 false)) (Q83 2 c 1 8 0 a 8 i) [] (Q158 B.1 (length B.2) (FIs B.2)))∧(((FV.L 4 (Q136 (FTs b.2))=true)∧((0≤(1:Int))∧(((1:Int)<(length (FTs b.2):Int))∧(((rE (getD (FTs b.2) 1 [])):List FV)=(getD (FTs b.2) 1 [])))))∧(∃ C:Int×List In1,((Q67 86 (Q184 2 (aE (getD (FTs b.2) 1 [])) (Q13 u)) (Q83 2 B.1 1 8 0 (length B.2) 8 (FIs B.2)) [] (Q158 C.1 (length C.2) (FIs C.2)))∧(Q160 [] C.1 (length C.2) (FIs C.2) r d))))))) (br ((b.1.s:List UInt8)==[59]) (((FV.L 4 (Q136 (FTs b.2))=true)∧((0≤(0:Int))∧(((0:Int)<(length (FTs b.2):Int))∧(((rE (getD (FTs b.2) 0 [])):List FV)=(getD (FTs b.2) 0 [])))))∧(((FV.L 4 (Q136 (FTs b.2))=true)∧((0≤(1:Int))∧(((1:Int)<(length (FTs b.2):Int))∧(((rE (getD (FTs b.2) 1 [])):List FV)=(getD (FTs b.2) 1 [])))))∧(∃ D:Int×List In1,((Q67 124 (Q184 2 (aE (getD (FTs b.2) 0 [])) (aE (getD (FTs b.2) 1 []))) (Q83 2 c 1 8 0 a 8 i) [] (Q158 D.1 (length D.2) (FIs D.2)))∧(Q160 [] D.1 (length D.2) (FIs D.2) r d))))) (br ((b.1.s:List UInt8)==[112,105]) (((FV.L 4 (Q136 (FTs b.2))=true)∧((0≤(0:Int))∧(((0:Int)<(length (FTs b.2):Int))∧(((rE (getD (FTs b.2) 0 [])):List FV)=(getD (FTs b.2) 0 [])))))∧(∃ x:Tm×Int×List In1,((Q7 125 (Q106 (Q172 2) 11 (aE (getD (FTs b.2) 0 []))) (Q83 2 c 1 8 0 a 8 i) (aT x.1) (Q158 x.2.1 (length x.2.2) (FIs x.2.2)))∧(∃ E:Int×List In1,((Q67 86 (Q184 2 (aT x.1) (Q13 false)) (Q83 2 x.2.1 1 8 0 (length x.2.2) 8 (FIs x.2.2)) [] (Q158 E.1 (length E.2) (FIs E.2)))∧(∃ A:Int×Int×List In1,((Q159 55 0 2 0 0 (Q175 12 0 0 [] 0 Q24) (Q83 2 E.1 1 8 0 (length E.2) 8 (FIs E.2)) A.1 A.2.1 (length A.2.2) (FIs A.2.2))∧(Q160 [] A.2.1 (length A.2.2) (FIs A.2.2) r d)))))))) (br ((b.1.s:List UInt8)==[115,105,103,109,97]) (((FV.L 4 (Q136 (FTs b.2))=true)∧((0≤(0:Int))∧(((0:Int)<(length (FTs b.2):Int))∧(((rE (getD (FTs b.2) 0 [])):List FV)=(getD (FTs b.2) 0 [])))))∧(∃ j:Tm×Int×List In1,((Q7 125 (Q106 (Q172 2) 13 (aE (getD (FTs b.2) 0 []))) (Q83 2 c 1 8 0 a 8 i) (aT j.1) (Q158 j.2.1 (length j.2.2) (FIs j.2.2)))∧(∃ v:Int×List In1,((Q67 86 (Q184 2 (aT j.1) (Q13 u)) (Q83 2 j.2.1 1 8 0 (length j.2.2) 8 (FIs j.2.2)) [] (Q158 v.1 (length v.2) (FIs v.2)))∧(Q160 [] v.1 (length v.2) (FIs v.2) r d)))))) (br ((b.1.s:List UInt8)==[61,62]) (((FV.L 4 (Q136 (FTs b.2))=true)∧((0≤(0:Int))∧(((0:Int)<(length (FTs b.2):Int))∧(((rE (getD (FTs b.2) 0 [])):List FV)=(getD (FTs b.2) 0 [])))))∧(((FV.L 4 (Q136 (FTs b.2))=true)∧((0≤(1:Int))∧(((1:Int)<(length (FTs b.2):Int))∧(((rE (getD (FTs b.2) 1 [])):List FV)=(getD (FTs b.2) 1 [])))))∧(∃ w:Int×List In1,((Q67 126 (Q184 2 (aE (getD (FTs b.2) 0 [])) (aE (getD (FTs b.2) 1 []))) (Q83 2 c 1 8 0 a 8 i) [] (Q158 w.1 (length w.2) (FIs w.2)))∧(Q160 [] w.1 (length w.2) (FIs w.2) r d))))) (br ((b.1.s:List UInt8)==[61]) (∃ k:Int×Int×List In1,((Q159 55 0 2 0 0 (Q49 5 0 0 [] 0 Q24 (Q8 4 (FTs b.2)) Q24) (Q83 2 c 1 8 0 a 8 i) k.1 k.2.1 (length k.2.2) (FIs k.2.2))∧(Q160 [] k.2.1 (length k.2.2) (FIs k.2.2) r d))) (br ((b.1.s:List UInt8)==[105,115]) (∃ l:Int×Int×List In1,((Q159 55 0 2 0 0 (Q175 6 0 e f g (Q8 4 h)) (Q83 2 c 1 8 0 a 8 i) l.1 l.2.1 (length l.2.2) (FIs l.2.2))∧(Q160 [] l.2.1 (length l.2.2) (FIs l.2.2) r d))) (br ((b.1.s:List UInt8)==[60]) (∃ m:Int×Int×List In1,((Q159 55 0 2 0 0 (Q175 6 0 e f g (Q8 4 h)) (Q83 2 c 1 8 0 a 8 i) m.1 m.2.1 (length m.2.2) (FIs m.2.2))∧(Q160 [] m.2.1 (length m.2.2) (FIs m.2.2) r d))) (br ((b.1.s:List UInt8)==[61,60]) (∃ n:Int×Int×List In1,((Q159 55 0 2 0 0 (Q175 6 0 e f g (Q8 4 h)) (Q83 2 c 1 8 0 a 8 i) n.1 n.2.1 (length n.2.2) (FIs n.2.2))∧(Q160 [] n.2.1 (length n.2.2) (FIs n.2.2) r d))) (br ((b.1.s:List UInt8)==[62]) (∃ o:Int×Int×List In1,((Q159 55 0 2 0 0 (Q175 6 0 e f g (Q8 4 h)) (Q83 2 c 1 8 0 a 8 i) o.1 o.2.1 (length o.2.2) (FIs o.2.2))∧(Q160 [] o.2.1 (length o.2.2) (FIs o.2.2) r d))) (br ((b.1.s:List UInt8)==[62,61]) (∃ p:Int×Int×List In1,((Q159 55 0 2 0 0 (Q175 6 0 e f g (Q8 4 h)) (Q83 2 c 1 8 0 a 8 i) p.1 p.2.1 (length p.2.2) (FIs p.2.2))∧(Q160 [] p.2.1 (length p.2.2) (FIs p.2.2) r d))) (br u (∃ q:Int×Int×List In1,((Q159 55 0 2 0 0 (Q175 3 0 e f g (Q8 4 h)) (Q83 2 c 1 8 0 a 8 i) q.1 q.2.1 (length q.2.2) (FIs q.2.2))∧(Q160 [] q.2.1 (length q.2.2) (FIs q.2.2) r d))) (∃ t:Int×Int×List In1,((Q159 55 0 2 0 0 (Q175 2 0 e f g (Q8 4 h)) (Q83 2 c 1 8 0 a 8 i) t.1 t.2.1 (length t.2.2) (FIs t.2.2))∧(Q160 [] t.2.1 (length t.2.2) (FIs t.2.2) r d)))))))))))))))))))):=by kernel_rfl
def lv62:List (Nat×List Nat):=[(1,[0,3])]
theorem v62 (s:List UInt8)(r:TV)(a:List AObj):VE lv62 62 0 r a [Q164 s] []=
  (br (decide (((length s:Int):Int)<(1:Int))) (Q52 r a) (br (decide (((length s:Int):Int)>(32:Int))) (Q52 r a) ((0≤(0:Int)∧(0:Int)<(length s:Int))∧(∃ b:Bool,((Q132 106 (.c (Q0 (.int .u8 ((UInt8.toNat (getD s 0 0):Nat):Int)))) b)∧(br (!b) (Q52 r a) (Q34 62 0 r a 1 [Q6 0 (Q5 s),Q20 3 0] [] 0))))))):=by kernel_rfl
theorem v62_1a (d:List UInt8)(b:Int)(r:TV)(a:List AObj):VQ lv62 62 0 r a 1 ⟨[Q6 0 (Q5 d),Q20 3 b],[],0⟩=
  (br (decide ((b:Int)<(length d:Int))) ((0≤b∧b<(length d:Int))∧(∃ e:Bool,((Q132 107 (.c (Q0 (.int .u8 ((UInt8.toNat (getD d (toNat b) 0):Nat):Int)))) e)∧(br (!e) (Q52 r a) (Q34 62 0 r a 1 [Q6 0 (Q5 d),Q20 3 (IntKind.wrap .i64 (b+1))] [] 0))))) (Q123 r a)):=by kernel_rfl
def lv63:List (Nat×List Nat):=[(1,[0,3])]
theorem v63 (s:List UInt8)(r:TV)(a:List AObj):VE lv63 63 0 r a [Q164 s] []=
  (br ((s:List UInt8)==[44]) (Q123 r a) (br ((s:List UInt8)==[59]) (Q123 r a) (br ((s:List UInt8)==[33]) (Q123 r a) (Q34 63 0 r a 1 [Q6 0 (Q5 s),Q20 3 0] [] 0)))):=by kernel_rfl
theorem v63_1a (b:List UInt8)(d:Int)(r:TV)(a:List AObj):VQ lv63 63 0 r a 1 ⟨[Q6 0 (Q5 b),Q20 3 d],[],0⟩=
  (br (decide ((d:Int)<(length b:Int))) ((0≤d∧d<(length b:Int))∧(∃ e:Bool,((Q132 108 (.c (Q0 (.int .u8 ((UInt8.toNat (getD b (toNat d) 0):Nat):Int)))) e)∧(br (!e) (Q52 r a) (Q34 63 0 r a 1 [Q6 0 (Q5 b),Q20 3 (IntKind.wrap .i64 (d+1))] [] 0))))) (br (decide (((length b:Int):Int)≥(1:Int))) (Q78 (decide (((length b:Int):Int)≤(32:Int))) r a) (Q52 r a))):=by kernel_rfl
def lv64:List (Nat×List Nat):=[]
theorem v64 (a:Int)(c:List UInt8)(d:Int)(e:RW)(r:TV)(b:List AObj):VE lv64 64 0 r b [Q86 a c d e] []=
  (br ((a:Int)==(5:Int)) (Q123 r b) (Q78 ((a:Int)==(6:Int)) r b)):=by kernel_rfl
def lv65:List (Nat×List Nat):=[]
theorem v65 (b:Int)(c:List UInt8)(d:Int)(e:RW)(k:Int)(r:TV)(a:List AObj):VE lv65 65 0 r a (Q82 (Q86 b c d e) k) []=
  (br ((b:Int)==(5:Int)) (Q162 (IntKind.wrap .i64 (k+1)) r a) (Q162 k r a)):=by kernel_rfl
def lv66:List (Nat×List Nat):=[]
theorem v66 (a:List UInt8)(r:TV)(b:List AObj):VE lv66 66 0 r b [Q164 a] []=
  (br ((a:List UInt8)==[116,114,117,101]) (Q162 0 r b) (br ((a:List UInt8)==[102,97,105,108]) (Q162 0 r b) (br ((a:List UInt8)==[33]) (Q162 0 r b) (br ((a:List UInt8)==[112,105]) (Q162 1 r b) (br ((a:List UInt8)==[115,105,103,109,97]) (Q162 1 r b) (Q162 2 r b)))))):=by kernel_rfl
def lv67:List (Nat×List Nat):=[]
theorem v67 (a:Int)(b:List UInt8)(c:Int)(d:RW)(r:TV)(e:List AObj):VE lv67 67 0 r e [Q86 a b c d] []=
  ((∃ g:Int,((Q186 109 [Q86 a b c d,Q23 0,Q127 0 [] 0,Q13 false,Q13 false] (Q126 g))∧(Q183 g r e)))∨(∃ f:List Cl,((Q185 109 [Q86 a b c d,Q23 0,Q127 0 [] 0,Q13 false,Q13 false] (Q84 (Q88 0 9 (length f)) 0) (Q70 9 (CLs f)))∧(Q44 (Q84 (Q88 0 9 (length f)) 0) (Q70 9 (CLs f)) r e)))):=by kernel_rfl
def lv68:List (Nat×List Nat):=[]
theorem v68 (b:Int)(d:List UInt8)(e:Int)(a:RW)(r:TV)(c:List AObj):VE lv68 68 0 r c [Q86 b d e a] []=
  (br ((b:Int)==(5:Int)) (((FV.L 4 (Q136 a)=true)∧((0≤(0:Int))∧(((0:Int)<(length a:Int))∧(((rE (getD a 0 [])):List FV)=(getD a 0 [])))))∧(RT (aE (getD a 0 [])) [] r c)) (∃ f:Tm,((Q7 101 (Q106 (Q86 b d e a) 0 (Q23 1)) [] (aT f) [])∧(((4:Nat)=4∧1≤1)∧(∃ g:Tm,((Q7 102 [(aT f),Q99 4 [[(Q1 3),(.str []),(Q1 0), .N]]] [] (aT g) [])∧(RT (aT g) [] r c))))))):=by kernel_rfl
def lv101:List (Nat×List Nat):=[]
theorem v101 (a:Int)(b:List UInt8)(c:Int)(d:RW)(a1 a2:Int)(r:TV)(e:List AObj):VE lv101 101 0 r e (Q106 (Q86 a b c d) a1 (Q23 a2)) []=
  (∃ f:Tm,((Q7 136 [Q86 a b c d,Q23 a1,Q23 a2,Q23 0] [] (aT f) [])∧(RT (aT f) [] r e))):=by kernel_rfl
def lv102:List (Nat×List Nat):=[]
theorem v102 (a:Int)(c:List UInt8)(d:Int)(f_3 args:RW)(r:TV)(b:List AObj):VE lv102 102 0 r b [Q86 a c d f_3,Q99 4 args] []=
  ((FV.L 4 (Q136 args)=true)∧(br (((length args:Int):Int)==(0:Int)) (RT (Q86 a c d f_3) [] r b) (br ((a:Int)==(6:Int)) ((FV.L 4 (Q136 f_3)=true)∧(br (decide (((length f_3:Int):Int)>(0:Int))) ((FV.L 4 (Q136 f_3)=true)∧(br (List.isEmpty f_3) ((FV.L 4 (Q136 args)=true)∧(br (List.isEmpty args) (RT (Q127 6 [] 0) [] r b) ((z0k (length args) 56)∧(((4:Nat)=4∧(0+(length args))≤(length args))∧(RT (Q86 6 [] 0 (take (length args) (drop 0 args))) [] r b))))) ((z0k (length f_3) 56)∧((FV.L 4 (Q136 args)=true)∧(((length f_3)≤(length f_3)∧z0k ((length f_3)+(length args)) 56)∧(((4:Nat)=4∧(0+((length f_3)+(length args)))≤(length ((take (length f_3) f_3)++args)))∧(RT (Q86 6 [] 0 (take ((length f_3)+(length args)) (drop 0 ((take (length f_3) f_3)++args)))) [] r b))))))) ((1≤1)∧((z0k 1 56)∧((FV.L 4 (Q136 args)=true)∧((1≤1∧z0k (1+(length args)) 56)∧(((4:Nat)=4∧(0+(1+(length args)))≤(length ([[(Q1 a),(.str c),(Q1 d),(Q136 f_3)]]++args)))∧(RT (Q86 6 [] 0 (take (1+(length args)) (drop 0 ([[(Q1 a),(.str c),(Q1 d),(Q136 f_3)]]++args)))) [] r b)))))))) ((1≤1)∧((z0k 1 56)∧((FV.L 4 (Q136 args)=true)∧((1≤1∧z0k (1+(length args)) 56)∧(((4:Nat)=4∧(0+(1+(length args)))≤(length ([[(Q1 a),(.str c),(Q1 d),(Q136 f_3)]]++args)))∧(RT (Q86 6 [] 0 (take (1+(length args)) (drop 0 ([[(Q1 a),(.str c),(Q1 d),(Q136 f_3)]]++args)))) [] r b))))))))):=by kernel_rfl
end Go.AM
