/- Contracts of the code's functions over plain values, and plain laws: part 2. No conditions. -/
import Derived.Test.YtfokmibdmphbiaaGreatPart1
import Derived.Deep.LoopGhost
import Derived.Scope
import Derived.RangeFuncLeaves
import Derived.RangeFuncRecord
import Derived.OrdersIn
import Derived.TacticsIn
import Derived.LoopN
import Derived.IntWalk
namespace Go.AM
section
variable {P:Program} {h:Nat→AObj} {β:Nat→Option Nat} {Y:Nat→Prop} {w:World}
theorem z7c {α:Type}{l:List (Nat×α)}{i:Nat}{x:α}(h:z0r l i=some x):(i,x)∈l:=by
 induction l with
 | nil=>simp [z0r] at h
 | cons p l ih=>
  obtain ⟨j,y⟩:=p;simp only [z0r] at h;split at h
  · rename_i e;injection h with h;subst e;subst h;simp
  · exact List.mem_cons_of_mem _ (ih h)
theorem fz_of_w {X:Nat→Prop}{f:FV}{u:Value}(h:WRep w X β (cell f) u):FRep w X f u:=by
 cases h with | a _ _ h=>cases h with | fz _ _ h=>exact h
theorem zo5 (hO:Objs h β Y w) {Z:Nat→Prop} (hZ:∀ b,¬XO Y h β b→¬Z b) {o n off len m:Nat} {fs:List (List FV)} (hm:flat (h o)= .arr m (fs.map fzs)) (hn:n=m) (hfit:off+len≤fs.length) (hoZ:∀ b,β o=some b→¬Z b)
  {v:Value} (hx:ARep w (XO Y h β) β (.osl o n off len) v):FRep w Z (.sl false n ((fs.drop off).take len)) v:=by
 have hF:∀ x v,FRep w (XO Y h β) x v→FRep w Z x v:=fun x v hr=>hr.mono (Nat.le_refl _) (fun b hb _=>⟨rfl,hZ b hb⟩);cases hx with
 | oslN=>simpa using FRep.slnil n
 | osl _ _ _ _ b q cap sz t h1 h2 h3 h4 h5=>
  have hlive:isLive (h o):=by rw [←z30,hm];trivial
  obtain ⟨us,tt,g1,g2,g3,g4⟩:=z7e hO hm h1;have hlen:len=((fs.drop off).take len).length:=by simp;omega
  have hget:∀ i e,((fs.drop off).take len)[i]? =some e→fs[off+i]? =some e∧i<len:=by
   intro i e he;rw [List.getElem?_take,List.getElem?_drop] at he;split at he
   · rename_i hi;exact ⟨he,hi⟩
   · cases he
  have hcells:∀ i e,((fs.drop off).take len)[i]? =some e→∀ j f,e[j]? =some f→∃ u,us[(off+i)*n+j]? =some u∧FRep w Z f u:=by
   intro i e he j f hf;obtain ⟨u,hu,hr⟩:=g4 (off+i) j (fzs e) (cell f) (by rw [List.getElem?_map,(hget i e he).1];rfl) (by rw [fzs,List.getElem?_map,hf];rfl);rw [hn];exact ⟨u,hu,hF _ _ (fz_of_w hr)⟩
  refine .sl false n _ b q cap len (fun i j=>us.getD ((off+i)*n+j) undef) hlen (by omega) (hoZ b h1) (hO.lt o b h1) (fun i e he=> ?_) (fun i j e f he hf=> ?_) (fun i j e f he hf=> ?_)
  · have:=g3 (fzs e) (List.mem_of_getElem? (by rw [List.getElem?_map,(hget i e he).1];rfl:(fs.map fzs)[off+i]? =some (fzs e)));rw [hn];simpa [fzs] using this
  · obtain ⟨u,hu,_⟩:=hcells i e he j f hf;have hi:=(hget i e he).2;rw [h5.resolve_right (by omega)];simp only [World.cell?,g1,List.getElem?_toArray,Option.isSome_none,Bool.false_eq_true,if_false,List.getD];rw [show off*n+i*n+j=(off+i)*n+j by rw [Nat.add_mul],hu];rfl
  · obtain ⟨u,hu,hr⟩:=hcells i e he j f hf;simp only [List.getD,hu,Option.getD_some];exact hr
theorem zx6 (hO:Objs h β Y w) {L:Lent} (hL:L.ok h) {Z:Nat→Prop} (hZ:∀ b,¬XO Y h β b→¬Z b) (hLZ:∀ p∈L,∀ b,β p.1=some b→¬Z b)
  {x:AV} {v:Value} (hx:ARep w (XO Y h β) β x v):ARep w Z β (x.lend L) v:=by
 have hF:∀ x v,FRep w (XO Y h β) x v→FRep w Z x v:=fun x v hr=>hr.mono (Nat.le_refl _) (fun b hb _=>⟨rfl,hZ b hb⟩);cases hx with
 | fz x v hr=>exact .fz x v (hF x v hr)
 | ep o n i j b hb=>exact .ep o n i j b hb
 | mp o b hb=>exact .mp o b hb
 | any v hv=>exact .any v hv
 | bld t o b v h1 h2 h3=>exact .bld t o b v h1 h2 h3
 | osb o e len b cap h1 h2 h3 h4=>exact .osb o e len b cap h1 h2 h3 h4
 | oslN o n off=>
  simp only [AV.lend];split
  · rename_i p hfs;split
    · rename_i hc;have hmem:=z7c hfs;exact .fz _ _ (zo5 hO hZ (hL _ hmem) hc.1 hc.2 (hLZ _ hmem) (.oslN o n off))
    · exact .oslN o n off
  · exact .oslN o n off
 | osl o n off len b q cap sz t h1 h2 h3 h4 h5=>
  simp only [AV.lend];split
  · rename_i p hfs;split
    · rename_i hc;have hmem:=z7c hfs;exact .fz _ _ (zo5 hO hZ (hL _ hmem) hc.1 hc.2 (hLZ _ hmem) (.osl o n off len b q cap sz t h1 h2 h3 h4 h5))
    · exact .osl o n off len b q cap sz t h1 h2 h3 h4 h5
  · exact .osl o n off len b q cap sz t h1 h2 h3 h4 h5
theorem z7s (hO:Objs h β Y w) {L:Lent} (hL:L.ok h) {Z:Nat→Prop} (hZ:∀ b,¬XO Y h β b→¬Z b) (hLZ:∀ p∈L,∀ b,β p.1=some b→¬Z b)
  {x:TV} {v:Value} (hx:TRep w (XO Y h β) β x v):TRep w Z β (x.lend L) v:=by
 have hF:∀ x v,FRep w (XO Y h β) x v→FRep w Z x v:=fun x v hr=>hr.mono (Nat.le_refl _) (fun b hb _=>⟨rfl,hZ b hb⟩);have hA:∀ x v,ARep w (XO Y h β) β x v→ARep w Z β x v:=fun x v hr=>hr.mono (Nat.le_refl _) (fun b hb _=>⟨rfl,hZ b hb⟩) (fun _ _=>rfl) (fun o b hb=>⟨hb,hO.lt o b hb⟩)
 have hW:∀ x v,WRep w (XO Y h β) β x v→WRep w Z β (x.lend L) v:=by
  intro x v hr;cases hr with
  | a x v hr=>exact .a _ v (zx6 hO hL hZ hLZ hr)
  | fn f first cap us vs h1 h2=>exact .fn f first cap us vs (h1.imp fun _ _ _ h=>h.imp fun c u _ h=>hA c u h) (h2.imp fun _ _ _ h=>h.imp fun c u _ h=>hA c u h)
 have hW':∀ x v,WRep w (XO Y h β) β x v→WRep w Z β x v:=by
  intro x v hr;cases hr with
  | a x v hr=>exact .a _ v (hA _ _ hr)
  | fn f first cap us vs h1 h2=>exact .fn f first cap us vs (h1.imp fun _ _ _ h=>h.imp fun c u _ h=>hA c u h) (h2.imp fun _ _ _ h=>h.imp fun c u _ h=>hA c u h)
 cases x with
 | any=>trivial
 | c x=>exact hW x v hx
 | agg cs=>obtain ⟨us,h1,h2⟩:=hx;exact ⟨us,h1,h2.map fun c u _ h=>hW c u h⟩
 | tup vs=>obtain ⟨us,h1,h2⟩:=hx;exact ⟨us,h1,h2.imp fun c u _ h=>h.imp fun d z _ h=>hW' d z h⟩
theorem zix {Z:Nat→Prop}{β':Nat→Option Nat}:∀ {xs ys:List TV} {us:List Value},All2 TV.Le xs ys→LRep (TRep w Z β') xs us→LRep (TRep w Z β') ys us
 | [],[],us,_,h=>h
 | x::xs,y::ys,us,h1,h2=>by
  obtain ⟨u,us',rfl,hu,hr⟩:=h2.cons_inv;exact .cons (TRep.le h1.1 hu) (zix h1.2 hr)
 | [],_::_,_,h,_=>h.elim
 | _::_,[],_,h,_=>h.elim
theorem zd4 {σ:Nat→Nat}:∀ {ids:List Nat} {Hs:List AObj} {o:Nat} {x:AObj},ids.Nodup→z0r (z1z σ ids Hs) o=some x→∃ (k:Nat) (y:AObj),ids[k]? =some o∧Hs[k]? =some y∧x=y.ren σ
 | [],Hs,o,x,_,h=>by simp [z1z,z0r] at h
 | i::ids,[],o,x,_,h=>by simp [z1z,z0r] at h
 | i::ids,y::Hs,o,x,hn,h=>by
  simp only [z1z,z0r] at h;split at h
  · rename_i e;injection h with h
    exact ⟨0,y,by simp [e],rfl,h.symm⟩
  · obtain ⟨k,z,h1,h2,h3⟩:=zd4 (List.nodup_cons.1 hn).2 h;exact ⟨k+1,z,h1,h2,h3⟩
theorem zaa {σ:Nat→Nat}:∀ {ids:List Nat} {Hs:List AObj} {k i:Nat} {y:AObj},ids.Nodup→ids[k]? =some i→Hs[k]? =some y→z0r (z1z σ ids Hs) i=some (y.ren σ)
 | [],_,k,i,y,_,h,_=>by simp at h
 | _::_,[],k,i,y,_,_,h=>by simp at h
 | j::ids,x::Hs,k,i,y,hn,h1,h2=>by
  have hn:=List.nodup_cons.1 hn;cases k with
  | zero=>
   simp at h1 h2;subst h1;subst h2;simp [z1z,z0r]
  | succ k=>
   simp at h1 h2;have hne:j≠i:=fun e=>hn.1 (by rw [e];exact List.mem_of_getElem? h1);simp only [z1z,z0r,hne,if_false];exact zaa hn.2 h1 h2
theorem z8j {σ:Nat→Nat}:∀ {ids:List Nat} {Hs:List AObj} {o:Nat},ids.length≤Hs.length→z0r (z1z σ ids Hs) o=none→o ∉ ids
 | [],Hs,o,_,_=>by simp
 | i::ids,[],o,hl,_=>by simp at hl
 | i::ids,y::Hs,o,hl,h=>by
  simp only [z1z,z0r] at h;split at h
  · cases h
  · rename_i e;intro hm;rcases List.mem_cons.1 hm with h1 | h1
    · exact e h1.symm
    · exact z8j (by simpa using hl) h h1
theorem zlr {σ:Nat→Nat}:∀ {Hs:List AObj} {fr o:Nat} {x:AObj},z0r (z3a σ fr Hs) o=some x→∃ (j:Nat) (y:AObj),o=fr+j∧Hs[j]? =some y∧x=y.ren σ
 | [],fr,o,x,h=>by simp [z3a,z0r] at h
 | y::Hs,fr,o,x,h=>by
  simp only [z3a,z0r] at h;split at h
  · rename_i e;injection h with h;exact ⟨0,y,by omega,rfl,h.symm⟩
  · obtain ⟨j,z,h1,h2,h3⟩:=zlr h;exact ⟨j+1,z,by omega,h2,h3⟩
theorem z8q {σ:Nat→Nat}:∀ {Hs:List AObj} {fr o j:Nat},z0r (z3a σ fr Hs) o=none→o=fr+j→Hs.length≤j
 | [],fr,o,j,_,_=>by simp
 | y::Hs,fr,o,j,h,e=>by
  simp only [z3a,z0r] at h;split at h
  · cases h
  · cases j with
    | zero=>omega
    | succ j=>have:=z8q (j:=j) h (by omega);simp;omega
theorem z7g {α:Type}(a b:List (Nat×α))(o:Nat):z0r (a++b) o=match z0r a o with | some x=>some x | none=>z0r b o:=by
 induction a with
 | nil=>rfl
 | cons p a ih=>
  obtain ⟨j,x⟩:=p;simp only [List.cons_append,z0r];split
  · rfl
  · exact ih
theorem zn9 {X1 X2:Nat→Prop}{w':World}{x:FV}{v:Value}(hs:x.scalar=true)(h:FRep w X1 x v):FRep w' X2 x v:=by
 cases h with
 | int k n=>exact .int k n
 | bool b=>exact .bool b
 | str l=>exact .str l
 | cst v h=>exact .cst v h
 | N=>exact .N
 | slnil=>simp [FV.scalar] at hs
 | sl0=>simp [FV.scalar] at hs
 | z0 nn a=>exact .z0 nn a
 | z0n=>exact .z0n
 | sl=>simp [FV.scalar] at hs
 | pt=>simp [FV.scalar] at hs
theorem zmq {X1 X2:Nat→Prop}{β1 β2:Nat→Option Nat}{σ:Nat→Nat}{x:TV}{v:Value}(hs:x.scalar=true)(hβ:∀ o,β1 o=none)(h:TRep w X1 β1 x v):TRep w X2 β2 (x.ren σ) v:=by
 have hW:∀ c u,WV.scalar c=true→WRep w X1 β1 c u→WRep w X2 β2 (c.ren σ) u:=by
  intro c u hc hr;cases hr with
  | a x v hr=>
   simp only [WV.scalar] at hc;cases hr with
   | fz x v hr=>exact .a _ _ (.fz _ _ (zn9 hc hr))
   | ep o n i j b hb=>rw [hβ] at hb;cases hb
   | osl o n off len b q cap sz t hb=>rw [hβ] at hb;cases hb
   | oslN o n off=>exact .a _ _ (.oslN _ n off)
   | mp o b hb=>rw [hβ] at hb;cases hb
   | any v hv=>exact .a _ _ (.any _ hv)
   | bld t o b v hb=>rw [hβ] at hb;cases hb
   | osb o e len b cap hb=>rw [hβ] at hb;cases hb
  | fn=>simp [WV.scalar] at hc
 cases x with
 | any=>trivial
 | c x=>exact hW x v hs h
 | agg cs=>
  simp only [TV.scalar,List.all_eq_true] at hs;obtain ⟨us,h1,h2⟩:=h;exact ⟨us,h1,h2.map fun c u hc h=>hW c u (hs c hc) h⟩
 | tup vs=>
  simp only [TV.scalar,List.all_eq_true] at hs;obtain ⟨us,h1,h2⟩:=h;exact ⟨us,h1,h2.map fun c u hc h=>h.map fun d z hd h=>hW d z (hs c hc d hd) h⟩
theorem z9g:∀ {l:List Nat} {i j x:Nat},l.Nodup→l[i]? =some x→l[j]? =some x→i=j
 | [],i,j,x,_,h,_=>by simp at h
 | y::l,0,0,x,_,_,_=>rfl
 | y::l,0,j+1,x,hn,h1,h2=>by
  simp at h1 h2;subst h1;exact absurd (List.mem_of_getElem? h2) (List.nodup_cons.1 hn).1
 | y::l,i+1,0,x,hn,h1,h2=>by
  simp at h1 h2;subst h2;exact absurd (List.mem_of_getElem? h1) (List.nodup_cons.1 hn).1
 | y::l,i+1,j+1,x,hn,h1,h2=>by
  simp at h1 h2;rw [z9g (List.nodup_cons.1 hn).2 h1 h2]
theorem ze9 {x:AObj}{σ:Nat→Nat}:bareO (x.ren σ)↔bareO x:=by
 cases x with
 | gone=>exact Iff.rfl
 | mapo es=>simp [bareO,flat,AObj.ren]
 | mapz es=>exact Iff.rfl
 | arz n fs=>exact Iff.rfl
 | arr n es=>simp [bareO,flat,AObj.ren]
theorem zbw {F:List Nat}:∀ (u:AHeap) (o:Nat),z0r (u.filter fun p=> !F.contains p.1) o=if F.contains o=true then none else z0r u o
 | [],o=>by simp [z0r]
 | (k,x)::u,o=>by
  have ih:=zbw (F:=F) u o;rw [List.filter_cons];by_cases hk:F.contains k=true
  · rw [if_neg (by rw [hk];decide),ih];by_cases ho:F.contains o=true
    · rw [if_pos ho,if_pos ho]
    · rw [if_neg ho,if_neg ho];have:k≠o:=fun e=>ho (by rw [←e];exact hk);simp [z0r,this]
  · rw [if_pos (by rw [show F.contains k=false by simpa using hk];rfl)];simp only [z0r,ih];by_cases e:k=o
    · subst e;rw [if_pos rfl,if_neg hk,if_pos rfl]
    · rw [if_neg e,if_neg e]
theorem kept_nil (u:AHeap):(u.filter fun p=> !([]:List Nat).contains p.1)=u:=List.filter_eq_self.2 fun _ _=>rfl
theorem zvj {F:List Nat}{u:AHeap}{h:Nat→AObj}(hF:∀ i∈F,z0r u i=some (h i)):over (u.filter fun p=> !F.contains p.1) h=over u h:=by
 funext o
 unfold over;rw [zbw];by_cases ho:F.contains o=true
 · rw [if_pos ho,hF o (by simpa using ho)]
 · rw [if_neg ho]
theorem zus (hO:Objs h β Y w) (hgl:Gl P w (Own h β)) (hY:∀ b,Y b→b<w.heap.size) {fr:Nat} (hfr:∀ j,j<32→β (fr+j)=none) {f:FuncId} {args:List TV} {vals:List Value} {K:TV→AHeap→List Nat→Prop}
  (hl:LRep (TRep w (XO Y h β) β) args vals) (hK:CallK P f args h fr K):
  z31 P f=true∧∃ r upd rd,K r upd rd∧Calls P f vals.toArray w fun e w'=> ∃ v β',e= .returned v∧Moves h (over upd h) β β' Y w w' (fun o=>fr≤o∧o<fr+32)∧TRep w' (XO Y (over upd h) β') β' r v:=by
 obtain ⟨ids,L,args',Hs,r,Hs',⟨hent,hlen,hac⟩,⟨hnd,hids⟩,hroom,⟨hHs,hHlt⟩,hargs,halt,hlive,hLcase,F,hF,hKK⟩:=hK;refine ⟨hent,r.ren (sub ids fr),_,ids++L.map Prod.fst,hKK, ?_⟩;rw [zvj (u:=z1z (sub ids fr) ids Hs'++z3a (sub ids fr) fr (Hs'.drop ids.length)) fun i hi=>by rw [z7g,hF i hi]];clear hKK hF F;have hml:Hs.length=ids.length:=by have:=congrArg List.length hHs;simpa using this
 let βc:Nat→Option Nat:=fun o=>if o<ids.length then β (ids.getD o 0) else none
 let hc:Nat→AObj:=fun o=>Hs.getD o .gone
 let Yc:Nat→Prop:=fun b=>XO Y h β b∧¬Own hc βc b∧¬∃ p∈L,β p.1=some b
 have hlt_nd:∀ i∈ids,∀ j,i≠fr+j∨32≤j:=by
  intro i hi j;have:=hids i hi;exact .inl (by omega)
 have hget:∀ k,k<ids.length→ids[k]? =some (ids.getD k 0):=fun k hk=>by simp [List.getD,List.getElem?_eq_getElem hk]
 have hmemget:∀ k,k<ids.length→ids.getD k 0∈ids:=fun k hk=>List.mem_of_getElem? (hget k hk)
 have hHs_get:∀ k,k<ids.length→(hc k).ren (sub ids fr)=h (ids.getD k 0)∧(hc k).lt ids.length=true:=by
  intro k hk;have e1:=congrArg (fun l=>l[k]?) hHs;simp only [List.getElem?_map] at e1;have hk':k<Hs.length:=by omega
  rw [List.getElem?_eq_getElem hk',hget k hk] at e1;simp only [Option.map_some,Option.some.injEq] at e1;have e2:hc k=Hs[k]:=by simp [hc,List.getD,List.getElem?_eq_getElem hk']
  refine ⟨by rw [e2];exact e1, ?_⟩;rw [e2];exact List.all_eq_true.1 hHlt _ (List.getElem_mem hk')
 have hc_live:∀ o,isLive (hc o)→o<ids.length:=by
  intro o ho;by_cases hk:o<Hs.length
  · omega
  · have:hc o= .gone:=by simp [hc,List.getD,List.getElem?_eq_none (Nat.le_of_not_lt hk)]
    rw [this] at ho;exact ho.elim
 have ren_live:∀ (x:AObj) (σ:Nat→Nat),isLive (x.ren σ)↔isLive x:=by
  intro x σ;cases x<;>simp [AObj.ren,isLive]
 have hβc:∀ o b,βc o=some b→o<ids.length∧β (ids.getD o 0)=some b:=by
  intro o b hb;simp only [βc] at hb;split at hb
  · rename_i ho;exact ⟨ho,hb⟩
  · cases hb
 have hownc:∀ b,Own hc βc b→Own h β b:=by
  rintro b ⟨o,ho1,ho2⟩;obtain ⟨k1,k2⟩:=hβc o b ho2;exact ⟨_,hlive _ (hmemget o k1),k2⟩
 have hX:∀ b,¬XO Y h β b→¬XO Yc hc βc b:=by
  intro b hb hb';rcases hb' with hb' | hb'
  · exact hb hb'.1
  · exact hb (.inr (hownc b hb'))
 have hLc:∀ p∈L,∀ b,β p.1=some b→¬XO Yc hc βc b:=by
  intro p hp b hb hb';rcases hb' with hb' | ⟨o,ho1,ho2⟩
  · exact hb'.2.2 ⟨p,hp,hb⟩
  · obtain ⟨k1,k2⟩:=hβc o b ho2;rcases hLcase with hnil | ⟨hok,hni,_⟩
    · rw [hnil] at hp;cases hp
    · have hlp:isLive (h p.1):=by rw [←z30,hok p hp];trivial
      have:=hO.inj p.1 _ b hlp (hlive _ (hmemget o k1)) hb k2;exact hni p hp (this▸hmemget o k1)
 have hYin:∀ b,Y b→Yc b:=by
  intro b hb;refine ⟨.inl hb,fun hown=> ?_,fun ⟨p,hp,hpb⟩=> ?_⟩
  · obtain ⟨o,ho1,ho2⟩:=hownc b hown;exact (hO.here ho1 ho2).2 hb
  · rcases hLcase with hnil | ⟨hok,hni,_⟩
    · rw [hnil] at hp;cases hp
    · exact (hO.here (by rw [←z30,hok p hp];trivial) hpb).2 hb
 have hYc_lt:∀ b,Yc b→b<w.heap.size:=by
  intro b hb;rcases hb.1 with h1 | ⟨o,_,h2⟩
  · exact hY b h1
  · exact hO.lt o b h2
 have hF:∀ x v,FRep w (XO Y h β) x v→FRep w (XO Yc hc βc) x v:=fun x v hr=>hr.mono (Nat.le_refl _) (fun b hb _=>⟨rfl,hX b hb⟩);have hsub:∀ o,o<ids.length→sub ids fr o=ids.getD o 0:=fun o ho=>by simp [sub,ho]
 have hβun:∀ o b,o<ids.length→β (sub ids fr o)=some b→βc o=some b:=by
  intro o b ho hb;rw [hsub o ho] at hb;simp only [βc,ho,if_true,hb]
 have hOc:Objs hc βc Yc w:=by
  refine ⟨fun o b ho hb=> ?_,fun o ho=> ?_,fun o o' b ho ho' hb hb'=> ?_,fun o b hb=>hO.lt _ b (hβc o b hb).2⟩
  · have hk:=hc_live o ho;obtain ⟨e1,e2⟩:=hHs_get o hk;have hrep:=hO.rep (ids.getD o 0) b (hlive _ (hmemget o hk)) (hβc o b hb).2;rw [←e1] at hrep;exact ORep.unmap (σ:=sub ids fr) hF hβun e2 hrep
  · have hk:=hc_live o ho;rcases hO.has _ (hlive _ (hmemget o hk)) with ⟨b,h1,h2,h3⟩ | ⟨h1,h2⟩
    · refine .inl ⟨b,by simp only [βc,hk,if_true,h1],h2,fun hy=> ?_⟩;exact hy.2.1 ⟨o,ho,by simp only [βc,hk,if_true,h1]⟩
    · refine .inr ⟨?_,by simp only [βc,hk,if_true,h2]⟩;rw [←(hHs_get o hk).1] at h1;exact ze9.1 h1
  · have h1:=hβc o b hb;have h2:=hβc o' b hb';have h3:=hO.inj _ _ b (hlive _ (hmemget o h1.1)) (hlive _ (hmemget o' h2.1)) h1.2 h2.2;have g1:=hget o h1.1;have g2:=hget o' h2.1;rw [h3] at g1;exact z9g hnd g1 g2
 have hlc:LRep (TRep w (XO Yc hc βc) βc) args' vals:=by
  have h1:LRep (TRep w (XO Yc hc βc) β) (args.map (TV.lend L)) vals:=by
   rcases hLcase with hnil | ⟨hok,_⟩
   · subst hnil;exact hl.map fun c u _ hr=>z7s hO (fun p hp=>by cases hp) hX (fun p hp=>by cases hp) hr
   · exact hl.map fun c u _ hr=>z7s hO hok hX hLc hr
  have h2:=zix hargs h1;refine h2.unmap fun c u hcm hr=> ?_;exact TRep.unmap (σ:=sub ids fr) (fun _ _ h=>h) hβun (List.all_eq_true.1 halt c hcm) hr
 have hcall:=hac w vals βc Yc (fun o b hb=>by have:=(hβc o b hb).1;omega) hYc_lt (hgl.sub hownc) hOc hlc;refine hcall.mono fun e w' hpost=> ?_;obtain ⟨v,βc',he,hgood,hO',hres,hdom,hsame,hnew⟩:=hpost
 let hc':Nat→AObj:=fun o=>Hs'.getD o .gone
 let upds:=z1z (sub ids fr) ids Hs'++z3a (sub ids fr) fr (Hs'.drop ids.length)
 let β':Nat→Option Nat:=fun o=>if fr≤o∧o<fr+32 then βc' (ids.length+(o-fr)) else β o
 refine ⟨v,β',he, ?_⟩
 have hβ'old:∀ k,k<ids.length→β' (ids.getD k 0)=βc' k:=by
  intro k hk
  have h1:¬(fr≤ids.getD k 0∧ids.getD k 0<fr+32):=by
   rintro ⟨g1,g2⟩;rcases hlt_nd _ (hmemget k hk) (ids.getD k 0-fr) with h | h<;>omega
  simp only [β',h1,if_false];rw [hsame k (by omega)];simp only [βc,hk,if_true]
 have hβ'new:∀ j,j<32→β' (fr+j)=βc' (ids.length+j):=by
  intro j hj;simp only [β',show fr≤fr+j∧fr+j<fr+32 from ⟨by omega,by omega⟩,and_self,if_true,show fr+j-fr=j by omega]
 have hβmap:∀ o b,βc' o=some b→β' (sub ids fr o)=some b:=by
  intro o b hb;have ho:=hdom o b hb;by_cases hk:o<ids.length
  · rw [hsub o hk,hβ'old o hk,hb]
  · have:sub ids fr o=fr+(o-ids.length):=by simp [sub,hk]
    rw [this,hβ'new _ (by omega),show ids.length+(o-ids.length)=o by omega,hb]
 have hval:∀ o,(∃ k,k<ids.length∧o=ids.getD k 0∧over upds h o=(hc' k).ren (sub ids fr))∨(∃ j,o=fr+j∧ids.length+j<Hs'.length∧over upds h o=(hc' (ids.length+j)).ren (sub ids fr))∨
   (o ∉ ids∧(∀ j,o=fr+j→Hs'.length≤ids.length+j)∧over upds h o=h o):=by
  intro o;simp only [over,upds,z7g];cases h1:z0r (z1z (sub ids fr) ids Hs') o with
  | some x=>
   obtain ⟨k,y,g1,g2,g3⟩:=zd4 hnd h1;have hk:=(List.getElem?_eq_some_iff.1 g1).1;refine .inl ⟨k,hk, ?_, ?_⟩
   · have:=hget k hk;rw [g1] at this;simpa using this
   · simp only [g3];have:hc' k=y:=by simp [hc',List.getD,g2]
     rw [this]
  | none=>
   have hno:=z8j (by omega:ids.length≤Hs'.length) h1;simp only;cases h2:z0r (z3a (sub ids fr) fr (Hs'.drop ids.length)) o with
   | some x=>
    obtain ⟨j,y,g1,g2,g3⟩:=zlr h2;rw [List.getElem?_drop] at g2;refine .inr (.inl ⟨j,g1,(List.getElem?_eq_some_iff.1 g2).1, ?_⟩);simp only [g3];have:hc' (ids.length+j)=y:=by simp [hc',List.getD,g2]
    rw [this]
   | none=>
    refine .inr (.inr ⟨hno,fun j ej=> ?_,rfl⟩);have:=z8q h2 ej;rw [List.length_drop] at this;omega
 have hclive':∀ k,isLive (hc' k)→k<Hs'.length:=by
  intro k hk;by_cases h1:k<Hs'.length
  · exact h1
  · have:hc' k= .gone:=by simp [hc',List.getD,List.getElem?_eq_none (Nat.le_of_not_lt h1)]
    rw [this] at hk;exact hk.elim
 have hwho:∀ o,isLive (over upds h o)→(∃ k,isLive (hc' k)∧o=sub ids fr k∧over upds h o=(hc' k).ren (sub ids fr)∧k<Hs'.length∧β' o=βc' k)∨(o ∉ ids∧isLive (h o)∧over upds h o=h o∧β' o=β o):=by
  intro o ho;rcases hval o with ⟨k,hk,e1,e2⟩ | ⟨j,e1,hj,e2⟩ | ⟨hni,hnj,e2⟩
  · rw [e2,ren_live] at ho;exact .inl ⟨k,ho,by rw [hsub k hk];exact e1,e2,hclive' k ho,by rw [e1,hβ'old k hk]⟩
  · rw [e2,ren_live] at ho;refine .inl ⟨ids.length+j,ho, ?_,e2,hj, ?_⟩
    · have:¬(ids.length+j<ids.length):=by omega
      simp [sub,this,e1]
    · rw [e1,hβ'new j (by omega)]
  · rw [e2] at ho;refine .inr ⟨hni,ho,e2, ?_⟩;by_cases h1:fr≤o∧o<fr+32
    · have h2:=hfr (o-fr) (by omega);rw [show fr+(o-fr)=o by omega] at h2;simp only [β',h1,and_self,if_true,h2];cases h3:βc' (ids.length+(o-fr)) with
      | none=>rfl
      | some b=>
       have:=hdom _ b h3;have:=hnj (o-fr) (by omega);omega
    · simp only [β',h1,if_false]
 have hsubinj:∀ a b,a<Hs'.length→b<Hs'.length→βc' a≠none→sub ids fr a=sub ids fr b→a=b:=by
  intro a b ha hb _ hab;by_cases h1:a<ids.length
  · by_cases h2:b<ids.length
    · rw [hsub a h1,hsub b h2] at hab;have g1:=hget a h1;have g2:=hget b h2;rw [hab] at g1;exact z9g hnd g1 g2
    · rw [hsub a h1] at hab;have:sub ids fr b=fr+(b-ids.length):=by simp [sub,h2]
      rw [this] at hab;rcases hlt_nd _ (hmemget a h1) (b-ids.length) with h | h
      · exact absurd hab h
      · omega
  · have ea:sub ids fr a=fr+(a-ids.length):=by simp [sub,h1]
    by_cases h2:b<ids.length
    · rw [hsub b h2,ea] at hab;rcases hlt_nd _ (hmemget b h2) (a-ids.length) with h | h
      · exact absurd hab.symm h
      · omega
    · have eb:sub ids fr b=fr+(b-ids.length):=by simp [sub,h2]
      rw [ea,eb] at hab;omega
 have hback:∀ b,b<w.heap.size→Own (over upds h) β' b→XO Y h β b:=by
  rintro b hb ⟨o,ho1,ho2⟩;rcases hwho o ho1 with ⟨k,g1,g2,g3,g4,g5⟩ | ⟨g1,g2,g3,g4⟩
  · rw [g5] at ho2;by_cases hk:k<ids.length
    · rw [hsame k (by omega)] at ho2;obtain ⟨_,k2⟩:=hβc k b ho2;exact .inr ⟨_,hlive _ (hmemget k hk),k2⟩
    · rcases hnew k b (by omega) ho2 with h1 | h1
      · omega
      · exact .inr (hownc b h1)
  · rw [g4] at ho2;exact .inr ⟨o,g2,ho2⟩
 have hbmono:∀ o b,β o=some b→β' o=some b:=by
  intro o b hb
  have h1:¬(fr≤o∧o<fr+32):=by
   rintro ⟨g1,g2⟩;have:=hfr (o-fr) (by omega);rw [show fr+(o-fr)=o by omega,hb] at this;cases this
  simp only [β',h1,if_false,hb]
 have hblk:∀ b,¬XO Y h β b→b<w.heap.size→w'.heap[b]? =w.heap[b]? :=fun b hx hb=>hgood.blk b hb (fun ho=>hx (.inr (hownc b ho)))
 have hgo:Goes w w' (XO Y h β) (XO Y (over upds h) β') β β':=by
  refine ⟨hgood.size,fun b hx hb=>⟨hblk b hx hb,fun hx'=> ?_⟩,hgood.shp,fun o b hb=>⟨hbmono o b hb,hO.lt o b hb⟩⟩;rcases hx' with hy | hown
  · exact hx (.inl hy)
  · exact hx (hback b hb hown)
 have hFback:L=[]→∀ x v,FRep w' (XO Yc hc' βc') x v→FRep w' (XO Y (over upds h) β') x v:=by
  intro hnil x v hr;refine hr.mono (Nat.le_refl _) (fun b hb _=>⟨rfl,fun hx'=>hb ?_⟩);rcases hx' with hy | ⟨o,ho1,ho2⟩
  · exact .inl (hYin b hy)
  · rcases hwho o ho1 with ⟨k,g1,g2,g3,g4,g5⟩ | ⟨g1,g2,g3,g4⟩
    · rw [g5] at ho2;exact .inr ⟨k,g1,ho2⟩
    · rw [g4] at ho2;refine .inl ⟨.inr ⟨o,g2,ho2⟩, ?_, ?_⟩
      · rintro ⟨k,k1,k2⟩;obtain ⟨m1,m2⟩:=hβc k b k2;have:=hO.inj o _ b g2 (hlive _ (hmemget k m1)) ho2 m2;exact g1 (this▸hmemget k m1)
      · rintro ⟨p,hp,_⟩;rw [hnil] at hp;cases hp
 have hnoHs:L ≠ []→Hs'=[]:=fun hne=>(hLcase.resolve_left hne).2.2.2;refine ⟨⟨⟨hgood.size,fun b hb hno=>hgood.blk b hb (fun ho=>hno (hownc b ho)),hgood.shp,hgood.os,hgood.tape,hgood.output⟩, ?_,hbmono,fun o b hb=> ?_,fun o ho=> ?_⟩, ?_⟩
 · refine ⟨fun o b ho hb=> ?_,fun o ho=> ?_,fun o o' b ho ho' hb hb'=> ?_,fun o b hb=> ?_⟩
   · rcases hwho o ho with ⟨k,g1,g2,g3,g4,g5⟩ | ⟨g1,g2,g3,g4⟩
     · have hnil:L=[]:=by
        rcases hLcase with h | h
        · exact h
        · rw [h.2.2.2] at g4;simp at g4
       rw [g5] at hb;show ORep w' (XO Y (over upds h) β') β' (over upds h o) b;rw [g3];exact ORep.map (hFback hnil) hβmap (hO'.rep k b g1 hb)
     · rw [g4] at hb;show ORep w' (XO Y (over upds h) β') β' (over upds h o) b;rw [g3];refine (hO.rep o b g2 hb).goes hgo (hgood.blk b (hO.lt o b hb) ?_);rintro ⟨k,k1,k2⟩;obtain ⟨m1,m2⟩:=hβc k b k2;have:=hO.inj o _ b g2 (hlive _ (hmemget k m1)) hb m2;exact g1 (this▸hmemget k m1)
   · rcases hwho o ho with ⟨k,g1,g2,g3,g4,g5⟩ | ⟨g1,g2,g3,g4⟩
     · rcases hO'.has k g1 with ⟨b,h1,h2,h3⟩ | ⟨h1,h2⟩
       · exact .inl ⟨b,by rw [g5];exact h1,h2,fun hy=>h3 (hYin b hy)⟩
       · exact .inr ⟨by show bareO (over upds h o);rw [g3];exact ze9.2 h1,by rw [g5];exact h2⟩
     · rcases hO.has o g2 with ⟨b,h1,h2,h3⟩ | ⟨h1,h2⟩
       · exact .inl ⟨b,by rw [g4];exact h1,Nat.lt_of_lt_of_le h2 hgood.size,h3⟩
       · exact .inr ⟨by show bareO (over upds h o);rw [g3];exact h1,by rw [g4];exact h2⟩
   · rcases hwho o ho with ⟨k,g1,g2,g3,g4,g5⟩ | ⟨g1,g2,g3,g4⟩
     · rcases hwho o' ho' with ⟨k',g1',g2',g3',g4',g5'⟩ | ⟨g1',g2',g3',g4'⟩
       · rw [g5] at hb;rw [g5'] at hb';rw [g2,g2',hO'.inj k k' b g1 g1' hb hb']
       · exfalso;rw [g5] at hb;rw [g4'] at hb'
         have hnil:L=[]:=by
          rcases hLcase with h | h
          · exact h
          · rw [h.2.2.2] at g4;simp at g4
         have h3:=(hO'.here g1 hb).2;apply h3;refine ⟨.inr ⟨o',g2',hb'⟩, ?_, ?_⟩
         · rintro ⟨k2,k1',k2'⟩;obtain ⟨m1,m2⟩:=hβc k2 b k2';have:=hO.inj o' _ b g2' (hlive _ (hmemget k2 m1)) hb' m2;exact g1' (this▸hmemget k2 m1)
         · rintro ⟨p,hp,_⟩;rw [hnil] at hp;cases hp
     · rcases hwho o' ho' with ⟨k',g1',g2',g3',g4',g5'⟩ | ⟨g1',g2',g3',g4'⟩
       · exfalso;rw [g5'] at hb';rw [g4] at hb
         have hnil:L=[]:=by
          rcases hLcase with h | h
          · exact h
          · rw [h.2.2.2] at g4';simp at g4'
         have h3:=(hO'.here g1' hb').2;apply h3;refine ⟨.inr ⟨o,g2,hb⟩, ?_, ?_⟩
         · rintro ⟨k2,k1',k2'⟩;obtain ⟨m1,m2⟩:=hβc k2 b k2';have:=hO.inj o _ b g2 (hlive _ (hmemget k2 m1)) hb m2;exact g1 (this▸hmemget k2 m1)
         · rintro ⟨p,hp,_⟩;rw [hnil] at hp;cases hp
       · rw [g4] at hb;rw [g4'] at hb';exact hO.inj o o' b g2 g2' hb hb'
   · simp only [β'] at hb;split at hb
     · exact hO'.lt _ b hb
     · exact Nat.lt_of_lt_of_le (hO.lt o b hb) hgood.size
 · simp only [β'] at hb;split at hb
   · rename_i hin;rcases hnew _ b (by omega) hb with h1 | h1
     · exact .inr ⟨hin, .inl h1⟩
     · exact .inr ⟨hin, .inr (hownc b h1)⟩
   · exact .inl hb
 · rcases hwho o ho with ⟨k,g1,g2,g3,g4,g5⟩ | ⟨g1,g2,g3,g4⟩
   · by_cases hk:k<ids.length
     · rw [g2,hsub k hk];exact .inl (hlive _ (hmemget k hk))
     · have:sub ids fr k=fr+(k-ids.length):=by simp [sub,hk]
       rw [g2,this];exact .inr ⟨by omega,by omega⟩
   · exact .inl g2
 · rcases hLcase with hnil | ⟨_,_,hsc,hHs'⟩
   · exact TRep.map (hFback hnil) hβmap hres
   · refine zmq hsc (fun o=> ?_) hres;cases hb:βc' o with
     | none=>rfl
     | some b=>have:=hdom o b hb;rw [hHs'] at this;simp at this
end
end Go.AM

namespace Go.AM
section
variable {P:Program} {h:Nat→AObj} {β:Nat→Option Nat} {Y:Nat→Prop} {w:World}
theorem z5b (x:AObj):flat (flat x)=flat x:=by cases x<;>rfl
theorem zk5 {X:Nat→Prop}{x y:AObj}{b:Nat}(hxy:flat x=flat y):ORep w X β x b↔ORep w X β y b:=by unfold ORep;rw [hxy]
theorem z49 {x y:AObj}(hxy:flat x=flat y):isLive x↔isLive y:=by rw [←z30 x,hxy,z30]
theorem zcu {h':Nat→AObj}(hf:∀ o,flat (h' o)=flat (h o)):Own h' β=Own h β:=by
 funext b
 apply propext;constructor
 · rintro ⟨o,h1,h2⟩;exact ⟨o,(z49 (hf o)).1 h1,h2⟩
 · rintro ⟨o,h1,h2⟩;exact ⟨o,(z49 (hf o)).2 h1,h2⟩
theorem ze1 {h':Nat→AObj}(hf:∀ o,flat (h' o)=flat (h o)):XO Y h' β=XO Y h β:=by unfold XO;rw [zcu hf]
theorem z9v {h':Nat→AObj}(hf:∀ o,flat (h' o)=flat (h o))(hO:Objs h β Y w):Objs h' β Y w:=by
 refine ⟨fun o b hl hb=> ?_,fun o hl=>(hO.has o ((z49 (hf o)).1 hl)).imp id (fun ⟨⟨n,h1⟩,h2⟩=>⟨⟨n,by rw [hf o];exact h1⟩,h2⟩),fun o o' b hl hl'=>hO.inj o o' b ((z49 (hf o)).1 hl) ((z49 (hf o')).1 hl'),hO.lt⟩;have:=hO.rep o b ((z49 (hf o)).1 hl) hb;rw [zcu hf];exact (zk5 (hf o)).2 this
theorem zgo {h1 h1' h':Nat→AObj}{β':Nat→Option Nat}{w':World}{fr:Nat→Prop}(hf1:∀ o,flat (h1 o)=flat (h o))(hf:∀ o,flat (h1' o)=flat (h' o))(m:Moves h1 h1' β β' Y w w' fr):Moves h h' β β' Y w w' fr:=by
 refine ⟨?_,z9v (fun o=>(hf o).symm) m.objs,m.bmono, ?_,fun o hl=>(m.lmono o ((z49 (hf o)).2 hl)).imp (fun x=>(z49 (hf1 o)).1 x) id⟩
 · have:=m.good;rw [zcu hf1] at this;exact this
 · intro o b hb;have:=m.bnew o b hb
   rwa [zcu hf1] at this
theorem z58 {fr:Nat}{r r0:AR}{s:Sem Next}(hv:r.val=r0.val)(hu:∀ o,flat (over r.upd h o)=flat (over r0.upd (fun o=>flat (h o)) o))(hd:Does P (fun o=>flat (h o)) β Y w fr r0 s):Does P h β Y w fr r s:=by
 obtain ⟨n,v,w',β',h1,h2,h3,h4⟩:=hd;refine ⟨n,v,w',β',h1,h2,zgo (fun o=>z5b _) (fun o=>(hu o).symm) h3, ?_⟩;rw [hv,ze1 hu];exact h4
theorem zg6:∀ {es:List (List WV)} {fs:List (List FV)},zw5 es=some fs→es=fs.map fzs
 | [],fs,h=>by simp only [zw5,Option.some.injEq] at h;subst h;rfl
 | e::r,fs,h=>by
  simp only [zw5] at h;split at h
  · rename_i x l hx hl;injection h with h;subst h
    rw [z7h hx,zg6 hl];rfl
  · cases h
theorem z1r (u:AHeap)(o:Nat):flat (over u (fun o=>flat (h o)) o)=flat (over u h o):=by
 unfold over;split
 · rfl
 · exact z5b _
theorem z1t {k:Nat}{x y:AObj}{u u':AHeap}(hxy:flat x=flat y)(o:Nat)(hu:flat (over u h o)=flat (over u' (fun o=>flat (h o)) o)):flat (over ((k,x)::u) h o)=flat (over ((k,y)::u') (fun o=>flat (h o)) o):=by
 simp only [over,z0r] at hu ⊢;by_cases hk:k=o
 · simp only [hk,if_true];exact hxy
 · simp only [hk,if_false];exact hu
theorem zmg {d:TyD}{x y:TV}{r:AR}(hs:z6z d h x y=some r):∃ r0,z66 d (fun o=>flat (h o)) x y=some r0∧r.val=r0.val∧∀ o,flat (over r.upd h o)=flat (over r0.upd (fun o=>flat (h o)) o):=by
 unfold z6z at hs;split at hs
 · rename_i cs o n i j hcs;split at hs
   · rename_i m fs ho;split at hs
     · rename_i fcs hfcs;split at hs
       · rename_i hc;obtain ⟨hm,hsz⟩:=hc;subst hm;split at hs
         · rename_i e he;split at hs<;>simp only [Option.some.injEq,reduceCtorEq] at hs
           rename_i hfit;subst hs;have hcz:=z7h hfcs;subst hcz;have hl:(fzs fcs).length=fcs.length:=by simp [fzs]
           have hl2:(fzs e).length=e.length:=by simp [fzs]
           refine ⟨⟨.any,[(o, .arr m ((fs.map fzs).set i (splice (fzs e) j (fzs fcs))))],[o]⟩, ?_,rfl,fun k=>z1t ?_ k (z1r [] k).symm⟩
           · unfold z66;simp only [hcs,ho,flat,hl,hsz,and_self,if_true,List.getElem?_map,he,Option.map_some,hl2];rw [hsz] at hfit;rw [if_pos hfit]
           · simp only [flat,List.map_set];congr 1;simp [ze4,splice,fzs]
         · cases hs
       · cases hs
     · cases hs
   · rename_i hno
     have hcong:z66 d (fun o=>flat (h o)) (.c (.a (.ep o n i j))) y=z66 d h (.c (.a (.ep o n i j))) y:=by
      unfold z66;rw [hcs];dsimp only;cases hh:h o with
      | arz m fs=>exact absurd hh (hno m fs)
      | _=>rfl
     refine ⟨r, ?_,rfl,fun k=>(z1r r.upd k).symm⟩;rw [hcong];exact hs
 · cases hs
theorem zoh {n:Nat}{x:TV}{new:List (List FV)}{rd:List Nat}(he:z74 n h x=some (new,rd)):z3s n (fun o=>flat (h o)) x=some (new.map fzs,rd):=by
 unfold z74 at he;split at he
 · simp only [Option.some.injEq,Prod.mk.injEq] at he;obtain ⟨rfl,rfl⟩:=he;rfl
 · split at he
   · rename_i hm;simp only [Option.some.injEq,Prod.mk.injEq] at he;obtain ⟨rfl,rfl⟩:=he;simp [z3s,hm]
   · cases he
 · simp only [Option.some.injEq,Prod.mk.injEq] at he;obtain ⟨rfl,rfl⟩:=he;rfl
 · split at he
   · rename_i m' es ho;split at he
     · rename_i hc;simp only [Option.some.injEq,Prod.mk.injEq] at he;obtain ⟨rfl,rfl⟩:=he;simp [z3s,ho,flat,hc,List.map_take,List.map_drop]
     · cases he
   · cases he
 · cases he
theorem zkv {d:TyD}{fr:Nat}{s x:TV}{r:AR}(ha:z42 d fr h s x=some r):∃ r0,z2n d fr (fun o=>flat (h o)) s x=some r0∧r.val=r0.val∧∀ o,flat (over r.upd h o)=flat (over r0.upd (fun o=>flat (h o)) o):=by
 unfold z42 at ha;split at ha
 · rename_i new rd hel;have hel':=zoh hel;split at ha
   · split at ha
     · rename_i hn;injection ha with ha;subst ha;subst hn
       refine ⟨⟨.c (.a (.fz .N)),[],rd⟩,by unfold z2n;rw [hel'];simp,rfl,fun o=>(z1r [] o).symm⟩
     · rename_i hn;split at ha
       · rename_i hroom;injection ha with ha;subst ha
         refine ⟨⟨.c (.a (.osl fr d.size 0 new.length)),[(fr, .arr d.size (new.map fzs))],rd⟩, ?_,rfl,fun o=>z1t (by rfl) o (z1r [] o).symm⟩;unfold z2n;rw [hel'];simp only [List.map_eq_nil_iff,hn,if_false,List.length_map,hroom,if_true]
       · cases ha
   · split at ha
     · rename_i hn;injection ha with ha;subst ha;subst hn
       refine ⟨⟨_,[],rd⟩,by unfold z2n;rw [hel'];simp,rfl,fun o=>(z1r [] o).symm⟩
     · rename_i hn;split at ha
       · rename_i hroom;injection ha with ha;subst ha
         refine ⟨⟨.c (.a (.osl fr d.size 0 new.length)),[(fr, .arr d.size (new.map fzs))],rd⟩, ?_,rfl,fun o=>z1t (by rfl) o (z1r [] o).symm⟩;unfold z2n;rw [hel'];simp only [List.map_eq_nil_iff,hn,if_false,List.length_map,hroom,if_true]
       · cases ha
   · rename_i o n off len;split at ha
     · rename_i m fs ho;split at ha
       · rename_i hc;injection ha with ha;subst ha
         refine ⟨⟨.c (.a (.osl fr d.size 0 (len+new.length))),[(o, .gone),(fr, .arr d.size ((fs.map fzs).take len++new.map fzs))],o::rd⟩, ?_,rfl,fun k=>z1t (by rfl) k (z1t ?_ k (z1r [] k).symm)⟩
         · unfold z2n;rw [hel'];simp only [ho,flat,List.length_map];rw [if_pos hc]
         · simp [flat,List.map_take]
       · cases ha
     · exact ⟨r,ha,rfl,fun k=>(z1r r.upd k).symm⟩
   · cases ha
 · exact ⟨r,ha,rfl,fun k=>(z1r r.upd k).symm⟩
theorem z52 (hO:Objs h β Y w):∀ (G:AHeap),(∀ p∈G,p.2= .gone)→Moves h (over G h) β β Y w w (fun _=>False)
 | [],_=>Moves.refl hO (fun _=>rfl)
 | (o,x)::G,hG=>by
  have hx:x= .gone:=hG (o,x) (by simp);subst hx;have m1:=z52 hO G (fun p hp=>hG p (List.mem_cons_of_mem _ hp));have m2:=zbd m1.objs o;have m:=m1.trans m2 (fun _ h=>h.elim) hO (f:=fun _=>False) (fun _ h=>h.elim) (fun _ h=>h.elim)
  have:over ((o, .gone)::G) h=upd (over G h) o .gone:=by
   funext k
   simp only [over,z0r,upd];by_cases e:o=k
   · subst e;simp
   · simp [e,show¬k=o from fun h=>e h.symm]
  rw [this];exact m
theorem zki:∀ {G:AHeap} {o:Nat},(∀ p∈G,p.2= .gone)→(o,AObj.gone)∈G→over G h o= .gone:=by
 intro G o hG hm;simp only [over];cases hf:z0r G o with
 | some x=>exact hG _ (z7c hf)
 | none=>
  exfalso
  induction G with
  | nil=>cases hm
  | cons p G ih=>
   obtain ⟨k,y⟩:=p;simp only [z0r] at hf;split at hf
   · cases hf
   · rename_i e;rcases List.mem_cons.1 hm with h1 | h1
     · injection h1 with h1 h2;exact e h1.symm
     · exact ih (fun p hp=>hG p (List.mem_cons_of_mem _ hp)) h1 hf
theorem zg (x:WV):∀ p∈(za7 h x).2,p.2=AObj.gone:=by
 intro p hp;unfold za7 at hp;split at hp
 · split at hp
   · split at hp
     · simp only [List.mem_singleton] at hp;rw [hp]
     · cases hp
   · cases hp
 · cases hp
theorem zf8:∀ (l:List WV),∀ p∈(z57 h l).2,p.2=AObj.gone
 | [],p,hp=>by cases hp
 | x::r,p,hp=>by
  simp only [z57,List.mem_append] at hp;rcases hp with hp | hp
  · exact zg x p hp
  · exact zf8 r p hp
theorem zrn (x:TV):∀ p∈(zc9 h x).2,p.2=AObj.gone:=by
 intro p hp;cases x with
 | c x=>exact zg x p hp
 | agg cs=>exact zf8 cs p hp
 | any=>cases hp
 | tup _=>cases hp
theorem zaz:∀ (l:List (Nat×TV)),∀ p∈(z5f h l).2,p.2=AObj.gone
 | [],p,hp=>by cases hp
 | (i,x)::r,p,hp=>by
  simp only [z5f,List.mem_append] at hp;rcases hp with hp | hp
  · exact zrn x p hp
  · exact zaz r p hp
theorem ztc (hO:Objs h β Y w){G:AHeap}(hG:∀ p∈G,p.2=AObj.gone){x:TV}(hsub:∀ p∈(zc9 h x).2,p∈G){v:Value}(hx:TRep w (XO Y h β) β x v):TRep w (XO Y (over G h) β) β (zc9 h x).1 v:=by
 have m:=z52 hO G hG;have hgoes:=m.goes hO (fun _ h=>h.elim)
 have hZ:∀ b,¬XO Y h β b→¬XO Y (over G h) β b:=by
  intro b hb hb';rcases hb' with hb' | ⟨o,h1,h2⟩
  · exact hb (.inl hb')
  · rcases m.lmono o h1 with h3 | h3
    · exact hb (.inr ⟨o,h3,h2⟩)
    · exact h3
 have hW:∀ c u,(∀ p∈(za7 h c).2,p∈G)→WRep w (XO Y h β) β c u→WRep w (XO Y (over G h) β) β (za7 h c).1 u:=by
  intro c u hs hr;unfold za7 at hs ⊢;split
  · rename_i o n off len;split
    · rename_i m' fs ho;simp only [ho] at hs;by_cases hc:n=m'∧off+len≤fs.length
      · rw [if_pos hc] at hs ⊢;cases hr with
        | a _ _ hr=>
         refine .a _ _ (.fz _ _ (zo5 hO hZ (by rw [ho];rfl) hc.1 hc.2 (fun b hb hb'=> ?_) hr));rcases hb' with hy | ⟨o',h1,h2⟩
         · exact (hO.here (by rw [ho];trivial) hb).2 hy
         · have hl:=(m.lmono o' h1).resolve_right id;have:o'=o:=hO.inj o' o b hl (by rw [ho];trivial) h2 hb;subst this;rw [zki hG (hs (o', .gone) (by simp))] at h1;exact h1
      · rw [if_neg hc];exact hr.goes hgoes
    · exact hr.goes hgoes
  · exact hr.goes hgoes
 have hWs:∀ (l:List WV) (us:List Value),(∀ p∈(z57 h l).2,p∈G)→LRep (WRep w (XO Y h β) β) l us→LRep (WRep w (XO Y (over G h) β) β) (z57 h l).1 us:=by
  intro l
  induction l with
  | nil=>intro us _ hl;rw [hl.nil_inv];exact .nil
  | cons c l ih=>
   intro us hs hl;obtain ⟨u,us',rfl,h1,h2⟩:=hl.cons_inv;exact .cons (hW c u (fun p hp=>hs p (by simp [z57,hp])) h1) (ih us' (fun p hp=>hs p (by simp [z57,hp])) h2)
 cases x with
 | any=>trivial
 | c x=>exact hW x v hsub hx
 | agg cs=>obtain ⟨us,h1,h2⟩:=hx;exact ⟨us,h1,hWs cs us hsub h2⟩
 | tup vs=>exact TRep.goes (f:= .tup vs) hx hgoes
theorem zcy (hO:Objs h β Y w){G:AHeap}(hG:∀ p∈G,p.2=AObj.gone):∀ (l:List (Nat×TV)) (vals:List (Nat×Value)),(∀ p∈(z5f h l).2,p∈G)→
  (∀ (j:Nat) (p:Nat×TV) (v:Nat×Value),l[j]? =some p→vals[j]? =some v→p.1=v.1∧TRep w (XO Y h β) β p.2 v.2)→
  (z5f h l).1.length=l.length∧∀ (j:Nat) (p:Nat×TV) (v:Nat×Value),(z5f h l).1[j]? =some p→vals[j]? =some v→p.1=v.1∧TRep w (XO Y (over G h) β) β p.2 v.2
 | [],vals,_,_=>⟨rfl,fun j p v hp _=>by simp [z5f] at hp⟩
 | (i,x)::l,vals,hs,hr=>by
  obtain ⟨h1,h2⟩:=zcy hO hG l (vals.drop 1) (fun p hp=>hs p (by simp [z5f,hp])) (fun j p v hp hv=>hr (j+1) p v (by simpa using hp) (by rw [List.getElem?_drop] at hv;rw [Nat.add_comm];exact hv));refine ⟨by simp [z5f,h1],fun j p v hp hv=> ?_⟩;cases j with
  | zero=>
   simp only [z5f,List.getElem?_cons_zero,Option.some.injEq] at hp;subst hp;obtain ⟨g1,g2⟩:=hr 0 _ v rfl hv;exact ⟨g1,ztc hO hG (fun p hp=>hs p (by simp [z5f,hp])) g2⟩
  | succ j=>
   simp only [z5f,List.getElem?_cons_succ] at hp;exact h2 j p v hp (by rw [List.getElem?_drop,Nat.add_comm];exact hv)
theorem zge {fr:Nat}{G:AHeap}{r:AR}{s:Sem Next}{rd:List Nat}(hO:Objs h β Y w)(hG:∀ p∈G,p.2=AObj.gone)(hd:Does P (over G h) β Y w fr r s)(u:AHeap)(hu:∀ o,flat (over u h o)=flat (over r.upd (over G h) o)):Does P h β Y w fr ⟨r.val,u,rd⟩ s:=by
 obtain ⟨n,v,w',β',h1,h2,h3,h4⟩:=hd;have m:=(z52 hO G hG).trans h3 (fun _ h=>h.elim) hO (f:=fun k=>k=fr) (fun _ h=>h.elim) (fun _ h=>h);refine ⟨n,v,w',β',h1,h2,zgo (fun _=>rfl) (fun o=>(hu o).symm) m, ?_⟩;rw [ze1 hu];exact h4
theorem z9e (r:AR):∀ o,flat (over (z2c r).upd h o)=flat (over r.upd h o):=by
 intro o;unfold z2c;split
 · rename_i k n es hu;split
   · rename_i fs hfs;rw [hu,zg6 hfs];simp only [over,z0r];by_cases hk:k=o
     · simp only [hk,if_true];rfl
     · simp only [hk,if_false]
   · rfl
 · rfl
theorem za6 (r:AR):(z2c r).val=r.val:=by
 unfold z2c;split
 · split<;>rfl
 · rfl
theorem zdp {h:Nat→AObj}{x:TV}{o:Nat}{es:List MapZ}(hm:z5k h x=some (o,es)):z8d (fun o=>flat (h o)) x=some (o,es.map thaw):=by
 unfold z5k at hm;split at hm
 · split at hm<;>simp only [Option.some.injEq,reduceCtorEq,Prod.mk.injEq] at hm
   rename_i es' ho;obtain ⟨rfl,rfl⟩:=hm;simp only [z8d,ho,flat]
 · cases hm
theorem zl2 {m:(Bool×List EK)×(Bool×List WV)}{h:Nat→AObj}{x key:TV}{ok:Bool}{r:AR}(hl:z4p m h x key ok=some r):z55 m (fun o=>flat (h o)) x key ok=some r:=by
 unfold z4p at hl;split at hl
 · rename_i oe hoe;obtain ⟨o,es⟩:=oe;have hm:=zdp hoe;unfold z55;split at hl
   · rename_i k hk;simp only [hm];unfold findZ at hl;split at hl
     · rename_i l hq;obtain ⟨v,hv,rfl⟩:=Option.map_eq_some_iff.1 hl;split at hq<;>simp only [Option.some.injEq,reduceCtorEq] at hq
       rename_i i hf;split at hq
       · rename_i e he;split at hq<;>simp only [Option.some.injEq,reduceCtorEq] at hq
         rename_i hag;subst hq;have he':(es.map thaw)[i]? =some (thaw e):=by rw [List.getElem?_map,he];rfl
         simp only [hf,zue,he'];have:(thaw e).2=(m.2.1,fzs e.2.2):=by rw [←hag];rfl
         rw [this,hv];rfl
       · cases hq
     · rename_i hq;obtain ⟨v,hv,rfl⟩:=Option.map_eq_some_iff.1 hl;split at hq
       · split at hq
         · split at hq<;>simp at hq
         · cases hq
       · rename_i hf;simp only [hf,zue,hv,Option.map_some]
       · cases hq
     · cases hl
   · cases hl
 · exact hl
theorem zdr {m:(Bool×List EK)×(Bool×List WV)}{h:Nat→AObj}{x key y:TV}{r:AR}(hl:z1y m h x key y=some r):
  ∃ r0,z1p m (fun o=>flat (h o)) x key y=some r0∧r.val=r0.val∧∀ k,flat (over r.upd h k)=flat (over r0.upd (fun o=>flat (h o)) k):=by
 unfold z1y at hl;split at hl
 · rename_i oe hoe;obtain ⟨o,es⟩:=oe;have hm:=zdp hoe;split at hl
   · rename_i k rw_ hk hrw;split at hl
     · rename_i fr hfr;obtain ⟨es',hes,rfl⟩:=Option.map_eq_some_iff.1 hl;unfold updZ at hes;have hr:(rw_.1,fzs fr)=rw_:=by rw [←z7h hfr]
       have go:∀ q,z6c m.1 k (es.map thaw) 0=some q→es'.map thaw=updE m k rw_ (es.map thaw) q→∃ r0,z1p m (fun o=>flat (h o)) x key y=some r0∧(TV.any)=r0.val∧∀ k,flat (over [(o, .mapz es')] h k)=flat (over r0.upd (fun o=>flat (h o)) k):=by
        intro q hf he;refine ⟨⟨.any,[(o, .mapo (updE m k rw_ (es.map thaw) q))],[o]⟩, ?_,rfl,fun j=> ?_⟩
        · simp only [z1p,hk,hrw,hm,hf]
        · simp only [z2h,upd];split
          · show AObj.mapo (es'.map thaw)=_;rw [he];rfl
          · exact (z5b _).symm
       split at hes<;>simp only [Option.some.injEq,reduceCtorEq] at hes
       · rename_i i hf;subst hes;exact go _ hf (by rw [List.map_set,show thaw ((m.1.1,k),(rw_.1,fr))=((m.1.1,k),rw_) by show ((m.1.1,k),(rw_.1,fzs fr))=_;rw [hr]];rfl)
       · rename_i hf;subst hes;exact go _ hf (by rw [List.map_append,List.map_cons,show thaw ((m.1.1,k),(rw_.1,fr))=((m.1.1,k),rw_) by show ((m.1.1,k),(rw_.1,fzs fr))=_;rw [hr]];rfl)
     · cases hl
   · cases hl
 · refine ⟨r,hl,rfl,fun k=> ?_⟩;exact (z1r r.upd k).symm
theorem z9a (a b:AHeap)(o:Nat):over (a++b) h o=over a (over b h) o:=by
 simp only [over,z7g];cases z0r a o<;>rfl
theorem zvs (hO:Objs h β Y w)(hY:∀ b,Y b→b<w.heap.size){fr:Nat}(hfr:β fr=none){o:Oper}{ρ:Operand→TV}{ev:Operand→Value}{r:AR}(hρ:∀ x,TRep w (XO Y h β) β (ρ x) (ev x))(ha:aopF P o fr ρ h=some r):
  Does P h β Y w fr r (execOp ev o):=by
 have hOf:Objs (fun o=>flat (h o)) β Y w:=z9v (fun o=>z5b _) hO;have hXf:XO Y (fun o=>flat (h o)) β=XO Y h β:=ze1 (fun o=>z5b _);have hρf:∀ x,TRep w (XO Y (fun o=>flat (h o)) β) β (ρ x) (ev x):=fun x=>by rw [hXf];exact hρ x
 have gen:∀ {r:AR},aop P o fr ρ (fun o=>flat (h o))=some r→Does P h β Y w fr r (execOp ev o):=fun {r} ha=>
  z58 rfl (fun k=>(z1r r.upd k).symm) (z6a hOf hY hfr hρf ha)
 obtain ⟨d,op,t,p,af,g⟩:=o;unfold aopF at ha;dsimp only at ha;split at ha
 · rename_i st x y;obtain ⟨dd,hd,hs⟩:=z0e ha;obtain ⟨r0,h1,h2,h3⟩:=zmg hs;have:=z6a (P:=P) (o:=⟨d, .store st x y,t,p,af,g⟩) hOf hY hfr hρf (r:=r0) (by simp only [aop,z1k,hd];exact h1);exact z58 h2 h3 this
 · rename_i b args ts;unfold z2s at ha;split at ha
   · rename_i t1 t2 s x hts hargs;split at ha
     · rename_i htt;obtain ⟨dd,e,de,hd,hk,hde,hap⟩:=z0y ha;unfold zcm at hap;split at hap
       · rename_i hc;obtain ⟨r0,h1,h2,h3⟩:=zkv hap
         have h0:aop P ⟨d, .call ⟨.builtin .append,args,ts⟩,t,p,af,g⟩ fr ρ (fun o=>flat (h o))=some r0:=by
          simp only [aop,hargs,hts,z37];rw [if_pos htt];unfold z1e;rw [hd];dsimp only;rw [hk];dsimp only;rw [hde];dsimp only;unfold z97;rw [if_pos hc];exact h1
         exact z58 h2 h3 (z6a hOf hY hfr hρf h0)
       · cases hap
     · rename_i htt;obtain ⟨dd,e,de,hd,hk,hde,hap⟩:=z0y ha;obtain ⟨r0,hr0,rfl⟩:=Option.map_eq_some_iff.1 hap
       have h0:aop P ⟨d, .call ⟨.builtin .append,args,ts⟩,t,p,af,g⟩ fr ρ (fun o=>flat (h o))=some r0:=by
        simp only [aop,hargs,hts,z37];rw [if_neg htt];unfold z1e;rw [hd];dsimp only;rw [hk];dsimp only;rw [hde];exact hr0
       have e1:(z2c r0).val=r0.val:=za6 r0;refine z58 (r0:=r0) e1 (fun k=> ?_) (z6a hOf hY hfr hρf h0);rw [z9e];exact (z1r r0.upd k).symm
   · exact gen ha
 · rename_i st len parts;obtain ⟨r1,hr1,rfl⟩:=Option.map_eq_some_iff.1 ha;obtain ⟨dd,e,de,hd,hk,hde,hb⟩:=z0y hr1;have hGg:=zaz (h:=h) (parts.toList.map fun p=>(p.1,ρ p.2));have hparts:=zcy hO hGg (parts.toList.map fun p=>(p.1,ρ p.2)) ((parts.map fun (i,x)=>(i,ev x)).toList) (fun _ h=>h) (z9k (w:=w) (β:=β) hρ parts);have m:=z52 hO _ hGg;have hd':=z72 m.objs hY hfr (parts:=(z5f h (parts.toList.map fun p=>(p.1,ρ p.2))).1) (vals:=parts.map fun (i,x)=>(i,ev x)) (by rw [hparts.1];simp) hparts.2 hd hk hde hb;refine zge (r:=⟨(z2c r1).val,r1.upd,r1.rd⟩) hO hGg ?_ _ (fun o=> ?_)
   · rw [za6];exact hd'
   · rw [z9a];exact z9e r1 o
 · rename_i bt parts;obtain ⟨v,hv,rfl⟩:=Option.map_eq_some_iff.1 ha;obtain ⟨dd,hd,hb⟩:=z0e hv;have hGg:=zaz (h:=h) (parts.toList.map fun p=>(p.1,ρ p.2));have hparts:=zcy hO hGg (parts.toList.map fun p=>(p.1,ρ p.2)) ((parts.map fun (i,x)=>(i,ev x)).toList) (fun _ h=>h) (z9k (w:=w) (β:=β) hρ parts);have m:=z52 hO _ hGg;refine zge (r:=⟨v,[],[]⟩) hO hGg (z3g m.objs ?_) _ (fun o=>by simp [over_nil]);exact zg5 hd (by rw [hparts.1];simp) hparts.2 hb
 · rename_i st l c;obtain ⟨dd,e,de,hd,hk,hde,hb⟩:=z0y ha;obtain ⟨q,hq,rfl⟩:=Option.map_eq_some_iff.1 hb
   have:=z6a (P:=P) (o:=⟨d, .makeSlice st l c,t,p,af,g⟩) hOf hY hfr hρf (r:=⟨.c (.a (.osl fr de.size 0 q.1)),[(fr, .arr de.size (List.replicate q.1 (fzs q.2)))],[]⟩) (by
    simp only [aop];unfold z1e;rw [hd];dsimp only;rw [hk];dsimp only;rw [hde];dsimp only;rw [hq];rfl)
   refine z58 (r0:=⟨.c (.a (.osl fr de.size 0 q.1)),[(fr, .arr de.size (List.replicate q.1 (fzs q.2)))],[]⟩) rfl (fun k=>z1t ?_ k (z1r [] k).symm) this;show AObj.arr de.size ((List.replicate q.1 q.2).map fzs)=AObj.arr de.size (List.replicate q.1 (fzs q.2));rw [List.map_replicate]
 · rename_i lt x ix ok;obtain ⟨m,hm,hl⟩:=z1l ha;exact gen (by simp only [aop,z2q,hm];exact zl2 hl)
 · rename_i mt x k v;obtain ⟨m,hm,hl⟩:=z1l ha;obtain ⟨r0,h1,h2,h3⟩:=zdr hl;have:=z6a (P:=P) (o:=⟨d, .mapUpdate mt x k v,t,p,af,g⟩) hOf hY hfr hρf (r:=r0) (by simp only [aop,z2q,hm];exact h1);exact z58 h2 h3 this
 · rename_i mt;injection ha with ha;subst ha
   have:=z6a (P:=P) (o:=⟨d, .makeMap mt none,t,p,af,g⟩) hOf hY hfr hρf (r:=⟨.c (.a (.mp fr)),[(fr, .mapo [])],[]⟩) rfl;exact z58 (r0:=⟨.c (.a (.mp fr)),[(fr, .mapo [])],[]⟩) rfl (fun k=>z1t (x:= .mapz []) (y:= .mapo []) rfl k (z1r [] k).symm) this
 · exact gen ha
theorem zsh (hO:Objs h β Y w) (hgl:Gl P w (Own h β)) (hY:∀ b,Y b→b<w.heap.size) {fr:Nat} (hfr:∀ j,j<32→β (fr+j)=none) {f:FuncId} {args:List TV} {vals:List Value} {K:TV→AHeap→List Nat→Prop}
  (hl:LRep (TRep w (XO Y h β) β) args vals) (hK:CallE P f args h fr K):
  z31 P f=true∧∃ r upd rd,K r upd rd∧Calls P f vals.toArray w fun e w'=> ∃ v β',e= .returned v∧Moves h (over upd h) β β' Y w w' (fun o=>fr≤o∧o<fr+32)∧TRep w' (XO Y (over upd h) β') β' r v:=by
 obtain ⟨E,hE,hC⟩:=hK
 have hG:∀ p∈E.map (fun p=>(p.1,AObj.gone)),p.2=AObj.gone:=by
  intro p hp;obtain ⟨q,_,rfl⟩:=List.mem_map.1 hp;rfl
 have m:=z52 hO _ hG
 have hZ:∀ b,¬XO Y h β b→¬XO Y (over (E.map fun p=>(p.1,AObj.gone)) h) β b:=by
  intro b hb hb';rcases hb' with hb' | ⟨o,h1,h2⟩
  · exact hb (.inl hb')
  · rcases m.lmono o h1 with h3 | h3
    · exact hb (.inr ⟨o,h3,h2⟩)
    · exact h3
 have hLZ:∀ p∈E,∀ b,β p.1=some b→¬XO Y (over (E.map fun p=>(p.1,AObj.gone)) h) β b:=by
  intro p hp b hb hb';have hlp:isLive (h p.1):=by rw [←z30,hE p hp];trivial
  rcases hb' with hy | ⟨o',h1,h2⟩
  · exact (hO.here hlp hb).2 hy
  · have hl:=(m.lmono o' h1).resolve_right id;have:o'=p.1:=hO.inj o' p.1 b hl hlp h2 hb;subst this;rw [zki hG (List.mem_map.2 ⟨p,hp,rfl⟩)] at h1;exact h1
 have hl':LRep (TRep w (XO Y (over (E.map fun p=>(p.1,AObj.gone)) h) β) β) (args.map (TV.lend E)) vals:=hl.map fun c u _ hr=>z7s hO hE hZ hLZ hr;obtain ⟨hent,r,u,rd,hk,hcall⟩:=zus m.objs (hgl.sub fun b ⟨o,h1,h2⟩=>⟨o,(m.lmono o h1).resolve_right id,h2⟩) hY hfr hl' hC;refine ⟨hent,r,_,_,hk,hcall.mono fun e w' ⟨v,β',h1,h2,h3⟩=>⟨v,β',h1, ?_, ?_⟩⟩
 · have m2:=m.trans h2 (fun _ h=>h.elim) hO (f:=fun o=>fr≤o∧o<fr+32) (fun _ h=>h.elim) (fun _ h=>h);have:over (u++E.map fun p=>(p.1,AObj.gone)) h=over u (over (E.map fun p=>(p.1,AObj.gone)) h):=funext fun o=>z9a _ _ o;rw [this];exact m2
 · have:over (u++E.map fun p=>(p.1,AObj.gone)) h=over u (over (E.map fun p=>(p.1,AObj.gone)) h):=funext fun o=>z9a _ _ o;rw [this];exact h3
end
end Go.AM

namespace Go.AM
def WSoft (x y:WV):Prop:=x=y∨(x= .a (.fz .N)∧∃ o n off,y= .a (.osl o n off 0))
def ESoft (a b:List WV):Prop:=a.length=b.length∧∀ (j:Nat) (x y:WV),a[j]? =some x→b[j]? =some y→WSoft x y
theorem WSoft.rep {w:World}{X:Nat→Prop}{β:Nat→Option Nat}{x y:WV}{v:Value}(h:WSoft x y)(hr:WRep w X β x v):WRep w X β y v:=by
 rcases h with rfl | ⟨rfl,o,n,off,rfl⟩
 · exact hr
 · rw [TRep.nils_inv (X:=X) (β:=β) hr];exact .a _ _ (.oslN o n off)
theorem ESoft.refl (a:List WV):ESoft a a:=⟨rfl,fun j x y hx hy=>by rw [hx] at hy;injection hy with hy;exact .inl hy⟩
theorem ESoft.trans {a b c:List WV}(h:ESoft a b)(k:ESoft b c):ESoft a c:=by
 refine ⟨h.1.trans k.1,fun j x z hx hz=> ?_⟩;have hj:j<b.length:=by rw [←h.1];exact (List.getElem?_eq_some_iff.1 hx).1
 have hy:=List.getElem?_eq_getElem hj;rcases h.2 j x _ hx hy with e1 | ⟨e1,o,n,off,e2⟩
 · rw [e1];exact k.2 j _ z hy hz
 · rcases k.2 j _ z hy hz with e3 | ⟨e3,_⟩
   · exact .inr ⟨e1,o,n,off,by rw [←e3,e2]⟩
   · rw [e2] at e3;cases e3
theorem ESoft.set {cs:List WV}{j o n:Nat}(h:cs.getD j (cell (.bool true))= .a (.fz .N)):ESoft cs (cs.set j (.a (.osl o n 0 0))):=by
 refine ⟨by simp,fun i x y hx hy=> ?_⟩;rw [List.getElem?_set] at hy;split at hy
 · rename_i e;subst e;split at hy
   · injection hy with hy
     simp only [List.getD,hx,Option.getD_some] at h;exact .inr ⟨h,o,n,0,hy.symm⟩
   · cases hy
 · rw [hx] at hy;injection hy with hy;exact .inl hy
theorem z82:∀ (l:List (Nat×Nat)) (fr:Nat) (cs:List WV),ESoft cs (zdl l fr cs)
 | [],fr,cs=> .refl cs
 | (j,n)::l,fr,cs=>by
  unfold zdl;split
  · rename_i h;exact (ESoft.set h).trans (z82 l _ _)
  · exact z82 l _ _
theorem zei:∀ {l:List (Nat×Nat)} {fr:Nat} {p:Nat×AObj},p∈zny l fr→bareO p.2∧fr≤p.1∧p.1<fr+l.length
 | (j,n)::l,fr,p,h=>by
  rcases List.mem_cons.1 h with rfl | h
  · exact ⟨⟨n,rfl⟩,Nat.le_refl _,by simp⟩
  · have:=zei h;exact ⟨this.1,by omega,by simp;omega⟩
 | [],_,_,h=>by cases h
section
variable {P:Program} {h h':Nat→AObj} {β:Nat→Option Nat} {Y:Nat→Prop} {w:World}
def ObjSoft (a b:AObj):Prop:=a=b∨∃ n es es',a= .arr n es∧b= .arr n es'∧es.length=es'.length∧∀ (i:Nat) (e e':List WV),es[i]? =some e→es'[i]? =some e'→ESoft e e'
theorem ObjSoft.rep {X:Nat→Prop}{a b:AObj}{k:Nat}(hs:ObjSoft a b)(hr:ORep w X β a k):ORep w X β b k:=by
 rcases hs with rfl | ⟨n,es,es',rfl,rfl,hl,he⟩
 · exact hr
 · obtain ⟨us,t,h1,h2,h3,h4⟩:=hr
   have back:∀ {i:Nat} {e':List WV},es'[i]? =some e'→∃ e,es[i]? =some e∧ESoft e e':=by
    intro i e' he';have hi:i<es.length:=by have:=(List.getElem?_eq_some_iff.1 he').1;omega
    exact ⟨es[i],List.getElem?_eq_getElem hi,he i _ _ (List.getElem?_eq_getElem hi) he'⟩
   refine ⟨us,t,h1,by rw [←hl];exact h2,fun e' he'=> ?_,fun i j e' c' he' hc'=> ?_⟩
   · obtain ⟨i,hi⟩:=List.getElem?_of_mem he';obtain ⟨e,h5,h6⟩:=back hi;rw [←h6.1];exact h3 e (List.mem_of_getElem? h5)
   · obtain ⟨e,h5,h6⟩:=back he';have hj:j<e.length:=by rw [h6.1];exact (List.getElem?_eq_some_iff.1 hc').1
     obtain ⟨u,hu,hr⟩:=h4 i j e _ h5 (List.getElem?_eq_getElem hj);exact ⟨u,hu,(h6.2 j _ _ (List.getElem?_eq_getElem hj) hc').rep hr⟩
theorem ObjSoft.live {a b:AObj}(hs:ObjSoft a b):isLive a↔isLive b:=by
 rcases hs with rfl | ⟨n,es,es',rfl,rfl,_⟩<;>exact Iff.rfl
theorem ObjSoft.bare {a b:AObj}(hs:ObjSoft a b)(hb:bareO a):bareO b:=by
 rcases hs with rfl | ⟨n,es,es',rfl,rfl,hl,_⟩
 · exact hb
 · obtain ⟨m,hm⟩:=hb;simp only [flat,AObj.arr.injEq] at hm;have:es'=[]:=List.eq_nil_of_length_eq_zero (by rw [←hl,hm.2];rfl);exact ⟨n,by rw [this];rfl⟩
theorem zs0 (hO:Objs h β Y w){F:Nat→Prop}(hs:∀ o,isLive (h' o)→(isLive (h o)∧ObjSoft (h o) (h' o))∨(bareO (h' o)∧β o=none∧F o)):Moves h h' β β Y w w F:=by
 have hn:∀ k b,isLive (h' k)→β k=some b→isLive (h k)∧ObjSoft (h k) (h' k):=fun k b hk hb=>(hs k hk).resolve_right fun e=>by rw [e.2.1] at hb;cases hb
 have hg:Goes w w (XO Y h β) (XO Y h' β) β β:=by
  refine ⟨Nat.le_refl _,fun b hx hk=>⟨rfl,fun hx'=> ?_⟩,fun _ _=>rfl,fun o b hb=>⟨hb,hO.lt o b hb⟩⟩;rcases hx' with hy | ⟨o',hl',ho'⟩
  · exact hx (.inl hy)
  · exact hx (.inr ⟨o',(hn o' _ hl' ho').1,ho'⟩)
 refine ⟨Good.refl _ _,⟨fun o b hl hb=> ?_,fun o hl=> ?_,fun o1 o2 b hl1 hl2 hb1 hb2=>hO.inj o1 o2 b (hn o1 _ hl1 hb1).1 (hn o2 _ hl2 hb2).1 hb1 hb2,hO.lt⟩,fun _ _ h=>h,fun _ _ h=> .inl h,fun k hk=>(hs k hk).elim (fun h=> .inl h.1) fun h=> .inr h.2.2⟩
 · have:=hn o b hl hb;exact this.2.rep ((hO.rep o b this.1 hb).goes hg rfl)
 · rcases hs o hl with ⟨h1,h2⟩ | ⟨h1,h2,_⟩
   · rcases hO.has o h1 with h3 | ⟨h3,h4⟩
     · exact .inl h3
     · exact .inr ⟨h2.bare h3,h4⟩
   · exact .inr ⟨h1,h2⟩
def SoftR (fr:Nat)(r r':AR):Prop:=r'=r∨(∃ k X X' ex,r.upd=[(k,X)]∧r'.upd=(k,X')::ex∧ObjSoft X X'∧∀ p∈ex,bareO p.2∧fr+1≤p.1∧p.1<fr+32)∧r'.val=r.val
theorem z5q {fr:Nat}{r:AR}(l:List (Nat×Nat)):SoftR fr r (z4l l fr r):=by
 unfold z4l;split
 · rename_i k m cs hu hl;refine .inr ⟨⟨k,_,_,_,hu,rfl, .inr ⟨m,[cs],_,rfl,rfl,rfl,fun i e e' he he'=> ?_⟩,fun p hp=> ?_⟩,rfl⟩
   · cases i with
     | zero=>simp at he he';subst he;subst he';exact z82 _ _ _
     | succ i=>simp at he
   · have:=zei hp;have hl:=Nat.le_of_ble_eq_true hl;exact ⟨this.1,this.2.1,by omega⟩
 · exact .inl rfl
theorem zft {e:TypeId}{fr:Nat}{r:AR}:SoftR fr r (zsk P e fr r):=by
 unfold zsk;split
 · split
   · split
     · exact z5q _
     · exact z5q _
     · exact .inl rfl
   · split
     · split
       · exact z5q _
       · exact .inl rfl
     · exact .inl rfl
   · exact .inl rfl
 · exact .inl rfl
theorem zsl {o:Oper}{fr:Nat}{ρ:Operand→TV}{r:AR}:SoftR fr r (zap P o fr ρ h r):=by
 unfold zap;split
 · exact zft
 · exact zft
 · unfold zaf;split
   · split
     · split
       · split
         · rename_i hold hnew;refine .inr ⟨⟨_,_,_,_,by assumption,rfl, .inr ⟨_,_,_,rfl,rfl,by simp,fun i e e' he he'=> ?_⟩,fun p hp=> ?_⟩,rfl⟩
           · rw [List.getElem?_set] at he';split at he'
             · rename_i e1;subst e1;split at he'
               · injection he' with he'
                 subst he';simp only [List.getD,he,Option.getD_some] at hnew ⊢;exact ESoft.set hnew
               · cases he'
             · rw [he] at he';injection he' with he';subst he';exact .refl _
           · simp only [List.mem_singleton] at hp;subst hp;exact ⟨⟨_,rfl⟩,Nat.le_refl _,by omega⟩
         · exact .inl rfl
       · exact .inl rfl
     · exact .inl rfl
   · exact .inl rfl
 · exact .inl rfl
theorem zqd {e:TypeId}{fr:Nat}{r:AR}:(zsk P e fr r).rd=r.rd:=by
 unfold zsk;split
 · split
   · split
     · unfold z4l;split<;>rfl
     · unfold z4l;split<;>rfl
     · rfl
   · split
     · split
       · unfold z4l;split<;>rfl
       · rfl
     · rfl
   · rfl
 · rfl
theorem softA_rd {o:Oper}{fr:Nat}{ρ:Operand→TV}{r:AR}:(zap P o fr ρ h r).rd=r.rd:=by
 unfold zap;split
 · exact zqd
 · exact zqd
 · unfold zaf;split
   · split
     · split
       · split<;>rfl
       · rfl
     · rfl
   · rfl
 · rfl
theorem zrq {o:Oper}{fr:Nat}{ρ:Operand→TV}{r:AR}(hh:∀ k∈r.rd,h' k=h k):zap P o fr ρ h' r=zap P o fr ρ h r:=by
 unfold zap;split
 · rfl
 · rfl
 · unfold zaf;split
   · split
     · rename_i hc;simp only [List.contains_eq_mem,decide_eq_true_eq] at hc;rw [hh _ hc]
     · rfl
   · rfl
 · rfl
theorem zn1 {o:Oper}{fr:Nat}{ρ ρ':Operand→TV}{r:AR}(hp:∀ x∈o.op.operands,ρ' x=ρ x):zap P o fr ρ' h r=zap P o fr ρ h r:=by
 unfold zap;split
 · rfl
 · rfl
 · rename_i t x y ho;rw [ho] at hp;rw [hp x (by simp [Op.operands]),hp y (by simp [Op.operands])]
 · rfl
theorem zwe (hO:Objs h β Y w)(hY:∀ b,Y b→b<w.heap.size){fr:Nat}(hfr:∀ j,j<32→β (fr+j)=none){o:Oper}{ρ:Operand→TV}{ev:Operand→Value}{r:AR}(hρ:∀ x,TRep w (XO Y h β) β (ρ x) (ev x))(ha:aopS P o fr ρ h=some r):
  ∃ n v w' β',(execOp ev o).run P w= .ok n w'∧(n= .value v∨(n= .skip∧v=undef))∧Moves h (over r.upd h) β β' Y w w' (fun k=>fr≤k∧k<fr+32)∧TRep w' (XO Y (over r.upd h) β') β' r.val v:=by
 obtain ⟨r0,h0,rfl⟩:=Option.map_eq_some_iff.1 ha;have hfr0:β fr=none:=hfr 0 (by omega);obtain ⟨n,v,w',β',g1,g2,g3,g4⟩:=zvs hO hY hfr0 hρ h0;have g3':=g3.weaken (fr':=fun k=>fr≤k∧k<fr+32) (fun k hk=>⟨by omega,by omega⟩);rcases zsl (P:=P) (h:=h) (o:=o) (fr:=fr) (ρ:=ρ) (r:=r0) with e | ⟨⟨k,X,X',ex,e1,e2,e3,e4⟩,e5⟩
 · rw [e];exact ⟨n,v,w',β',g1,g2,g3',g4⟩
 · have hnone:∀ j,j<32→0<j→β' (fr+j)=none:=by
    intro j hj hj0;cases hb:β' (fr+j) with
    | none=>rfl
    | some b=>
     rcases g3.bnew _ b hb with h1 | ⟨h1,_⟩
     · rw [hfr j hj] at h1;cases h1
     · omega
   have m2:Moves (over r0.upd h) (over (zap P o fr ρ h r0).upd h) β' β' Y w' w' (fun k=>fr+1≤k∧k<fr+32):=by
    refine zs0 g3.objs fun o2 hl=> ?_;rw [e1,e2];rw [e2] at hl;simp only [over,z0r] at hl ⊢;by_cases hk:k=o2
    · simp only [hk,if_true] at hl ⊢;exact .inl ⟨e3.live.2 hl,e3⟩
    · simp only [hk,if_false] at hl ⊢;cases hf:z0r ex o2 with
      | none=>rw [hf] at hl;exact .inl ⟨hl, .inl rfl⟩
      | some x=>
       have:=e4 _ (z7c hf);refine .inr ⟨this.1, ?_,this.2⟩;have h2:=hnone (o2-fr) (by omega) (by omega)
       rwa [show fr+(o2-fr)=o2 by omega] at h2
   refine ⟨n,v,w',β',g1,g2, ?_, ?_⟩
   · exact g3.trans m2 (fun k hk=>by rw [hk];exact hfr 0 (by omega)) hO (fun k hk=>⟨by omega,by omega⟩) (fun k hk=>⟨by omega,hk.2⟩)
   · rw [e5]
     exact g4.goes (m2.goes g3.objs (fun k hk=>by
      have h2:=hnone (k-fr) (by omega) (by omega)
      rwa [show fr+(k-fr)=k by omega] at h2))
end
end Go.AM

namespace Go.AM
theorem zlj (e:Env)(x:Operand):ev e x=evF (look e) x:=by cases x<;>rfl
structure Dl where
 dst:Option Nat
 val:TV
 upd:AHeap
 rd:List Nat
inductive OpStep (P:Program)(ops:Array Oper)(o:Oper)(fr:Nat)(e:Nat→TV)(h:Nat→AObj):Dl→Prop
 | skip:want ops o e=some false→OpStep P ops o fr e h ⟨o.dst, .tup [],[],[]⟩
 | plain (r:AR):want ops o e=some true→goCall o.op=none→aopS P o fr (evF e) h=some r→OpStep P ops o fr e h ⟨o.dst,r.val,r.upd,r.rd⟩
 | call (c:Call) (f:FuncId) (args:List TV) (r:TV) (upd:AHeap) (rd:List Nat):want ops o e=some true→goCall o.op=some c→calleeOf (evF e) c=some (f,args)→
   CallE P f args h fr (fun r' u' d'=>r'=r∧u'=upd∧d'=rd)→OpStep P ops o fr e h ⟨o.dst,r,upd,rd⟩
def putF (d:Option Nat)(v:TV)(e:Nat→TV):Nat→TV:=match d with | some i=>AM.upd e i v | none=>e
theorem zdu (d:Option Nat)(v:TV)(e:Env):look (putE d v e)=putF d v (look e):=by
 funext k
 cases d with
 | none=>rfl
 | some i=>
  simp only [putE,look,putF,AM.upd];by_cases h:i=k
  · simp [h]
  · simp [h,show k≠i from fun e=>h e.symm]
def mark (D:Nat):Deferred:={ target:= .collected D,args:= #[] }
def Marks (w0 w:World)(ds:List Deferred):Prop:=∃ Ds:List Nat,ds=Ds.map mark∧Ds.Nodup∧∀ D∈Ds,w0.heap.size≤D∧w.heap[D]? =some (.deferred (some []))
theorem Marks.nil (w0 w:World):Marks w0 w []:=⟨[],rfl, .nil,fun _ h=>nomatch h⟩
theorem zvg {w:World}{X:Nat→Prop}{β:Nat→Option Nat}{o:AObj}{b:Nat}(h:ORep w X β o b)(hl:isLive o):(∃ us t,w.heap[b]? =some (.cells us t (0,0)))∨∃ ms ck,w.heap[b]? =some (.map ms ck):=by
 cases o with
 | gone=>exact hl.elim
 | arr n es=>obtain ⟨us,t,h1,_⟩:=h;exact .inl ⟨_,_,h1⟩
 | arz n es=>obtain ⟨us,t,h1,_⟩:=h;exact .inl ⟨_,_,h1⟩
 | mapo es=>obtain ⟨ms,ck,h1,_⟩:=h;exact .inr ⟨_,_,h1⟩
 | mapz es=>obtain ⟨ms,ck,h1,_⟩:=h;exact .inr ⟨_,_,h1⟩
theorem Objs.own_heap {h:Nat→AObj}{β:Nat→Option Nat}{Y:Nat→Prop}{w:World}(hO:Objs h β Y w){b:Nat}(hb:Own h β b):(∃ us t,w.heap[b]? =some (.cells us t (0,0)))∨∃ ms ck,w.heap[b]? =some (.map ms ck):=by
 obtain ⟨o,h1,h2⟩:=hb;exact zvg (hO.rep o b h1 h2) h1
theorem Marks.good {w0 w w':World}{ds:List Deferred}{h:Nat→AObj}{β:Nat→Option Nat}{Y:Nat→Prop}(m:Marks w0 w ds)(hO:Objs h β Y w)(g:Good w (Own h β) w'):Marks w0 w' ds:=by
 obtain ⟨Ds,h1,h2,h3⟩:=m;refine ⟨Ds,h1,h2,fun D hD=>⟨(h3 D hD).1, ?_⟩⟩;have h4:=(h3 D hD).2;rw [g.blk D (Array.getElem?_eq_some_iff.1 h4).1 fun ho=> ?_]
 · exact h4
 · rcases hO.own_heap ho with ⟨us,t,h5⟩ | ⟨ms,ck,h5⟩<;>rw [h4] at h5<;>cases h5
structure RelF (P:Program)(w0:World)(foot:Nat→Prop)(Y:Nat→Prop)(pin:Nat→Option (Option Nat))(e:Nat→TV)(h:Nat→AObj)(β:Nat→Option Nat)(a:Act)(w:World):Prop where
 good:Good w0 foot w
 env:∀ i,TRep w (XO Y h β) β (e i) (a.tmps.getD i undef)
 objs:Objs h β Y w
 own:∀ o b,isLive (h o)→β o=some b→foot b∨w0.heap.size≤b
 defers:Marks w0 w a.defers
 ylt:∀ b,Y b→b<w0.heap.size
 pins:∀ o x,pin o=some x→β o=x
 gl:Gl P w0 foot
section
variable {P:Program} {w0:World} {foot:Nat→Prop} {Y:Nat→Prop} {pin:Nat→Option (Option Nat)} {e:Nat→TV} {h:Nat→AObj} {β:Nat→Option Nat} {a:Act} {w:World}
theorem RelF.eval (hR:RelF P w0 foot Y pin e h β a w)(x:Operand):TRep w (XO Y h β) β (evF e x) (a.eval x):=by
 cases x with
 | tmp t=>exact hR.env t
 | const v=>exact tvOf_rep _ _ _ v
 | global g=>trivial
 | func f=>exact .fn (.func f) [] [] [] [] .nil .nil
theorem RelF.y (hR:RelF P w0 foot Y pin e h β a w):∀ b,Y b→b<w.heap.size:=fun b hb=>Nat.lt_of_lt_of_le (hR.ylt b hb) hR.good.size
theorem RelF.now (hR:RelF P w0 foot Y pin e h β a w):Gl P w (Own h β):=hR.gl.later hR.good fun b hb ⟨o,h1,h2⟩=>by
 rcases hR.own o b h1 h2 with h3 | h3
 · exact h3
 · omega
theorem RelF.step (hR:RelF P w0 foot Y pin e h β a w) {h':Nat→AObj} {β':Nat→Option Nat} {w':World} {fr:Nat→Prop} (hf:∀ o,fr o→β o=none) (hp:∀ o,fr o→pin o=none) (m:Moves h h' β β' Y w w' fr) {d:Option Nat} {v:TV} {u:Value} (hv:TRep w' (XO Y h' β') β' v u)
  (hd:∀ i,d=some i→i<a.tmps.size):RelF P w0 foot Y pin (putF d v e) h' β' (a.put d u) w':=by
 have hg:=m.goes hR.objs hf
 have hown:∀ b,b<w0.heap.size→Own h β b→foot b:=by
  rintro b hb ⟨o,h1,h2⟩;rcases hR.own o b h1 h2 with h3 | h3
  · exact h3
  · omega
 refine ⟨hR.good.trans m.good hown,fun i=> ?_,m.objs,fun o b ho hb=> ?_, ?_,hR.ylt,fun o x hx=> ?_,hR.gl⟩
 · cases d with
   | none=>exact (hR.env i).goes hg
   | some k=>
    simp only [putF,AM.upd,Act.put];by_cases hk:i=k
    · subst hk;simp only [if_true];have:=hd i rfl;simpa [Array.getElem?_setIfInBounds,this] using hv
    · simp only [hk,if_false]
      have:(a.tmps.setIfInBounds k u).getD i undef=a.tmps.getD i undef:=by
       simp [Array.getElem?_setIfInBounds_ne (show k≠i from fun e=>hk e.symm)]
      rw [this];exact (hR.env i).goes hg
 · rcases m.bnew o b hb with h1 | ⟨hfo,h1 | h1⟩
   · rcases m.lmono o ho with h2 | h2
     · exact hR.own o b h2 h1
     · rw [hf o h2] at h1;cases h1
   · exact .inr (Nat.le_trans hR.good.size h1)
   · obtain ⟨o',h2,h3⟩:=h1;exact hR.own o' b h2 h3
 · have:=hR.defers.good hR.objs m.good;cases d<;>exact this
 · have h1:=hR.pins o x hx;cases x with
   | some b=>exact m.bmono o b h1
   | none=>
    cases h2:β' o with
    | none=>rfl
    | some b=>
     rcases m.bnew o b h2 with h3 | ⟨h3,_⟩
     · rw [h1] at h3;cases h3
     · rw [hp o h3] at hx;cases hx
def Occ (pin:Nat→Option (Option Nat))(β:Nat→Option Nat)(k:Nat):Prop:=β k≠none∨pin k≠none
theorem z5p {ops:Array Oper}{o:Oper}{b:Bool}(hR:RelF P w0 foot Y pin e h β a w)(hdst:∀ (j:Nat) (q:Oper) (d:Nat),ops[j]? =some q→q.dst=some d→d<a.tmps.size)(hw:want ops o e=some b):Region.wanted o (yielded ops a.tmps)=b:=by
 unfold want at hw;unfold Region.wanted;split at hw
 · rename_i hg;simp only [hg];simpa using hw
 · rename_i j b' hg;simp only [hg];split at hw
   · rename_i x hx;injection hw with hw
     obtain ⟨d,hd,hx'⟩:=Option.map_eq_some_iff.1 hx;obtain ⟨q,hq,hqd⟩:=Option.bind_eq_some_iff.1 hd;have hlt:=hdst j q d hq hqd;have hv:=hR.env d;rw [hx'] at hv;have hv:=hv.bool_inv
     have hy:yielded ops a.tmps j=some x:=by
      unfold yielded;rw [hd];simp only [Option.bind_some]
      have:a.tmps[d]? =some (.bool x):=by
       rw [Array.getElem?_eq_getElem hlt];simp [Array.getD,hlt] at hv;rw [hv]
      rw [this]
     rw [hy,←hw];cases x<;>cases b'<;>rfl
   · rename_i hx;injection hw with hw
     obtain ⟨d,hd,hx'⟩:=Option.map_eq_some_iff.1 hx;obtain ⟨q,hq,hqd⟩:=Option.bind_eq_some_iff.1 hd;have hlt:=hdst j q d hq hqd;have hv:=hR.env d;rw [hx'] at hv;obtain ⟨us,hv,hl⟩:=hv;have:us=[]:=List.eq_nil_of_length_eq_zero (by simpa using hl.1.symm);subst this
     have hy:yielded ops a.tmps j=none:=by
      unfold yielded;rw [hd];simp only [Option.bind_some]
      have:a.tmps[d]? =some (.tuple #[]):=by
       rw [Array.getElem?_eq_getElem hlt];simp [Array.getD,hlt] at hv;rw [hv]
      rw [this]
     rw [hy,←hw];cases b'<;>rfl
   · cases hw
theorem zc2 {ops:Array Oper} {o:Oper} {fr:Nat} {δ:Dl} (hR:RelF P w0 foot Y pin e h β a w) (hfr:∀ j,j<32→β (fr+j)=none) (hpn:∀ j,j<32→pin (fr+j)=none) (hdst:∀ (j:Nat) (q:Oper) (d:Nat),ops[j]? =some q→q.dst=some d→d<a.tmps.size) (hod:∀ d,o.dst=some d→d<a.tmps.size)
  (hs:OpStep P ops o fr e h δ) {K:Act→World→Prop} {Q:Exit→Act→World→Prop}
  (hK:∀ a' w' β',a'.tmps.size=a.tmps.size→a'.defers=a.defers→RelF P w0 foot Y pin (putF δ.dst δ.val e) (over δ.upd h) β' a' w'→(∀ k,β' k≠none→β k≠none∨(fr≤k∧k<fr+32))→K a' w'):
  if Region.wanted o (yielded ops a.tmps) then o.wp P a w K Q else K (a.put o.dst undef) w:=by
 have hsz:∀ u,(a.put o.dst u).tmps.size=a.tmps.size:=by intro u;unfold Act.put;cases o.dst<;>simp
 have hdf:∀ (d:Option Nat) u,(a.put d u).defers=a.defers:=by intro d u;unfold Act.put;cases d<;>rfl
 have hbd:∀ {β':Nat→Option Nat} {h':Nat→AObj} {w':World} {f:Nat→Prop},Moves h h' β β' Y w w' f→(∀ k,f k→fr≤k∧k<fr+32)→∀ k,β' k≠none→β k≠none∨(fr≤k∧k<fr+32):=by
  intro β' h' w' f m hf k hk;cases hb:β' k with
  | none=>exact absurd hb hk
  | some b=>
   rcases m.bnew k b hb with h1 | ⟨h1,_⟩
   · exact .inl (by rw [h1];simp)
   · exact .inr (hf k h1)
 cases hs with
 | skip hw=>
  rw [z5p hR hdst hw,if_neg (by simp)];have m:=Moves.refl hR.objs (fun _=>rfl);exact hK _ _ _ (hsz _) (hdf _ _) (hR.step (fun _ h=>h.elim) (fun _ h=>h.elim) m (d:=o.dst) (v:= .tup []) ⟨[],rfl, .nil⟩ hod) (hbd m (fun _ h=>h.elim))
 | plain r hw hg ha=>
  rw [z5p hR hdst hw,if_pos rfl];obtain ⟨n,v,w',β',hrun,hn,hm,hv⟩:=zwe hR.objs hR.y hfr hR.eval ha;have hfr0:∀ k,(fr≤k∧k<fr+32)→β k=none:=fun k hk=>by have:=hfr (k-fr) (by omega);rwa [show fr+(k-fr)=k by omega] at this
  have hfin:=hK _ _ _ (hsz v) (hdf _ _) (hR.step hfr0 (fun k hk=>by have:=hpn (k-fr) (by omega);rwa [show fr+(k-fr)=k by omega] at this) hm hv hod) (hbd hm (fun k hk=>hk));unfold Oper.wp;rw [hrun];rcases hn with rfl | ⟨rfl,rfl⟩
  · exact hfin
  · exact hfin
 | call c f args r upd rd hw hg hc hK'=>
  rw [z5p hR hdst hw,if_pos rfl];obtain ⟨dd,op,t,p,af,g⟩:=o;simp only [goCall] at hg;split at hg
  · rename_i x a9 ts;injection hg with hg
    subst hg;simp only [calleeOf] at hc;split at hc
    · rename_i fid first cap hx;injection hc with hc
      injection hc with hc1 hc2
      subst hc1;have hrx:=hR.eval x;rw [hx] at hrx;cases hfx:a.eval x with
      | func fn fs cs=>
       rw [hfx] at hrx;cases hrx with
       | fn _ _ _ us vs hl1 hl2=>
        have atomT:∀ (l:List (Bool×List AV)) (zs:List Value),LRep (PRep (ARep w (XO Y h β) β)) l zs→LRep (TRep w (XO Y h β) β) (l.map (fun p=>match p with | (true,cs)=>TV.agg (cs.map WV.a) | (false,[x])=>TV.c (.a x) | _=>TV.any)) zs:=by
         intro l zs hl;refine hl.map fun p u _ hp=> ?_;obtain ⟨qs,rfl,hq,h1⟩:=hp;obtain ⟨b,cs⟩:=p;cases b with
         | true=>exact ⟨qs,rfl,hq.map fun c u _ h=> .a _ _ h⟩
         | false=>
          have:=h1 rfl
          match cs,this with
          | [y],_=>
           obtain ⟨u,us',rfl,hu,_⟩:=hq.cons_inv;exact .a _ _ (by simpa [shut] using hu)
        have hargs:LRep (TRep w (XO Y h β) β) args (us++a9.toList.map a.eval++vs):=by
         rw [←hc2];exact ((atomT _ _ hl1).append (z9s hR.eval a9.toList)).append (atomT _ _ hl2)
        obtain ⟨hent,r',upd',rd',⟨e1,e2,e3⟩,hcall⟩:=zsh hR.objs hR.now hR.y hfr hargs hK';subst e1;subst e2;subst e3
        have hrun:(execOp a.eval ⟨dd, .call ⟨.value x,a9,ts⟩,t,p,af,g⟩).run P w= .ok (.enter fid (us++a9.toList.map a.eval++vs).toArray) w:=by
         unfold z31 at hent;split at hent
         · rename_i fn hfn;simp only [Bool.and_eq_true,Bool.not_eq_true',beq_eq_false_iff_ne] at hent;have hb:fn.body.isNone=false:=by cases hb:fn.body<;>simp_all
           have harr:us.toArray++Array.map a.eval a9++vs.toArray=(us++a9.toList.map a.eval++vs).toArray:=by apply Array.ext';simp
           simp only [execOp,resolve,Deferred.ofValue,hfx,invoke,callFunc,Sem.run_bind,Sem.run_pure,Result.andThen_ok,run_program,hfn,beq_eq_false_iff_ne.2 hent.1,Bool.false_eq_true,if_false,hb,harr]
         · cases hent
        unfold Oper.wp;rw [hrun];simp only [Oper.upon];refine hcall.mono fun en w' ⟨v,β',he,hm,hv⟩=> ?_;subst he;exact hK _ _ _ (hsz v) (hdf _ _) (hR.step (fun k hk=>by have:=hfr (k-fr) (by omega);rwa [show fr+(k-fr)=k by omega] at this) (fun k hk=>by have:=hpn (k-fr) (by omega);rwa [show fr+(k-fr)=k by omega] at this) hm hv hod) (hbd hm (fun k hk=>hk))
      | _=>rw [hfx] at hrx;cases hrx
    · cases hc
  · cases hg
end
end Go.AM

namespace Go.AM
theorem zxj {e e':Nat→TV}{x:Operand}(h:∀ t,x= .tmp t→e' t=e t):evF e' x=evF e x:=by
 cases x with
 | tmp t=>exact h t rfl
 | _=>rfl
theorem z6e {h h':Nat→AObj}{x:TV}{o:Nat}{es:List MapE}(hm:z8d h x=some (o,es))(hh:h' o=h o):z8d h' x=some (o,es):=by
 unfold z8d at hm ⊢;split at hm
 · split at hm<;>simp only [Option.some.injEq,reduceCtorEq,Prod.mk.injEq] at hm
   rename_i es' ho;obtain ⟨rfl,rfl⟩:=hm;simp only [hh,ho]
 · cases hm
theorem zak {m:(Bool×List EK)×(Bool×List WV)}{h h':Nat→AObj}{x key:TV}{ok:Bool}{r:AR}(hl:z55 m h x key ok=some r)(hh:∀ k∈r.rd,h' k=h k):z55 m h' x key ok=some r:=by
 unfold z55 at hl ⊢;split at hl
 · split at hl
   · rename_i oe hoe;obtain ⟨o,es⟩:=oe;split at hl
     · rename_i q hq;obtain ⟨v,hv,rfl⟩:=Option.map_eq_some_iff.1 hl;simp only [z6e hoe (hh o (by simp)),hq,hv,Option.map_some]
     · cases hl
   · cases hl
 · cases hl
theorem entE_rd {m:(Bool×List EK)×(Bool×List WV)}{o:Nat}{k:List FV}{es:List MapE}{q:Option Nat}{r:AR}(h:entE m o k es q=some r):r.rd=[o]:=by
 unfold entE at h;split at h
 · split at h<;>simp only [Option.some.injEq,reduceCtorEq] at h
   subst h;rfl
 · injection h with h;subst h;rfl
theorem zf1 {m:(Bool×List EK)×(Bool×List WV)}{h h':Nat→AObj}{x key:TV}{r:AR}(hl:z4k m h x key=some r)(hh:∀ k∈r.rd,h' k=h k):z4k m h' x key=some r:=by
 unfold z4k at hl ⊢;split at hl
 · split at hl
   · rename_i oe hoe;obtain ⟨o,es⟩:=oe;split at hl
     · rename_i q hq;simp only [z6e hoe (hh o (by rw [entE_rd hl];simp)),hq,hl]
     · cases hl
   · cases hl
 · cases hl
theorem zbo {h h':Nat→AObj}{x s v:TV}{r:AR}(hl:z41 h x s v=some r)(hh:∀ k∈r.rd,h' k=h k):z41 h' x s v=some r:=by
 unfold z41 at hl ⊢;split at hl
 · rename_i oe kk n rw_ hoe hrw;obtain ⟨o,es⟩:=oe;split at hl
   · rename_i en hen;split at hl<;>simp only [Option.some.injEq,reduceCtorEq] at hl
     rename_i hn;subst hl;simp only at hen;simp only [z6e hoe (hh o (by simp)),hen,hrw,hn,if_true]
   · cases hl
 · cases hl
theorem z6y {m:(Bool×List EK)×(Bool×List WV)}{h h':Nat→AObj}{x key v:TV}{r:AR}(hl:z1p m h x key v=some r)(hh:∀ k∈r.rd,h' k=h k):z1p m h' x key v=some r:=by
 unfold z1p at hl ⊢;split at hl
 · rename_i k rw_ hk hrw;split at hl
   · rename_i oe hoe;obtain ⟨o,es⟩:=oe;split at hl
     · rename_i q hq;injection hl with hl;subst hl
       simp only [z6e hoe (hh o (by simp)),hq]
     · cases hl
   · cases hl
 · cases hl
theorem zbp {h h':Nat→AObj}{x:TV}{o:Nat}{es:List MapZ}(hm:z5k h x=some (o,es))(hh:h' o=h o):z5k h' x=some (o,es):=by
 unfold z5k at hm ⊢;split at hm
 · split at hm<;>simp only [Option.some.injEq,reduceCtorEq,Prod.mk.injEq] at hm
   rename_i es' ho;obtain ⟨rfl,rfl⟩:=hm;simp only [hh,ho]
 · cases hm
theorem zl1 {h h':Nat→AObj}{x:TV}{o:Nat}{es:List MapE}(hm:z8d (fun o=>flat (h o)) x=some (o,es))(hn:z5k h x=none)(hh:h' o=h o):z5k h' x=none:=by
 unfold z8d at hm;unfold z5k at hn ⊢;split at hm
 · rename_i o';split at hm<;>simp only [Option.some.injEq,reduceCtorEq,Prod.mk.injEq] at hm
   obtain ⟨rfl,rfl⟩:=hm;simp only [hh];exact hn
 · cases hm
theorem zj3 {m:(Bool×List EK)×(Bool×List WV)}{h h':Nat→AObj}{x key:TV}{ok:Bool}{r:AR}(hl:z4p m h x key ok=some r)(hh:∀ k∈r.rd,h' k=h k):z4p m h' x key ok=some r:=by
 have hl0:=hl;unfold z4p at hl;split at hl
 · rename_i oe hoe;obtain ⟨o,es⟩:=oe
   have hrd:r.rd=[o]:=by
    split at hl
    · split at hl
      · obtain ⟨v,_,rfl⟩:=Option.map_eq_some_iff.1 hl;rfl
      · obtain ⟨v,_,rfl⟩:=Option.map_eq_some_iff.1 hl;rfl
      · cases hl
    · cases hl
   unfold z4p;simp only [zbp hoe (hh o (by rw [hrd];simp))];exact hl
 · rename_i hn;have hc:=zak (h':=fun o=>flat (h' o)) hl (fun k hk=>by simp only [hh k hk])
   have hn':z5k h' x=none:=by
    unfold z55 at hl;split at hl
    · split at hl
      · rename_i oe hoe;obtain ⟨o,es⟩:=oe;split at hl
        · obtain ⟨v,_,rfl⟩:=Option.map_eq_some_iff.1 hl;exact zl1 hoe hn (hh o (by simp))
        · cases hl
      · cases hl
    · cases hl
   unfold z4p;simp only [hn'];exact hc
theorem zc8 {m:(Bool×List EK)×(Bool×List WV)}{h h':Nat→AObj}{x key v:TV}{r:AR}(hl:z1y m h x key v=some r)(hh:∀ k∈r.rd,h' k=h k):z1y m h' x key v=some r:=by
 unfold z1y at hl;split at hl
 · rename_i oe hoe;obtain ⟨o,es⟩:=oe
   have hrd:r.rd=[o]:=by
    split at hl
    · split at hl
      · obtain ⟨v,_,rfl⟩:=Option.map_eq_some_iff.1 hl;rfl
      · cases hl
    · cases hl
   unfold z1y;simp only [zbp hoe (hh o (by rw [hrd];simp))];exact hl
 · rename_i hn;have hc:=z6y (h':=fun o=>flat (h' o)) hl (fun k hk=>by simp only [hh k hk])
   have hn':z5k h' x=none:=by
    unfold z1p at hl;split at hl
    · split at hl
      · rename_i oe hoe;obtain ⟨o,es⟩:=oe;split at hl
        · injection hl with hl;subst hl
          exact zl1 hoe hn (hh o (by simp))
        · cases hl
      · cases hl
    · cases hl
   unfold z1y;simp only [hn'];exact hc
theorem zxm {P:Program}{o:Oper}{fr:Nat}{ρ ρ':Operand→TV}{h:Nat→AObj}(hp:∀ x∈o.op.operands,ρ' x=ρ x):aop P o fr ρ' h=aop P o fr ρ h:=by
 obtain ⟨dst,op,type,pos,after,guard⟩:=o
 have pairs:∀ ps:Array (Nat×Operand),(∀ x∈(ps.toList.map (·.2)),ρ' x=ρ x)→(ps.toList.map fun p=>(p.1,ρ' p.2))=(ps.toList.map fun p=>(p.1,ρ p.2)):=fun ps hp=>
  List.map_congr_left fun p hm=>by rw [hp p.2 (List.mem_map.2 ⟨p,hm,rfl⟩)]
 have optmap:∀ o:Option Operand,(∀ x∈o.toArray,ρ' x=ρ x)→o.map ρ'=o.map ρ:=fun o ho=>by cases o<;>simp_all
 dsimp only at hp;cases op
 case build t ps=>simp only [aop];rw [pairs ps fun x hx=>hp x (by simpa [Op.operands] using hx)]
 case buildSlice t n ps=>simp only [aop];rw [pairs ps fun x hx=>hp x (by simpa [Op.operands] using hx)]
 case makeFunc fn first captured=>
  simp only [aop];rw [List.map_congr_left (l:=first.toList) fun x hx=>hp x (by simp [Op.operands];exact .inl (by simpa using hx)),List.map_congr_left (l:=captured.toList) fun x hx=>hp x (by simp [Op.operands];exact .inr (by simpa using hx))]
 case slice t x lo hi mx=>
  simp only [aop];rw [hp x (by simp [Op.operands]),optmap lo (fun y hy=>hp y (by simp [Op.operands] at hy ⊢;simp [hy])),optmap hi (fun y hy=>hp y (by simp [Op.operands] at hy ⊢;simp [hy])),optmap mx (fun y hy=>hp y (by simp [Op.operands] at hy ⊢;simp [hy]))]
 case call c=>
  obtain ⟨callee,args,ts⟩:=c;cases callee with
  | builtin b=>
   simp only [aop];rw [List.map_congr_left (l:=args.toList) fun x hx=>hp x (by simp [Op.operands,Call.operands];simpa using hx)]
  | value x=>rfl
  | invoke x m=>rfl
 case makeMap t r=>cases r<;>rfl
 all_goals simp only [aop,Op.operands] at hp ⊢
 all_goals first
  | rfl
  | (simp only [List.mem_toArray,List.mem_cons,List.not_mem_nil,or_false,forall_eq_or_imp,forall_eq] at hp;simp only [hp])
theorem znt {d:TyD}{h h':Nat→AObj}{x:TV}{r:TV×List Nat}(hl:z6h d h x=some r)(hh:∀ k∈r.2,h' k=h k):z6h d h' x=some r:=by
 unfold z6h at hl ⊢;split at hl
 · split at hl
   · rename_i m es ho;split at hl
     · split at hl
       · split at hl<;>simp only [Option.some.injEq,reduceCtorEq] at hl
         subst hl;simp_all
       · cases hl
     · cases hl
   · cases hl
 · exact hl
 · cases hl
theorem zbr {d:TyD}{h h':Nat→AObj}{x y:TV}{r:AR}(hl:z66 d h x y=some r)(hh:∀ k∈r.rd,h' k=h k):z66 d h' x y=some r:=by
 unfold z66 at hl ⊢;split at hl
 · split at hl
   · split at hl
     · split at hl
       · split at hl<;>simp only [Option.some.injEq,reduceCtorEq] at hl
         subst hl;simp_all
       · cases hl
     · cases hl
   · cases hl
 · cases hl
theorem z3r {n:Nat}{h h':Nat→AObj}{x:TV}{r:List (List WV)×List Nat}(hl:z3s n h x=some r)(hh:∀ k∈r.2,h' k=h k):z3s n h' x=some r:=by
 unfold z3s at hl ⊢;split at hl
 · exact hl
 · exact hl
 · exact hl
 · split at hl
   · split at hl<;>simp only [Option.some.injEq,reduceCtorEq] at hl
     subst hl;simp_all
   · cases hl
 · cases hl
theorem zi6 {d:TyD}{fr:Nat}{h h':Nat→AObj}{s x:TV}{r:AR}(hl:z97 d fr h s x=some r)(hh:∀ k∈r.rd,h' k=h k):z97 d fr h' s x=some r:=by
 unfold z97 at hl ⊢;split at hl
 · rename_i hc;rw [if_pos hc];unfold z2n at hl ⊢;cases hel:z3s d.size h x with
   | none=>rw [hel] at hl;cases hl
   | some q=>
    obtain ⟨new,rd⟩:=q;rw [hel] at hl;simp only at hl;split at hl
    · have:∀ k∈rd,h' k=h k:=by
       split at hl
       · injection hl with hl;subst hl;exact hh
       · split at hl
         · injection hl with hl;subst hl;exact hh
         · cases hl
      rw [z3r hel this];exact hl
    · have:∀ k∈rd,h' k=h k:=by
       split at hl
       · injection hl with hl;subst hl;exact hh
       · split at hl
         · injection hl with hl;subst hl;exact hh
         · cases hl
      rw [z3r hel this];exact hl
    · rename_i o n off len;split at hl
      · rename_i m es ho;split at hl
        · rename_i hc2;injection hl with hl;subst hl
          rw [z3r hel (fun k hk=>hh k (List.mem_cons_of_mem _ hk))];have h1:h' o= .arr m es:=by rw [hh o (by simp)];exact ho
          simp only [h1];rw [if_pos hc2]
        · cases hl
      · cases hl
    · cases hl
 · cases hl
theorem zrg {d:TyD}{h h':Nat→AObj}{x:TV}{r:Nat×List Nat}(hq:lenP d h x=some r)(hh:∀ k∈r.2,h' k=h k):lenP d h' x=some r:=by
 unfold lenP at hq ⊢;split at hq
 · exact hq
 · exact hq
 · unfold zvr at hq ⊢;split at hq
   · split at hq
     · injection hq with hq;subst hq;simp_all
     · cases hq
   · cases hq
 · exact hq
 · cases hq
theorem zaj {P:Program}{o:Oper}{fr:Nat}{ρ:Operand→TV}{h h':Nat→AObj}{r:AR}(ha:aop P o fr ρ h=some r)(hh:∀ k∈r.rd,h' k=h k):aop P o fr ρ h'=some r:=by
 obtain ⟨d,op,t,p,af,g⟩:=o;cases op
 case load lt x=>
  simp only [aop] at ha ⊢;obtain ⟨dd,hd,hl⟩:=z0e ha;obtain ⟨q,hq,rfl⟩:=Option.map_eq_some_iff.1 hl;simp only [z1k,hd,znt hq hh,Option.map_some]
 case store st x y=>
  simp only [aop] at ha ⊢;obtain ⟨dd,hd,hl⟩:=z0e ha;simp only [z1k,hd,zbr hl hh]
 case convert src dst x=>
  simp only [aop] at ha ⊢;split at ha
  · obtain ⟨dd,hd,hl⟩:=z0e ha;simp only [textA,z1k,hd];split at hl
    · split at hl
      · rename_i es rd he;obtain ⟨l,hbl,rfl⟩:=Option.map_eq_some_iff.1 hl;simp only [z3r he hh,hbl,Option.map_some]
      · cases hl
    · cases hl
  · exact ha
 case call c=>
  obtain ⟨callee,args,ts⟩:=c;cases callee with
  | builtin b=>
   simp only [aop] at ha ⊢;unfold z37 at ha ⊢;split at ha
   · obtain ⟨dd,hd,hl⟩:=z0e ha;obtain ⟨q,hq,rfl⟩:=Option.map_eq_some_iff.1 hl;simp only [z1k,hd,zrg hq hh,Option.map_some]
   · split at ha
     · rename_i htt;obtain ⟨dd,e,de,hd,hk,hde,hl⟩:=z0y ha;rw [if_pos htt];unfold z1e;rw [hd];simp only;rw [hk];simp only;rw [hde];exact zi6 hl hh
     · rename_i htt;rw [if_neg htt];exact ha
   · exact ha
   · exact ha
   · exact ha
   · cases ha
  | value x=>exact ha
  | invoke x m=>exact ha
 case lookup lt x ix ok=>
  simp only [aop] at ha ⊢;obtain ⟨m,hm,hl⟩:=z1l ha;simp only [z2q,hm,zak hl hh]
 case mapEntry lt x k=>
  simp only [aop] at ha ⊢;obtain ⟨m,hm,hl⟩:=z1l ha;simp only [z2q,hm,zf1 hl hh]
 case entryStore lt x s v=>
  simp only [aop] at ha ⊢;exact zbo ha hh
 case mapUpdate lt x k v=>
  simp only [aop] at ha ⊢;obtain ⟨m,hm,hl⟩:=z1l ha;simp only [z2q,hm,z6y hl hh]
 case makeMap lt r=>cases r<;>exact ha
 all_goals exact ha
theorem zk3 {d:TyD}{h h':Nat→AObj}{x y:TV}{r:AR}(hl:z6z d h x y=some r)(hh:∀ k∈r.rd,h' k=h k):z6z d h' x y=some r:=by
 unfold z6z at hl ⊢;split at hl
 · rename_i cs o n i j hcs;split at hl
   · rename_i m fs ho;split at hl
     · split at hl
       · split at hl
         · split at hl<;>simp only [Option.some.injEq,reduceCtorEq] at hl
           subst hl;simp_all
         · cases hl
       · cases hl
     · cases hl
   · rename_i hno
     have hrd:r.rd=[o]:=by
      unfold z66 at hl;rw [hcs] at hl;dsimp only at hl;split at hl
      · split at hl
        · split at hl
          · split at hl<;>simp only [Option.some.injEq,reduceCtorEq] at hl
            subst hl;rfl
          · cases hl
        · cases hl
      · cases hl
     have ho:h' o=h o:=hh o (by rw [hrd];simp);rw [ho];split
     · rename_i m fs he;exact absurd he (hno m fs)
     · exact zbr hl hh
 · cases hl
theorem zm2 {n:Nat}{h h':Nat→AObj}{x:TV}(hh:∀ o m off len,x= .c (.a (.osl o m off len))→h' o=h o):z74 n h' x=z74 n h x:=by
 unfold z74;split
 · rfl
 · rfl
 · rfl
 · rename_i o m off len;rw [hh o m off len rfl]
 · rfl
theorem zug {n:Nat}{h:Nat→AObj}{o m off len:Nat}{new:List (List FV)}{rd:List Nat}(he:z74 n h (.c (.a (.osl o m off len)))=some (new,rd)):o∈rd:=by
 unfold z74 at he;simp only at he;split at he
 · split at he
   · simp only [Option.some.injEq,Prod.mk.injEq] at he;rw [←he.2];simp
   · cases he
 · cases he
theorem zgj {n:Nat}{h:Nat→AObj}{o m off len:Nat}{new:List (List WV)}{rd:List Nat}(he:z3s n h (.c (.a (.osl o m off len)))=some (new,rd)):o∈rd:=by
 unfold z3s at he;simp only at he;split at he
 · split at he
   · simp only [Option.some.injEq,Prod.mk.injEq] at he;rw [←he.2];simp
   · cases he
 · cases he
theorem zb1 {d:TyD}{fr:Nat}{h:Nat→AObj}{s x:TV}{r:AR}(ha:z2n d fr h s x=some r):∃ new rd,z3s d.size h x=some (new,rd)∧(∀ k∈rd,k∈r.rd):=by
 unfold z2n at ha;split at ha
 · cases ha
 · rename_i new rd hel;refine ⟨new,rd,hel, ?_⟩;split at ha
   · split at ha
     · injection ha with ha;subst ha;exact fun k hk=>hk
     · split at ha
       · injection ha with ha;subst ha;exact fun k hk=>hk
       · cases ha
   · split at ha
     · injection ha with ha;subst ha;exact fun k hk=>hk
     · split at ha
       · injection ha with ha;subst ha;exact fun k hk=>hk
       · cases ha
   · split at ha
     · split at ha
       · injection ha with ha;subst ha;exact fun k hk=>List.mem_cons_of_mem _ hk
       · cases ha
     · cases ha
   · cases ha
theorem z9d {d:TyD}{fr:Nat}{h h':Nat→AObj}{s x:TV}{r:AR}(hl:z2n d fr h s x=some r)(hh:∀ k∈r.rd,h' k=h k):z2n d fr h' s x=some r:=by
 obtain ⟨new,rd,hel,hsub⟩:=zb1 hl;unfold z2n at hl ⊢;rw [hel] at hl;rw [z3r hel (fun k hk=>hh k (hsub k hk))];dsimp only at hl ⊢;split at hl
 · exact hl
 · exact hl
 · rename_i o n off len;split at hl
   · rename_i m es ho;split at hl
     · rename_i hc2;injection hl with hl;subst hl
       have h1:h' o= .arr m es:=by rw [hh o (by simp)];exact ho
       simp only [h1];rw [if_pos hc2]
     · cases hl
   · cases hl
 · cases hl
theorem zhw {d:TyD}{fr:Nat}{h h':Nat→AObj}{s x:TV}{r:AR}(hl:z42 d fr h s x=some r)(hh:∀ k∈r.rd,h' k=h k):z42 d fr h' s x=some r:=by
 have hflat:∀ k∈r.rd,flat (h' k)=flat (h k):=fun k hk=>by rw [hh k hk]
 have hx:∀ o m off len,x= .c (.a (.osl o m off len))→h' o=h o:=by
  intro o m off len e;subst e;unfold z42 at hl;split at hl
  · rename_i new rd hel;have hm:=zug hel;split at hl
    · split at hl
      · injection hl with hl;subst hl;exact hh o hm
      · split at hl
        · injection hl with hl;subst hl;exact hh o hm
        · cases hl
    · split at hl
      · injection hl with hl;subst hl;exact hh o hm
      · split at hl
        · injection hl with hl;subst hl;exact hh o hm
        · cases hl
    · split at hl
      · split at hl
        · injection hl with hl;subst hl;exact hh o (List.mem_cons_of_mem _ hm)
        · cases hl
      · obtain ⟨new2,rd2,h1,h2⟩:=zb1 hl;exact hh o (h2 o (zgj h1))
    · cases hl
  · obtain ⟨new2,rd2,h1,h2⟩:=zb1 hl;exact hh o (h2 o (zgj h1))
 unfold z42 at hl ⊢;rw [zm2 hx];split at hl
 · rename_i new rd hel;split at hl
   · exact hl
   · exact hl
   · rename_i o n off len;split at hl
     · rename_i m fs ho;split at hl
       · rename_i hc;injection hl with hl;subst hl
         have h1:h' o= .arz m fs:=by rw [hh o (by simp)];exact ho
         simp only [h1];rw [if_pos hc]
       · cases hl
     · rename_i hno
       have ho:h' o=h o:=by
        have:o∈r.rd:=by
         unfold z2n at hl;split at hl
         · cases hl
         · dsimp only at hl;split at hl
           · split at hl
             · injection hl with hl;subst hl;simp
             · cases hl
           · cases hl
        exact hh o this
       rw [ho];split
       · rename_i m fs he;exact absurd he (hno m fs)
       · exact z9d hl hflat
   · cases hl
 · rename_i hel;exact z9d hl hflat
theorem zdi {h h':Nat→AObj}{x:WV}(hh:∀ k∈oslW x,h' k=h k):za7 h' x=za7 h x:=by
 unfold za7;split
 · rename_i o n off len;rw [hh o (by simp [oslW])]
 · rfl
theorem zc0 {h h':Nat→AObj}:∀ {l:List WV},(∀ k∈l.flatMap oslW,h' k=h k)→z57 h' l=z57 h l
 | [],_=>rfl
 | x::l,hh=>by
  simp only [z57];rw [zdi (fun k hk=>hh k (by simp [hk])),zc0 (fun k hk=>hh k (by rw [List.flatMap_cons];exact List.mem_append_right _ hk))]
theorem znc {h h':Nat→AObj}{x:TV}(hh:∀ k∈oslT x,h' k=h k):zc9 h' x=zc9 h x:=by
 cases x with
 | c x=>simp only [zc9];rw [zdi hh]
 | agg cs=>simp only [zc9];rw [zc0 hh]
 | _=>rfl
theorem z8x {h h':Nat→AObj}:∀ {l:List (Nat×TV)},(∀ k∈oslP l,h' k=h k)→z5f h' l=z5f h l
 | [],_=>rfl
 | (i,x)::l,hh=>by
  simp only [z5f];rw [znc (fun k hk=>hh k (by simp only [oslP,List.flatMap_cons];exact List.mem_append_left _ hk)),z8x (fun k hk=>hh k (by simp only [oslP,List.flatMap_cons];exact List.mem_append_right _ hk))]
theorem zsc {P:Program}{o:Oper}{fr:Nat}{ρ ρ':Operand→TV}{h:Nat→AObj}(hp:∀ x∈o.op.operands,ρ' x=ρ x):aopF P o fr ρ' h=aopF P o fr ρ h:=by
 have hg:=zxm (P:=P) (o:=o) (fr:=fr) (h:=fun o=>flat (h o)) hp;obtain ⟨dst,op,type,pos,after,guard⟩:=o
 have pairs:∀ ps:Array (Nat×Operand),(∀ x∈(ps.toList.map (·.2)),ρ' x=ρ x)→(ps.toList.map fun p=>(p.1,ρ' p.2))=(ps.toList.map fun p=>(p.1,ρ p.2)):=fun ps hp=>
  List.map_congr_left fun p hm=>by rw [hp p.2 (List.mem_map.2 ⟨p,hm,rfl⟩)]
 dsimp only at hp;cases op
 case build t ps=>simp only [aopF];rw [pairs ps fun x hx=>hp x (by simpa [Op.operands] using hx)]
 case buildSlice t n ps=>simp only [aopF];rw [pairs ps fun x hx=>hp x (by simpa [Op.operands] using hx)]
 case store t x y=>
  simp only [aopF];rw [hp x (by simp [Op.operands]),hp y (by simp [Op.operands])]
 case call c=>
  obtain ⟨callee,args,ts⟩:=c;cases callee with
  | builtin b=>
   simp only [aopF];rw [List.map_congr_left (l:=args.toList) fun x hx=>hp x (by simp [Op.operands,Call.operands];simpa using hx)]
  | value x=>exact hg
  | invoke x m=>exact hg
 case makeSlice t l c=>simp only [aopF];rw [hp l (by simp [Op.operands]),hp c (by simp [Op.operands])]
 case lookup t x ix ok=>simp only [aopF];rw [hp x (by simp [Op.operands]),hp ix (by simp [Op.operands])]
 case mapUpdate t x k v=>simp only [aopF];rw [hp x (by simp [Op.operands]),hp k (by simp [Op.operands]),hp v (by simp [Op.operands])]
 case makeMap t r=>cases r<;>rfl
 all_goals exact hg
theorem zt9 {P:Program}{o:Oper}{fr:Nat}{ρ:Operand→TV}{h h':Nat→AObj}{r:AR}(ha:aopF P o fr ρ h=some r)(hh:∀ k∈r.rd,h' k=h k):aopF P o fr ρ h'=some r:=by
 have hflat:∀ k∈r.rd,flat (h' k)=flat (h k):=fun k hk=>by rw [hh k hk]
 cases hop:o.op
 case store st x y=>
  simp only [aopF,hop] at ha ⊢;obtain ⟨dd,hd,hl⟩:=z0e ha;simp only [z1k,hd,zk3 hl hh]
 case build bt parts=>
  simp only [aopF,hop] at ha ⊢;obtain ⟨v,hv,rfl⟩:=Option.map_eq_some_iff.1 ha;rw [z8x hh,hv];rfl
 case buildSlice st len parts=>
  simp only [aopF,hop] at ha ⊢;obtain ⟨v,hv,rfl⟩:=Option.map_eq_some_iff.1 ha;rw [z8x hh,hv];rfl
 case call c=>
  obtain ⟨callee,args,ts⟩:=c;cases callee with
  | builtin bb=>
   simp only [aopF,hop] at ha ⊢;by_cases hb:∃ t1 t2 s1 x1,bb= .append∧ts.toList=[t1,t2]∧args.toList.map ρ=[s1,x1]
   · obtain ⟨t1,t2,s1,x1,rfl,e2,e3⟩:=hb;rw [e2,e3] at ha ⊢;simp only [z2s] at ha ⊢;split at ha
     · rename_i htt;obtain ⟨dd,e,de,hd,hk,hde,hl⟩:=z0y ha;rw [if_pos htt];unfold z1e;rw [hd];simp only;rw [hk];simp only;rw [hde];dsimp only;unfold zcm at hl ⊢;split at hl
       · rename_i hc;rw [if_pos hc];exact zhw hl hh
       · cases hl
     · rename_i htt;rw [if_neg htt];exact ha
   · have hne:∀ h,z2s P bb ts.toList fr h (args.toList.map ρ)=z37 P bb ts.toList fr (fun o=>flat (h o)) (args.toList.map ρ):=by
      intro h;unfold z2s;split
      · rename_i e1 e2;exact absurd ⟨_,_,_,_,rfl,e1,e2⟩ hb
      · rfl
     rw [hne] at ha ⊢;have e:∀ hq,aop P o fr ρ hq=z37 P bb ts.toList fr hq (args.toList.map ρ):=fun hq=>by simp only [aop,hop]
     rw [←e] at ha ⊢;exact zaj (h':=fun o=>flat (h' o)) ha hflat
  | value x=>
   have e:∀ hq,aopF P o fr ρ hq=aop P o fr ρ (fun k=>flat (hq k)):=fun hq=>by simp only [aopF,hop]
   rw [e] at ha ⊢;exact zaj ha hflat
  | invoke x m=>
   have e:∀ hq,aopF P o fr ρ hq=aop P o fr ρ (fun k=>flat (hq k)):=fun hq=>by simp only [aopF,hop]
   rw [e] at ha ⊢;exact zaj ha hflat
 case makeSlice st l c=>simp only [aopF,hop] at ha ⊢;exact ha
 case lookup lt x ix ok=>
  simp only [aopF,hop] at ha ⊢;obtain ⟨m,hm,hl⟩:=z1l ha;simp only [z2q,hm,zj3 hl hh]
 case mapUpdate lt x k v=>
  simp only [aopF,hop] at ha ⊢;obtain ⟨m,hm,hl⟩:=z1l ha;simp only [z2q,hm,zc8 hl hh]
 case makeMap lt r=>
  cases r with
  | none=>simp only [aopF,hop] at ha ⊢;exact ha
  | some r=>simp only [aopF,hop] at ha ⊢;exact zaj ha hflat
 all_goals
  have e:∀ hq,aopF P o fr ρ hq=aop P o fr ρ (fun k=>flat (hq k)):=fun hq=>by simp only [aopF,hop]
  rw [e] at ha ⊢;exact zaj ha hflat
theorem zsv {P:Program}{o:Oper}{fr:Nat}{ρ ρ':Operand→TV}{h:Nat→AObj}(hp:∀ x∈o.op.operands,ρ' x=ρ x):aopS P o fr ρ' h=aopS P o fr ρ h:=by
 unfold aopS;rw [zsc hp];congr 1
 funext r
 exact zn1 hp
theorem zt8 {P:Program}{o:Oper}{fr:Nat}{ρ:Operand→TV}{h h':Nat→AObj}{r:AR}(ha:aopS P o fr ρ h=some r)(hh:∀ k∈r.rd,h' k=h k):aopS P o fr ρ h'=some r:=by
 obtain ⟨r0,h0,rfl⟩:=Option.map_eq_some_iff.1 ha;rw [softA_rd] at hh;unfold aopS;rw [zt9 h0 hh,Option.map_some,zrq hh]
theorem zsx {P:Program}{f:FuncId}{args:List TV}{h h':Nat→AObj}{fr:Nat}{r:TV}{u:AHeap}{rd:List Nat}(hc:CallK P f args h fr (fun r' u' d'=>r'=r∧u'=u∧d'=rd))(hh:∀ k∈rd,h' k=h k):
  CallK P f args h' fr (fun r' u' d'=>r'=r∧u'=u∧d'=rd):=by
 obtain ⟨ids,L,args',Hs,r0,Hs',h1,h2,h3,⟨h4,h5⟩,h6,h7,h8,h9,F,hF,k1,k2,k3⟩:=hc;subst k3;have hi:∀ i∈ids,h' i=h i:=fun i hi=>hh i (by simp [hi]);refine ⟨ids,L,args',Hs,r0,Hs',h1,h2,h3,⟨?_,h5⟩,h6,h7,fun i hm=>by rw [hi i hm];exact h8 i hm, ?_,F,fun i hm=> ?_,k1,k2,rfl⟩
 · rw [h4];exact List.map_congr_left fun i hm=>(hi i hm).symm
 · rcases h9 with h9 | ⟨g1,g2,g3,g4⟩
   · exact .inl h9
   · exact .inr ⟨fun p hp=>by rw [hh p.1 (by simp;exact .inr ⟨_,_,hp⟩)];exact g1 p hp,g2,g3,g4⟩
 · have h0:=hF i hm;obtain ⟨k,y,q1,_,_⟩:=zd4 h2.1 h0;rw [h0,hi i (List.mem_of_getElem? q1)]
theorem zrt {P:Program}{f:FuncId}{args:List TV}{h h':Nat→AObj}{fr:Nat}{r:TV}{u:AHeap}{rd:List Nat}(hc:CallE P f args h fr (fun r' u' d'=>r'=r∧u'=u∧d'=rd))(hh:∀ k∈rd,h' k=h k):
  CallE P f args h' fr (fun r' u' d'=>r'=r∧u'=u∧d'=rd):=by
 obtain ⟨E,hE,ids,L,args',Hs,r0,Hs',h1,h2,h3,h4,h6,h7,h8,h9,F,hF,k1,k2,k3⟩:=hc;have hEE:E.ok h':=fun p hp=>by rw [hh p.1 (by rw [←k3];simp;exact .inr (.inr ⟨_,_,hp⟩))];exact hE p hp
 have hover:∀ k∈ids++L.map Prod.fst,over (E.map fun p=>(p.1,AObj.gone)) h' k=over (E.map fun p=>(p.1,AObj.gone)) h k:=by
  intro k hk;unfold over;split
  · rfl
  · exact hh k (by rw [←k3];exact List.mem_append_left _ hk)
 obtain ⟨ids',L',args'',Hs2,r2,Hs2',g1,g2,g3,g4,g5,g6,g7,g8,F',hF',j1,j2,j3⟩:=zsx (r:=r0.ren (sub ids fr)) (u:=(z1z (sub ids fr) ids Hs'++z3a (sub ids fr) fr (Hs'.drop ids.length)).filter fun p=> !F.contains p.1) (rd:=ids++L.map Prod.fst) ⟨ids,L,args',Hs,r0,Hs',h1,h2,h3,h4,h6,h7,h8,h9,F,hF,rfl,rfl,rfl⟩ hover;exact ⟨E,hEE,ids',L',args'',Hs2,r2,Hs2',g1,g2,g3,g4,g5,g6,g7,g8,F',hF',by rw [j1];exact k1,by rw [j2];exact k2,by rw [j3];exact k3⟩
theorem zb3 {ops:Array Oper}{o:Oper}{e e':Nat→TV}(h:∀ t∈o.looksAt ops,e' t=e t):want ops o e'=want ops o e:=by
 unfold want;cases hg:o.guard with
 | none=>rfl
 | some g=>
  obtain ⟨j,b⟩:=g;simp only;cases hd:(ops[j]?).bind (·.dst) with
  | none=>rfl
  | some d=>
   have:e' d=e d:=h d (by simp [Oper.looksAt,hg,hd]);simp only [Option.map_some,this]
theorem zkp {P:Program}{ops:Array Oper}{o:Oper}{fr:Nat}{e e':Nat→TV}{h h':Nat→AObj}{δ:Dl}(hs:OpStep P ops o fr e h δ)(he:∀ t∈o.looksAt ops,e' t=e t)(hh:∀ k∈δ.rd,h' k=h k):OpStep P ops o fr e' h' δ:=by
 have hop:∀ x∈o.op.operands,evF e' x=evF e x:=fun x hx=>zxj fun t ht=>he t (by
  subst ht;exact List.mem_append_left _ (List.mem_filterMap.2 ⟨.tmp t,by simpa using hx,rfl⟩))
 cases hs with
 | skip hw=>exact .skip (by rw [zb3 he];exact hw)
 | plain r hw hg ha=>exact .plain r (by rw [zb3 he];exact hw) hg (zt8 (by rw [zsv hop];exact ha) hh)
 | call c f args r upd rd hw hg hc hk=>
  refine .call c f args r upd rd (by rw [zb3 he];exact hw) hg ?_ (zrt hk hh);rw [←hc]
  have hops:o.op.operands=c.operands:=by
   unfold goCall at hg;split at hg
   · rename_i heq;injection hg with hg;subst hg;rw [heq];rfl
   · cases hg
  rw [hops] at hop;unfold calleeOf;cases hcal:c.callee with
  | value x=>
   simp only;rw [hop x (by simp [Call.operands,hcal]),List.map_congr_left (l:=c.args.toList) fun y hy=>hop y (by simp [Call.operands,hcal];exact .inr (by simpa using hy))]
  | _=>rfl
inductive Chain (P:Program)(ops:Array Oper)(nx:Nat):List Oper→Nat→(Nat→TV)→(Nat→AObj)→List Dl→Prop
 | nil (i:Nat) (e:Nat→TV) (h:Nat→AObj):Chain P ops nx [] i e h []
 | cons (o:Oper) (l:List Oper) (i:Nat) (e:Nat→TV) (h:Nat→AObj) (δ:Dl) (δs:List Dl):OpStep P ops o (nx+32*i) e h δ→δ.dst=o.dst→Chain P ops nx l (i+1) (putF δ.dst δ.val e) (over δ.upd h) δs→Chain P ops nx (o::l) i e h (δ::δs)
def endE (e:Nat→TV):List Dl→(Nat→TV)
 | []=>e
 | δ::δs=>endE (putF δ.dst δ.val e) δs
def endH (h:Nat→AObj):List Dl→(Nat→AObj)
 | []=>h
 | δ::δs=>endH (over δ.upd h) δs
theorem zky (u H:AHeap):hook (u++H)=over u (hook H):=funext fun o=>zo6 u H o
theorem za2 {P:Program}{ops:Array Oper}{nx:Nat}{K:Env→AHeap→z5s→Prop}:∀ (l:List Oper) (i:Nat) (e:Env) (h:AHeap) (tr:z5s),lex P ops nx l i e h tr K→
  ∃ δs e' h' tr',Chain P ops nx l i (look e) (hook h) δs∧look e'=endE (look e) δs∧hook h'=endH (hook h) δs∧tr'=(δs.map fun δ=>(δ.rd,δ.upd.map Prod.fst)).reverse++tr∧K e' h' tr'
 | [],i,e,h,tr,hl=>⟨[],e,h,tr, .nil _ _ _,rfl,rfl,rfl,hl⟩
 | o::l,i,e,h,tr,hl=>by
  have fin:∀ (δ:Dl) (e1:Env) (h1:AHeap),OpStep P ops o (nx+32*i) (look e) (hook h) δ→δ.dst=o.dst→look e1=putF δ.dst δ.val (look e)→hook h1=over δ.upd (hook h)→
    lex P ops nx l (i+1) e1 h1 ((δ.rd,δ.upd.map Prod.fst)::tr) K→
    ∃ δs e' h' tr',Chain P ops nx (o::l) i (look e) (hook h) δs∧look e'=endE (look e) δs∧hook h'=endH (hook h) δs∧tr'=(δs.map fun δ=>(δ.rd,δ.upd.map Prod.fst)).reverse++tr∧K e' h' tr':=by
   intro δ e1 h1 hs hd he hh hl;obtain ⟨δs,e',h',tr',c1,c2,c3,c4,c5⟩:=za2 l (i+1) e1 h1 _ hl;rw [he,hh] at c1;rw [he] at c2;rw [hh] at c3;exact ⟨δ::δs,e',h',tr', .cons o l i _ _ δ δs hs hd c1,c2,c3,by rw [c4];simp,c5⟩
  rw [lex] at hl;unfold zos at hl;split at hl
  · exact hl.elim
  · rename_i w hw;split at hl
    · rename_i hwt;subst hwt;unfold zx8 at hl;split at hl
      · rename_i c hc;split at hl
        · rename_i f args hcal
          have hcal':calleeOf (evF (look e)) c=some (f,args):=by
           have:evF (look e)=ev e:=funext fun x=>(zlj e x).symm;rw [this];exact hcal
          obtain ⟨E,hE,ids,L,args',Hs,r,Hs',g1,g2,g3,g4,g5,g6,g7,g8,F,hF,hk⟩:=hl
          exact fin ⟨o.dst,r.ren (sub ids (nx+32*i)),((z1z (sub ids (nx+32*i)) ids Hs'++z3a (sub ids (nx+32*i)) (nx+32*i) (Hs'.drop ids.length)).filter fun p=> !F.contains p.1)++E.map (fun p=>(p.1,AObj.gone)),(ids++L.map Prod.fst)++E.map Prod.fst⟩ _ _
           (.call c f args _ _ _ hw hc hcal' ⟨E,hE,ids,L,args',Hs,r,Hs',g1,g2,g3,g4,g5,g6,g7,g8,F,hF,rfl,rfl,rfl⟩) rfl (zdu _ _ _) (zky _ _) hk
        · exact hl.elim
      · rename_i hc;split at hl
        · rename_i r hr
          have hr':aopS P o (nx+32*i) (evF (look e)) (hook h)=some r:=by
           have:evF (look e)=ev e:=funext fun x=>(zlj e x).symm;rw [this];exact hr
          exact fin ⟨o.dst,r.val,r.upd,r.rd⟩ _ _ (.plain r hw hc hr') rfl (zdu _ _ _) (zky _ _) hl
        · exact hl.elim
    · rename_i hwt;have hwf:w=false:=by simpa using hwt
      subst hwf;exact fin ⟨o.dst, .tup [],[],[]⟩ _ _ (.skip hw) rfl (zdu _ _ _) (by rfl) hl
section
variable {P:Program} {ops:Array Oper} {w0:World} {foot:Nat→Prop} {Y:Nat→Prop} {pin:Nat→Option (Option Nat)}
theorem z9m {nx sz:Nat}(hdst:∀ (j:Nat) (q:Oper) (d:Nat),ops[j]? =some q→q.dst=some d→d<sz){Q:Exit→Act→World→Prop}:∀ (l:List Oper) (i:Nat) (e:Nat→TV) (h:Nat→AObj) (δs:List Dl) (β:Nat→Option Nat) (a:Act) (w:World),
  (∀ o∈l,∃ j:Nat,ops[j]? =some o)→Chain P ops nx l i e h δs→a.tmps.size=sz→RelF P w0 foot Y pin e h β a w→(∀ k,Occ pin β k→k<nx+32*i)→
  (∀ a' w' β',a'.tmps.size=sz→a'.defers=a.defers→RelF P w0 foot Y pin (endE e δs) (endH h δs) β' a' w'→(∀ k,Occ pin β' k→k<nx+32*(i+l.length))→Q .normal a' w')→wpList P ops Q l a w
 | [],i,e,h,δs,β,a,w,_,hc,hsz,hR,hb,hQ=>by
  cases hc;exact hQ a w β hsz rfl hR (by simpa using hb)
 | o::l,i,e,h,δs,β,a,w,hmem,hc,hsz,hR,hb,hQ=>by
  cases hc with
  | cons _ _ _ _ _ δ δs hs hd hc=>
   obtain ⟨j,hj⟩:=hmem o (by simp);refine wpList_step fun K hK=> ?_
   have hfr:∀ j,j<32→β (nx+32*i+j)=none:=by
    intro j _;cases hbj:β (nx+32*i+j) with
    | none=>rfl
    | some b=>have:=hb (nx+32*i+j) (.inl (by rw [hbj];simp));omega
   have hpn:∀ j,j<32→pin (nx+32*i+j)=none:=by
    intro j _;cases hbj:pin (nx+32*i+j) with
    | none=>rfl
    | some b=>have:=hb (nx+32*i+j) (.inr (by rw [hbj];simp));omega
   refine zc2 hR hfr hpn (by rw [hsz];exact hdst) (fun d hd=>by rw [hsz];exact hdst j o d hj hd) hs (fun a' w' β' ha' hd' hR' hb'=> ?_);refine hK a' w' (z9m hdst l (i+1) _ _ δs β' a' w' (fun o ho=>hmem o (List.mem_cons_of_mem _ ho)) hc (by rw [ha',hsz]) hR' (fun k hk=> ?_) (fun a'' w'' β'' h1 hd'' h2 h3=>hQ a'' w'' β'' h1 (hd''.trans hd') h2 (fun k hk=> ?_)))
   · rcases hk with hk | hk
     · rcases hb' k hk with h1 | h1
       · have:=hb k (.inl h1);omega
       · omega
     · have:=hb k (.inr hk);omega
   · have:=h3 k hk;simp only [List.length_cons];omega
end
end Go.AM

namespace Go.AM
def eD (e0:Nat→TV)(δ:Nat→Dl)(D:Nat→Bool):Nat→(Nat→TV)
 | 0=>e0
 | k+1=>if D k=true then putF (δ k).dst (δ k).val (eD e0 δ D k) else eD e0 δ D k
def hD (h0:Nat→AObj)(δ:Nat→Dl)(D:Nat→Bool):Nat→(Nat→AObj)
 | 0=>h0
 | k+1=>if D k=true then over (δ k).upd (hD h0 δ D k) else hD h0 δ D k
theorem z4b {d:Option Nat}{v:TV}{e:Nat→TV}{t:Nat}(h:d=some t):putF d v e t=v:=by subst h;simp [putF,AM.upd]
theorem z7d {d:Option Nat}{v:TV}{e:Nat→TV}{t:Nat}(h:d≠some t):putF d v e t=e t:=by
 cases d with
 | none=>rfl
 | some i=>simp only [putF,AM.upd];rw [if_neg (fun e=>h (by rw [e]))]
theorem z4i {u:AHeap}{h:Nat→AObj}{x:Nat}(hx:z0r u x=none):over u h x=h x:=by simp [over,hx]
variable {e0:Nat→TV} {h0:Nat→AObj} {δ:Nat→Dl}
theorem zhu {D D':Nat→Bool}{t:Nat}:∀ k,(∀ j,j<k→(δ j).dst=some t→D j=D' j)→eD e0 δ D k t=eD e0 δ D' k t
 | 0,_=>rfl
 | k+1,h=>by
  have ih:=zhu k (fun j hj=>h j (by omega));simp only [eD];by_cases hd:(δ k).dst=some t
  · have:=h k (by omega) hd;rw [this];split
    · rw [z4b hd,z4b hd]
    · exact ih
  · split<;>split<;>simp only [z7d hd,ih]
theorem zhf {D D':Nat→Bool}{x:Nat}:∀ k,(∀ j,j<k→z0r (δ j).upd x≠none→D j=D' j)→hD h0 δ D k x=hD h0 δ D' k x
 | 0,_=>rfl
 | k+1,h=>by
  have ih:=zhf k (fun j hj=>h j (by omega));simp only [hD];cases hd:z0r (δ k).upd x with
  | some y=>
   have:=h k (by omega) (by rw [hd];simp);rw [this];split
   · simp [over,hd]
   · exact ih
  | none=>split<;>split<;>simp only [z4i hd,ih]
def add (D:Nat→Bool)(i:Nat)(k:Nat):Bool:=if k=i then true else D k
theorem eD_add {D:Nat→Bool}{i t:Nat}(hi:D i=false):∀ n,i<n→(∀ j,i<j→j<n→D j=true→(δ i).dst=some t→(δ j).dst≠some t)→eD e0 δ (add D i) n t=putF (δ i).dst (δ i).val (eD e0 δ D n) t
 | 0,h,_=>by omega
 | n+1,h,hno=>by
  by_cases hin:i=n
  · subst hin;simp only [eD,add,if_true,hi,Bool.false_eq_true,if_false];by_cases hd:(δ i).dst=some t
    · rw [z4b hd,z4b hd]
    · rw [z7d hd,z7d hd];exact zhu i (fun j hj _=>by simp [add,show j≠i by omega])
  · have ih:=eD_add hi n (by omega) (fun j h1 h2=>hno j h1 (by omega));simp only [eD,add,show¬n=i from fun e=>hin e.symm,if_false];by_cases hDn:D n=true
    · simp only [hDn,if_true];by_cases hd:(δ n).dst=some t
      · have hdi:(δ i).dst≠some t:=fun hdi=>hno n (by omega) (by omega) hDn hdi hd;rw [z4b hd,z7d hdi,z4b hd]
      · rw [z7d hd];by_cases hdi:(δ i).dst=some t
        · rw [z4b hdi];rw [z4b hdi] at ih;exact ih
        · rw [z7d hdi,z7d hd];rw [z7d hdi] at ih;exact ih
    · rw [if_neg hDn,if_neg hDn];exact ih
theorem hD_add {D:Nat→Bool}{i x:Nat}(hi:D i=false):∀ n,i<n→(∀ j,i<j→j<n→D j=true→z0r (δ i).upd x≠none→z0r (δ j).upd x=none)→hD h0 δ (add D i) n x=over (δ i).upd (hD h0 δ D n) x
 | 0,h,_=>by omega
 | n+1,h,hno=>by
  by_cases hin:i=n
  · subst hin;simp only [hD,add,if_true,hi,Bool.false_eq_true,if_false];cases hd:z0r (δ i).upd x with
    | some y=>simp [over,hd]
    | none=>
     rw [z4i hd,z4i hd];exact zhf i (fun j hj _=>by simp [add,show j≠i by omega])
  · have ih:=hD_add hi n (by omega) (fun j h1 h2=>hno j h1 (by omega));simp only [hD,add,show¬n=i from fun e=>hin e.symm,if_false];by_cases hDn:D n=true
    · simp only [hDn,if_true];cases hd:z0r (δ n).upd x with
      | some y=>
       have hdi:z0r (δ i).upd x=none:=by
        cases hdi:z0r (δ i).upd x with
        | none=>rfl
        | some z=>have:=hno n (by omega) (by omega) hDn (by rw [hdi];simp);rw [hd] at this;cases this
       rw [z4i hdi];simp [over,hd]
      | none=>
       rw [z4i hd];cases hdi:z0r (δ i).upd x with
       | some y=>simp only [over,hdi] at ih ⊢;exact ih
       | none=>rw [z4i hdi,z4i hd];rw [z4i hdi] at ih;exact ih
    · rw [if_neg hDn,if_neg hDn];exact ih
inductive Anc (ops:Array Oper)(i:Nat):Nat→Prop
 | one (j:Nat) (o:Oper) (e:Edge):ops[j]? =some o→e∈o.after→Region.binds .any e=true→e.on=i→Anc ops i j
 | more (j:Nat) (o:Oper) (e:Edge):ops[j]? =some o→e∈o.after→Region.binds .any e=true→Anc ops i e.on→Anc ops i j
theorem zgt {ops:Array Oper} {D:Nat→Bool} (hD:∀ (j:Nat) (o:Oper) (e:Edge),ops[j]? =some o→D j=true→e∈o.after→Region.binds .any e=true→D e.on=true) {i j:Nat} (h:Anc ops i j)
  (hj:∀ (o:Oper) (e:Edge),ops[j]? =some o→e∈o.after→Region.binds .any e=true→D e.on=true):D i=true:=by
 induction h with
 | one j o e h1 h2 h3 h4=>rw [←h4];exact hj o e h1 h2 h3
 | more j o e h1 h2 h3 _ ih=>exact ih (fun o' e' g1 g2 g3=>hD _ o' e' g1 (hj o e h1 h2 h3) g2 g3)
theorem zfx {ops:Array Oper}(hedge:∀ (j:Nat) (o:Oper) (e:Edge),ops[j]? =some o→e∈o.after→Region.binds .any e=true→e.on<j)(j i:Nat)(h:((Region.before ops).getD j 0).testBit i=true):Anc ops i j:=by
 let F:Array Nat→Oper→Array Nat:=fun acc o=>acc.push (o.after.foldl (fun s e=>if Region.binds .any e then s ||| 2^e.on ||| acc.getD e.on 0 else s) 0)
 have key:∀ (l:List Oper) (k:Nat) (acc:Array Nat),(∀ j,l[j]? =ops[k+j]?)→acc.size=k→(∀ j,j<k→∀ i,(acc.getD j 0).testBit i=true→Anc ops i j)→
   ∀ j i,((l.foldl F acc).getD j 0).testBit i=true→Anc ops i j:=by
  intro l
  induction l with
  | nil=>
   intro k acc _ hsz hacc j i hb;simp only [List.foldl_nil] at hb;by_cases hj:j<k
   · exact hacc j hj i hb
   · rw [Array.getD_eq_getD_getElem?,Array.getElem?_eq_none (by omega)] at hb;simp at hb
  | cons o l ih=>
   intro k acc hl hsz hacc j i hb;simp only [List.foldl_cons] at hb;have h0:ops[k]? =some o:=by simpa using (hl 0).symm
   refine ih (k+1) (F acc o) (fun j=>by have:=hl (j+1);simpa [Nat.add_assoc,Nat.add_comm 1 j] using this) (by simp [F,hsz]) (fun j hj i hb=> ?_) j i hb;by_cases hjk:j<k
   · refine hacc j hjk i ?_;simp only [F,Array.getD_eq_getD_getElem?,Array.getElem?_push,show¬j=acc.size by omega,if_false] at hb;simpa [Array.getD_eq_getD_getElem?] using hb
   · have hjk:j=k:=by omega
     subst hjk;simp only [F,Array.getD_eq_getD_getElem?,Array.getElem?_push,hsz,if_true,Option.getD_some] at hb
     have fold:∀ (es:List Edge),(∀ e∈es,e∈o.after)→∀ s,(s.testBit i=true→Anc ops i j)→((es.foldl (fun s e=>if Region.binds .any e then s ||| 2^e.on ||| acc.getD e.on 0 else s) s).testBit i=true)→Anc ops i j:=by
      intro es
      induction es with
      | nil=>intro _ s hs hb;exact hs hb
      | cons e es ih2=>
       intro hes s hs hb;simp only [List.foldl_cons] at hb;refine ih2 (fun e h=>hes e (List.mem_cons_of_mem _ h)) _ (fun hb=> ?_) hb;have hem:=hes e (by simp);split at hb
       · rename_i hbind;simp only [Nat.testBit_or,Nat.testBit_two_pow,Bool.or_eq_true,decide_eq_true_eq] at hb;rcases hb with (hb | hb) | hb
         · exact hs hb
         · exact .one j o e h0 hem hbind hb
         · have hlt:=hedge j o e h0 hem hbind;exact .more j o e h0 hem hbind (hacc e.on hlt i hb)
       · exact hs hb
     refine fold o.after.toList (fun e h=>by simpa using h) 0 (fun h=>by simp at h) ?_;rw [←Array.foldl_toList] at hb;simpa [Array.getD_eq_getD_getElem?] using hb
 have:=key ops.toList 0 #[] (fun j=>by simp) rfl (fun j hj=>by omega) j i;apply this;rw [Array.foldl_toList];exact h
theorem zk0 {P:Program}{ops:Array Oper}{nx:Nat}:∀ {l:List Oper} {i:Nat} {e:Nat→TV} {h:Nat→AObj} {δs:List Dl},Chain P ops nx l i e h δs→δs.length=l.length∧
  ∀ k o,l[k]? =some o→∃ d,δs[k]? =some d∧d.dst=o.dst∧OpStep P ops o (nx+32*(i+k)) (endE e (δs.take k)) (endH h (δs.take k)) d
 | [],i,e,h,δs,hc=>by cases hc;exact ⟨rfl,fun k o ho=>by simp at ho⟩
 | o::l,i,e,h,δs,hc=>by
  cases hc with
  | cons _ _ _ _ _ d δs hs hd hc=>
   obtain ⟨h1,h2⟩:=zk0 hc;refine ⟨by simp [h1],fun k o' ho=> ?_⟩;cases k with
   | zero=>simp at ho;subst ho;exact ⟨d,rfl,hd,by simpa [endE,endH] using hs⟩
   | succ k=>
    obtain ⟨d',g1,g2,g3⟩:=h2 k o' (by simpa using ho);refine ⟨d',by simpa using g1,g2, ?_⟩;rw [show i+(k+1)=i+1+k by omega];simpa [endE,endH] using g3
theorem zvp (e0:Nat→TV)(δs:List Dl)(dflt:Dl)(D:Nat→Bool):∀ k,k≤δs.length→(∀ j,j<k→D j=true)→endE e0 (δs.take k)=eD e0 (fun j=>δs.getD j dflt) D k:=by
 have snoc:∀ (l:List Dl) (e:Nat→TV) (d:Dl),endE e (l++ [d])=putF d.dst d.val (endE e l):=by
  intro l;induction l with
  | nil=>intro e d;rfl
  | cons x l ih=>intro e d;exact ih _ _
 intro k
 induction k with
 | zero=>intro _ _;rfl
 | succ k ih=>
  intro hk hD;have hlt:k<δs.length:=by omega
  rw [List.take_succ_eq_append_getElem hlt,snoc,ih (by omega) (fun j hj=>hD j (by omega))];simp only [eD,hD k (by omega),if_true,List.getD,List.getElem?_eq_getElem hlt,Option.getD_some]
theorem ztg (h0:Nat→AObj)(δs:List Dl)(dflt:Dl)(D:Nat→Bool):∀ k,k≤δs.length→(∀ j,j<k→D j=true)→endH h0 (δs.take k)=hD h0 (fun j=>δs.getD j dflt) D k:=by
 have snoc:∀ (l:List Dl) (h:Nat→AObj) (d:Dl),endH h (l++ [d])=over d.upd (endH h l):=by
  intro l;induction l with
  | nil=>intro h d;rfl
  | cons x l ih=>intro h d;exact ih _ _
 intro k
 induction k with
 | zero=>intro _ _;rfl
 | succ k ih=>
  intro hk hDD;have hlt:k<δs.length:=by omega
  rw [List.take_succ_eq_append_getElem hlt,snoc,ih (by omega) (fun j hj=>hDD j (by omega))];simp only [hD,hDD k (by omega),if_true,List.getD,List.getElem?_eq_getElem hlt,Option.getD_some]
def upTo (i:Nat)(j:Nat):Bool:=decide (j<i)
theorem zx1 (e0:Nat→TV)(δ:Nat→Dl)(i:Nat):∀ n,i≤n→eD e0 δ (upTo i) n=eD e0 δ (upTo i) i
 | 0,h=>by have:i=0:=by omega
           subst this;rfl
 | n+1,h=>by
  by_cases hin:i=n+1
  · rw [hin]
  · simp only [eD];rw [if_neg (by simp [upTo];omega)];exact zx1 e0 δ i n (by omega)
theorem zuv (h0:Nat→AObj)(δ:Nat→Dl)(i:Nat):∀ n,i≤n→hD h0 δ (upTo i) n=hD h0 δ (upTo i) i
 | 0,h=>by have:i=0:=by omega
           subst this;rfl
 | n+1,h=>by
  by_cases hin:i=n+1
  · rw [hin]
  · simp only [hD];rw [if_neg (by simp [upTo];omega)];exact zuv h0 δ i n (by omega)
theorem zdh {u:AHeap}{x:Nat}(h:z0r u x≠none):x∈u.map Prod.fst:=by
 cases hx:z0r u x with
 | none=>exact absurd hx h
 | some y=>exact List.mem_map.2 ⟨_,z7c hx,rfl⟩
theorem zsw {ops:Array Oper}{tr:z5s}(h:zjd ops tr=true):
  (∀ (j:Nat) (o:Oper) (e:Edge),ops[j]? =some o→e∈o.after→Region.binds .any e=true→e.on<j)∧
  ∀ (i j:Nat) (oi oj:Oper) (xi xj:List Nat×List Nat),i<j→ops[i]? =some oi→ops[j]? =some oj→tr.reverse[i]? =some xi→tr.reverse[j]? =some xj→((Region.before ops).getD j 0).testBit i=false→
   oi.apart ops oj=true∧(∀ o∈xi.2,o ∉ xj.1∧o ∉ xj.2)∧(∀ o∈xj.2,o ∉ xi.1):=by
 simp only [zjd,Bool.and_eq_true] at h;obtain ⟨⟨_,h1⟩,h2⟩:=h;refine ⟨fun j o e ho he hb=> ?_,fun i j oi oj xi xj hij hoi hoj hxi hxj hbit=> ?_⟩
 · have:=List.all_eq_true.1 h1 (o,j) (by rw [List.mem_zipIdx_iff_getElem?];simpa using ho);have:=Array.all_eq_true_iff_forall_mem.1 this e he;simpa [hb] using this
 · have hy:((oj,xj),j)∈(ops.toList.zip tr.reverse).zipIdx:=by
    rw [List.mem_zipIdx_iff_getElem?];simp only [List.getElem?_zip_eq_some];exact ⟨by simpa using hoj,hxj⟩
   have hx:((oi,xi),i)∈(ops.toList.zip tr.reverse).zipIdx:=by
    rw [List.mem_zipIdx_iff_getElem?];simp only [List.getElem?_zip_eq_some];exact ⟨by simpa using hoi,hxi⟩
   have h3:=List.all_eq_true.1 (List.all_eq_true.1 h2 _ hy) _ hx;simp only [hij,decide_true,Bool.not_true,Bool.false_or,hbit,Bool.and_eq_true,List.all_eq_true,Bool.not_eq_true',List.contains_eq_mem,decide_eq_false_iff_not] at h3;exact ⟨h3.1.1,h3.1.2,h3.2⟩
end Go.AM

namespace Go.AM
section
variable {P:Program} {w0:World} {foot:Nat→Prop} {Y:Nat→Prop} {pin:Nat→Option (Option Nat)}
theorem z86 {e e':Nat→TV}{h h':Nat→AObj}{β:Nat→Option Nat}{a:Act}{w:World}(hR:RelF P w0 foot Y pin e h β a w)(he:∀ t,e' t=e t)(hh:∀ o,h' o=h o):RelF P w0 foot Y pin e' h' β a w:=by
 have:e'=e:=funext he;have:h'=h:=funext hh
 subst_vars
 exact hR
theorem zg9 {ops:Array Oper} {nx sz:Nat} {e0:Nat→TV} {h0:Nat→AObj} {δs:List Dl} {tr:z5s} (hch:Chain P ops nx ops.toList 0 e0 h0 δs) (htr:tr=(δs.map fun δ=>(δ.rd,δ.upd.map Prod.fst)).reverse) (hB:zjd ops tr=true)
  (hdst:∀ (j:Nat) (q:Oper) (d:Nat),ops[j]? =some q→q.dst=some d→d<sz) {Q:Exit→Act→World→Prop}
  (hQ:∀ a' w' β',a'.tmps.size=sz→RelF P w0 foot Y pin (endE e0 δs) (endH h0 δs) β' a' w'→(∀ k,Occ pin β' k→k<nx+32*ops.size)→Q .normal a' w'):
  ∀ (fuel:Nat) (listed:Array Bool) (β:Nat→Option Nat) (a:Act) (w:World),listed.size=ops.size→((List.range ops.size).filter fun i=> !listed.getD i true).length=fuel→
   (∀ (j:Nat) (o:Oper) (e:Edge),ops[j]? =some o→listed.getD j false=true→e∈o.after→Region.binds .any e=true→listed.getD e.on false=true)→
   a.tmps.size=sz→RelF P w0 foot Y pin (eD e0 (fun j=>δs.getD j ⟨none, .any,[],[]⟩) (fun j=>listed.getD j false) ops.size) (hD h0 (fun j=>δs.getD j ⟨none, .any,[],[]⟩) (fun j=>listed.getD j false) ops.size) β a w→
   (∀ k,Occ pin β k→k<nx∨∃ i,i<ops.size∧listed.getD i false=true∧nx+32*i≤k∧k<nx+32*(i+1))→wpAny P .any ops Q fuel listed a w:=by
 obtain ⟨hedge,hpair⟩:=zsw hB;obtain ⟨hlen,hget⟩:=zk0 hch;simp only [Array.length_toList,Array.getElem?_toList,Nat.zero_add] at hlen hget
 let dflt:Dl:=⟨none, .any,[],[]⟩
 let δ:Nat→Dl:=fun j=>δs.getD j dflt
 have hδ:∀ j o,ops[j]? =some o→∃ d,δs[j]? =some d∧δ j=d∧d.dst=o.dst∧tr.reverse[j]? =some (d.rd,d.upd.map Prod.fst):=by
  intro j o ho;obtain ⟨d,h1,h2,_⟩:=hget j o ho;refine ⟨d,h1,by simp [δ,List.getD,h1],h2, ?_⟩;rw [htr,List.reverse_reverse,List.getElem?_map,h1];rfl
 intro fuel
 induction fuel with
 | zero=>
  intro listed β a w hsz hcount hclosed hasz hR hb
  have hall:∀ i,i<ops.size→listed.getD i true=true:=by
   intro i hi;have:=List.eq_nil_of_length_eq_zero hcount;have h2:=List.filter_eq_nil_iff.1 this i (by simpa using hi);simpa using h2
  have hfull:∀ i,i<ops.size→listed.getD i false=true:=by
   intro i hi;have:=hall i hi;simp only [Array.getD_eq_getD_getElem?,Array.getElem?_eq_getElem (show i<listed.size by omega),Option.getD_some] at this ⊢;exact this
  refine ⟨?_,hQ a w β hasz (z86 hR (fun t=> ?_) (fun o=> ?_)) (fun k hk=> ?_)⟩
  · unfold Region.ready;rw [List.filter_eq_nil_iff];intro i hi;simp only [List.mem_range] at hi;simp [hall i hi]
  · have:=zvp e0 δs dflt (fun j=>listed.getD j false) ops.size (by omega) (fun j hj=>hfull j hj);rw [List.take_of_length_le (by omega)] at this;rw [this]
  · have:=ztg h0 δs dflt (fun j=>listed.getD j false) ops.size (by omega) (fun j hj=>hfull j hj);rw [List.take_of_length_le (by omega)] at this;rw [this]
  · rcases hb k hk with h1 | ⟨i,h1,_,_,h4⟩<;>omega
 | succ fuel ih=>
  intro listed β a w hsz hcount hclosed hasz hR hb;refine ⟨fun hready=> ?_,fun i hi=> ?_⟩
  ·
   exfalso
   have hex:∃ i,i<ops.size∧listed.getD i true=false:=by
    have hne:((List.range ops.size).filter fun i=> !listed.getD i true) ≠ []:=by intro e;rw [e] at hcount;simp at hcount
    obtain ⟨i,hi⟩:=List.exists_mem_of_ne_nil _ hne;rw [List.mem_filter] at hi;exact ⟨i,by simpa using hi.1,by simpa using hi.2⟩
   have hmin:∀ n,(∃ i,i<n∧i<ops.size∧listed.getD i true=false)→∃ i,i<ops.size∧listed.getD i true=false∧∀ j,j<i→listed.getD j true=true:=by
    intro n
    induction n with
    | zero=>rintro ⟨i,hi,_⟩;omega
    | succ n ih2=>
     rintro ⟨i,hi,hi2,hi3⟩;by_cases hlow:∃ i,i<n∧i<ops.size∧listed.getD i true=false
     · exact ih2 hlow
     · have hin:i=n:=by
        by_cases e:i<n
        · exact absurd ⟨i,e,hi2,hi3⟩ hlow
        · omega
       subst hin;refine ⟨i,hi2,hi3,fun j hj=> ?_⟩;cases hj2:listed.getD j true with
       | true=>rfl
       | false=>exact absurd ⟨j,hj,by omega,hj2⟩ hlow
   obtain ⟨i0,h1,h2⟩:=hex;obtain ⟨i,hi1,hi2,hi3⟩:=hmin ops.size ⟨i0,h1,h1,h2⟩
   have hmem:i∈Region.ready .any ops listed:=by
    rw [mem_ready];refine ⟨hi2,ops[i],Array.getElem?_eq_getElem hi1,fun e he hbe=> ?_⟩;have hlt:=hedge i ops[i] e (Array.getElem?_eq_getElem hi1) he hbe;have:=hi3 e.on hlt;have hls:e.on<listed.size:=by omega
    simp only [Array.getD_eq_getD_getElem?,Array.getElem?_eq_getElem hls,Option.getD_some] at this ⊢;exact this
   rw [hready] at hmem;cases hmem
  · obtain ⟨hiun,o,ho,hafter⟩:=mem_ready.1 hi;have hilt:i<ops.size:=(Array.getElem?_eq_some_iff.1 ho).1
    have hiun':listed.getD i false=false:=by
     simp only [Array.getD_eq_getD_getElem?,Array.getElem?_eq_getElem (show i<listed.size by omega),Option.getD_some] at hiun ⊢;exact hiun
    obtain ⟨d,hd1,hd2,hd3,hd4⟩:=hδ i o ho
    have hanc_i:∀ j,Anc ops j i→listed.getD j false=true:=fun j hj=>zgt (D:=fun j=>listed.getD j false) hclosed hj (fun o' e h1 h2 h3=>by
     rw [ho] at h1;injection h1 with h1;subst h1;exact hafter e h2 h3)
    have hanc_j:∀ j,listed.getD j false=true→¬Anc ops i j:=fun j hj hanc=>by
     have:=zgt (D:=fun j=>listed.getD j false) hclosed hanc (fun o' e h1 h2 h3=>hclosed j o' e h1 hj h2 h3);rw [hiun'] at this;cases this
    have hord:∀ j,j<ops.size→j≠i→(listed.getD j false=upTo i j)∨(∃ oj dj,ops[j]? =some oj∧δ j=dj∧dj.dst=oj.dst∧
      ((j<i∧oj.apart ops o=true∧(∀ x∈dj.upd.map Prod.fst,x ∉ d.rd∧x ∉ d.upd.map Prod.fst)∧(∀ x∈d.upd.map Prod.fst,x ∉ dj.rd))∨
       (i<j∧o.apart ops oj=true∧(∀ x∈d.upd.map Prod.fst,x ∉ dj.rd∧x ∉ dj.upd.map Prod.fst)∧(∀ x∈dj.upd.map Prod.fst,x ∉ d.rd)))):=by
     intro j hj hne;have hoj:ops[j]? =some ops[j]:=Array.getElem?_eq_getElem hj;obtain ⟨dj,g1,g2,g3,g4⟩:=hδ j _ hoj;rcases Nat.lt_or_gt_of_ne hne with hlt | hgt
     · cases hbit:((Region.before ops).getD i 0).testBit j with
       | true=>
        have:=hanc_i j (zfx hedge i j hbit);exact .inl (by rw [this];simp [upTo,hlt])
       | false=>
        have:=hpair j i _ o _ _ hlt hoj ho g4 hd4 hbit;exact .inr ⟨_,dj,hoj,g2,g3, .inl ⟨hlt,this.1,this.2.1,this.2.2⟩⟩
     · cases hbit:((Region.before ops).getD j 0).testBit i with
       | true=>
        have hanc:=zfx hedge j i hbit
        have:listed.getD j false=false:=by
         cases hl:listed.getD j false with
         | false=>rfl
         | true=>exact absurd hanc (hanc_j j hl)
        exact .inl (by rw [this];simp [upTo];omega)
       | false=>
        have:=hpair i j o _ _ _ hgt ho hoj hd4 g4 hbit;exact .inr ⟨_,dj,hoj,g2,g3, .inr ⟨hgt,this.1,this.2.1,this.2.2⟩⟩
    have hstep:OpStep P ops o (nx+32*i) (eD e0 δ (fun j=>listed.getD j false) ops.size) (hD h0 δ (fun j=>listed.getD j false) ops.size) d:=by
     obtain ⟨d',h1,_,h3⟩:=hget i o ho;rw [hd1] at h1;injection h1 with h1;subst h1
     have e1:=zvp e0 δs dflt (upTo i) i (by omega) (fun j hj=>by simp [upTo,hj]);have e2:=ztg h0 δs dflt (upTo i) i (by omega) (fun j hj=>by simp [upTo,hj]);rw [e1,e2,←zx1 e0 _ i ops.size (by omega),←zuv h0 _ i ops.size (by omega)] at h3;refine zkp h3 (fun t ht=> ?_) (fun x hx=> ?_)
     · refine zhu ops.size (fun j hj hdj=> ?_);by_cases hji:j=i
       · subst hji;rw [hiun'];simp [upTo]
       · rcases hord j hj hji with h4 | ⟨oj,dj,g1,g2,g3,h5⟩
         · exact h4
         · exfalso
           have hdj':oj.dst=some t:=by
            have:δ j=dj:=g2;rw [←g3,←this];exact hdj
           rcases h5 with ⟨_,hap,_⟩ | ⟨_,hap,_⟩
           · exact (Oper.apart_spec hap).1 t hdj' ht
           · exact (Oper.apart_spec hap).2.2 t hdj' ht
     · refine zhf ops.size (fun j hj hdj=> ?_);by_cases hji:j=i
       · subst hji;rw [hiun'];simp [upTo]
       · rcases hord j hj hji with h4 | ⟨oj,dj,g1,g2,g3,h5⟩
         · exact h4
         · exfalso
           have hxu:x∈dj.upd.map Prod.fst:=by
            have:δ j=dj:=g2;rw [←this];exact zdh hdj
           rcases h5 with ⟨_,_,h6,_⟩ | ⟨_,_,_,h6⟩
           · exact (h6 x hxu).1 hx
           · exact h6 x hxu hx
    have hfr:∀ j,j<32→β (nx+32*i+j)=none:=by
     intro j hj;cases hbj:β (nx+32*i+j) with
     | none=>rfl
     | some b=>
      rcases hb _ (.inl (by rw [hbj];simp:β (nx+32*i+j)≠none)) with h1 | ⟨i',h1,h2,h3,h4⟩
      · omega
      · have:i'=i:=by omega
        subst this;rw [hiun'] at h2;cases h2
    have hpn:∀ j,j<32→pin (nx+32*i+j)=none:=by
     intro j hj;cases hbj:pin (nx+32*i+j) with
     | none=>rfl
     | some b=>
      rcases hb _ (.inr (by rw [hbj];simp:pin (nx+32*i+j)≠none)) with h1 | ⟨i',h1,h2,h3,h4⟩
      · omega
      · have:i'=i:=by omega
        subst this;rw [hiun'] at h2;cases h2
    unfold wpOp;rw [ho];simp only
    have hset:∀ j,(listed.setIfInBounds i true).getD j false=add (fun j=>listed.getD j false) i j:=by
     intro j;simp only [add];by_cases hji:j=i
     · subst hji;simp [show j<listed.size by omega]
     · rw [if_neg hji];exact getD_set_ne false (fun e=>hji e.symm)
    have hgo:=zc2 (o:=o) (fr:=nx+32*i) hR hfr hpn (by rw [hasz];exact hdst) (fun dd hdd=>by rw [hasz];exact hdst i o dd ho hdd) hstep
     (K:=wpAny P .any ops Q fuel (listed.setIfInBounds i true)) (Q:=Q) (fun a' w' β' ha' _ hR' hb'=>by
      refine ih (listed.setIfInBounds i true) β' a' w' (by simpa using hsz) ?_ ?_ (by rw [ha',hasz]) (z86 hR' (fun t=> ?_) (fun x=> ?_)) (fun k hk=> ?_)
      ·
       have hperm:((List.range ops.size).filter fun k=> !(listed.setIfInBounds i true).getD k true)=((List.range ops.size).filter fun k=> !listed.getD k true).filter (fun k=>k !=i):=by
        rw [List.filter_filter];apply List.filter_congr;intro k _;by_cases hki:k=i
        · subst hki;simp [show k<listed.size by omega]
        · rw [getD_set_ne true (fun e=>hki e.symm)];simp [hki]
       rw [hperm];have hnd:((List.range ops.size).filter fun k=> !listed.getD k true).Nodup:=List.Pairwise.filter _ List.nodup_range
       have hmem:i∈(List.range ops.size).filter fun k=> !listed.getD k true:=by
        rw [List.mem_filter];exact ⟨by simpa using hilt,by rw [hiun];rfl⟩
       have hc:(((List.range ops.size).filter fun k=> !listed.getD k true).filter (fun k=>k !=i)).length+1=((List.range ops.size).filter fun k=> !listed.getD k true).length:=by
        have:((List.range ops.size).filter fun k=> !listed.getD k true).filter (fun k=>k !=i)=((List.range ops.size).filter fun k=> !listed.getD k true).erase i:=by
         rw [List.Nodup.erase_eq_filter hnd]
        rw [this,List.length_erase_of_mem hmem];have:=List.length_pos_of_mem hmem;omega
       omega
      · intro j oj e h1 h2 h3 h4;rw [hset] at h2 ⊢;simp only [add] at h2 ⊢;split
        · rfl
        · split at h2
          · rename_i hji;subst hji;rw [ho] at h1;injection h1 with h1;subst h1
            exact hafter e h3 h4
          · exact hclosed j oj e h1 h2 h3 h4
      · show eD e0 δ _ ops.size t=_;have he:(fun j=>(listed.setIfInBounds i true).getD j false)=add (fun j=>listed.getD j false) i:=funext hset;rw [he,eD_add (by exact hiun') ops.size hilt (fun j h1 h2 h3 h4=> ?_)]
        · rw [show δ i=d from hd2]
        · intro h5;rcases hord j h2 (by omega) with h6 | ⟨oj,dj,g1,g2,g3,h7⟩
          · rw [h6] at h3;simp [upTo] at h3;omega
          · have hdi:o.dst=some t:=by rw [←hd3,←hd2];exact h4
            have hdj:oj.dst=some t:=by rw [←g3,←g2];exact h5
            rcases h7 with ⟨h8,_⟩ | ⟨_,hap,_⟩
            · omega
            · exact (Oper.apart_spec hap).2.1 t hdi hdj
      · show hD h0 δ _ ops.size x=_;have he:(fun j=>(listed.setIfInBounds i true).getD j false)=add (fun j=>listed.getD j false) i:=funext hset;rw [he,hD_add (by exact hiun') ops.size hilt (fun j h1 h2 h3 h4=> ?_)]
        · rw [show δ i=d from hd2]
        · rcases hord j h2 (by omega) with h6 | ⟨oj,dj,g1,g2,g3,h7⟩
          · rw [h6] at h3;simp [upTo] at h3;omega
          · have hdi:x∈d.upd.map Prod.fst:=by rw [←hd2];exact zdh h4
            rcases h7 with ⟨h8,_⟩ | ⟨_,_,h9,_⟩
            · omega
            · have:=(h9 x hdi).2;rw [←g2] at this;cases hf:z0r (δ j).upd x with
              | none=>rfl
              | some y=>exact absurd (zdh (by rw [hf];simp)) this
      · rcases (show Occ pin β k∨(nx+32*i≤k∧k<nx+32*i+32) from hk.elim (fun hk=>(hb' k hk).imp .inl id) fun hk=> .inl (.inr hk)) with h1 | h1
        · rcases hb k h1 with h2 | ⟨i',h2,h3,h4,h5⟩
          · exact .inl h2
          · refine .inr ⟨i',h2, ?_,h4,h5⟩;rw [hset];simp only [add];split
            · rfl
            · exact h3
        · refine .inr ⟨i,hilt, ?_,by omega,by omega⟩;rw [hset];simp [add])
    split at hgo
    · rename_i hw;rw [if_pos hw];exact .inl hgo
    · rename_i hw;rw [if_neg hw];exact hgo
theorem zm9 {id:Nat} {ops:Array Oper} {dr:Bool} {s:St} {β:Nat→Option Nat} {a:Act} {w:World} {Q:Exit→Act→World→Prop} {R:St→Prop} (hm:P.follows .mixedOrders=true) (hdst:dstB ops a.tmps.size=true)
  (hl:lex P ops s.nx ops.toList 0 s.env s.heap [] fun e h tr=>(dr=true→zjd ops tr=true)∧R ⟨e,h,s.nx+32*ops.size⟩)
  (hR:RelF P w0 foot Y pin (look s.env) (hook s.heap) β a w) (hb:∀ k,Occ pin β k→k<s.nx)
  (hQ:∀ s' a' w' β',R s'→a'.tmps.size=a.tmps.size→RelF P w0 foot Y pin (look s'.env) (hook s'.heap) β' a' w'→(∀ k,Occ pin β' k→k<s'.nx)→Q .normal a' w'):(Code.region id ops dr).wp P Q a w:=by
 have hdst':∀ (j:Nat) (q:Oper) (d:Nat),ops[j]? =some q→q.dst=some d→d<a.tmps.size:=by
  intro j q d hq hd;have:=Array.all_eq_true_iff_forall_mem.1 hdst q (Array.mem_of_getElem? hq);rw [hd] at this;simpa using this
 obtain ⟨δs,e',h',tr',hch,he,hh,htr,hdraw,hRR⟩:=za2 _ _ _ _ _ hl;rw [List.append_nil] at htr
 have hfin:∀ a' w' β',a'.tmps.size=a.tmps.size→RelF P w0 foot Y pin (endE (look s.env) δs) (endH (hook s.heap) δs) β' a' w'→(∀ k,Occ pin β' k→k<s.nx+32*ops.size)→Q .normal a' w':=by
  intro a' w' β' h1 h2 h3;refine hQ _ a' w' β' hRR h1 ?_ h3;show RelF P w0 foot Y pin (look e') (hook h') β' a' w';rw [he,hh];exact h2
 cases dr with
 | false=>
  refine wp_region_list (z9m hdst' ops.toList 0 _ _ δs β a w (fun o ho=> ?_) hch rfl hR (by simpa using hb) (fun a' w' β' h1 _ h2 h3=>hfin a' w' β' h1 h2 (by simpa using h3)));obtain ⟨j,hj⟩:=List.getElem?_of_mem ho;exact ⟨j,by simpa using hj⟩
 | true=>
  refine wp_region_any hm ?_
  have hR':RelF P w0 foot Y pin (look s.env) (hook s.heap) β a { w with drawn:=w.drawn+1 }:=by
   have g:Goes w { w with drawn:=w.drawn+1 } (XO Y (hook s.heap) β) (XO Y (hook s.heap) β) β β:=⟨Nat.le_refl _,fun b hb _=>⟨rfl,hb⟩,fun _ _=>rfl,fun o b hb=>⟨hb,hR.objs.lt o b hb⟩⟩
   exact ⟨hR.good.drew,fun i=>(hR.env i).goes g,⟨fun o b h1 h2=>(hR.objs.rep o b h1 h2).goes g rfl,hR.objs.has,hR.objs.inj,hR.objs.lt⟩,hR.own,hR.defers,hR.ylt,hR.pins,hR.gl⟩
  have hfalse:∀ i,(Array.replicate ops.size false).getD i false=false:=by
   intro i;by_cases hi:i<ops.size
   · simp [hi]
   · simp [hi]
  refine zg9 (w0:=w0) (foot:=foot) (Y:=Y) hch htr (hdraw rfl) hdst' hfin ops.size _ β a _ (by simp) ?_ (fun j o e _ h2=>by rw [hfalse] at h2;cases h2) rfl (z86 hR' (fun t=> ?_) (fun x=> ?_)) (fun k hk=> .inl (hb k hk))
  · have:((List.range ops.size).filter fun i=> !(Array.replicate ops.size false).getD i true)=List.range ops.size:=by
     apply List.filter_eq_self.2;intro i hi;simp only [List.mem_range] at hi;simp [hi]
    rw [this];simp
  · have key:∀ n,eD (look s.env) (fun j=>δs.getD j ⟨none, .any,[],[]⟩) (fun j=>(Array.replicate ops.size false).getD j false) n=look s.env:=by
     intro n;induction n with
     | zero=>rfl
     | succ n ih=>simp only [eD];rw [if_neg (by rw [hfalse];simp)];exact ih
    rw [key]
  · have key:∀ n,hD (hook s.heap) (fun j=>δs.getD j ⟨none, .any,[],[]⟩) (fun j=>(Array.replicate ops.size false).getD j false) n=hook s.heap:=by
     intro n;induction n with
     | zero=>rfl
     | succ n ih=>simp only [hD];rw [if_neg (by rw [hfalse];simp)];exact ih
    rw [key]
end
end Go.AM

namespace Go.AM
section
variable {w:World} {h h':Nat→AObj} {β:Nat→Option Nat} {Y:Nat→Prop} {σ:Nat→Nat} {E:Lent} {n':Nat}
def cutβ (σ:Nat→Nat)(n':Nat)(β:Nat→Option Nat)(o:Nat):Option Nat:=if o<n' then β (σ o) else none
theorem zuc (hO:Objs h β Y w) {L:Lent} (hL:L.ok h) {Z:Nat→Prop} (hZ:∀ b,¬XO Y h β b→¬Z b) (hLZ:∀ p∈L,∀ b,β p.1=some b→¬Z b)
  {x:AObj} {b:Nat} (hx:ORep w (XO Y h β) β x b):ORep w Z β (x.lend L) b:=by
 have g:Goes w w (XO Y h β) Z β β:=⟨Nat.le_refl _,fun b hb _=>⟨rfl,hZ b hb⟩,fun _ _=>rfl,fun o b hb=>⟨hb,hO.lt o b hb⟩⟩;cases x with
 | gone=>trivial
 | arz n fs=>exact hx.goes g rfl
 | mapo es=>exact hx.goes g rfl
 | mapz es=>exact hx.goes g rfl
 | arr n es=>
  obtain ⟨us,t,h1,h2,h3,h4⟩:=hx;refine ⟨us,t,h1,by simpa using h2,fun e he=> ?_,fun i j e c he hc=> ?_⟩
  · obtain ⟨e',he',rfl⟩:=List.mem_map.1 he;simp [h3 e' he']
  · rw [List.getElem?_map] at he;obtain ⟨e',he',rfl⟩:=Option.map_eq_some_iff.1 he;rw [List.getElem?_map] at hc;obtain ⟨c',hc',rfl⟩:=Option.map_eq_some_iff.1 hc;obtain ⟨u,hu,hr⟩:=h4 i j e' c' he' hc';exact ⟨u,hu,z7s hO hL hZ hLZ (x:= .c c') hr⟩
theorem zwt {x:AObj}{L:Lent}:isLive (x.lend L)↔isLive x:=by cases x<;>exact Iff.rfl
theorem live_ren {x:AObj}:isLive (x.ren σ)↔isLive x:=by cases x<;>exact Iff.rfl
theorem zrm {x:AObj}{L:Lent}(h:bareO x):bareO (x.lend L):=by
 obtain ⟨n,h⟩:=h;cases x with
 | arr m es=>simp only [flat,AObj.arr.injEq] at h;rw [h.2];exact ⟨m,rfl⟩
 | arz m fs=>exact ⟨n,h⟩
 | _=>exact ⟨n,h⟩
structure Weak (h h':Nat→AObj)(σ:Nat→Nat)(E:Lent)(n':Nat):Prop where
 ok:E.ok h
 obj:∀ o,isLive (h' o)→o<n'∧flat ((h (σ o)).lend E)=flat ((h' o).ren σ)∧(h' o).lt n'=true∧∀ q∈E,q.1≠σ o
 inj:∀ o o',isLive (h' o)→isLive (h' o')→σ o=σ o'→o=o'
theorem Weak.live (k:Weak h h' σ E n'){o:Nat}(ho:isLive (h' o)):isLive (h (σ o)):=by
 have:=(k.obj o ho).2.1;rw [←zwt (L:=E),←z30,this,z30,live_ren];exact ho
theorem Weak.own (k:Weak h h' σ E n'){b:Nat}(hb:Own h' (cutβ σ n' β) b):Own h β b:=by
 obtain ⟨o,h1,h2⟩:=hb;simp only [cutβ] at h2;split at h2
 · exact ⟨σ o,k.live h1,h2⟩
 · cases h2
theorem Weak.xo (k:Weak h h' σ E n'){b:Nat}(hb:¬XO Y h β b):¬XO Y h' (cutβ σ n' β) b:=fun hx=>by
 rcases hx with h1 | h1
 · exact hb (.inl h1)
 · exact hb (.inr (k.own h1))
theorem Weak.given (k:Weak h h' σ E n')(hO:Objs h β Y w):∀ p∈E,∀ b,β p.1=some b→¬XO Y h' (cutβ σ n' β) b:=by
 intro p hp b hb hx;have hl:isLive (h p.1):=by rw [←z30,k.ok p hp];trivial
 rcases hx with h1 | ⟨o,h1,h2⟩
 · exact (hO.here hl hb).2 h1
 · simp only [cutβ] at h2;split at h2
   · exact (k.obj o h1).2.2.2 p hp (hO.inj _ _ b hl (k.live h1) hb h2)
   · cases h2
theorem Weak.rep (k:Weak h h' σ E n')(hO:Objs h β Y w){x y:TV}{v:Value}(hx:TRep w (XO Y h β) β x v)(hle:TV.Le (x.lend E) (y.ren σ))(hlt:y.lt n'=true):TRep w (XO Y h' (cutβ σ n' β)) (cutβ σ n' β) y v:=by
 have h1:=TRep.le hle (z7s hO k.ok (fun b hb=>k.xo hb) (k.given hO) hx);exact TRep.unmap (m:=n') (fun _ _ h=>h) (fun o b ho hb=>by simp only [cutβ,ho,if_true];exact hb) hlt h1
theorem Weak.objs (k:Weak h h' σ E n')(hO:Objs h β Y w):Objs h' (cutβ σ n' β) Y w:=by
 have hcut:∀ o b,cutβ σ n' β o=some b→β (σ o)=some b:=fun o b hb=>by
  simp only [cutβ] at hb;split at hb
  · exact hb
  · cases hb
 refine ⟨fun o b h1 h2=> ?_,fun o h1=> ?_,fun o o' b h1 h2 h3 h4=>k.inj o o' h1 h2 (hO.inj _ _ b (k.live h1) (k.live h2) (hcut _ _ h3) (hcut _ _ h4)),fun o b hb=>hO.lt _ b (hcut o b hb)⟩
 · obtain ⟨g1,g2,g3,_⟩:=k.obj o h1;have hr:=zuc hO k.ok (fun b hb=>k.xo hb) (k.given hO) (hO.rep (σ o) b (k.live h1) (hcut o b h2));have hr2:=(zk5 g2).1 hr;exact ORep.unmap (m:=n') (fun _ _ h=>h) (fun o b ho hb=>by simp only [cutβ,ho,if_true];exact hb) g3 hr2
 · rcases hO.has (σ o) (k.live h1) with ⟨b,h2,h3,h4⟩ | ⟨h2,h3⟩
   · exact .inl ⟨b,by simp only [cutβ,(k.obj o h1).1,if_true];exact h2,h3,h4⟩
   · refine .inr ⟨?_,by simp only [cutβ,(k.obj o h1).1,if_true];exact h3⟩;obtain ⟨n,hn⟩:=zrm (L:=E) h2;refine ze9 (σ:=σ) |>.1 ⟨n, ?_⟩
     rw [←(k.obj o h1).2.1];exact hn
end
def Sle (m:Nat)(s s':St):Prop:=∃ (σ:Nat→Nat) (E:Lent),Lent.ok E (hook s.heap)∧m≤s'.nx∧(∀ o,o<m→σ o=o)∧
 (∀ p∈s'.env,TV.Le ((look s.env p.1).lend E) (p.2.ren σ)∧p.2.lt s'.nx=true)∧
 (∀ p∈s'.heap,isLive p.2→p.1<s'.nx∧flat ((hook s.heap (σ p.1)).lend E)=flat (p.2.ren σ)∧p.2.lt s'.nx=true∧∀ q∈E,q.1≠σ p.1)∧
 (∀ p∈s'.heap,∀ q∈s'.heap,isLive p.2→isLive q.2→σ p.1=σ q.1→p.1=q.1)
theorem zch:∀ {l:AHeap} {o:Nat},isLive (hook l o)→(o,hook l o)∈l
 | [],_,h=>h.elim
 | (j,v)::l,o,h=>by
  simp only [hook] at h ⊢;split at h
  · rename_i e;rw [if_pos e,←e];exact List.mem_cons_self
  · rename_i e;rw [if_neg e];exact List.mem_cons_of_mem _ (zch h)
theorem ziw:∀ {l:Env} {i:Nat},look l i= .any∨(i,look l i)∈l
 | [],_=> .inl rfl
 | (j,v)::l,i=>by
  simp only [look];split
  · rename_i e;rw [←e];exact .inr List.mem_cons_self
  · rcases ziw (l:=l) (i:=i) with h | h
    · exact .inl h
    · exact .inr (List.mem_cons_of_mem _ h)
section
variable {P:Program} {w0:World} {foot:Nat→Prop} {Y:Nat→Prop} {pin:Nat→Option (Option Nat)} {n m:Nat}
theorem zx0 {u:AHeap} {h:Nat→AObj} {σ:Nat→Nat} {E:Lent} {n':Nat} (hE:E.ok h) (ho:∀ p∈u,isLive p.2→p.1<n'∧flat ((h (σ p.1)).lend E)=flat (p.2.ren σ)∧p.2.lt n'=true∧∀ q∈E,q.1≠σ p.1)
  (hi:∀ p∈u,∀ q∈u,isLive p.2→isLive q.2→σ p.1=σ q.1→p.1=q.1):Weak h (hook u) σ E n':=
 ⟨hE,fun _ hl=>ho _ (zch hl) hl,fun _ _ h1 h2 e=>hi _ (zch h1) _ (zch h2) h1 h2 e⟩
theorem zhv {s s':St}(hs:Sle m s s')(hm:∀ o b,pin o=some b→o<m){β:Nat→Option Nat}{a:Act}{w:World}(hR:RelF P w0 foot Y pin (look s.env) (hook s.heap) β a w):
  ∃ β',RelF P w0 foot Y pin (look s'.env) (hook s'.heap) β' a w∧∀ k,Occ pin β' k→k<s'.nx:=by
 obtain ⟨σ,E,hE,hmn,hσ,he,hh,hi⟩:=hs;have k:=zx0 hE hh hi;refine ⟨cutβ σ s'.nx β,⟨hR.good,fun i=> ?_,k.objs hR.objs,fun o b h1 h2=> ?_,hR.defers,hR.ylt,fun o b hb=> ?_,hR.gl⟩,fun o ho=> ?_⟩
 · rcases ziw (l:=s'.env) (i:=i) with h1 | h1
   · rw [h1];trivial
   · exact k.rep hR.objs (hR.env i) (he _ h1).1 (he _ h1).2
 · simp only [cutβ] at h2;split at h2
   · exact hR.own _ b (k.live h1) h2
   · cases h2
 · have h1:=hm o b hb;simp only [cutβ,show o<s'.nx by omega,if_true,hσ o h1];exact hR.pins o b hb
 · rcases ho with ho | ho
   · simp only [cutβ] at ho;split at ho
     · assumption
     · exact absurd rfl ho
   · cases hp:pin o with
     | none=>exact absurd hp ho
     | some x=>have:=hm o x hp;omega
inductive AExit where
 | normal
 | exit (id:Nat)
 | ret
 deriving DecidableEq
def At (P:Program)(w0:World)(foot Y:Nat→Prop)(pin:Nat→Option (Option Nat))(n:Nat)(Q:St→Prop)(a:Act)(w:World):Prop:=
 ∃ s β,Q s∧a.tmps.size=n∧RelF P w0 foot Y pin (look s.env) (hook s.heap) β a w∧∀ k,Occ pin β k→k<s.nx
def Lift (P:Program)(w0:World)(foot Y:Nat→Prop)(pin:Nat→Option (Option Nat))(n:Nat)(Q:AExit→St→Prop):Exit→Act→World→Prop
 | .normal=>At P w0 foot Y pin n (Q .normal)
 | .exit i=>At P w0 foot Y pin n (Q (.exit i))
 | .ret=>At P w0 foot Y pin n (Q .ret)
 | _=>fun _ _=>False
def Awp (P:Program)(n m:Nat)(c:Code)(Q:AExit→St→Prop)(s:St):Prop:=
 ∀ (w0:World) (foot Y:Nat→Prop) (pin:Nat→Option (Option Nat)) (β:Nat→Option Nat) (a:Act) (w:World),(∀ o b,pin o=some b→o<m)→a.tmps.size=n→RelF P w0 foot Y pin (look s.env) (hook s.heap) β a w→(∀ k,Occ pin β k→k<s.nx)→
  c.wp P (Lift P w0 foot Y pin n Q) a w
variable {c:Code} {Q:AExit→St→Prop} {s:St}
theorem Lift.mono {Q':AExit→St→Prop}(hq:∀ e s,Q e s→Q' e s)(e:Exit)(a:Act)(w:World)(h:Lift P w0 foot Y pin n Q e a w):Lift P w0 foot Y pin n Q' e a w:=by
 cases e with
 | normal=>obtain ⟨s,β,h1,h2⟩:=h;exact ⟨s,β,hq _ _ h1,h2⟩
 | exit i=>obtain ⟨s,β,h1,h2⟩:=h;exact ⟨s,β,hq _ _ h1,h2⟩
 | ret=>obtain ⟨s,β,h1,h2⟩:=h;exact ⟨s,β,hq _ _ h1,h2⟩
 | _=>exact h.elim
theorem Awp.weak {s':St}(hs:Sle m s s')(h:Awp P n m c Q s'):Awp P n m c Q s:=fun w0 foot Y pin _ a w hm hn hR _=>
 let ⟨β',h1,h2⟩:=zhv hs hm hR
 h w0 foot Y pin β' a w hm hn h1 h2
theorem Awp.skip (h:Q .normal s):Awp P n m .skip Q s:=fun _ _ _ _ β _ _ _ hn hR hb=>wp_skip ⟨s,β,h,hn,hR,hb⟩
theorem Awp.ret (h:Q .ret s):Awp P n m .ret Q s:=fun _ _ _ _ β _ _ _ hn hR hb=>wp_ret ⟨s,β,h,hn,hR,hb⟩
theorem Awp.exit {i:Nat}(h:Q (.exit i) s):Awp P n m (.exit i) Q s:=fun _ _ _ _ β _ _ _ hn hR hb=>wp_exit ⟨s,β,h,hn,hR,hb⟩
def zfd (K:St→Prop)(Q:AExit→St→Prop):AExit→St→Prop
 | .normal,s=>K s
 | e,s=>Q e s
def z1i (i:Nat)(Q:AExit→St→Prop):AExit→St→Prop
 | .exit j,s=>if j=i then Q .normal s else Q (.exit j) s
 | e,s=>Q e s
theorem Awp.seq {c₁ c₂:Code}(h:Awp P n m c₁ (zfd (Awp P n m c₂ Q) Q) s):Awp P n m (.seq c₁ c₂) Q s:=fun w0 foot Y pin β a w hm hn hR hb=>by
 refine wp_seq (wp_mono (h w0 foot Y pin β a w hm hn hR hb) fun e a' w' hq=> ?_);cases e with
 | normal=>obtain ⟨s',β',h1,h2,h3,h4⟩:=hq;exact h1 w0 foot Y pin β' a' w' hm h2 h3 h4
 | exit i=>exact hq
 | ret=>exact hq
 | _=>exact hq.elim
theorem Awp.cond {x:Operand}{c₁ c₂:Code}{t:Bool}(hc:ev s.env x= .c (.a (.fz (.bool t))))(ht:t=true→Awp P n m c₁ Q s)(hf:t=false→Awp P n m c₂ Q s):Awp P n m (.cond x c₁ c₂) Q s:=fun w0 foot Y pin β a w hm hn hR hb=>by
 have hv:=hR.eval x;rw [←zlj,hc] at hv;refine wp_cond (t:=t) hv.bool_inv ?_;cases t with
 | true=>exact ht rfl w0 foot Y pin β a w hm hn hR hb
 | false=>exact hf rfl w0 foot Y pin β a w hm hn hR hb
theorem Awp.label {l:Nat}(h:Q .normal s):Awp P n m (.label l) Q s:=fun _ _ _ _ β _ _ _ hn hR hb=>wp_label ⟨s,β,h,hn,hR,hb⟩
theorem Awp.scope (h:Awp P n m c Q s):Awp P n m (.scope c) Q s:=fun w0 foot Y pin β a w hm hn hR hb=>by
 refine wp_scope_straight (wp_mono (h w0 foot Y pin β a w hm hn hR hb) fun e a' w' hq=> ?_);cases e with
 | goto l=>exact hq.elim
 | _=>exact hq
theorem Awp.block {i:Nat}(h:Awp P n m c (z1i i Q) s):Awp P n m (.block i c) Q s:=fun w0 foot Y pin β a w hm hn hR hb=>by
 refine wp_block (wp_mono (h w0 foot Y pin β a w hm hn hR hb) fun e a' w' hq=> ?_);cases e with
 | normal=>exact hq
 | exit j=>
  obtain ⟨s',β',h1,h2⟩:=hq;simp only [z1i] at h1;simp only [Exit.inBlock];split at h1
  · rename_i hj;rw [if_pos hj];exact ⟨s',β',h1,h2⟩
  · rename_i hj;rw [if_neg hj];exact ⟨s',β',h1,h2⟩
 | ret=>exact hq
 | _=>exact hq.elim
theorem Awp.region {i:Nat} {ops:Array Oper} {d:Bool} (hP:P.follows .mixedOrders=true) (hd:dstB ops n=true)
  (hl:lex P ops s.nx ops.toList 0 s.env s.heap [] fun e h tr=>(d=true→zjd ops tr=true)∧Q .normal ⟨e,h,s.nx+32*ops.size⟩):Awp P n m (.region i ops d) Q s:=fun w0 foot Y pin β a w _ hn hR hb=>by
 subst hn;exact zm9 (R:=Q .normal) hP hd hl hR hb fun s' a' w' β' h1 h2 h3 h4=>⟨s',β',h1,h2,h3,h4⟩
end
end Go.AM

namespace Go.AM
structure Calm (w0 w w':World):Prop where
 size:w.heap.size≤w'.heap.size
 cells:∀ (b:Nat) us t z,w.heap[b]? =some (.cells us t z)→w'.heap[b]? =some (.cells us t z)
 maps:∀ (b:Nat) ms ck,w.heap[b]? =some (.map ms ck)→w'.heap[b]? =some (.map ms ck)
 old:∀ b,b<w0.heap.size→w'.heap[b]? =w.heap[b]?
 os:w'.os=w.os
 tape:w'.tape=w.tape
 output:w'.output=w.output
section
variable {w0 w w':World} (c:Calm w0 w w')
include c
theorem Calm.cell {a:Addr}{u:Value}(h:w.cell? a=some u):w'.cell? a=some u:=by
 unfold World.cell? at h ⊢;cases ho:w.heap[a.block]? with
 | none=>rw [ho] at h;cases h
 | some o=>
  rw [ho] at h;cases o with
  | cells us t z=>rw [c.cells _ us t z ho];exact h
  | _=>cases h
theorem Calm.shape {b:Nat}{x:TypeId×Nat}(h:w.shape? b=some x):w'.shape? b=some x:=by
 unfold World.shape? at h ⊢;cases ho:w.heap[b]? with
 | none=>rw [ho] at h;cases h
 | some o=>
  rw [ho] at h;cases o with
  | cells us t z=>rw [c.cells _ us t z ho];exact h
  | _=>cases h
variable {X:Nat→Prop} {β:Nat→Option Nat}
theorem FRep.calm {f:FV}{v:Value}(h:FRep w X f v):FRep w' X f v:=by
 induction h with
 | int k n=>exact .int k n
 | bool b=>exact .bool b
 | str l=>exact .str l
 | cst v h=>exact .cst v h
 | N=>exact .N
 | slnil n=>exact .slnil n
 | sl0 nn n a=>exact .sl0 nn n a
 | z0 nn a=>exact .z0 nn a
 | z0n=>exact .z0n
 | sl nn n es b off cap len u h1 h2 h3 h4 h5 h6 _ ih=>exact .sl nn n es b off cap len u h1 h2 h3 (Nat.lt_of_lt_of_le h4 c.size) h5 (fun i j e f he hf=>c.cell (h6 i j e f he hf)) ih
 | pt cs b off u h1 h2 h3 _ ih=>exact .pt cs b off u h1 (Nat.lt_of_lt_of_le h2 c.size) (fun j f hf=>c.cell (h3 j f hf)) ih
theorem ARep.calm {f:AV}{v:Value}(h:ARep w X β f v):ARep w' X β f v:=by
 cases h with
 | fz x v h=>exact .fz x v (FRep.calm c h)
 | ep o n i j b h=>exact .ep o n i j b h
 | osl o n off len b q cap sz t h1 h2 h3 h4 h5=>exact .osl o n off len b q cap sz t h1 (c.shape h2) h3 h4 h5
 | oslN o n off=>exact .oslN o n off
 | mp o b h=>exact .mp o b h
 | any v h=>exact .any v h
 | bld t o b v h1 h2 h3=>exact .bld t o b v h1 (c.shape h2) h3
 | osb o e len b cap h1 h2 h3 h4=>exact .osb o e len b cap h1 (c.shape h2) h3 h4
theorem WRep.calm {f:WV}{v:Value}(h:WRep w X β f v):WRep w' X β f v:=by
 cases h with
 | a x v h=>exact .a x v (ARep.calm c h)
 | fn f first cap us vs h1 h2=>exact .fn f first cap us vs (h1.imp fun _ _ _ h=>h.imp fun _ _ _ h=>ARep.calm c h) (h2.imp fun _ _ _ h=>h.imp fun _ _ _ h=>ARep.calm c h)
theorem TRep.calm {f:TV}{v:Value}(h:TRep w X β f v):TRep w' X β f v:=by
 cases f with
 | any=>trivial
 | c x=>exact WRep.calm c h
 | agg cs=>obtain ⟨us,h1,h2⟩:=h;exact ⟨us,h1,h2.imp fun _ _ _ h=>WRep.calm c h⟩
 | tup vs=>obtain ⟨us,h1,h2⟩:=h;exact ⟨us,h1,h2.imp fun _ _ _ h=>h.imp fun _ _ _ h=>WRep.calm c h⟩
theorem ORep.calm {o:AObj}{b:Nat}(h:ORep w X β o b):ORep w' X β o b:=by
 have arr:∀ (n:Nat) (es:List (List WV)),(∃ (us:List Value) (t:TypeId),w.heap[b]? =some (.cells us.toArray t (0,0))∧es.length*n≤us.length∧(∀ e∈es,e.length=n)∧
   ∀ (i j:Nat) (e:List WV) (c:WV),es[i]? =some e→e[j]? =some c→∃ u,us[i*n+j]? =some u∧WRep w X β c u)→(∃ (us:List Value) (t:TypeId),w'.heap[b]? =some (.cells us.toArray t (0,0))∧es.length*n≤us.length∧(∀ e∈es,e.length=n)∧
   ∀ (i j:Nat) (e:List WV) (c:WV),es[i]? =some e→e[j]? =some c→∃ u,us[i*n+j]? =some u∧WRep w' X β c u):=by
  rintro n es ⟨us,t,h1,h2,h3,h4⟩;exact ⟨us,t,c.cells _ _ _ _ h1,h2,h3,fun i j e x he hx=>let ⟨u,hu,hr⟩:=h4 i j e x he hx;⟨u,hu,WRep.calm c hr⟩⟩
 have mp:∀ (es:List ((Bool×List FV)×(Bool×List WV))),(∃ (ms:List MapEntry) (clock:Nat),w.heap[b]? =some (.map ms.toArray clock)∧ms.length=es.length∧
   (∀ (i:Nat) (e:(Bool×List FV)×(Bool×List WV)) (m:MapEntry),es[i]? =some e→ms[i]? =some m→PRep (FRep w X) e.1 m.key∧PRep (WRep w X β) e.2 m.val)∧
   clock=ms.length∧(∀ (i:Nat) (m:MapEntry),ms[i]? =some m→m.born=i))→(∃ (ms:List MapEntry) (clock:Nat),w'.heap[b]? =some (.map ms.toArray clock)∧ms.length=es.length∧
   (∀ (i:Nat) (e:(Bool×List FV)×(Bool×List WV)) (m:MapEntry),es[i]? =some e→ms[i]? =some m→PRep (FRep w' X) e.1 m.key∧PRep (WRep w' X β) e.2 m.val)∧
   clock=ms.length∧(∀ (i:Nat) (m:MapEntry),ms[i]? =some m→m.born=i)):=by
  rintro es ⟨ms,ck,h1,h2,h3,h4,h5⟩;exact ⟨ms,ck,c.maps _ _ _ h1,h2,fun i e m he hm=>let ⟨x,y⟩:=h3 i e m he hm;⟨x.imp fun _ _ _ h=>FRep.calm c h,y.imp fun _ _ _ h=>WRep.calm c h⟩,h4,h5⟩
 cases o with
 | gone=>trivial
 | arr n es=>exact arr _ _ h
 | arz n fs=>exact arr _ _ h
 | mapo es=>exact mp _ h
 | mapz es=>exact mp _ h
theorem Objs.calm {h:Nat→AObj}{Y:Nat→Prop}(hO:Objs h β Y w):Objs h β Y w':=
 ⟨fun o b h1 h2=>ORep.calm c (hO.rep o b h1 h2),fun o h1=>(hO.has o h1).imp (fun ⟨b,h2,h3,h4⟩=>⟨b,h2,Nat.lt_of_lt_of_le h3 c.size,h4⟩) id,hO.inj,fun o b hb=>Nat.lt_of_lt_of_le (hO.lt o b hb) c.size⟩
theorem Good.calm {foot:Nat→Prop}(g:Good w0 foot w):Good w0 foot w':=
 ⟨Nat.le_trans g.size c.size,fun b hb hf=>(c.old b hb).trans (g.blk b hb hf),fun b hb=>by
  rw [←g.shp b hb];unfold World.shape?;rw [c.old b hb],c.os.trans g.os,c.tape.trans g.tape,c.output.trans g.output⟩
theorem RelF.calm {P:Program}{foot Y:Nat→Prop}{pin:Nat→Option (Option Nat)}{e:Nat→TV}{h:Nat→AObj}{a:Act}(hR:RelF P w0 foot Y pin e h β a w)(hm:Marks w0 w' a.defers):RelF P w0 foot Y pin e h β a w':=
 ⟨Good.calm c hR.good,fun i=>TRep.calm c (hR.env i),Objs.calm c hR.objs,hR.own,hm,hR.ylt,hR.pins,hR.gl⟩
end
def zuk (w:World)(b:Nat):Prop:=∀ o,w.heap[b]? =some o→(∀ us t z,o ≠ .cells us t z)∧∀ ms ck,o ≠ .map ms ck
theorem Calm.put {w0 w:World}{b:Nat}{o:Obj}(hb:zuk w b)(h0:w0.heap.size≤b):Calm w0 w (w.putObj b o):=by
 have other:∀ k,k≠b→(w.putObj b o).heap[k]? =w.heap[k]? :=fun k hk=>World.putObj_heap_other hk;refine ⟨by simp,fun k us t z hk=> ?_,fun k ms ck hk=> ?_,fun k hk=>other k (by omega),rfl,rfl,rfl⟩
 · rw [other k (fun e=>by subst e;exact (hb _ hk).1 us t z rfl)];exact hk
 · rw [other k (fun e=>by subst e;exact (hb _ hk).2 ms ck rfl)];exact hk
theorem Calm.alloc (w0 w:World)(o:Obj)(h0:w0.heap.size≤w.heap.size):Calm w0 w (w.alloc o):=by
 have old:∀ k,k<w.heap.size→(w.alloc o).heap[k]? =w.heap[k]? :=fun k hk=>by
  show (w.heap.push o)[k]? =w.heap[k]?;rw [Array.getElem?_push,if_neg (by omega)]
 refine ⟨by show w.heap.size≤(w.heap.push o).size;rw [Array.size_push];omega,fun k us t z hk=> ?_,fun k ms ck hk=> ?_,fun k hk=>old k (by omega),rfl,rfl,rfl⟩
 · rw [old k (Array.getElem?_eq_some_iff.1 hk).1];exact hk
 · rw [old k (Array.getElem?_eq_some_iff.1 hk).1];exact hk
theorem Calm.refl (w0 w:World):Calm w0 w w:=⟨Nat.le_refl _,fun _ _ _ _ h=>h,fun _ _ _ h=>h,fun _ _=>rfl,rfl,rfl,rfl⟩
theorem Calm.trans {w0 a b c:World}(h:Calm w0 a b)(k:Calm w0 b c):Calm w0 a c:=
 ⟨Nat.le_trans h.size k.size,fun b us t z hb=>k.cells b us t z (h.cells b us t z hb),fun b ms ck hb=>k.maps b ms ck (h.maps b ms ck hb),fun b hb=>(k.old b hb).trans (h.old b hb),k.os.trans h.os,k.tape.trans h.tape,k.output.trans h.output⟩
theorem zf6 {w:World}{b:Nat}{x:Option (List Deferred)}(h:w.heap[b]? =some (.deferred x)):zuk w b:=fun o ho=>by
 rw [h] at ho;injection ho with ho;subst ho;exact ⟨fun _ _ _ e=>(by cases e),fun _ _ e=>(by cases e)⟩
theorem ze7 {w:World}{b:Nat}{x:Loop}(h:w.heap[b]? =some (.loop x)):zuk w b:=fun o ho=>by
 rw [h] at ho;injection ho with ho;subst ho;exact ⟨fun _ _ _ e=>(by cases e),fun _ _ e=>(by cases e)⟩
def z7k:List Nat→World→World
 | [],w=>w
 | D::Ds,w=>z7k Ds (w.putObj D (.deferred none))
theorem zjm {w0:World}:∀ {Ds:List Nat} {w:World},Ds.Nodup→(∀ D∈Ds,w0.heap.size≤D∧w.heap[D]? =some (.deferred (some [])))→Calm w0 w (z7k Ds w)
 | [],w,_,_=>Calm.refl _ _
 | D::Ds,w,hn,h=>by
  have h1:=h D List.mem_cons_self;have hn':=List.nodup_cons.1 hn;refine (Calm.put (zf6 h1.2) h1.1).trans (zjm hn'.2 fun E hE=>⟨(h E (List.mem_cons_of_mem _ hE)).1, ?_⟩);have hne:E≠D:=fun e=>hn'.1 (by rw [←e];exact hE);rw [World.putObj_heap_other hne];exact (h E (List.mem_cons_of_mem _ hE)).2
theorem RelF.shut {P:Program}{w0 w:World}{foot Y:Nat→Prop}{pin:Nat→Option (Option Nat)}{e:Nat→TV}{h:Nat→AObj}{β:Nat→Option Nat}{a:Act}(hR:RelF P w0 foot Y pin e h β a w):
  ∃ Ds,a.defers=Ds.map mark∧Ds.Nodup∧(∀ D∈Ds,w.heap[D]? =some (.deferred (some [])))∧RelF P w0 foot Y pin e h β { tmps:=a.tmps,defers:=[] } (z7k Ds w):=by
 obtain ⟨Ds,hds,hnd,hdd⟩:=hR.defers;have hR0:RelF P w0 foot Y pin e h β { tmps:=a.tmps,defers:=[] } w:=⟨hR.good,hR.env,hR.objs,hR.own,Marks.nil _ _,hR.ylt,hR.pins,hR.gl⟩;exact ⟨Ds,hds,hnd,fun D hD=>(hdd D hD).2,hR0.calm (zjm hnd hdd) (Marks.nil _ _)⟩
theorem z7n {P:Program}{fn:Func}{tmps:Array Value}{R:Ending→World→Prop}{n:Nat}:∀ {Ds:List Nat} {w:World},Ds.Nodup→(∀ D∈Ds,w.heap[D]? =some (.deferred (some [])))→
  (∃ v,(results fn tmps).run P (z7k Ds w)= .ok v (z7k Ds w)∧R (.returned v) (z7k Ds w))→LeavesInM Fence.wide n P fn tmps R (Ds.map mark) .returning w
 | [],w,_,_,h=>h
 | D::Ds,w,hn,hD,h=>by
  have hn':=List.nodup_cons.1 hn;refine ⟨by simp, .inl ⟨D,_,rfl,run_takeDeferred (hD D List.mem_cons_self),z7n hn'.2 (fun E hE=> ?_) h⟩⟩;have hne:E≠D:=fun e=>hn'.1 (by rw [←e];exact hE);rw [World.putObj_heap_other hne];exact hD E (List.mem_cons_of_mem _ hE)
end Go.AM

namespace Go.AM
open Go
def resA (P:Program)(s:St):ResultVar→Option TV
 | .tmp t=>some (look s.env t)
 | .cell t ty=>match tyOf P ty with
  | some d=>(z6h d (fun o=>flat (hook s.heap o)) (look s.env t)).map (·.1)
  | none=>none
def zo7 (P:Program)(s:St):List ResultVar→Option (List TV)
 | []=>some []
 | x::l=>match resA P s x,zo7 P s l with
  | some v,some vs=>some (v::vs)
  | _,_=>none
def zma:List TV→Option (List (Bool×List WV))
 | []=>some []
 | x::l=>match zm4 x,zma l with
  | some v,some vs=>some (v::vs)
  | _,_=>none
def zrv:List TV→Option TV
 | [x]=>some x
 | l=>(zma l).map .tup
def zg8:Nat→List TV→Env
 | _,[]=> []
 | i,x::l=>(i,x)::zg8 (i+1) l
def z2p:Nat→List AObj→AHeap
 | _,[]=> []
 | i,x::l=>(i,x)::z2p (i+1) l
theorem zer:∀ (l:List TV) (i k:Nat),look (zg8 i l) k=if i≤k then l.getD (k-i) .any else .any
 | [],i,k=>by simp [zg8,look]
 | x::l,i,k=>by
  simp only [zg8,look];by_cases h:i=k
  · subst h;simp
  · rw [if_neg h,zer l];by_cases h2:i≤k
    · rw [if_pos (by omega),if_pos h2,show k-i=(k-(i+1))+1 by omega];simp
    · rw [if_neg (by omega),if_neg h2]
theorem z79:∀ (l:List AObj) (i k:Nat),hook (z2p i l) k=if i≤k then l.getD (k-i) .gone else .gone
 | [],i,k=>by simp [z2p,hook]
 | x::l,i,k=>by
  simp only [z2p,hook];by_cases h:i=k
  · subst h;simp
  · rw [if_neg h,z79 l];by_cases h2:i≤k
    · rw [if_pos (by omega),if_pos h2,show k-i=(k-(i+1))+1 by omega];simp
    · rw [if_neg (by omega),if_neg h2]
def RetOK (P:Program)(rl:List ResultVar)(m:Nat)(r:TV)(Hs':List AObj)(s:St):Prop:=
 ∃ (rs rs':List TV) (σ:Nat→Nat) (E:Lent) (r0:TV),zo7 P s rl=some rs∧zrv rs'=some r0∧TV.Le r0 r∧E.ok (hook s.heap)∧
  All2 (fun x y=>TV.Le (x.lend E) (y.ren σ)∧y.lt Hs'.length=true) rs rs'∧(∀ o,o<m→σ o=o)∧
  (∀ p∈z2p 0 Hs',isLive p.2→p.1<Hs'.length∧flat ((hook s.heap (σ p.1)).lend E)=flat (p.2.ren σ)∧p.2.lt Hs'.length=true∧∀ q∈E,q.1≠σ p.1)∧
  (∀ p∈z2p 0 Hs',∀ q∈z2p 0 Hs',isLive p.2→isLive q.2→σ p.1=σ q.1→p.1=q.1)
def Ret (P:Program)(rl:List ResultVar)(m:Nat)(r:TV)(Hs':List AObj):AExit→St→Prop
 | .exit _=>fun _=>False
 | _=>RetOK P rl m r Hs'
section
variable {P:Program} {w0:World} {foot:Nat→Prop} {Y:Nat→Prop} {pin:Nat→Option (Option Nat)}
theorem zly {ty:TypeId}{u v:Value}{w:World}(h:(Instr.loadAt ty u).run P w= .ok v w):(do loadVar ty (←asAddr u):Sem Value).run P w= .ok v w:=by
 cases u with
 | pointer p=>
  cases p with
  | some a=>simpa [Instr.loadAt,Instr.sureAddr,asAddr] using h
  | none=>simp [Instr.loadAt,Instr.sureAddr] at h
 | _=>simp [Instr.loadAt,Instr.sureAddr] at h
def zx5 (tmps:Array Value):ResultVar→Sem Value
 | .tmp t=>pure (tmps.getD t undef)
 | .cell b t=>do loadVar t (←asAddr (tmps.getD b undef))
theorem resA_run {s:St}{β:Nat→Option Nat}{a:Act}{w:World}(hR:RelF P w0 foot Y pin (look s.env) (hook s.heap) β a w){x:ResultVar}{v:TV}(hx:resA P s x=some v):
  ∃ u,(zx5 a.tmps x).run P w= .ok u w∧TRep w (XO Y (hook s.heap) β) β v u:=by
 cases x with
 | tmp t=>
  simp only [resA,Option.some.injEq] at hx;subst hx;exact ⟨_,rfl,hR.env t⟩
 | cell t ty=>
  simp only [resA] at hx;split at hx
  · rename_i d hd;obtain ⟨r,hl,rfl⟩:=Option.map_eq_some_iff.1 hx;have hf:∀ o,flat (flat (hook s.heap o))=flat (hook s.heap o):=fun o=>z5b _;have hO:=z9v (h':=fun o=>flat (hook s.heap o)) hf hR.objs;have hx1:=hR.env t;rw [←ze1 (h':=fun o=>flat (hook s.heap o)) hf] at hx1 ⊢;obtain ⟨u,g1,g2⟩:=zhr (P:=P) hO hd hx1 hl;exact ⟨u,zly g1,g2⟩
  · cases hx
theorem zjt {s:St}{β:Nat→Option Nat}{a:Act}{w:World}(hR:RelF P w0 foot Y pin (look s.env) (hook s.heap) β a w):∀ {l:List ResultVar} {vs:List TV},zo7 P s l=some vs→
  ∃ us,(l.mapM (zx5 a.tmps)).run P w= .ok us w∧LRep (TRep w (XO Y (hook s.heap) β) β) vs us
 | [],vs,h=>by
  simp only [zo7,Option.some.injEq] at h;subst h;exact ⟨[],by simp, .nil⟩
 | x::l,vs,h=>by
  simp only [zo7] at h;split at h
  · rename_i v vs' h1 h2;injection h with h;subst h
    obtain ⟨u,g1,g2⟩:=resA_run hR h1;obtain ⟨us,g3,g4⟩:=zjt hR h2;refine ⟨u::us, ?_, .cons g2 g4⟩;rw [List.mapM_cons];simp only [Sem.run_bind,g1,Result.andThen_ok,g3,Sem.run_pure]
  · cases h
theorem zgg {X:Nat→Prop}{β:Nat→Option Nat}{w:World}:∀ {l:List TV} {rows:List (Bool×List WV)} {us:List Value},zma l=some rows→LRep (TRep w X β) l us→LRep (PRep (WRep w X β)) rows us
 | [],rows,us,h,hl=>by
  simp only [zma,Option.some.injEq] at h;subst h;have:us=[]:=List.eq_nil_of_length_eq_zero (by simpa using hl.1.symm);subst this;exact .nil
 | x::l,rows,us,h,hl=>by
  simp only [zma] at h;split at h
  · rename_i v vs h1 h2;injection h with h;subst h
    obtain ⟨u,us',rfl,hu,hr⟩:=hl.cons_inv;refine .cons ?_ (zgg h2 hr);unfold zm4 at h1;split at h1
    · injection h1 with h1;subst h1
      exact ⟨[u],rfl, .cons hu .nil,fun _=>rfl⟩
    · injection h1 with h1;subst h1
      obtain ⟨zs,rfl,hz⟩:=hu;exact ⟨zs,rfl,hz,fun h=>by cases h⟩
    · cases h1
  · cases h
theorem zwl {X:Nat→Prop}{β:Nat→Option Nat}{w:World}{l:List TV}{r:TV}{us:List Value}(h:zrv l=some r)(hl:LRep (TRep w X β) l us):
  TRep w X β r (if h:us.toArray.size=1 then us.toArray[0] else .tuple us.toArray):=by
 unfold zrv at h;split at h
 · injection h with h;subst h
   obtain ⟨u,us',rfl,hu,hr⟩:=hl.cons_inv;have:us'=[]:=List.eq_nil_of_length_eq_zero (by simpa using hr.1.symm);subst this;exact hu
 · rename_i hne;obtain ⟨rows,h1,rfl⟩:=Option.map_eq_some_iff.1 h
   have hlen:us.toArray.size≠1:=by
    intro hc;have h2:=hl.1;simp at hc
    match l,h2,hne with
    | [],h2,_=>simp [hc] at h2
    | [x],_,hne=>exact hne x rfl
    | _::_::_,h2,_=>simp [hc] at h2
   rw [dif_neg hlen];exact ⟨us,rfl,zgg h1 hl⟩
theorem AC.intro {f:FuncId} {fn:Func} {c:Code} {rl:List ResultVar} {n:Nat} {args:List TV} {Hs Hs':List AObj} {r:TV} (hf:P.funcs[f]? =some fn) (hb:fn.body=some c) (hrl:fn.results.toList=rl) (hn:fn.ntmps=n) (hen:z31 P f=true) (hsz:args.length≤n)
  (hlen:Hs.length≤Hs'.length) (hlive:∀ x∈Hs,isLive x) (hlive':∀ x∈Hs'.drop Hs.length,isLive x)
  (h:Awp P n Hs.length c (Ret P rl Hs.length r Hs') ⟨zg8 0 args,z2p 0 Hs,Hs.length⟩):AC P f args Hs r Hs':=by
 subst hrl;subst hn;refine ⟨hen,hlen,fun w vals β Y hβ hY hgl hO hargs=> ?_⟩;have hhook:∀ l:List AObj,hook (z2p 0 l)=fun o=>l.getD o .gone:=fun l=>funext fun o=>by rw [z79];simp
 refine (callsIn_wide (n:=0)).1 (callsIn_of_wp_marks hf hb trivial (wpIn_wide.2 ?_));have hvl:=hargs.1
 have hpin:∀ o x,(fun o=>if o<Hs.length then some (β o) else none:Nat→Option (Option Nat)) o=some x→o<Hs.length∧β o=x:=fun o x hx=>by
  simp only at hx;split at hx
  · rename_i ho;injection hx with hx;exact ⟨ho,hx⟩
  · cases hx
 refine wp_mono (h w (Own (fun o=>Hs.getD o .gone) β) Y (fun o=>if o<Hs.length then some (β o) else none) β _ w (fun o x hx=>(hpin o x hx).1) (by simp;omega) ⟨Good.refl _ _,fun i=> ?_, ?_,fun o b h1 h2=> .inl ⟨o, ?_,h2⟩,Marks.nil _ _,hY,fun o x hx=>(hpin o x hx).2,hgl⟩ (fun k hk=> ?_)) fun e a' w' hq=> ?_
 · rw [zer,if_pos (Nat.zero_le _),Nat.sub_zero];show TRep w (XO Y (hook (z2p 0 Hs)) β) β _ _;rw [hhook];by_cases hi:i<args.length
   · have h1:args[i]? =some args[i]:=List.getElem?_eq_getElem hi;have h2:vals[i]? =some (vals[i]'(by omega)):=List.getElem?_eq_getElem (by omega);have:=hargs.2 i _ _ h1 h2;simp only [List.getD,h1,Option.getD_some]
     have h3:(vals.toArray++Array.replicate (fn.ntmps-vals.toArray.size) undef).getD i undef=vals[i]'(by omega):=by
      simp [Array.getD_eq_getD_getElem?,Array.getElem?_append,show i<vals.length by omega]
     rw [h3];exact this
   · simp only [List.getD,List.getElem?_eq_none (by omega:args.length≤i),Option.getD_none];trivial
 · show Objs (hook (z2p 0 Hs)) β Y w;rw [hhook];exact hO
 · have h1':isLive (hook (z2p 0 Hs) o):=h1;rw [hhook] at h1';exact h1'
 · rcases hk with hk | hk
   · cases hb:β k with
     | none=>exact absurd hb hk
     | some b=>exact hβ k b hb
   · simp only at hk;split at hk
     · assumption
     · exact absurd rfl hk
 · have key:At P w (Own (fun o=>Hs.getD o .gone) β) Y (fun o=>if o<Hs.length then some (β o) else none) fn.ntmps (RetOK P fn.results.toList Hs.length r Hs') a' w'→∃ Ds w1,a'.defers=Ds.map mark∧Ds.Nodup∧(∀ D∈Ds,w'.heap[D]? =some (.deferred (some [])))∧w1=z7k Ds w'∧∃ v,(results fn a'.tmps).run P w1= .ok v w1∧∃ v' β',Ending.returned v= .returned v'∧
     Good w (Own (fun o=>Hs.getD o .gone) β) w1∧Objs (fun o=>Hs'.getD o .gone) β' Y w1∧TRep w1 (fun b=>Y b∨Own (fun o=>Hs'.getD o .gone) β' b) β' r v'∧
     (∀ o b,β' o=some b→o<Hs'.length)∧(∀ o,o<Hs.length→β' o=β o)∧(∀ o b,Hs.length≤o→β' o=some b→w.heap.size≤b∨Own (fun o=>Hs.getD o .gone) β b):=by
    rintro ⟨s,β',⟨rs,rs',σ,E,r0,h1,h2,h3,h4,h5,h6,h7,h8⟩,_,hR,_⟩;obtain ⟨Ds,hds,hnd,hdd,hR⟩:=hR.shut;refine ⟨Ds,_,hds,hnd,hdd,rfl, ?_⟩;clear hdd;generalize z7k Ds w'=w' at hR ⊢;obtain ⟨us,g1,g2⟩:=zjt hR h1;have k:=zx0 h4 h7 h8
    have hrs:LRep (TRep w' (XO Y (hook (z2p 0 Hs')) (cutβ σ Hs'.length β')) (cutβ σ Hs'.length β')) rs' us:=by
     clear h1 h2 g1
     induction rs generalizing rs' us with
     | nil=>
      cases rs' with
      | nil=>
       have:us=[]:=List.eq_nil_of_length_eq_zero (by simpa using g2.1.symm);subst this;exact .nil
      | cons y ys=>exact h5.elim
     | cons x xs ih=>
      cases rs' with
      | nil=>exact h5.elim
      | cons y ys=>
       obtain ⟨u,us',rfl,hu,hr⟩:=g2.cons_inv;exact .cons (k.rep hR.objs hu h5.1.1 h5.1.2) (ih _ h5.2 _ hr)
    have hp:=TRep.le h3 (zwl h2 hrs);refine ⟨(if h:us.toArray.size=1 then us.toArray[0] else .tuple us.toArray), ?_,_,cutβ σ Hs'.length β',rfl,hR.good, ?_, ?_,fun o b ho=> ?_,fun o ho=> ?_,fun o b ho hb=> ?_⟩
    · unfold results;rw [←Array.toArray_toList (xs:=fn.results),List.mapM_toArray];simp only [Sem.run_bind,Sem.run_map,Sem.run_pure];show ((Sem.run P (List.mapM (zx5 a'.tmps) fn.results.toList) w').andThen _).andThen _=_;rw [g1];rfl
    · have:=k.objs hR.objs;rw [hhook] at this;exact this
    · have:=hp;rw [hhook] at this;exact this
    · simp only [cutβ] at ho;split at ho
      · assumption
      · cases ho
    · simp only [cutβ,show o<Hs'.length by omega,if_true,h6 o ho];exact hR.pins o (β o) (by simp [ho])
    · simp only [cutβ] at hb;split at hb
      · rename_i hlt
        have hl:isLive (hook (z2p 0 Hs') o):=by
         rw [z79,if_pos (Nat.zero_le _),Nat.sub_zero];simp only [List.getD,List.getElem?_eq_getElem hlt,Option.getD_some];refine hlive' _ (List.mem_iff_getElem?.2 ⟨o-Hs.length, ?_⟩);rw [List.getElem?_drop,show Hs.length+(o-Hs.length)=o by omega];exact List.getElem?_eq_getElem hlt
        rcases hR.own _ b (k.live hl) hb with h9 | h9
        · exact .inr h9
        · exact .inl h9
      · cases hb
   cases e with
   | normal=>
    obtain ⟨Ds,w1,h1,h2,h3,rfl,v,h4,h5⟩:=key hq;show LeavesInM Fence.wide 0 P fn a'.tmps _ a'.defers .returning w';rw [h1];exact z7n h2 h3 ⟨v,h4,h5⟩
   | ret=>
    obtain ⟨Ds,w1,h1,h2,h3,rfl,v,h4,h5⟩:=key hq;show LeavesInM Fence.wide 0 P fn a'.tmps _ a'.defers .returning w';rw [h1];exact z7n h2 h3 ⟨v,h4,h5⟩
   | exit i=>obtain ⟨s,β,h1,_⟩:=hq;exact h1.elim
   | _=>exact hq.elim
end
end Go.AM

namespace Go.AM
def FV.I:FV→Int | .int _ n=>n | _=>0
def FV.asB:FV→Bool | .bool b=>b | _=>false
def FV.S:FV→List UInt8 | .str l=>l | _=> []
def FV.ses:FV→List (List FV) | .sl _ _ es=>es | _=> []
def FV.L (n:Nat):FV→Bool | .N=>true | .sl _ m _=>m==n | .z0 _=>true | _=>false
def FV.cut (x:FV)(lo hi:Nat):FV:=match x with | .sl b n es=> .sl b n ((es.take hi).drop lo) | y=>y
def FV.cut0 (x:FV):FV:=match x with | .sl b _ _=> .z0 b | y=>y
def shp:List FV→Nat→List FV→List FV
 | [],_,_=> []
 | .int k _::z,j,r=> .int k (r.getD j .N).I::shp z (j+1) r
 | .bool _::z,j,r=> .bool (r.getD j .N).asB::shp z (j+1) r
 | .str _::z,j,r=> .str (r.getD j .N).S::shp z (j+1) r
 | _::z,j,r=>r.getD j .N::shp z (j+1) r
theorem zfy:∀ (z:List FV) (j:Nat) (r:List FV),(shp z j r).length=z.length
 | [],_,_=>rfl
 | x::z,j,r=>by cases x<;>simp only [shp,List.length_cons,zfy z]
def br (b:Bool)(t f:Prop):Prop:=match b with | true=>t | false=>f
theorem z00 {b:Bool}{t f:Prop}(h1:b=true→t)(h2:b=false→f):br b t f:=by
 cases b
 · exact h2 rfl
 · exact h1 rfl
theorem br_true {t f:Prop}:br true t f=t:=rfl
theorem zig {t f:Prop}:br false t f=f:=rfl
def oK' (r:Option AR)(K:AR→Prop):Prop:=match r with | some r=>K r | none=>False
theorem z3w {r:Option AR}{K:AR→Prop}(h:oK' r K):∃ x,r=some x∧K x:=by
 cases r with
 | none=>exact h.elim
 | some x=>exact ⟨x,rfl,h⟩
def tyP (P:Program)(t:TypeId)(f:TyD→Prop):Prop:=match tyOf P t with | some d=>f d | none=>False
theorem z2g {P:Program}{t:TypeId}{f:TyD→Prop}(h:tyP P t f):∃ d,tyOf P t=some d∧f d:=by
 unfold tyP at h;split at h
 · rename_i d hd;exact ⟨d,hd,h⟩
 · exact h.elim
def ziq (h:Nat→AObj):WV→Prop
 | .a (.osl o n off len)=>match h o with | .arz m fs=>n=m∧off+len≤fs.length | _=>True
 | _=>True
def givW (h:Nat→AObj):WV→WV×AHeap
 | .a (.osl o n off len)=>match h o with
  | .arz _ fs=>(.a (.fz (.sl false n ((fs.drop off).take len))),[(o, .gone)])
  | _=>(.a (.osl o n off len),[])
 | x=>(x,[])
theorem zuf {h:Nat→AObj}{x:WV}(hx:ziq h x):za7 h x=givW h x:=by
 cases x with
 | fn f a b=>rfl
 | a x=>
  cases x with
  | osl o n off len=>
   simp only [za7,givW,ziq] at hx ⊢;cases he:h o with
   | arz m fs=>rw [he] at hx;simp only at hx ⊢;rw [if_pos hx]
   | _=>rfl
  | _=>rfl
def zji (h:Nat→AObj):List WV→List WV×AHeap
 | []=>([],[])
 | x::r=>((givW h x).1::(zji h r).1,(givW h x).2++(zji h r).2)
def zab (h:Nat→AObj):List WV→Prop
 | []=>True
 | .a (.osl o n off len)::r=>ziq h (.a (.osl o n off len))∧zab h r
 | _::r=>zab h r
theorem zd {h:Nat→AObj}{x:WV}{r:List WV}(hx:zab h (x::r)):ziq h x∧zab h r:=by
 cases x with
 | fn f a b=>exact ⟨trivial,hx⟩
 | a x=>
  cases x with
  | osl o n off len=>exact hx
  | _=>exact ⟨trivial,hx⟩
theorem zq2 {h:Nat→AObj}:∀ {l:List WV},zab h l→z57 h l=zji h l
 | [],_=>rfl
 | x::r,hx=>by
  have:=zd hx;simp only [z57,zji,zuf this.1,zq2 this.2]
def givT (h:Nat→AObj):TV→TV×AHeap
 | .c x=>(.c (givW h x).1,(givW h x).2)
 | .agg cs=>(.agg (zji h cs).1,(zji h cs).2)
 | x=>(x,[])
def zu2 (h:Nat→AObj):TV→Prop
 | .c (.a (.osl o n off len))=>ziq h (.a (.osl o n off len))
 | .agg cs=>zab h cs
 | _=>True
theorem zu4 {h:Nat→AObj}{x:WV}(hx:zu2 h (.c x)):ziq h x:=by
 cases x with
 | fn f a b=>trivial
 | a x=>cases x with
  | osl o n off len=>exact hx
  | _=>trivial
theorem givT_eq {h:Nat→AObj}{x:TV}(hx:zu2 h x):zc9 h x=givT h x:=by
 cases x with
 | c x=>simp only [zc9,givT,zuf (zu4 hx)]
 | agg cs=>simp only [zc9,givT,zq2 (h:=h) (l:=cs) hx]
 | _=>rfl
def givP (h:Nat→AObj):List (Nat×TV)→List (Nat×TV)×AHeap
 | []=>([],[])
 | (i,x)::r=>((i,(givT h x).1)::(givP h r).1,(givT h x).2++(givP h r).2)
def asksT (h:Nat→AObj)(x:TV)(K:Prop):Prop:=
 match x with
 | .c (.a (.osl o n off len))=>ziq h (.a (.osl o n off len))∧K
 | .agg cs=>match cs.any (fun c=>match c with | .a (.osl _ _ _ _)=>true | _=>false) with
  | true=>zab h cs∧K
  | false=>K
 | _=>K
theorem zd2 {h:Nat→AObj}:∀ {cs:List WV},cs.any (fun c=>match c with | .a (.osl _ _ _ _)=>true | _=>false)=false→zab h cs
 | [],_=>trivial
 | x::r,hx=>by
  simp only [List.any_cons,Bool.or_eq_false_iff] at hx;have:=zd2 (h:=h) hx.2;cases x with
  | fn f a b=>exact this
  | a x=>cases x with
   | osl o n off len=>cases hx.1
   | _=>exact this
theorem zm1 {h:Nat→AObj}{x:TV}{K:Prop}(hx:asksT h x K):zu2 h x∧K:=by
 unfold asksT at hx;split at hx
 · exact hx
 · rename_i cs;split at hx
   · exact hx
   · rename_i hn;exact ⟨zd2 hn,hx⟩
 · rename_i h1 h2;refine ⟨?_,hx⟩;unfold zu2;split
   · rename_i o n off len;exact (h1 o n off len rfl).elim
   · rename_i cs;exact (h2 cs rfl).elim
   · trivial
def asksP (h:Nat→AObj):List (Nat×TV)→Prop→Prop
 | [],K=>K
 | (_,x)::r,K=>asksT h x (asksP h r K)
theorem zee {h:Nat→AObj}:∀ {l:List (Nat×TV)} {K:Prop},asksP h l K→z5f h l=givP h l∧K
 | [],_,hx=>⟨rfl,hx⟩
 | (i,x)::r,K,hx=>by
  obtain ⟨h1,h2⟩:=zm1 hx;obtain ⟨h3,h4⟩:=zee h2;exact ⟨by simp only [z5f,givP,givT_eq h1,h3],h4⟩
section
variable {P:Program}
def elemV (de:TyD)(x:TV)(i:Int)(K:TV→Prop):Prop:=
 match x with
 | .c (.a (.osl o n off len))=>match de.size==n with
  | true=>(0≤i∧i<len)∧K (.c (.a (.ep o n (off+i.toNat) 0)))
  | false=>False
 | .c (.a (.fz y))=>match de.zero with
  | some z=>(y.L de.size=true∧0≤i∧i<y.ses.length∧shp z 0 (y.ses.getD i.toNat [])=y.ses.getD i.toNat [])∧K (.c (.a (.fz (.pt (shp z 0 (y.ses.getD i.toNat []))))))
  | none=>False
 | _=>False
theorem zvy {de:TyD}{x:TV}{i:Int}{K:TV→Prop}(h:elemV de x i K):∃ v,zg7 de x i=some v∧K v:=by
 unfold elemV at h;split at h
 · rename_i o n off len;split at h
   · rename_i hs;simp only [beq_iff_eq] at hs;exact ⟨_,by simp only [zg7,hs,h.1,and_self,if_true],h.2⟩
   · exact h.elim
 · rename_i y;split at h
   · rename_i z hz;obtain ⟨⟨h1,h2,h3,h4⟩,h5⟩:=h;rw [h4] at h5;cases y with
     | sl nn n es=>
      simp only [FV.L,beq_iff_eq] at h1;simp only [FV.ses] at h3 h5;exact ⟨_,by simp only [zg7,h1,h2,h3,and_self,if_true],h5⟩
     | N=>simp [FV.ses] at h3;omega
     | z0=>simp [FV.ses] at h3;omega
     | _=>cases h1
   · exact h.elim
 · exact h.elim
def zal (P:Program)(d:TyD)(x ix:TV)(K:TV→Prop):Prop:=
 match ix with
 | .c (.a (.fz (.int _ i)))=>match d.kind with
  | .slice e=>tyP P e fun de=>elemV de x i K
  | .arr m e=>tyP P e fun de=>match x with
   | .c (.a (.ep o n k j))=>(0≤i∧i<m)∧K (.c (.a (.ep o n k (j+i.toNat*de.size))))
   | _=>False
  | _=>False
 | _=>False
theorem zfc {d:TyD}{x ix:TV}{K:TV→Prop}(h:zal P d x ix K):∃ v,z2r P d x ix=some v∧K v:=by
 unfold zal at h;split at h
 · split at h
   · rename_i he;obtain ⟨de,hd,hnew⟩:=z2g h;clear h;have h:=hnew;clear hnew;obtain ⟨v,hv,hk⟩:=zvy h;exact ⟨v,by simp only [z2r,he,hd,hv],hk⟩
   · rename_i he;obtain ⟨de,hd,hnew⟩:=z2g h;clear h;have h:=hnew;clear hnew;split at h
     · exact ⟨_,by simp only [z2r,he,hd,zna,h.1,and_self,if_true],h.2⟩
     · exact h.elim
   · exact h.elim
 · exact h.elim
def zx3 (P:Program)(d:TyD)(x ix:TV)(K:TV→Prop):Prop:=
 match ix with
 | .c (.a (.fz (.int _ i)))=>match d.kind with
  | .str=>match x with
   | .c (.a (.fz (.str l)))=>(0≤i∧i<l.length)∧K (.c (.a (.fz (.int .u8 (l.getD i.toNat 0).toNat))))
   | _=>False
  | _=>match zgy P d x ix with | some v=>K v | none=>False
 | _=>False
theorem zsy {d:TyD}{x ix:TV}{K:TV→Prop}(h:zx3 P d x ix K):∃ v,zgy P d x ix=some v∧K v:=by
 unfold zx3 at h;split at h
 · split at h
   · rename_i he;split at h
     · exact ⟨_,by simp only [zgy,he,h.1,and_self,if_true],h.2⟩
     · exact h.elim
   · split at h
     · rename_i v hv;exact ⟨v,hv,h⟩
     · exact h.elim
 · exact h.elim
def bndV (x:Option TV)(dflt:Int)(K:Int→Prop):Prop:=
 match x with
 | none=>K dflt
 | some (.c (.a (.fz (.int _ i))))=>K i
 | _=>False
theorem z9x {x:Option TV}{dflt most:Nat}{K:Int→Prop}(h:bndV x dflt K):∃ i:Int,K i∧(0≤i→i≤most→z4n x dflt most=some i.toNat):=by
 unfold bndV at h;split at h
 · exact ⟨dflt,h,fun _ _=>by simp [z4n]⟩
 · rename_i i;exact ⟨i,h,fun h1 h2=>by simp only [z4n,h1,h2,and_self,if_true]⟩
 · exact h.elim
def zlv (lo hi mx:Option TV)(len:Nat)(K:Nat→Nat→Prop):Prop:=
 match mx with
 | none=>bndV hi len fun b=>bndV lo ((0:Nat):Int) fun a=>(0≤a∧a≤b∧b≤len)∧K a.toNat b.toNat
 | some m=>match hi with
  | none=>False
  | some _=>bndV (some m) len fun c=>bndV hi len fun b=>bndV lo ((0:Nat):Int) fun a=>(0≤a∧a≤b∧b≤c∧c≤len)∧K a.toNat b.toNat
theorem zbk {lo hi mx:Option TV}{len:Nat}{K:Nat→Nat→Prop}(h:zlv lo hi mx len K):∃ a b,zca lo hi mx len=some (a,b)∧K a b:=by
 unfold zlv at h;split at h
 · obtain ⟨b,h,hb⟩:=z9x (most:=len) h;obtain ⟨a,h,ha⟩:=z9x (most:=b.toNat) h;obtain ⟨⟨h1,h2,h3⟩,hk⟩:=h;refine ⟨_,_, ?_,hk⟩;have e1:z4n none len len=some len:=rfl;simp only [zca,e1,hb (by omega) h3,show b.toNat≤len by omega,Option.isSome_none,Bool.false_eq_true,false_implies,and_self,if_true,ha h1 (by omega),Option.map_some]
 · split at h
   · exact h.elim
   · rename_i m hi;obtain ⟨c,h,hc⟩:=z9x (most:=len) h;obtain ⟨b,h,hb⟩:=z9x (most:=len) h;obtain ⟨a,h,ha⟩:=z9x (most:=b.toNat) h;obtain ⟨⟨h1,h2,h3,h4⟩,hk⟩:=h;refine ⟨_,_, ?_,hk⟩;simp only [zca,hc (by omega) h4,hb (by omega) (by omega),show b.toNat≤c.toNat by omega,Option.isSome_some,implies_true,and_self,if_true,ha h1 (by omega),Option.map_some]
def zva (P:Program)(d:TyD)(x:TV)(lo hi mx:Option TV)(K:TV→Prop):Prop:=
 match d.kind with
 | .slice e=>tyP P e fun de=>match x with
  | .c (.a (.osl o n off len))=>match n==de.size with
   | true=>zlv lo hi mx len fun a b=>K (.c (.a (.osl o n (off+a) (b-a))))
   | false=>False
  | .c (.a (.fz y))=>y.L de.size=true∧zlv lo hi mx y.ses.length fun a b=>br (z6t mx) (K (.c (.a (.fz y.cut0)))) (K (.c (.a (.fz (y.cut a b)))))
  | _=>False
 | .str=>match x,mx with
  | .c (.a (.fz (.str l))),none=>zlv lo hi none l.length fun a b=>K (.c (.a (.fz (.str ((l.take b).drop a)))))
  | _,_=>False
 | _=>False
theorem zrp {d:TyD}{x:TV}{lo hi mx:Option TV}{K:TV→Prop}(h:zva P d x lo hi mx K):∃ v,z4s P d x lo hi mx=some v∧K v:=by
 unfold zva at h;split at h
 · rename_i e he;obtain ⟨de,hd,hnew⟩:=z2g h;clear h;have h:=hnew;clear hnew;split at h
   · split at h
     · rename_i hn;obtain ⟨a,b,h1,h2⟩:=zbk h;simp only [beq_iff_eq] at hn;subst hn;exact ⟨_,by simp only [z4s,he,hd,zaw,if_true,h1,Option.map_some],h2⟩
     · exact h.elim
   · rename_i y;obtain ⟨h0,h⟩:=h;obtain ⟨a,b,h1,h2⟩:=zbk h;cases y with
     | sl nn n es=>
      simp only [FV.L,beq_iff_eq] at h0;simp only [FV.ses] at h1;refine ⟨_,by simp only [z4s,he,hd,zaw,h0,if_true,h1,Option.map_some];rfl, ?_⟩;simp only [FV.cut,FV.cut0,h0] at h2 ⊢;cases hz:z6t mx with
      | true=>rw [hz,br_true] at h2;simpa using h2
      | false=>rw [hz,zig] at h2;simpa using h2
     | N=>
      simp only [FV.ses,List.length_nil] at h1;refine ⟨_,by simp only [z4s,he,hd,zaw,h1,Option.map_some];rfl, ?_⟩;cases hz:z6t mx<;>rw [hz] at h2<;>exact h2
     | z0 nn=>
      simp only [FV.ses,List.length_nil] at h1;refine ⟨_,by simp only [z4s,he,hd,zaw,h1,Option.map_some];rfl, ?_⟩;cases hz:z6t mx<;>rw [hz] at h2<;>exact h2
     | _=>cases h0
   · exact h.elim
 · rename_i he;split at h
   · obtain ⟨a,b,h1,h2⟩:=zbk h;exact ⟨_,by simp only [z4s,he,zha,h1,Option.map_some],h2⟩
   · exact h.elim
 · exact h.elim
def loadV (d:TyD)(h:Nat→AObj)(x:TV)(K:AR→Prop):Prop:=
 match x with
 | .c (.a (.ep o n i j))=>match h o with
  | .arz m fs=>match m==n,d.zero with
   | true,some z=>match z with
    | []=>False
    | z0::zs=>(i<fs.length∧shp (z0::zs) j (fs.getD i [])=((fs.getD i []).drop j).take (z0::zs).length∧d.size=(z0::zs).length)∧
     K ⟨if d.agg then .agg (fzs (shp (z0::zs) j (fs.getD i []))) else .c (cell ((shp (z0::zs) j (fs.getD i [])).getD 0 .N)),[],[o]⟩
   | _,_=>False
  | _=>oK' ((z6h d (fun o=>flat (h o)) x).map fun r=>⟨r.1,[],r.2⟩) K
 | _=>oK' ((z6h d (fun o=>flat (h o)) x).map fun r=>⟨r.1,[],r.2⟩) K
theorem zt4 {d:TyD}{h:Nat→AObj}{x:TV}{K:AR→Prop}(hl:loadV d h x K):∃ r,(z6h d (fun o=>flat (h o)) x).map (fun r=>(⟨r.1,[],r.2⟩:AR))=some r∧K r:=by
 unfold loadV at hl;split at hl
 · rename_i o n i j;split at hl
   · rename_i m fs ho;split at hl
     · rename_i z hm hz;simp only [beq_iff_eq] at hm;split at hl
       · exact hl.elim
       · rename_i z0 zs;obtain ⟨⟨h1,h2,h3⟩,hk⟩:=hl;have hget:fs[i]? =some (fs.getD i []):=by simp [List.getD,List.getElem?_eq_getElem h1]
         generalize fs.getD i []=row at*;generalize hzz:z0::zs=z' at*
         have hlen:(row.drop j).length≥z'.length:=by
          have:=congrArg List.length h2;rw [zfy,List.length_take,Nat.min_def] at this;split at this<;>omega
         have hzl:0<z'.length:=by rw [←hzz];simp
         refine ⟨_, ?_,hk⟩;simp only [z6h,ho,flat,hm,if_true,List.getElem?_map,hget,Option.map_some];by_cases ha:d.agg=true
         · have e1:(fzs row).drop j=fzs (row.drop j):=by simp [fzs]
           simp only [zfb,ha,if_true,e1,show d.size≤(fzs (row.drop j)).length by simp [fzs];simp at hlen;omega,Option.map_some];rw [h2,h3];simp [fzs]
         · have e1:(fzs row).drop j=fzs (row.drop j):=by simp [fzs]
           simp only [zfb,ha,Bool.false_eq_true,if_false,e1]
           match hrd:row.drop j,hlen with
           | [],hlen=>exact absurd hzl (by simp only [List.length_nil] at hlen;omega)
           | y::ys,_=>
            simp only [fzs,List.map_cons,Option.map_some];rw [h2,hrd]
            match z',hzl with
            | _::_,_=>simp
     · exact hl.elim
   · exact z3w hl
 · exact z3w hl
def zux (d:TyD)(h:Nat→AObj)(x y:TV)(K:AR→Prop):Prop:=
 match x with
 | .c (.a (.ep o n i j))=>match h o with
  | .arz m fs=>match z7m y with
   | some cs=>match unfz cs with
    | some fcs=>match m==n&&fcs.length==d.size&&j==0&&fcs.length==n with
     | true=>(i<fs.length∧(fs.getD i []).length=n)∧K ⟨.any,[(o, .arz n (fs.set i fcs))],[o]⟩
     | false=>match m==n&&fcs.length==d.size&&Nat.ble (j+fcs.length) n with
      | true=>(i<fs.length∧(fs.getD i []).length=n)∧K ⟨.any,[(o, .arz n (fs.set i (ze4 (fs.getD i []) j fcs)))],[o]⟩
      | false=>oK' (z6z d h x y) K
    | none=>False
   | none=>False
  | _=>oK' (z6z d h x y) K
 | _=>oK' (z6z d h x y) K
theorem zs1 {d:TyD}{h:Nat→AObj}{x y:TV}{K:AR→Prop}(hl:zux d h x y K):∃ r,z6z d h x y=some r∧K r:=by
 unfold zux at hl;split at hl
 · rename_i o n i j;split at hl
   · rename_i m fs ho;split at hl
     · rename_i cs hc;split at hl
       · rename_i fcs hu;split at hl
         · rename_i hb;simp only [Bool.and_eq_true,beq_iff_eq] at hb;obtain ⟨⟨⟨hm,hd⟩,hj⟩,hn⟩:=hb;obtain ⟨⟨h1,h2⟩,hk⟩:=hl;have hget:fs[i]? =some (fs.getD i []):=by simp [List.getD,List.getElem?_eq_getElem h1]
           refine ⟨_, ?_,hk⟩
           have hsp:ze4 (fs.getD i []) j fcs=fcs:=by
            subst hj;simp only [ze4,List.take_zero,List.nil_append,Nat.zero_add];rw [List.drop_eq_nil_of_le (by omega),List.append_nil]
           simp only [z6z,hc,ho,hu,hm,hd,and_self,if_true,hget];rw [if_pos (by omega),hsp]
         · split at hl
           · rename_i hb;simp only [Bool.and_eq_true,beq_iff_eq,Nat.ble_eq] at hb;obtain ⟨⟨hm,hd⟩,hj⟩:=hb;obtain ⟨⟨h1,h2⟩,hk⟩:=hl;have hget:fs[i]? =some (fs.getD i []):=by simp [List.getD,List.getElem?_eq_getElem h1]
             refine ⟨_, ?_,hk⟩;simp only [z6z,hc,ho,hu,hm,hd,and_self,if_true,hget];rw [if_pos (by rw [h2,←hd];exact hj)]
           · exact z3w hl
       · exact hl.elim
     · exact hl.elim
   · exact z3w hl
 · exact z3w hl
def zv7 (n:Nat)(h:Nat→AObj)(x:TV)(K:List (List FV)→List Nat→Prop):Prop:=
 match x with
 | .c (.a (.fz y))=>y.L n=true∧K y.ses []
 | .c (.a (.osl o m off len))=>match h o with
  | .arz m' es=>match m==n&&m'==n with
   | true=>off+len≤es.length∧K ((es.drop off).take len) [o]
   | false=>False
  | _=>False
 | _=>False
theorem zrs {n:Nat}{h:Nat→AObj}{x:TV}{K:List (List FV)→List Nat→Prop}(hl:zv7 n h x K):∃ es rd,z74 n h x=some (es,rd)∧K es rd:=by
 unfold zv7 at hl;split at hl
 · rename_i y;obtain ⟨h1,hk⟩:=hl;cases y with
   | sl nn m es=>simp only [FV.L,beq_iff_eq] at h1;exact ⟨_,_,by simp only [z74,h1,if_true];rfl,hk⟩
   | N=>exact ⟨_,_,rfl,hk⟩
   | z0=>exact ⟨_,_,rfl,hk⟩
   | _=>cases h1
 · split at hl
   · rename_i ho;split at hl
     · rename_i hb;simp only [Bool.and_eq_true,beq_iff_eq] at hb;exact ⟨_,_,by simp only [z74,ho,hb.1,hb.2,hl.1,and_self,if_true],hl.2⟩
     · exact hl.elim
   · exact hl.elim
 · exact hl.elim
def zod (d:TyD)(fr:Nat)(h:Nat→AObj)(s x:TV)(K:AR→Prop):Prop:=
 zv7 d.size h x fun new rd=>match s with
  | .c (.a (.fz .N))=>br new.isEmpty (K ⟨s,[],rd⟩) (z0u new.length d.bytes∧K ⟨.c (.a (.osl fr d.size 0 new.length)),[(fr, .arz d.size new)],rd⟩)
  | .c (.a (.fz (.z0 _)))=>br new.isEmpty (K ⟨s,[],rd⟩) (z0u new.length d.bytes∧K ⟨.c (.a (.osl fr d.size 0 new.length)),[(fr, .arz d.size new)],rd⟩)
  | .c (.a (.osl o n off len))=>match h o with
   | .arz m fs=>match n==d.size&&m==d.size&&off==0 && !(fr::rd).contains o with
    | true=>(len≤fs.length∧z0u (len+new.length) d.bytes)∧
     K ⟨.c (.a (.osl fr d.size 0 (len+new.length))),[(o, .gone),(fr, .arz d.size (fs.take len++new))],o::rd⟩
    | false=>False
   | _=>False
  | _=>False
theorem zo0 {d:TyD}{fr:Nat}{h:Nat→AObj}{s x:TV}{K:AR→Prop}(hl:zod d fr h s x K):∃ r,z42 d fr h s x=some r∧K r:=by
 unfold zod at hl;obtain ⟨new,rd,he,hl⟩:=zrs hl;split at hl
 · by_cases hn:new=[]
   · subst hn;exact ⟨_,by simp only [z42,he,if_true],hl⟩
   · have:new.isEmpty=false:=by cases new<;>simp_all
     rw [this,zig] at hl;exact ⟨_,by simp only [z42,he,hn,if_false,hl.1,if_true],hl.2⟩
 · by_cases hn:new=[]
   · subst hn;exact ⟨_,by simp only [z42,he,if_true],hl⟩
   · have:new.isEmpty=false:=by cases new<;>simp_all
     rw [this,zig] at hl;exact ⟨_,by simp only [z42,he,hn,if_false,hl.1,if_true],hl.2⟩
 · split at hl
   · rename_i ho;split at hl
     · rename_i hb;simp only [Bool.and_eq_true,beq_iff_eq,Bool.not_eq_true'] at hb;obtain ⟨⟨⟨h1,h2⟩,h3⟩,h4⟩:=hb;obtain ⟨⟨h5,h6⟩,hk⟩:=hl;exact ⟨_,by simp only [z42,he,ho,h1,h2,h3,h4,h5,h6,Bool.not_false,and_self,if_true],hk⟩
     · exact hl.elim
   · exact hl.elim
 · exact hl.elim
def zi3 (P:Program)(t':TypeId)(de:TyD)(fr:Nat)(s x:TV)(K:AR→Prop):Prop:=
 match P.underlying t',s,x with
 | some (.int _), .c (.a (.fz .N)), .c (.a (.fz (.int _ n)))=>match decide (0<de.size∧0<de.bytes)&&(de.zero.map List.length==some de.size) with
  | true=>(0<n∧z0u n.toNat de.bytes)∧K ⟨.c (.a (.osl fr de.size 0 n.toNat)),[(fr, .arz de.size [])],[]⟩
  | false=>False
 | _,_,_=>False
theorem zls {t':TypeId}{de:TyD}{fr:Nat}{s x:TV}{K:AR→Prop}(hl:zi3 P t' de fr s x K):∃ r,(zat P t' de fr s x).map z2c=some r∧K r:=by
 unfold zi3 at hl;split at hl
 · rename_i ht;split at hl
   · rename_i hb;simp only [Bool.and_eq_true,decide_eq_true_eq,beq_iff_eq] at hb;refine ⟨_, ?_,hl.2⟩;unfold zat;simp only [ht];rw [if_pos ⟨hl.1.1,hb.1.1,hl.1.2,hb.1.2,hb.2⟩];rfl
   · exact hl.elim
 · exact hl.elim
def zhe (P:Program)(b:Builtin)(ts:List TypeId)(fr:Nat)(h:Nat→AObj)(args:List TV)(K:AR→Prop):Prop:=
 match b,ts,args with
 | .len,[t],[x]=>tyP P t fun d=>match d.kind,x with
  | .slice e, .c (.a (.fz y))=>tyP P e fun de=>y.L de.size=true∧K ⟨iV y.ses.length,[],[]⟩
  | _,_=>oK' (z2s P .len [t] fr h [x]) K
 | .append,[t,t'],[s,x]=>match t==t' with
  | true=>tyP P t fun d=>match d.kind with
   | .slice e=>tyP P e fun de=>match decide (0<de.size∧0<de.bytes∧de.bytes≤4096)&&(de.zero.map List.length==some de.size) with
    | true=>zod de fr h s x K
    | false=>False
   | _=>False
  | false=>tyP P t fun d=>match d.kind with
   | .slice e=>tyP P e fun de=>zi3 P t' de fr s x K
   | _=>False
 | b,ts,args=>oK' (z2s P b ts fr h args) K
theorem zkk {b:Builtin}{ts:List TypeId}{fr:Nat}{h:Nat→AObj}{args:List TV}{K:AR→Prop}(hl:zhe P b ts fr h args K):∃ r,z2s P b ts fr h args=some r∧K r:=by
 unfold zhe at hl;split at hl
 · rename_i t x;obtain ⟨d,hd,hnew⟩:=z2g hl;clear hl;have hl:=hnew;clear hnew;split at hl
   · rename_i e y he;obtain ⟨de,hde,hnew⟩:=z2g hl;clear hl;have hl:=hnew;clear hnew;obtain ⟨h1,hk⟩:=hl;cases y with
     | sl nn m es=>exact ⟨_,by simp only [z2s,z37,z1k,hd,lenP,he,zhj,Option.map_some];rfl,hk⟩
     | N=>exact ⟨_,by simp only [z2s,z37,z1k,hd,lenP,he,zhj,Option.map_some];rfl,hk⟩
     | z0=>exact ⟨_,by simp only [z2s,z37,z1k,hd,lenP,he,zhj,Option.map_some];rfl,hk⟩
     | _=>cases h1
   · exact z3w hl
 · rename_i t t' s x;split at hl
   · rename_i ht;simp only [beq_iff_eq] at ht;subst ht;obtain ⟨d,hd,hnew⟩:=z2g hl;clear hl;have hl:=hnew;clear hnew;split at hl
     · rename_i e he;obtain ⟨de,hde,hnew⟩:=z2g hl;clear hl;have hl:=hnew;clear hnew;split at hl
       · rename_i hb;simp only [Bool.and_eq_true,decide_eq_true_eq,beq_iff_eq] at hb;obtain ⟨r,h1,h2⟩:=zo0 hl;exact ⟨r,by simp only [z2s,if_true,z1e,hd,he,hde,zcm,hb.1,hb.2,and_self,h1],h2⟩
       · exact hl.elim
     · exact hl.elim
   · rename_i ht;obtain ⟨d,hd,hnew⟩:=z2g hl;clear hl;have hl:=hnew;clear hnew;split at hl
     · rename_i e he;obtain ⟨de,hde,hnew⟩:=z2g hl;clear hl;have hl:=hnew;clear hnew;obtain ⟨r,h1,h2⟩:=zls hl;have ht':¬t=t':=by simpa using ht
       exact ⟨r,by simp only [z2s,ht',if_false,z1e,hd,he,hde,h1],h2⟩
     · exact hl.elim
 · exact z3w hl
def binV (P:Program)(t:TypeId)(op:BinOp)(x y:TV)(K:TV→Prop):Prop:=
 match op,x,y with
 | .quo, .c (.a (.fz (.int k a))), .c (.a (.fz (.int k' b)))=>(k=k'∧b≠0)∧K (.c (.a (.fz (.int k (k.wrap (a.tdiv b))))))
 | .rem, .c (.a (.fz (.int k a))), .c (.a (.fz (.int k' b)))=>(k=k'∧b≠0)∧K (.c (.a (.fz (.int k (a.tmod b)))))
 | .add, .c (.a (.fz (.str a))), .c (.a (.fz (.str b)))=>(a.length+b.length≤1000000000000)∧K (.c (.a (.fz (.str (a++b)))))
 | op,x,y=>match binA P t op x y with | some v=>K v | none=>False
theorem binV_inv {t:TypeId}{op:BinOp}{x y:TV}{K:TV→Prop}(hl:binV P t op x y K):∃ v,binA P t op x y=some v∧K v:=by
 unfold binV at hl;split at hl
 · obtain ⟨⟨rfl,h2⟩,hk⟩:=hl;exact ⟨_,by simp only [binA,if_true,zju,h2,if_false,Option.map_some],hk⟩
 · obtain ⟨⟨rfl,h2⟩,hk⟩:=hl;exact ⟨_,by simp only [binA,if_true,zju,h2,if_false,Option.map_some],hk⟩
 · obtain ⟨h2,hk⟩:=hl;exact ⟨_,by simp only [binA,zre,h2,if_true,Option.map_some],hk⟩
 · split at hl
   · rename_i v hv;exact ⟨v,hv,hl⟩
   · exact hl.elim
def exC:List FV→(List FV→Prop)→Prop
 | [],K=>K []
 | .int k _::z,K=> ∃ n:Int,exC z fun l=>K (.int k n::l)
 | .bool _::z,K=> ∃ b:Bool,exC z fun l=>K (.bool b::l)
 | .str _::z,K=> ∃ s:List UInt8,exC z fun l=>K (.str s::l)
 | _::z,K=> ∃ x:FV,exC z fun l=>K (x::l)
theorem zog:∀ {z:List FV} {K:List FV→Prop},exC z K→∃ l,K l∧l.length=z.length∧((z.all fun f=>match f with | .int _ _=>true | .bool _=>true | .str _=>true | _=>false)=true→(l.all FV.scalar)=true)
 | [],K,h=>⟨[],h,rfl,fun _=>rfl⟩
 | f::z,K,h=>by
  cases f<;>(obtain ⟨a,h⟩:=h;obtain ⟨l,hk,hlen,hs⟩:=zog h;refine ⟨_,hk,by simp [hlen],fun hz=> ?_⟩;simp only [List.all_cons,Bool.and_eq_true,Bool.true_and,Bool.false_eq_true,false_and] at hz ⊢)<;>
   first | (exact hz.elim) | (exact ⟨rfl,hs hz⟩)
def zoi (m:Bool×List EK)(key:List FV):List MapE→Nat→(Option Nat→Prop)→Prop
 | [],_,K=>K none
 | e::es,i,K=>match e.1.1==m.1 with
  | true=>match z0q m.2 (fzs key) (fzs e.1.2) with
   | some b=>br b (K (some i)) (zoi m key es (i+1) K)
   | none=>False
  | false=>False
theorem z9i {m:Bool×List EK}{key:List FV}:∀ {es:List MapE} {i:Nat} {K:Option Nat→Prop},zoi m key es i K→∃ r,z6c m key es i=some r∧K r
 | [],i,K,h=>⟨none,rfl,h⟩
 | e::es,i,K,h=>by
  unfold zoi at h;split at h
  · rename_i hag;split at h
    · rename_i b hb;simp only [z6c];rw [if_pos (by simpa using hag),hb];cases b with
      | true=>exact ⟨some i,rfl,h⟩
      | false=>exact z9i (show zoi m key es (i+1) K from h)
    · exact h.elim
  · exact h.elim
def few {α:Type}(l:List α):Bool:=Nat.ble l.length 12
def zno (m:(Bool×List EK)×(Bool×List WV))(h:Nat→AObj)(x key:TV)(ok:Bool)(K:AR→Prop):Prop:=
 match keyA m key with
 | some k=>match z5k h x with
  | some oe=>match unfz m.2.2 with
   | some z=>(exC z fun l=>findZ m k oe.2=some (some l)∧oK' ((zj9 ok (m.2.1,fzs l) true).map fun v=>⟨v,[],[oe.1]⟩) K)∨(findZ m k oe.2=some none∧oK' ((zj9 ok m.2 false).map fun v=>⟨v,[],[oe.1]⟩) K)
   | none=>False
  | none=>match z8d (fun o=>flat (h o)) x with
   | some oe=>match few oe.2 with
    | true=>zoi m.1 k oe.2 0 fun r=>oK' ((zue m oe.2 r ok).map fun v=>⟨v,[],[oe.1]⟩) K
    | false=>False
   | none=>False
 | none=>False
theorem znb {m:(Bool×List EK)×(Bool×List WV)}{h:Nat→AObj}{x key:TV}{ok:Bool}{K:AR→Prop}(hl:zno m h x key ok K):∃ r,z4p m h x key ok=some r∧K r:=by
 unfold zno at hl;split at hl
 · rename_i k hk;split at hl
   · rename_i oe hoe;split at hl
     · rcases hl with hl | ⟨hf,hl⟩
       · obtain ⟨l,⟨hf,hl⟩,_⟩:=zog hl;obtain ⟨r,hr,hK⟩:=z3w hl;exact ⟨r,by simp only [z4p,hoe,hk,hf,hr],hK⟩
       · obtain ⟨r,hr,hK⟩:=z3w hl;exact ⟨r,by simp only [z4p,hoe,hk,hf,hr],hK⟩
     · exact hl.elim
   · rename_i hn;split at hl
     · rename_i oe hoe;split at hl
       · obtain ⟨q,hq,hl⟩:=z9i hl;obtain ⟨r,hr,hK⟩:=z3w hl;exact ⟨r,by simp only [z4p,hn,z55,hk,hoe,hq,hr],hK⟩
       · exact hl.elim
     · exact hl.elim
 · exact hl.elim
def ze6 (m:(Bool×List EK)×(Bool×List WV))(h:Nat→AObj)(x key:TV)(K:AR→Prop):Prop:=
 match keyA m key with
 | some k=>match z8d (fun o=>flat (h o)) x with
  | some oe=>match few oe.2 with
   | true=>zoi m.1 k oe.2 0 fun r=>oK' (entE m oe.1 k oe.2 r) K
   | false=>False
  | none=>False
 | none=>False
theorem zi7 {m:(Bool×List EK)×(Bool×List WV)}{h:Nat→AObj}{x key:TV}{K:AR→Prop}(hl:ze6 m h x key K):∃ r,z4k m (fun o=>flat (h o)) x key=some r∧K r:=by
 unfold ze6 at hl;split at hl
 · rename_i k hk;split at hl
   · rename_i oe hoe;split at hl
     · obtain ⟨q,hq,hl⟩:=z9i hl;obtain ⟨r,hr,hK⟩:=z3w hl;exact ⟨r,by simp only [z4k,hk,hoe,hq,hr],hK⟩
     · exact hl.elim
   · exact hl.elim
 · exact hl.elim
def zbb (m:(Bool×List EK)×(Bool×List WV))(h:Nat→AObj)(x key v:TV)(K:AR→Prop):Prop:=
 match keyA m key,zm4 v with
 | some k,some r=>match z5k h x with
  | some oe=>match unfz r.2 with
   | some fr=> ∃ es':List MapZ,updZ m k (r.1,fr) oe.2=some es'∧K ⟨.any,[(oe.1, .mapz es')],[oe.1]⟩
   | none=>False
  | none=>match z8d (fun o=>flat (h o)) x with
   | some oe=>match few oe.2 with
    | true=>zoi m.1 k oe.2 0 fun q=>K ⟨.any,[(oe.1, .mapo (updE m k r oe.2 q))],[oe.1]⟩
    | false=>False
   | none=>False
 | _,_=>False
theorem zfq {m:(Bool×List EK)×(Bool×List WV)}{h:Nat→AObj}{x key v:TV}{K:AR→Prop}(hl:zbb m h x key v K):∃ r,z1y m h x key v=some r∧K r:=by
 unfold zbb at hl;split at hl
 · rename_i k rw_ hk hrw;split at hl
   · rename_i oe hoe;split at hl
     · rename_i fr hfr;obtain ⟨es',hes,hK⟩:=hl;exact ⟨_,by simp only [z1y,hoe,hk,hrw,hfr,hes,Option.map_some],hK⟩
     · exact hl.elim
   · rename_i hn;split at hl
     · rename_i oe hoe;split at hl
       · obtain ⟨q,hq,hK⟩:=z9i hl;exact ⟨_,by simp only [z1y,hn,z1p,hk,hrw,hoe,hq],hK⟩
       · exact hl.elim
     · exact hl.elim
 · exact hl.elim
def mapP (P:Program)(t:TypeId)(f:(Bool×List EK)×(Bool×List WV)→Prop):Prop:=match zhy P t with | some m=>f m | none=>False
theorem zia {P:Program}{t:TypeId}{f:(Bool×List EK)×(Bool×List WV)→Prop}(h:mapP P t f):∃ m,zhy P t=some m∧f m:=by
 unfold mapP at h;split at h
 · rename_i m hm;exact ⟨m,hm,h⟩
 · exact h.elim
def elemP (P:Program)(t:TypeId)(f:TyD→Prop):Prop:=tyP P t fun d=>match d.kind with
 | .slice e=>tyP P e f
 | _=>False
theorem zur {P:Program}{t:TypeId}{f:TyD→Prop}(h:elemP P t f):∃ de,f de∧∀ {α:Type} (g:TyD→Option α),z1e P t g=g de:=by
 obtain ⟨d,hd,h⟩:=z2g h;split at h
 · rename_i e hk;obtain ⟨de,hde,h⟩:=z2g h;refine ⟨de,h,fun g=> ?_⟩;unfold z1e;rw [hd];dsimp only;rw [hk];dsimp only;rw [hde]
 · exact h.elim
def zas (de:TyD)(fr:Nat)(x y:TV)(K:AR→Prop):Prop:=
 match x,y,de.zero with
 | .c (.a (.fz (.int _ n))), .c (.a (.fz (.int _ m))),some z=>(n=m∧0≤n∧z.length=de.size∧0<de.size∧0<de.bytes∧z0u n.toNat de.bytes)∧K ⟨.c (.a (.osl fr de.size 0 n.toNat)),[(fr, .arz de.size (List.replicate n.toNat z))],[]⟩
 | _,_,_=>False
theorem zfo {de:TyD}{fr:Nat}{x y:TV}{K:AR→Prop}(h:zas de fr x y K):∃ q,z51 de fr x y=some q∧K ⟨.c (.a (.osl fr de.size 0 q.1)),[(fr, .arz de.size (List.replicate q.1 q.2))],[]⟩:=by
 unfold zas at h;split at h
 · rename_i k1 n k2 m z hz;exact ⟨(n.toNat,z),by simp only [z51,hz,if_pos h.1],h.2⟩
 · exact h.elim
def opV (P:Program)(o:Oper)(fr:Nat)(ρ:Operand→TV)(h:Nat→AObj)(K:AR→Prop):Prop:=
 match o.op with
 | .indexAddr t x ix=>tyP P t fun d=>zal P d (ρ x) (ρ ix) fun v=>K ⟨v,[],[]⟩
 | .index t x ix=>tyP P t fun d=>zx3 P d (ρ x) (ρ ix) fun v=>K ⟨v,[],[]⟩
 | .slice t x lo hi mx=>tyP P t fun d=>zva P d (ρ x) (lo.map ρ) (hi.map ρ) (mx.map ρ) fun v=>K ⟨v,[],[]⟩
 | .load t x=>tyP P t fun d=>loadV d h (ρ x) K
 | .store t x y=>tyP P t fun d=>zux d h (ρ x) (ρ y) K
 | .call ⟨.builtin b,args,ts⟩=>zhe P b ts.toList fr h (args.toList.map ρ) K
 | .binOp op t x y _=>binV P t op (ρ x) (ρ y) fun v=>K ⟨v,[],[]⟩
 | .build t parts=>asksP h (parts.toList.map fun p=>(p.1,ρ p.2)) (tyP P t fun d=>
   match zgv P d (givP h (parts.toList.map fun p=>(p.1,ρ p.2))).1 with
   | some v=>K ⟨v,(givP h (parts.toList.map fun p=>(p.1,ρ p.2))).2,oslP (parts.toList.map fun p=>(p.1,ρ p.2))⟩
   | none=>False)
 | .buildSlice t len parts=>asksP h (parts.toList.map fun p=>(p.1,ρ p.2))
   (oK' ((z1e P t fun de=>z43 de fr len (givP h (parts.toList.map fun p=>(p.1,ρ p.2))).1).map fun r=>
    ⟨(z2c r).val,(z2c r).upd++(givP h (parts.toList.map fun p=>(p.1,ρ p.2))).2,oslP (parts.toList.map fun p=>(p.1,ρ p.2))⟩) K)
 | .lookup t x ix ok=>mapP P t fun m=>zno m h (ρ x) (ρ ix) ok K
 | .mapEntry t x k=>mapP P t fun m=>ze6 m h (ρ x) (ρ k) K
 | .mapUpdate t x k v=>mapP P t fun m=>zbb m h (ρ x) (ρ k) (ρ v) K
 | .makeSlice t l c=>elemP P t fun de=>zas de fr (ρ l) (ρ c) K
 | _=>oK' (aopF P o fr ρ h) K
theorem opV_inv {o:Oper}{fr:Nat}{ρ:Operand→TV}{h:Nat→AObj}{K:AR→Prop}(hl:opV P o fr ρ h K):∃ r,aopF P o fr ρ h=some r∧K r:=by
 unfold opV at hl;split at hl
 · rename_i t x ix ho;obtain ⟨d,hd,hnew⟩:=z2g hl;clear hl;have hl:=hnew;clear hnew;obtain ⟨v,hv,hk⟩:=zfc hl;exact ⟨_,by simp only [aopF,ho,aop,z1k,hd,hv,valR,Option.map_some],hk⟩
 · rename_i t x ix ho;obtain ⟨d,hd,hnew⟩:=z2g hl;clear hl;have hl:=hnew;clear hnew;obtain ⟨v,hv,hk⟩:=zsy hl;exact ⟨_,by simp only [aopF,ho,aop,z1k,hd,hv,valR,Option.map_some],hk⟩
 · rename_i t x lo hi mx ho;obtain ⟨d,hd,hnew⟩:=z2g hl;clear hl;have hl:=hnew;clear hnew;obtain ⟨v,hv,hk⟩:=zrp hl;exact ⟨_,by simp only [aopF,ho,aop,z1k,hd,hv,valR,Option.map_some],hk⟩
 · rename_i t x ho;obtain ⟨d,hd,hnew⟩:=z2g hl;clear hl;have hl:=hnew;clear hnew;obtain ⟨r,hr,hk⟩:=zt4 hl;exact ⟨r,by simp only [aopF,ho,aop,z1k,hd,hr],hk⟩
 · rename_i t x y ho;obtain ⟨d,hd,hnew⟩:=z2g hl;clear hl;have hl:=hnew;clear hnew;obtain ⟨r,hr,hk⟩:=zs1 hl;exact ⟨r,by simp only [aopF,ho,z1k,hd,hr],hk⟩
 · rename_i b args ts ho;obtain ⟨r,hr,hk⟩:=zkk hl;exact ⟨r,by simp only [aopF,ho,hr],hk⟩
 · rename_i op t x y ot ho;obtain ⟨v,hv,hk⟩:=binV_inv hl;exact ⟨_,by simp only [aopF,ho,aop,hv,valR,Option.map_some],hk⟩
 · rename_i t parts ho;obtain ⟨hg,hl⟩:=zee hl;obtain ⟨d,hd,hnew⟩:=z2g hl;clear hl;have hl:=hnew;clear hnew;split at hl
   · rename_i v hv;exact ⟨_,by simp only [aopF,ho,z1k,hd,hg,hv,Option.map_some],hl⟩
   · exact hl.elim
 · rename_i t len parts ho;obtain ⟨hg,hl⟩:=zee hl;obtain ⟨r,hr,hk⟩:=z3w hl;exact ⟨r,by simp only [aopF,ho,hg,hr],hk⟩
 · rename_i t x ix ok ho;obtain ⟨m,hm,hnew⟩:=zia hl;obtain ⟨r,hr,hk⟩:=znb hnew;exact ⟨r,by simp only [aopF,ho,z2q,hm,hr],hk⟩
 · rename_i t x k ho;obtain ⟨m,hm,hnew⟩:=zia hl;obtain ⟨r,hr,hk⟩:=zi7 hnew;exact ⟨r,by simp only [aopF,ho,aop,z2q,hm,hr],hk⟩
 · rename_i t x k v ho;obtain ⟨m,hm,hnew⟩:=zia hl;obtain ⟨r,hr,hk⟩:=zfq hnew;exact ⟨r,by simp only [aopF,ho,z2q,hm,hr],hk⟩
 · rename_i t l c ho;obtain ⟨de,hnew,hw⟩:=zur hl;obtain ⟨q,hq,hk⟩:=zfo hnew;exact ⟨_,by simp only [aopF,ho,hw,hq,Option.map_some],hk⟩
 · exact z3w hl
end
end Go.AM

namespace Go.AM
def AV.ids:AV→List Nat
 | .ep o _ _ _=> [o]
 | .osl o _ _ _=> [o]
 | .mp o=> [o]
 | .bld _ o=> [o]
 | .osb o _ _=> [o]
 | _=> []
def WV.ids:WV→List Nat
 | .a x=>x.ids
 | .fn _ first cap=>(first.flatMap fun p=>p.2.flatMap AV.ids)++(cap.flatMap fun p=>p.2.flatMap AV.ids)
def TV.ids:TV→List Nat
 | .any=> []
 | .c x=>x.ids
 | .agg cs=>cs.flatMap WV.ids
 | .tup vs=>vs.flatMap fun p=>p.2.flatMap WV.ids
def AObj.ids:AObj→List Nat
 | .arr _ es=>es.flatMap fun e=>e.flatMap WV.ids
 | .mapo es=>es.flatMap fun e=>e.2.2.flatMap WV.ids
 | _=> []
def AV.inn (l:List Nat):AV→Bool
 | .ep o _ _ _=>l.contains o
 | .osl o _ _ _=>l.contains o
 | .mp o=>l.contains o
 | .bld _ o=>l.contains o
 | .osb o _ _=>l.contains o
 | _=>true
def WV.inn (l:List Nat):WV→Bool
 | .a x=>x.inn l
 | .fn _ first cap=>(first.all fun p=>p.2.all (AV.inn l))&&(cap.all fun p=>p.2.all (AV.inn l))
def TV.inn (l:List Nat):TV→Bool
 | .any=>true
 | .c x=>x.inn l
 | .agg cs=>cs.all (WV.inn l)
 | .tup vs=>vs.all fun p=>p.2.all (WV.inn l)
def AObj.inn (l:List Nat):AObj→Bool
 | .arr _ es=>es.all fun e=>e.all (WV.inn l)
 | .mapo es=>es.all fun e=>e.2.2.all (WV.inn l)
 | _=>true
def zss (h:Nat→AObj):Nat→List Nat→List Nat→List Nat
 | 0,_,seen=>seen
 | _+1,[],seen=>seen
 | k+1,o::todo,seen=>match seen.contains o with
  | true=>zss h k todo seen
  | false=>zss h k ((h o).ids++todo) (seen++ [o])
def keep (m:Nat)(U:List Nat):List Nat:=(List.range m).filter fun o=> !U.contains o
def zgc (m:Nat)(U:List Nat)(h:Nat→AObj)(todo:List Nat):List Nat:=(zss h 200 (keep m U++todo) []).filter fun o=>Nat.ble m o||U.contains o
def inv (ids:List Nat)(o:Nat):Nat:=ids.idxOf o
def za0:List Nat→Bool
 | []=>true
 | x::l=> !l.contains x&&za0 l
theorem z3j:∀ {l:List Nat},za0 l=true→l.Nodup
 | [],_=> .nil
 | x::l,h=>by
  simp only [za0,Bool.and_eq_true,Bool.not_eq_true',List.contains_eq_mem,decide_eq_false_iff_not] at h;exact List.nodup_cons.2 ⟨h.1,z3j h.2⟩
def liveB:AObj→Bool | .gone=>false | _=>true
theorem zy4 {x:AObj}(h:liveB x=true):isLive x:=by cases x<;>simp_all [liveB,isLive]
section
def Back (A:List Nat)(ν σ:Nat→Nat)(N:Nat):Prop:=∀ o,A.contains o=true→ν o<N∧σ (ν o)=o
variable {A:List Nat} {ν σ:Nat→Nat} {N:Nat}
theorem AV.renV (H:Back A ν σ N){x:AV}(h:x.inn A=true):(x.ren ν).ren σ=x∧(x.ren ν).lt N=true:=by
 cases x<;>simp only [AV.inn] at h<;>simp only [AV.ren,AV.lt,and_self,decide_eq_true_eq]<;>have:=H _ h<;>simp [this]
theorem z5v {α:Type}{f g:α→α}{p q:α→Bool}(hfg:∀ x,p x=true→g (f x)=x∧q (f x)=true):∀ {l:List α},l.all p=true→(l.map f).map g=l∧(l.map f).all q=true
 | [],_=>⟨rfl,rfl⟩
 | x::l,h=>by
  simp only [List.all_cons,Bool.and_eq_true] at h;have h1:=hfg x h.1;have h2:=z5v hfg h.2;exact ⟨by simp only [List.map_cons,h1.1,h2.1],by simp only [List.map_cons,List.all_cons,h1.2,h2.2,Bool.and_self]⟩
theorem zqi {α β:Type}{f g:α→α}{p q:α→Bool}(hfg:∀ x,p x=true→g (f x)=x∧q (f x)=true)(x:β×List α)(h:x.2.all p=true):
  ((x.1,(x.2.map f).map g):β×List α)=x∧(x.2.map f).all q=true:=by
 have:=z5v hfg h;exact ⟨by rw [this.1],this.2⟩
theorem WV.renV (H:Back A ν σ N){x:WV}(h:x.inn A=true):(x.ren ν).ren σ=x∧(x.ren ν).lt N=true:=by
 cases x with
 | a x=>simp only [WV.ren,WV.lt,WV.inn] at h ⊢;have:=AV.renV H h;simp [this]
 | fn f first cap=>
  simp only [WV.inn,Bool.and_eq_true] at h
  have key:∀ l:List (Bool×List AV),(l.all fun p=>p.2.all (AV.inn A))=true→
    ((l.map fun p=>(p.1,p.2.map (AV.ren ν))).map fun p=>(p.1,p.2.map (AV.ren σ)))=l∧((l.map fun p=>(p.1,p.2.map (AV.ren ν))).all fun p=>p.2.all (AV.lt N))=true:=
   fun l hl=>z5v (p:=fun p=>p.2.all (AV.inn A)) (fun x hx=>zqi (fun y hy=>AV.renV H hy) x hx) hl
  simp only [WV.ren,WV.lt,(key _ h.1).1,(key _ h.2).1,(key _ h.1).2,(key _ h.2).2,Bool.and_self,and_self]
theorem TV.renV (H:Back A ν σ N){x:TV}(h:x.inn A=true):(x.ren ν).ren σ=x∧(x.ren ν).lt N=true:=by
 cases x with
 | any=>exact ⟨rfl,rfl⟩
 | c x=>simp only [TV.ren,TV.lt,TV.inn] at h ⊢;have:=WV.renV H h;simp [this]
 | agg cs=>simp only [TV.ren,TV.lt,TV.inn] at h ⊢;have:=z5v (fun x hx=>WV.renV H (x:=x) hx) h;simp only [this.1,this.2,and_self]
 | tup vs=>
  simp only [TV.ren,TV.lt,TV.inn] at h ⊢;have:=z5v (f:=fun p:Bool×List WV=>(p.1,p.2.map (WV.ren ν))) (g:=fun p=>(p.1,p.2.map (WV.ren σ))) (q:=fun p=>p.2.all (WV.lt N)) (fun x hx=>zqi (fun y hy=>WV.renV H hy) x hx) h;simp only [this.1,this.2,and_self]
theorem AObj.renV (H:Back A ν σ N){x:AObj}(h:x.inn A=true):(x.ren ν).ren σ=x∧(x.ren ν).lt N=true:=by
 cases x with
 | gone=>exact ⟨rfl,rfl⟩
 | arz n fs=>exact ⟨rfl,rfl⟩
 | mapz es=>exact ⟨rfl,rfl⟩
 | arr n es=>
  simp only [AObj.ren,AObj.lt,AObj.inn] at h ⊢;have:=z5v (f:=fun e=>e.map (WV.ren ν)) (g:=fun e=>e.map (WV.ren σ)) (q:=fun e=>e.all (WV.lt N)) (fun x hx=>z5v (fun y hy=>WV.renV H hy) hx) h;simp only [this.1,this.2,and_self]
 | mapo es=>
  simp only [AObj.ren,AObj.lt,AObj.inn] at h ⊢
  have:=z5v (f:=fun e:(Bool×List FV)×(Bool×List WV)=>(e.1,(e.2.1,e.2.2.map (WV.ren ν)))) (g:=fun e=>(e.1,(e.2.1,e.2.2.map (WV.ren σ)))) (q:=fun e=>e.2.2.all (WV.lt N)) (p:=fun e=>e.2.2.all (WV.inn A))
   (fun x hx=>by
    have:=z5v (f:=WV.ren ν) (g:=WV.ren σ) (q:=WV.lt N) (fun y hy=>WV.renV H hy) hx;exact ⟨by rw [this.1],this.2⟩) h
  simp only [this.1,this.2,and_self]
end
section
variable {ids:List Nat} {fr:Nat}
theorem inv_ok {o:Nat}(h:ids.contains o=true):inv ids o<ids.length∧sub ids fr (inv ids o)=o:=by
 simp only [List.contains_eq_mem,decide_eq_true_eq] at h;have h1:ids.idxOf o<ids.length:=List.idxOf_lt_length_iff.2 h;refine ⟨h1, ?_⟩;simp only [inv,sub,h1,if_true];rw [List.getD,List.getElem?_eq_getElem h1,Option.getD_some];exact List.getElem_idxOf h1
theorem TV.ren_inv {x:TV}(h:x.inn ids=true):(x.ren (inv ids)).ren (sub ids fr)=x∧(x.ren (inv ids)).lt ids.length=true:=TV.renV (fun _ h=>inv_ok h) h
theorem AObj.ren_inv {x:AObj}(h:x.inn ids=true):(x.ren (inv ids)).ren (sub ids fr)=x∧(x.ren (inv ids)).lt ids.length=true:=AObj.renV (fun _ h=>inv_ok h) h
end
def zmv (h:Nat→AObj):WV→Lent
 | .a (.osl o _ _ _)=>match h o with | .arz n fs=> [(o,n,fs)] | _=> []
 | _=> []
def zk8 (h:Nat→AObj):TV→Lent
 | .c x=>zmv h x
 | .agg cs=>cs.flatMap (zmv h)
 | _=> []
def asksA (h:Nat→AObj):List TV→Prop→Prop
 | [],K=>K
 | x::r,K=>asksT h x (asksA h r K)
def LentOK (h:Nat→AObj)(L:Lent):Prop:=∀ p∈L,h p.1= .arz p.2.1 p.2.2
theorem LentOK.ok {h:Nat→AObj}{L:Lent}(hl:LentOK h L):L.ok h:=fun p hp=>by rw [hl p hp];rfl
theorem zpy {h:Nat→AObj}{x:WV}:LentOK h (zmv h x):=by
 intro p hp;cases x with
 | fn f a b=>cases hp
 | a x=>cases x with
  | osl o n off len=>
   simp only [zmv] at hp;split at hp
   · rename_i m fs he;simp only [List.mem_singleton] at hp;subst hp;exact he
   · cases hp
  | _=>cases hp
theorem lentT_ok {h:Nat→AObj}{x:TV}:LentOK h (zk8 h x):=by
 intro p hp;cases x with
 | c x=>exact zpy p hp
 | agg cs=>obtain ⟨c,_,hc⟩:=List.mem_flatMap.1 hp;exact zpy p hc
 | _=>cases hp
theorem zhp {h:Nat→AObj}{l:List TV}:LentOK h (l.flatMap (zk8 h)):=by
 intro p hp;obtain ⟨c,_,hc⟩:=List.mem_flatMap.1 hp;exact lentT_ok p hc
theorem zeb {h:Nat→AObj}:∀ {L:Lent} {o n:Nat} {fs:List (List FV)},LentOK h L→h o= .arz n fs→(o,n,fs)∈L→z0r L o=some (n,fs)
 | (j,m,gs)::L,o,n,fs,hl,ho,hm=>by
  simp only [z0r];split
  · rename_i hj;have:=hl _ List.mem_cons_self;subst hj;simp only [ho,AObj.arz.injEq] at this;rw [this.1,this.2]
  · rename_i hj;rcases List.mem_cons.1 hm with e | hm
    · exact absurd (by injection e with e _;exact e.symm) hj
    · exact zeb (fun p hp=>hl p (List.mem_cons_of_mem _ hp)) ho hm
theorem zbc {α:Type}:∀ {L:List (Nat×α)} {o:Nat},(∀ p∈L,p.1≠o)→z0r L o=none
 | [],_,_=>rfl
 | (j,x)::L,o,h=>by
  simp only [z0r];rw [if_neg (h _ List.mem_cons_self)];exact zbc fun p hp=>h p (List.mem_cons_of_mem _ hp)
theorem zkn {h:Nat→AObj}{L:Lent}{x:WV}(hl:LentOK h L)(hs:∀ p∈zmv h x,p∈L)(hf:ziq h x):x.lend L=(givW h x).1:=by
 cases x with
 | fn f a b=>rfl
 | a x=>cases x with
  | osl o n off len=>
   simp only [WV.lend,AV.lend,givW,zmv,ziq] at hs hf ⊢;cases ho:h o with
   | arz m fs=>
    rw [ho] at hs hf;rw [zeb hl ho (hs _ List.mem_cons_self)];simp only at hf ⊢;rw [if_pos hf]
   | _=>
    rw [zbc];intro p hp e;have:=hl p hp;rw [e,ho] at this;cases this
  | _=>rfl
theorem zh4 {h:Nat→AObj}{L:Lent}(hl:LentOK h L):∀ {cs:List WV},(∀ p∈cs.flatMap (zmv h),p∈L)→zab h cs→cs.map (WV.lend L)=(zji h cs).1
 | [],_,_=>rfl
 | x::r,hs,hf=>by
  have hf:=zd hf;simp only [List.map_cons,zji,zkn hl (fun p hp=>hs p (by simp [hp])) hf.1,zh4 hl (cs:=r) (fun p hp=>hs p (by simp only [List.flatMap_cons,List.mem_append];exact .inr hp)) hf.2]
theorem zwh {h:Nat→AObj}{L:Lent}{x:TV}(hl:LentOK h L)(hs:∀ p∈zk8 h x,p∈L)(hf:zu2 h x):x.lend L=(givT h x).1:=by
 cases x with
 | c x=>simp only [TV.lend,givT,zkn hl hs (zu4 hf)]
 | agg cs=>simp only [TV.lend,givT,zh4 hl hs hf]
 | _=>rfl
theorem zf4 {h:Nat→AObj}{L:Lent}(hl:LentOK h L):∀ {l:List TV} {K:Prop},(∀ p∈l.flatMap (zk8 h),p∈L)→asksA h l K→l.map (TV.lend L)=l.map (fun x=>(givT h x).1)∧K
 | [],_,_,hk=>⟨rfl,hk⟩
 | x::r,K,hs,hk=>by
  obtain ⟨h1,h2⟩:=zm1 hk;obtain ⟨h3,h4⟩:=zf4 hl (l:=r) (fun p hp=>hs p (by simp only [List.flatMap_cons,List.mem_append];exact .inr hp)) h2;exact ⟨by simp only [List.map_cons,h3,zwh hl (fun p hp=>hs p (by simp only [List.flatMap_cons,List.mem_append];exact .inl hp)) h1],h4⟩
def resV (P:Program):List TypeId→(List (Bool×List FV)→Prop)→Prop
 | [],K=>K []
 | t::ts,K=>tyP P t fun d=>match d.zero with
  | some z=>exC z fun l=>resV P ts fun r=>K ((d.agg,l)::r)
  | none=>False
def zj:List (Bool×List FV)→TV
 | [(true,l)]=> .agg (fzs l)
 | [(false,[x])]=> .c (cell x)
 | l=> .tup (l.map fun p=>(p.1,fzs p.2))
def scalZ (P:Program)(ts:List TypeId):Bool:=ts.all fun t=>match tyOf P t with
 | some d=>match d.zero with
  | some z=>z.all fun f=>match f with | .int _ _=>true | .bool _=>true | .str _=>true | _=>false
  | none=>false
 | none=>false
theorem zj4 {P:Program}:∀ {ts:List TypeId} {K:List (Bool×List FV)→Prop},resV P ts K→∃ l,K l∧(scalZ P ts=true→∀ p∈l,p.2.all FV.scalar=true)
 | [],K,h=>⟨[],h,fun _ _ hp=>by cases hp⟩
 | t::ts,K,h=>by
  obtain ⟨d,hd,h⟩:=z2g h;split at h
  · rename_i z hz;obtain ⟨l,h,_,hs⟩:=zog h;obtain ⟨r,h,hs2⟩:=zj4 h;refine ⟨_,h,fun hsc=> ?_⟩;simp only [scalZ,List.all_cons,Bool.and_eq_true,hd,hz] at hsc;intro p hp;rcases List.mem_cons.1 hp with rfl | hp
    · exact hs hsc.1
    · exact hs2 (by simpa [scalZ] using hsc.2) p hp
  · exact h.elim
theorem zy2 (σ:Nat→Nat)(l:List FV):(fzs l).map (WV.ren σ)=fzs l:=by
 simp only [fzs,List.map_map];exact List.map_congr_left fun x _=>rfl
theorem zl7 (σ:Nat→Nat)(l:List (Bool×List FV)):(zj l).ren σ=zj l:=by
 unfold zj;split
 · simp only [TV.ren,zy2]
 · rfl
 · simp only [TV.ren,List.map_map];congr 1;exact List.map_congr_left fun p _=>by simp [zy2]
theorem zgu {l:List FV}(h:l.all FV.scalar=true):(fzs l).all WV.scalar=true:=by
 simp only [fzs,List.all_map];exact h
theorem zlz {l:List (Bool×List FV)}(h:∀ p∈l,p.2.all FV.scalar=true):(zj l).scalar=true:=by
 unfold zj;split
 · exact zgu (h _ List.mem_cons_self)
 · have:=h _ List.mem_cons_self;simpa [TV.scalar,WV.scalar,cell,AV.scalar] using this
 · simp only [TV.scalar,List.all_map,List.all_eq_true];exact fun p hp=>zgu (h p hp)
structure Sh where
 X:Type
 val:X→TV
 obs:X→List AObj→List AObj
 fz:Bool
 mu:Bool
 kp:List Nat
def zs3:List Nat→List AObj→List AObj→List AObj
 | [],_,out=>out
 | k::kp,H,out=>(zs3 kp H out).set k (H.getD k .gone)
def Sh.out (S:Sh)(x:S.X)(H:List AObj):List AObj:=zs3 S.kp H (S.obs x H)
theorem z7o (H:List AObj):∀ (kp:List Nat) (out:List AObj),(zs3 kp H out).length=out.length
 | [],_=>rfl
 | k::kp,out=>by rw [zs3,List.length_set,z7o H kp]
theorem zl4 (H:List AObj):∀ (kp:List Nat) (out:List AObj) (k:Nat),k∈kp→k<out.length→(zs3 kp H out)[k]? =some (H.getD k .gone)
 | [],_,_,h,_=>by cases h
 | j::kp,out,k,h,hk=>by
  rw [zs3,List.getElem?_set];by_cases e:j=k
  · subst e;rw [if_pos rfl,if_pos (by rw [z7o];exact hk)]
  · rw [if_neg e];rcases List.mem_cons.1 h with q | q
    · exact absurd q.symm e
    · exact zl4 H kp out k q hk
def ownB:List Sh→Bool
 | []=>false
 | S::l=> !S.fz||ownB l
def mutB:List Sh→Bool
 | []=>false
 | S::l=>S.mu||mutB l
def zxu (P:Program)(f:FuncId):List TypeId:=match P.funcs[f]? with | some fn=>fn.resultTypes.toList | none=> []
section
variable (P:Program) (sh:FuncId→List Sh)
def altV (A:Sh→Prop):List Sh→Prop
 | []=>False
 | [S]=>A S
 | S::T::l=>A S∨altV A (T::l)
theorem zpj {A:Sh→Prop}:∀ {l:List Sh},altV A l→∃ S,A S
 | [],h=>h.elim
 | [S],h=>⟨S,h⟩
 | S::T::l,h=>h.elim (fun h=>⟨S,h⟩) fun h=>zpj (l:=T::l) h
def zsr (f:FuncId)(args:List TV)(h:Nat→AObj)(fr:Nat)(K:TV→AHeap→List Nat→Prop):Prop:=
 match zss h 200 (args.flatMap TV.ids) [] with
 | ids=>match za0 ids&&ids.all (fun o=>liveB (h o)&&(h o).inn ids)&&args.all (TV.inn ids)&&ids.all (fun o=>Nat.blt o fr) with
  | true=>match sh f with
   | _::_=>altV (fun S=> ∃ x:S.X,AC P f (args.map (TV.ren (inv ids))) (ids.map fun o=>(h o).ren (inv ids)) (S.val x) (S.out x (ids.map fun o=>(h o).ren (inv ids)))∧
     match Nat.ble (S.out x (ids.map fun o=>(h o).ren (inv ids))).length (ids.length+32)&&S.kp.all (fun k=>Nat.blt k ids.length&&Nat.blt k (S.out x (ids.map fun o=>(h o).ren (inv ids))).length) with
     | true=>K ((S.val x).ren (sub ids fr)) ((z1z (sub ids fr) ids (S.out x (ids.map fun o=>(h o).ren (inv ids)))++z3a (sub ids fr) fr ((S.out x (ids.map fun o=>(h o).ren (inv ids))).drop ids.length)).filter fun p=> !(S.kp.map fun k=>ids.getD k 0).contains p.1) ids
     | false=>False) (sh f)
   | []=>resV P (zxu P f) fun rs=>AC P f (args.map (TV.ren (inv ids))) (ids.map fun o=>(h o).ren (inv ids)) (zj rs) (ids.map fun o=>(h o).ren (inv ids))∧
     K (zj rs) (z1z (sub ids fr) ids (ids.map fun o=>(h o).ren (inv ids))) ids
  | false=>False
def callL (f:FuncId)(args:List TV)(h:Nat→AObj)(fr:Nat)(K:TV→AHeap→List Nat→Prop):Prop:=
 match args.flatMap (zk8 h) with
 | []=>zsr P sh f args h fr K
 | p::L=>asksA h args (match scalZ P (zxu P f)&&(zss h 200 ((args.map fun x=>(givT h x).1).flatMap TV.ids) []).isEmpty&&(sh f).isEmpty with
  | true=>resV P (zxu P f) fun rs=>AC P f (args.map fun x=>(givT h x).1) [] (zj rs) []∧((args.map fun x=>(givT h x).1).all (TV.lt 0)=true∧K (zj rs) [] ((p::L).map Prod.fst))
  | false=>zsr P sh f (args.map fun x=>(givT h x).1) (over ((p::L).map fun p=>(p.1,AObj.gone)) h) fr
    (fun r u rd=>K r (u++(p::L).map fun p=>(p.1,AObj.gone)) (rd++(p::L).map Prod.fst)))
def callV (f:FuncId)(args:List TV)(h:Nat→AObj)(fr:Nat)(K:TV→AHeap→List Nat→Prop):Prop:=
 match mutB (sh f) with
 | true=>zsr P sh f args h fr K
 | false=>callL P sh f args h fr K
end
section
variable {P:Program} {sh:FuncId→List Sh} {f:FuncId} {args:List TV} {h:Nat→AObj} {fr:Nat} {K K':TV→AHeap→List Nat→Prop}
theorem z80:∀ {l:List TV},All2 TV.Le l l
 | []=>trivial
 | x::_=>⟨.refl x,z80⟩
theorem zmo {ids:List Nat}{fr:Nat}{args:List TV}(h:args.all (TV.inn ids)=true):(args.map (TV.ren (inv ids))).map (TV.ren (sub ids fr))=args∧(args.map (TV.ren (inv ids))).all (TV.lt ids.length)=true:=
 z5v (fun _ hx=>TV.ren_inv hx) h
theorem z2k (l:List TV):l.map (TV.lend [])=l:=by
 have:TV.lend []=id:=by
  funext x
  have hw:∀ y:WV,y.lend []=y:=fun y=>by
   cases y with
   | a y=>cases y<;>rfl
   | fn f a b=>rfl
  cases x with
  | any=>rfl
  | c x=>simp only [TV.lend,hw,id]
  | agg cs=>simp only [TV.lend,id,show WV.lend []=id from funext hw,List.map_id]
  | tup vs=>rfl
 rw [this,List.map_id]
theorem zbu {ids:List Nat}{fr:Nat}:∀ {l:List Nat},(l.all fun o=>liveB (h o)&&(h o).inn ids)=true→
  ((l.map fun o=>(h o).ren (inv ids)).map (AObj.ren (sub ids fr))=l.map h∧(l.map fun o=>(h o).ren (inv ids)).all (AObj.lt ids.length)=true)∧∀ i∈l,isLive (h i)
 | [],_=>⟨⟨rfl,rfl⟩,fun _ hi=>by cases hi⟩
 | o::l,hl=>by
  simp only [List.all_cons,Bool.and_eq_true] at hl;have h1:=AObj.ren_inv (fr:=fr) hl.1.2;have h2:=zbu (fr:=fr) (l:=l) hl.2;refine ⟨⟨by simp only [List.map_cons,h1.1,h2.1.1],by simp only [List.map_cons,List.all_cons,h1.2,h2.1.2,Bool.and_self]⟩,fun i hi=> ?_⟩;rcases List.mem_cons.1 hi with rfl | hi
  · exact zy4 hl.1.1
  · exact h2.2 i hi
theorem zf9 (hc:zsr P sh f args h fr K):CallK P f args h fr K:=by
 unfold zsr at hc;generalize zss h 200 (args.flatMap TV.ids) []=ids at hc;simp only at hc;split at hc
 · rename_i hb;simp only [Bool.and_eq_true] at hb;obtain ⟨⟨⟨h1,h2⟩,h3⟩,h0⟩:=hb;have h0:∀ i∈ids,i<fr:=fun i hi=>Nat.le_of_ble_eq_true (List.all_eq_true.1 h0 i hi);have ha:=zmo (fr:=fr) h3;have ho:=zbu (fr:=fr) h2;split at hc
   · obtain ⟨S,x,hac,hc⟩:=zpj hc;split at hc
     · rename_i hlen;rw [Bool.and_eq_true] at hlen;refine ⟨ids,[],_,_,_,_,hac,⟨z3j h1,h0⟩,Nat.le_of_ble_eq_true hlen.1,ho.1, ?_,ha.2,ho.2, .inl rfl,S.kp.map fun k=>ids.getD k 0,fun i hi=> ?_,by rw [List.map_nil,List.append_nil];exact hc⟩
       · rw [z2k,ha.1];exact z80
       · obtain ⟨k,hk,rfl⟩:=List.mem_map.1 hi;have hb:=List.all_eq_true.1 hlen.2 k hk;rw [Bool.and_eq_true] at hb;have k1:k<ids.length:=Nat.le_of_ble_eq_true hb.1
         have k2:k<(S.obs x (ids.map fun o=>(h o).ren (inv ids))).length:=by
          have:=Nat.le_of_ble_eq_true hb.2
          rwa [Sh.out,z7o] at this
         have e1:ids[k]? =some (ids.getD k 0):=by simp [List.getD,List.getElem?_eq_getElem k1]
         rw [Sh.out,zaa (z3j h1) e1 (zl4 _ _ _ k hk k2)];have e2:=congrArg (fun l=>l[k]?) ho.1.1;simp only [List.getElem?_map,e1,Option.map_some] at e2;simp only [Option.some.injEq] at e2;rw [List.getD,List.getElem?_map,e1];simp only [Option.map_some,Option.getD_some];rw [e2]
     · exact hc.elim
   · obtain ⟨rs,⟨hac,hk⟩,_⟩:=zj4 hc;refine ⟨ids,[],_,_,_,_,hac,⟨z3j h1,h0⟩,by simp,ho.1, ?_,ha.2,ho.2, .inl rfl,[],(fun _ h=>nomatch h), ?_⟩
     · rw [z2k,ha.1];exact z80
     · rw [zl7,List.drop_eq_nil_of_le (by simp),kept_nil];simpa [z3a] using hk
 · exact hc.elim
theorem CallK.imp (hc:CallK P f args h fr K)(hk:∀ r u rd,K r u rd→K' r u rd):CallK P f args h fr K':=by
 obtain ⟨ids,L,args',Hs,r,Hs',h1,h2,h3,h4,h5,h6,h7,h8,F,hF,h9⟩:=hc;exact ⟨ids,L,args',Hs,r,Hs',h1,h2,h3,h4,h5,h6,h7,h8,F,hF,hk _ _ _ h9⟩
theorem zu0 (hc:callL P sh f args h fr K):CallE P f args h fr K:=by
 unfold callL at hc;split at hc
 · refine ⟨[],(fun p hp=>by cases hp), ?_⟩;rw [z2k];have e:over (([]:Lent).map fun p=>(p.1,AObj.gone)) h=h:=by funext o;rfl
   rw [e];exact (zf9 hc).imp fun r u rd hk=>by simpa using hk
 · rename_i p L hL;have hok:LentOK h (p::L):=by rw [←hL];exact zhp
   obtain ⟨hl,hc⟩:=zf4 hok (fun q hq=>by rw [←hL];exact hq) hc;split at hc
   · rename_i hb;simp only [Bool.and_eq_true] at hb;obtain ⟨rs,⟨hac,hlt,hk⟩,hs⟩:=zj4 hc;refine ⟨[],(fun p hp=>by cases hp), ?_⟩;rw [z2k];have e:over (([]:Lent).map fun p=>(p.1,AObj.gone)) h=h:=by funext o;rfl
     rw [e];refine ⟨[],p::L,_,[],_,[],hac,⟨.nil,fun _ hi=>nomatch hi⟩,by simp,⟨rfl,rfl⟩, ?_,hlt,(fun _ hi=>nomatch hi), .inr ⟨hok.ok,(fun _ _ hi=>nomatch hi),zlz (hs hb.1.1),rfl⟩,[],(fun _ h=>nomatch h), ?_⟩
     · rw [hl]
       have:∀ {l:List TV},l.all (TV.lt 0)=true→l.map (TV.ren (sub [] fr))=l:=by
        intro l hl
        have key:∀ x:TV,x.lt 0=true→x.ren (sub [] fr)=x:=by
         have ka:∀ x:AV,x.lt 0=true→x.ren (sub [] fr)=x:=fun x hx=>by cases x<;>simp_all [AV.lt,AV.ren]
         have kla:∀ l:List AV,l.all (AV.lt 0)=true→l.map (AV.ren (sub [] fr))=l:=fun l hl=>by
          induction l with
          | nil=>rfl
          | cons x l ih=>simp only [List.all_cons,Bool.and_eq_true] at hl;simp only [List.map_cons,ka x hl.1,ih hl.2]
         have klp:∀ l:List (Bool×List AV),(l.all fun p=>p.2.all (AV.lt 0))=true→(l.map fun p=>(p.1,p.2.map (AV.ren (sub [] fr))))=l:=fun l hl=>by
          induction l with
          | nil=>rfl
          | cons x l ih=>simp only [List.all_cons,Bool.and_eq_true] at hl;simp only [List.map_cons,kla x.2 hl.1,ih hl.2]
         have kw:∀ x:WV,x.lt 0=true→x.ren (sub [] fr)=x:=fun x hx=>by
          cases x with
          | a x=>simp only [WV.ren,ka x hx]
          | fn f a b=>simp only [WV.lt,Bool.and_eq_true] at hx;simp only [WV.ren,klp a hx.1,klp b hx.2]
         have klw:∀ l:List WV,l.all (WV.lt 0)=true→l.map (WV.ren (sub [] fr))=l:=fun l hl=>by
          induction l with
          | nil=>rfl
          | cons x l ih=>simp only [List.all_cons,Bool.and_eq_true] at hl;simp only [List.map_cons,kw x hl.1,ih hl.2]
         intro x hx;cases x with
         | any=>rfl
         | c x=>simp only [TV.ren,kw x hx]
         | agg cs=>simp only [TV.ren,klw cs hx]
         | tup vs=>
          simp only [TV.lt] at hx;simp only [TV.ren];congr 1
          induction vs with
          | nil=>rfl
          | cons x l ih=>simp only [List.all_cons,Bool.and_eq_true] at hx;simp only [List.map_cons,klw x.2 hx.1,ih hx.2]
        induction l with
        | nil=>rfl
        | cons x l ih=>simp only [List.all_cons,Bool.and_eq_true] at hl;simp only [List.map_cons,key x hl.1,ih hl.2]
       rw [this hlt];exact z80
     · rw [zl7];simpa [z1z,z3a] using hk
   · refine ⟨p::L,hok.ok, ?_⟩;rw [hl];exact zf9 hc
theorem callC_E (hc:zsr P sh f args h fr K):CallE P f args h fr K:=by
 refine ⟨[],(fun p hp=>by cases hp), ?_⟩;rw [z2k];have e:over (([]:Lent).map fun p=>(p.1,AObj.gone)) h=h:=by funext o;rfl
 rw [e];exact (zf9 hc).imp fun r u rd hk=>by simpa using hk
theorem zv9 (hc:callV P sh f args h fr K):CallE P f args h fr K:=by
 unfold callV at hc;split at hc
 · exact callC_E hc
 · exact zu0 hc
end
section
variable (P:Program) (sh:FuncId→List Sh)
def softV (P:Program)(o:Oper)(fr:Nat)(ρ:Operand→TV)(h:Nat→AObj)(r:AR)(K:AR→Prop):Prop:=
 match zap P o fr ρ h r with | ⟨v,u,d⟩=>K ⟨v,u,d⟩
def zvc (fr:Nat)(o:Oper)(e:Env)(h:AHeap)(tr:z5s)(next:Env→AHeap→z5s→Prop):Prop:=
 match goCall o.op with
 | some c=>
  match calleeOf (ev e) c with
  | some (f,args)=>callV P sh f args (hook h) fr fun r h' ids=>next (putE o.dst r e) (h'++h) ((ids,h'.map Prod.fst)::tr)
  | none=>False
 | none=>opV P o fr (ev e) (hook h) fun r=>softV P o fr (ev e) (hook h) r fun r=>next (putE o.dst r.val e) (r.upd++h) ((r.rd,r.upd.map Prod.fst)::tr)
def lexV (ops:Array Oper)(nx:Nat):List Oper→Nat→Env→AHeap→z5s→(Env→AHeap→z5s→Prop)→Prop
 | [],_,e,h,tr,K=>K e h tr
 | o::rest,i,e,h,tr,K=>match o.guard with
  | none=>zvc P sh (nx+32*i) o e h tr fun e h tr=>lexV ops nx rest (i+1) e h tr K
  | some (j,b)=>match (ops[j]?).bind (·.dst) with
   | none=>False
   | some d=>match look e d with
    | .c (.a (.fz (.bool x)))=>
     match b with
     | true=>br x (zvc P sh (nx+32*i) o ((d,bV true)::e) h tr fun e h tr=>lexV ops nx rest (i+1) e h tr K)
       (lexV ops nx rest (i+1) (putE o.dst (.tup []) ((d,bV false)::e)) h (([],[])::tr) K)
     | false=>br x (lexV ops nx rest (i+1) (putE o.dst (.tup []) ((d,bV true)::e)) h (([],[])::tr) K)
       (zvc P sh (nx+32*i) o ((d,bV false)::e) h tr fun e h tr=>lexV ops nx rest (i+1) e h tr K)
    | .tup []=>lexV ops nx rest (i+1) (putE o.dst (.tup []) e) h (([],[])::tr) K
    | _=>False
end
section
variable {P:Program} {sh:FuncId→List Sh}
theorem CallE.imp {f:FuncId}{args:List TV}{h:Nat→AObj}{fr:Nat}{K K':TV→AHeap→List Nat→Prop}(hc:CallE P f args h fr K)(hk:∀ r u rd,K r u rd→K' r u rd):CallE P f args h fr K':=by
 obtain ⟨E,hE,hc⟩:=hc;exact ⟨E,hE,hc.imp fun r u rd h=>hk _ _ _ h⟩
theorem ev_look {e e':Env}(h:look e=look e'):ev e=ev e':=by funext x;cases x<;>simp only [ev,h]
theorem z85 {e e':Env}(h:look e=look e')(d:Option Nat)(v:TV):look (putE d v e)=look (putE d v e'):=by
 cases d with
 | none=>exact h
 | some i=>funext k;simp only [putE,look,h]
theorem zd9 {e:Env}{d:Nat}{v:TV}(h:look e d=v):look ((d,v)::e)=look e:=by
 funext k
 simp only [look];split
 · rename_i hk;rw [←hk,h]
 · rfl
theorem ze5 {fr:Nat} {o:Oper} {e e':Env} {h:AHeap} {tr:z5s} {next next':Env→AHeap→z5s→Prop} (he:look e=look e') (hs:zvc P sh fr o e h tr next)
  (hn:∀ d v h1 tr1,next (putE d v e) h1 tr1→next' (putE d v e') h1 tr1):zx8 P fr o e' h tr next':=by
 unfold zvc at hs;unfold zx8;rw [←ev_look he];cases hg:goCall o.op with
 | some c=>
  rw [hg] at hs;simp only at hs ⊢;cases hcl:calleeOf (ev e) c with
  | some fa=>rw [hcl] at hs;simp only at hs ⊢;exact (zv9 hs).imp fun r u rd hk=>hn _ _ _ _ hk
  | none=>rw [hcl] at hs;exact hs.elim
 | none=>
  rw [hg] at hs;simp only at hs ⊢;obtain ⟨r,hr,hk⟩:=opV_inv hs;simp only [aopS,hr,Option.map_some];exact hn _ _ _ _ hk
theorem z4x {ops:Array Oper}{nx:Nat}:∀ {l:List Oper} {i:Nat} {e e':Env} {h:AHeap} {tr:z5s} {K:Env→AHeap→z5s→Prop},look e=look e'→lexV P sh ops nx l i e h tr K→
  lex P ops nx l i e' h tr fun e1 h1 tr1=> ∃ e2,look e2=look e1∧K e2 h1 tr1
 | [],_,_,_,_,_,_,he,hl=>⟨_,he,hl⟩
 | o::rest,i,e,e',h,tr,K,he,hl=>by
  unfold lexV at hl;unfold lex zos;split at hl
  · rename_i hg;simp only [want,hg,if_true];exact ze5 he hl fun d v h1 tr1 hk=>z4x (z85 he d v) hk
  · rename_i j b hg;split at hl
    · exact hl.elim
    · rename_i d hd;split at hl
      · rename_i x hx
        have hw:want ops o (look e')=some (x==b):=by
         simp only [want,hg,hd,Option.map_some,←he,hx]
        simp only [hw]
        have hsame:∀ y,x=y→look ((d,bV y)::e)=look e':=fun y hy=>by
         rw [←he];exact zd9 (by rw [hx,hy];rfl)
        cases b with
        | true=>
         simp only at hl;cases x with
         | true=>simp only [br,beq_self_eq_true,if_true] at hl ⊢;exact ze5 (hsame _ rfl) hl fun d v h1 tr1 hk=>z4x (z85 (hsame _ rfl) d v) hk
         | false=>simp only [br] at hl;exact z4x (z85 (hsame _ rfl) _ _) hl
        | false=>
         simp only at hl;cases x with
         | false=>simp only [br,beq_self_eq_true,if_true] at hl ⊢;exact ze5 (hsame _ rfl) hl fun d v h1 tr1 hk=>z4x (z85 (hsame _ rfl) d v) hk
         | true=>simp only [br] at hl;exact z4x (z85 (hsame _ rfl) _ _) hl
      · rename_i hx
        have hw:want ops o (look e')=some false:=by
         simp only [want,hg,hd,Option.map_some,←he,hx]
        simp only [hw,Bool.false_eq_true,if_false];exact z4x (z85 he _ _) hl
      · exact hl.elim
end
end Go.AM

namespace Go.AM
def Code.lwp (P:Program)(c:Code)(Q:Exit→Act→World→Prop)(a:Act)(w:World):Prop:=
 ∀ (b:Frame) (k:List Item) (cs:List Frame),
  ∃ e a' w',Q e a' w'∧Arrives P (lone (b.at a (.code c:: .inLoop c::k)) cs w) b k cs e a' w'
theorem lwp_wp {P:Program}{c:Code}{Q:Exit→Act→World→Prop}{a:Act}{w:World}(h:Code.lwp P c Q a w):(Code.loop c).wp P Q a w:=fun b k cs=>by
 obtain ⟨e,a',w',hq,harr⟩:=h b k cs;exact ⟨e,a',w',hq, .of_steps (.one step_loop) harr⟩
theorem zst {P:Program}{c:Code}{Q:Exit→Act→World→Prop}{a:Act}{w:World}(h:c.wp P (Exit.then (Code.lwp P c Q) Q) a w):Code.lwp P c Q a w:=fun b k cs=>by
 obtain ⟨e,a₁,w₁,hq,harr⟩:=h b (.inLoop c::k) cs;cases e with
 | normal=>
  obtain ⟨e₂,a₂,w₂,hq₂,harr₂⟩:=hq b k cs;exact ⟨e₂,a₂,w₂,hq₂, .of_steps (Steps.trans harr (.one step_inLoop)) harr₂⟩
 | exit id=>exact ⟨_,a₁,w₁,hq, .pass (x:= .inLoop c) rfl (fun _ _=> .inl (by simp)) harr⟩
 | goto l=>exact ⟨_,a₁,w₁,hq, .pass (x:= .inLoop c) rfl (fun _ _=> .inl (by simp)) harr⟩
 | ret=>exact ⟨_,a₁,w₁,hq, .pass (x:= .inLoop c) rfl (fun _ _=> .inl (by simp)) harr⟩
 | panic ch=>exact ⟨_,a₁,w₁,hq, .pass (x:= .inLoop c) rfl (fun _ _=> .inl (by simp)) harr⟩
 | outgrown=>exact ⟨_,a₁,w₁,hq, .pass (x:= .inLoop c) rfl (fun _ _=> .inl (by simp)) harr⟩
section
variable {P:Program} {n m:Nat} {c:Code} {Q:AExit→St→Prop} {s:St}
def Alwp (P:Program)(n m:Nat)(c:Code)(Q:AExit→St→Prop)(s:St):Prop:=
 ∀ (w0:World) (foot Y:Nat→Prop) (pin:Nat→Option (Option Nat)) (β:Nat→Option Nat) (a:Act) (w:World),(∀ o b,pin o=some b→o<m)→a.tmps.size=n→RelF P w0 foot Y pin (look s.env) (hook s.heap) β a w→(∀ k,Occ pin β k→k<s.nx)→
  Code.lwp P c (Lift P w0 foot Y pin n Q) a w
theorem Alwp.loop (h:Alwp P n m c Q s):Awp P n m (.loop c) Q s:=fun w0 foot Y pin β a w hm hn hR hb=>lwp_wp (h w0 foot Y pin β a w hm hn hR hb)
theorem Alwp.unroll (h:Awp P n m c (zfd (Alwp P n m c Q) Q) s):Alwp P n m c Q s:=fun w0 foot Y pin β a w hm hn hR hb=>by
 refine zst (wp_mono (h w0 foot Y pin β a w hm hn hR hb) fun e a' w' hq=> ?_);cases e with
 | normal=>obtain ⟨s',β',h1,h2,h3,h4⟩:=hq;exact h1 w0 foot Y pin β' a' w' hm h2 h3 h4
 | exit i=>exact hq
 | ret=>exact hq
 | _=>exact hq.elim
theorem Alwp.weak {s':St}(hs:Sle m s s')(h:Alwp P n m c Q s'):Alwp P n m c Q s:=fun w0 foot Y pin _ a w hm hn hR _=>
 let ⟨β',h1,h2⟩:=zhv hs hm hR
 h w0 foot Y pin β' a w hm hn h1 h2
theorem Awp.look {e1 e2:Env}{h:AHeap}{nx:Nat}(he:look e1=look e2)(hA:Awp P n m c Q ⟨e1,h,nx⟩):Awp P n m c Q ⟨e2,h,nx⟩:=fun w0 foot Y pin β a w hm hn hR hb=>
 hA w0 foot Y pin β a w hm hn (by show RelF _ _ _ _ _ (Go.AM.look e1) _ _ _ _;rw [he];exact hR) hb
def eqQ (Q:AExit→St→Prop)(e:AExit)(s:St):Prop:=∃ e2,Go.AM.look e2=Go.AM.look s.env∧Q e ⟨e2,s.heap,s.nx⟩
theorem Awp.uneq (h:Awp P n m c (eqQ Q) s):Awp P n m c Q s:=fun w0 foot Y pin β a w hm hn hR hb=>by
 refine wp_mono (h w0 foot Y pin β a w hm hn hR hb) fun e a' w' hq=> ?_
 have key:∀ x,At P w0 foot Y pin n (eqQ Q x) a' w'→At P w0 foot Y pin n (Q x) a' w':=by
  rintro x ⟨s',β',⟨e2,h1,h2⟩,h3,h4,h5⟩;exact ⟨_,β',h2,h3,by show RelF _ _ _ _ _ (Go.AM.look e2) _ _ _ _;rw [h1];exact h4,h5⟩
 cases e with
 | normal=>exact key _ hq
 | exit i=>exact key _ hq
 | ret=>exact key _ hq
 | _=>exact hq.elim
end
def pts:Code→List Nat
 | .region i _ _=> [2*i]
 | .seq a b=>pts a++pts b
 | .cond _ a b=>pts a++pts b
 | .block i c=>(2*i+1)::pts c
 | .loop c=>pts c
 | .scope c=>pts c
 | _=> []
def isLoop:Code→Bool | .loop _=>true | .rangeFunc .. =>true | _=>false
def headA (P:Program)(n m:Nat):Code→(AExit→St→Prop)→St→Prop
 | .loop c,Q,s=>Alwp P n m c Q s
 | .rangeFunc g ps a b,Q,s=>Awp P n m (.rangeFunc g ps a b) Q s
 | _,_,_=>False
theorem headA.weak {P:Program}{n m:Nat}{c:Code}{Q:AExit→St→Prop}{s s':St}(hs:Sle m s s')(h:headA P n m c Q s'):headA P n m c Q s:=by
 cases c with
 | loop c=>exact Alwp.weak hs h
 | rangeFunc g ps a b=>exact Awp.weak hs h
 | _=>exact h.elim
theorem headA.awp {P:Program}{n m:Nat}{c:Code}{Q:AExit→St→Prop}{s:St}(h:headA P n m c Q s):Awp P n m c Q s:=by
 cases c with
 | loop c=>exact Alwp.loop h
 | rangeFunc g ps a b=>exact h
 | _=>exact h.elim
def rz (P:Program)(n m:Nat):Code→Nat→(AExit→St→Prop)→St→Prop
 | .region i ops d,p,Q,s=>p=2*i∧Awp P n m (.region i ops d) Q s
 | .seq a b,p,Q,s=>if (pts a).contains p then rz P n m a p (zfd (Awp P n m b Q) Q) s else rz P n m b p Q s
 | .cond _ a b,p,Q,s=>if (pts a).contains p then rz P n m a p Q s else rz P n m b p Q s
 | .block i c,p,Q,s=>if p=2*i+1 then headA P n m c (z1i i Q) s else rz P n m c p (z1i i Q) s
 | .loop c,p,Q,s=>rz P n m c p (zfd (Alwp P n m c Q) Q) s
 | .scope c,p,Q,s=>rz P n m c p Q s
 | _,_,_,_=>False
theorem z7y {P:Program}{n m:Nat}:∀ {c:Code} {p:Nat} {Q:AExit→St→Prop} {s s':St},Sle m s s'→rz P n m c p Q s'→rz P n m c p Q s
 | .region i ops d,p,Q,s,s',hs,h=>⟨h.1,h.2.weak hs⟩
 | .seq a b,p,Q,s,s',hs,h=>by
  unfold rz at h ⊢;split
  · rename_i hc;rw [if_pos hc] at h;exact z7y hs h
  · rename_i hc;rw [if_neg hc] at h;exact z7y hs h
 | .cond x a b,p,Q,s,s',hs,h=>by
  unfold rz at h ⊢;split
  · rename_i hc;rw [if_pos hc] at h;exact z7y hs h
  · rename_i hc;rw [if_neg hc] at h;exact z7y hs h
 | .block i c,p,Q,s,s',hs,h=>by
  unfold rz at h ⊢;split
  · rename_i hc;rw [if_pos hc] at h;exact headA.weak hs h
  · rename_i hc;rw [if_neg hc] at h;exact z7y hs h
 | .loop c,p,Q,s,s',hs,h=>by unfold rz at h ⊢;exact z7y hs h
 | .skip,_,_,_,_,_,h=>h.elim
 | .rangeFunc ..,_,_,_,_,_,h=>h.elim
 | .exit _,_,_,_,_,_,h=>h.elim
 | .scope c,p,Q,s,s',hs,h=>by unfold rz at h ⊢;exact z7y hs h
 | .label _,_,_,_,_,_,h=>h.elim
 | .goto _,_,_,_,_,_,h=>h.elim
 | .ret,_,_,_,_,_,h=>h.elim
 | .refuse _,_,_,_,_,_,h=>h.elim
def RPt (P:Program)(f:FuncId)(m:Nat)(r:TV)(Hs':List AObj)(p:Nat)(s:St):Prop:=
 ∃ (fn:Func) (c:Code),P.funcs[f]? =some fn∧fn.body=some c∧rz P fn.ntmps m c p (Ret P fn.results.toList m r Hs') s
def invU (m:Nat)(rest:List Nat)(o:Nat):Nat:=match rest.contains o with | true=>m+rest.idxOf o | false=>o
def outU (m:Nat)(rest:List Nat)(o:Nat):Nat:=sub (List.range m++rest) 0 o
def okU (m:Nat)(U rest:List Nat):Bool:=za0 rest&&rest.all fun o=>Nat.ble m o||U.contains o
def zc6 (m:Nat)(U rest:List Nat)(h:Nat→AObj):List AObj:=((List.range m).map fun o=>match U.contains o with | true=>AObj.gone | false=>(h o).ren (invU m rest))++rest.map fun o=>(h o).ren (invU m rest)
def lvU (lv:List (Nat×List Nat)):List Nat:=match z0r lv 1000001 with | some l=>l | none=> []
theorem z7f {m:Nat}{U rest:List Nat}{h:Nat→AObj}:(zc6 m U rest h).length=m+rest.length:=by simp [zc6]
theorem zim {m:Nat}{rest:List Nat}{o:Nat}(h:o<m):outU m rest o=o:=by
 simp only [outU,sub,List.length_append,List.length_range,show o<m+rest.length by omega,if_true,List.getD];rw [List.getElem?_append_left (by simpa using h),List.getElem?_range h];rfl
theorem zt7 {m:Nat}{rest:List Nat}{j o:Nat}(h:rest[j]? =some o):outU m rest (m+j)=o:=by
 have hj:=(List.getElem?_eq_some_iff.1 h).1;simp only [outU,sub,List.length_append,List.length_range,show m+j<m+rest.length by omega,if_true,List.getD];rw [List.getElem?_append_right (by simp),List.length_range,Nat.add_sub_cancel_left,h];rfl
theorem backU {m:Nat}{U rest:List Nat}:Back (keep m U++rest) (invU m rest) (outU m rest) (m+rest.length):=by
 intro o ho;unfold invU;split
 · rename_i hc;simp only [List.contains_eq_mem,decide_eq_true_eq] at hc;have h1:rest.idxOf o<rest.length:=List.idxOf_lt_length_iff.2 hc;refine ⟨by omega,zt7 ?_⟩;rw [List.getElem?_eq_getElem h1,List.getElem_idxOf h1]
 · rename_i hc
   have hk:o∈keep m U:=by
    simp only [List.contains_eq_mem,decide_eq_true_eq,List.mem_append] at ho;exact ho.resolve_right fun h=>by simp [h] at hc
   have hm:o<m:=by
    have:=(List.mem_filter.1 hk).1;simpa using this
   exact ⟨by omega,zim hm⟩
theorem zot {m:Nat}{U:List Nat}{o:Nat}:o∈keep m U↔o<m∧U.contains o=false:=by simp [keep]
theorem z7x {m:Nat}{U rest:List Nat}{h:Nat→AObj}{j:Nat}{x:AObj}(hx:(zc6 m U rest h)[j]? =some x)(hl:isLive x):
  j<m+rest.length∧x=(h (outU m rest j)).ren (invU m rest)∧((j∈keep m U∧outU m rest j=j)∨(m≤j∧rest[j-m]? =some (outU m rest j))):=by
 have hlt:=(List.getElem?_eq_some_iff.1 hx).1;rw [z7f] at hlt;refine ⟨hlt, ?_⟩;by_cases hj:j<m
 · unfold zc6 at hx;rw [List.getElem?_append_left (by simpa using hj),List.getElem?_map,List.getElem?_range hj] at hx;simp only [Option.map_some,Option.some.injEq] at hx;rw [zim hj];split at hx
   · subst hx;exact hl.elim
   · rename_i hu;exact ⟨hx.symm, .inl ⟨zot.2 ⟨hj,by simpa using hu⟩,rfl⟩⟩
 · unfold zc6 at hx;rw [List.getElem?_append_right (by simp;omega),List.length_map,List.length_range,List.getElem?_map] at hx;obtain ⟨o,ho,rfl⟩:=Option.map_eq_some_iff.1 hx;have:=zt7 (m:=m) ho;rw [show m+(j-m)=j by omega] at this;rw [this];exact ⟨rfl, .inr ⟨by omega,ho⟩⟩
theorem zlo {m:Nat} {U rest:List Nat} {h:Nat→AObj} (hok:okU m U rest=true) {j j':Nat} {x x':AObj} (hx:(zc6 m U rest h)[j]? =some x) (hl:isLive x) (hx':(zc6 m U rest h)[j']? =some x') (hl':isLive x')
  (e:outU m rest j=outU m rest j'):j=j':=by
 simp only [okU,Bool.and_eq_true,List.all_eq_true,Bool.or_eq_true] at hok
 have apart:∀ o,o∈keep m U→o∈rest→False:=fun o h1 h2=>by
  have h1:=zot.1 h1;rcases hok.2 o h2 with h3 | h3
  · have:=Nat.le_of_ble_eq_true h3;omega
  · rw [h1.2] at h3;cases h3
 obtain ⟨_,_,g⟩:=z7x hx hl;obtain ⟨_,_,g'⟩:=z7x hx' hl';rcases g with ⟨g1,g2⟩ | ⟨g1,g2⟩<;>rcases g' with ⟨g1',g2'⟩ | ⟨g1',g2'⟩
 · rw [←g2,e,g2']
 · exact (apart _ g1 (by rw [←g2,e];exact List.mem_of_getElem? g2')).elim
 · exact (apart _ g1' (by rw [←g2',←e];exact List.mem_of_getElem? g2)).elim
 · rw [e] at g2;have:=z9g (z3j hok.1) g2 g2';omega
theorem zmf {m:Nat}{U rest:List Nat}{h:Nat→AObj}{j:Nat}{x:AObj}(hx:(zc6 m U rest h)[j]? =some x)(hl:isLive x):outU m rest j∈keep m U++rest:=by
 rcases (z7x hx hl).2.2 with ⟨g1,g2⟩ | ⟨_,g2⟩
 · rw [g2];exact List.mem_append_left _ g1
 · exact List.mem_append_right _ (List.mem_of_getElem? g2)
def zc4 (m:Nat)(lv:List (Nat×List Nat))(G:Nat→St→Prop)(p:Nat)(s:St):Prop:=
 match z0r lv p with
 | none=>False
 | some live=>match zgc m (lvU lv) (hook s.heap) (live.flatMap fun t=>(look s.env t).ids) with
  | rest=>match okU m (lvU lv) rest&&(keep m (lvU lv)++rest).all (fun o=>(hook s.heap o).inn (keep m (lvU lv)++rest))&&live.all (fun t=>(look s.env t).inn (keep m (lvU lv)++rest)) with
   | true=>G p ⟨live.map fun t=>(t,(look s.env t).ren (invU m rest)),z2p 0 (zc6 m (lvU lv) rest (hook s.heap)),m+rest.length⟩
   | false=>False
theorem z3d:∀ {l:List AObj} {k:Nat} {p:Nat×AObj},p∈z2p k l→∃ j,p.1=k+j∧l[j]? =some p.2
 | [],_,_,hp=>by cases hp
 | o::l,k,p,hp=>by
  rcases List.mem_cons.1 hp with rfl | hp
  · exact ⟨0,rfl,rfl⟩
  · obtain ⟨j,h1,h2⟩:=z3d hp;exact ⟨j+1,by omega,by simpa using h2⟩
theorem zgf (x:TV):x.lend []=x:=by
 have:=z2k [x];simpa using this
theorem zsz (x:AObj):x.lend []=x:=by
 have hw:∀ y:WV,y.lend []=y:=fun y=>by
  have:=zgf (.c y);simp only [TV.lend,TV.c.injEq] at this;exact this
 cases x with
 | arr n es=>simp only [AObj.lend,show WV.lend []=id from funext hw,List.map_id,List.map_id']
 | _=>rfl
theorem zet {m:Nat}{lv:List (Nat×List Nat)}{G:Nat→St→Prop}{p:Nat}{s:St}(hg:zc4 m lv G p s):∃ s',Sle m s s'∧G p s':=by
 unfold zc4 at hg;split at hg
 · exact hg.elim
 · rename_i live hlv;generalize zgc _ _ _ _=rest at hg;generalize lvU lv=U at hg;simp only at hg;split at hg
   · rename_i hb;simp only [Bool.and_eq_true] at hb;obtain ⟨⟨h1,h2⟩,h3⟩:=hb;refine ⟨_,⟨outU m rest,[],(fun p hp=>by cases hp),Nat.le_add_right _ _,fun o ho=>zim ho,fun q hq=> ?_,fun q hq hl=> ?_,fun q hq q' hq' hl hl' e=> ?_⟩,hg⟩
     · obtain ⟨t,ht,rfl⟩:=List.mem_map.1 hq;have:=TV.renV (backU (m:=m) (U:=U) (rest:=rest)) (List.all_eq_true.1 h3 t ht);rw [zgf];exact ⟨by rw [this.1];exact .refl _,this.2⟩
     · obtain ⟨j,e1,e2⟩:=z3d hq;obtain ⟨g1,g2,_⟩:=z7x e2 hl;have:=AObj.renV (backU (m:=m) (U:=U) (rest:=rest)) (List.all_eq_true.1 h2 _ (zmf e2 hl));rw [Nat.zero_add] at e1;rw [e1,g2];exact ⟨g1,by rw [zsz,this.1],this.2,(fun q hq=>by cases hq)⟩
     · obtain ⟨j,e1,e2⟩:=z3d hq;obtain ⟨j',e1',e2'⟩:=z3d hq';rw [Nat.zero_add] at e1 e1';rw [e1,e1'] at e ⊢;exact zlo h1 e2 hl e2' hl' e
   · exact hg.elim
def retV (P:Program)(own:Bool)(rl:List ResultVar)(m:Nat)(U:List Nat)(R:TV→List AObj→Prop)(s:St):Prop:=
 match zo7 P s rl with
 | none=>False
 | some rs=>match own with
  | false=>asksA (hook s.heap) rs (match zgc m U (hook s.heap) ((rs.map fun x=>(givT (hook s.heap) x).1).flatMap TV.ids) with
   | rest=>match okU m U rest&&(keep m U++rest).all (fun o=>(hook s.heap o).inn (keep m U++rest))&&(rs.map fun x=>(givT (hook s.heap) x).1).all (TV.inn (keep m U++rest))&&(rs.flatMap (zk8 (hook s.heap))).all (fun p=> !(keep m U++rest).contains p.1) with
    | true=>match zrv ((rs.map fun x=>(givT (hook s.heap) x).1).map (TV.ren (invU m rest))) with
     | some r0=>R r0 (zc6 m U rest (hook s.heap))
     | none=>False
    | false=>False)
  | true=>match zgc m U (hook s.heap) (rs.flatMap TV.ids) with
   | rest=>match okU m U rest&&(keep m U++rest).all (fun o=>(hook s.heap o).inn (keep m U++rest))&&rs.all (TV.inn (keep m U++rest)) with
    | true=>match zrv (rs.map (TV.ren (invU m rest))) with
     | some r0=>R r0 (zc6 m U rest (hook s.heap))
     | none=>False
    | false=>False
theorem lend_inn {ids:List Nat}{E:Lent}(hd:∀ p∈E,p.1 ∉ ids){x:AObj}(hx:x.inn ids=true):x.lend E=x:=by
 have hw:∀ y:WV,y.inn ids=true→y.lend E=y:=fun y hy=>by
  cases y with
  | fn f a b=>rfl
  | a y=>cases y with
   | osl o n off len=>
    simp only [WV.inn,AV.inn,List.contains_eq_mem,decide_eq_true_eq] at hy;simp only [WV.lend,AV.lend];rw [zbc];intro p hp e;exact hd p hp (e▸hy)
   | _=>rfl
 cases x with
 | arr n es=>
  simp only [AObj.inn,List.all_eq_true] at hx;simp only [AObj.lend];congr 1
  conv=>rhs;rw [←List.map_id es]
  refine List.map_congr_left fun e he=> ?_
  conv=>rhs;rw [id,←List.map_id e]
  exact List.map_congr_left fun y hy=>hw y (hx e he y hy)
 | _=>rfl
theorem zle {α β:Type}{R:α→β→Prop}{g:α→β}:∀ {l:List α},(∀ x∈l,R x (g x))→All2 R l (l.map g)
 | [],_=>trivial
 | x::_,h=>⟨h x List.mem_cons_self,zle fun y hy=>h y (List.mem_cons_of_mem _ hy)⟩
theorem zr {P:Program} {rl:List ResultVar} {m:Nat} {U:List Nat} {r r0:TV} {s:St} {rs rs1:List TV} {E:Lent} {rest:List Nat} (hrs:zo7 P s rl=some rs) (hl:rs.map (TV.lend E)=rs1) (hE:E.ok (hook s.heap)) (h1:okU m U rest=true)
  (h2:((keep m U++rest).all fun o=>(hook s.heap o).inn (keep m U++rest))=true) (h3:rs1.all (TV.inn (keep m U++rest))=true)
  (hdis:∀ p∈E,p.1 ∉ keep m U++rest) (hr0:zrv (rs1.map (TV.ren (invU m rest)))=some r0) (hle:TV.Le r0 r):RetOK P rl m r (zc6 m U rest (hook s.heap)) s:=by
 refine ⟨rs,_,outU m rest,E,r0,hrs,hr0,hle,hE, ?_,fun o ho=>zim ho,fun q hq hl=> ?_,fun q hq q' hq' hl hl' e=> ?_⟩
 · rw [←hl,List.map_map];refine zle fun x hx=> ?_
   have hx2:(x.lend E).inn (keep m U++rest)=true:=by
    rw [←hl] at h3;exact List.all_eq_true.1 h3 _ (List.mem_map.2 ⟨x,hx,rfl⟩)
   have:=TV.renV (backU (m:=m) (U:=U) (rest:=rest)) hx2;simp only [Function.comp,z7f];exact ⟨by rw [this.1];exact .refl _,this.2⟩
 · obtain ⟨j,e1,e2⟩:=z3d hq;obtain ⟨g1,g2,_⟩:=z7x e2 hl;have hmem:=zmf e2 hl;have hinn:=List.all_eq_true.1 h2 _ hmem;have:=AObj.renV (backU (m:=m) (U:=U) (rest:=rest)) hinn;rw [Nat.zero_add] at e1;rw [e1,g2,z7f];exact ⟨g1,by rw [lend_inn hdis hinn,this.1],this.2,fun p hp e=>hdis p hp (e▸hmem)⟩
 · obtain ⟨j,e1,e2⟩:=z3d hq;obtain ⟨j',e1',e2'⟩:=z3d hq';rw [Nat.zero_add] at e1 e1';rw [e1,e1'] at e ⊢;exact zlo h1 e2 hl e2' hl' e
theorem zpt {P:Program}{own:Bool}{rl:List ResultVar}{m:Nat}{U:List Nat}{r:TV}{Hs':List AObj}{s:St}(h:retV P own rl m U (fun r0 Hs0=>TV.Le r0 r∧Hs0=Hs') s):RetOK P rl m r Hs' s:=by
 unfold retV at h;split at h
 · exact h.elim
 · rename_i rs hrs;split at h
   · obtain ⟨hl,h⟩:=zf4 (L:=rs.flatMap (zk8 (hook s.heap))) zhp (fun p hp=>hp) h;generalize zgc _ _ _ _=rest at h;simp only at h;split at h
     · rename_i hb;simp only [Bool.and_eq_true] at hb;obtain ⟨⟨⟨h1,h2⟩,h3⟩,h5⟩:=hb
       have hdis:∀ p∈rs.flatMap (zk8 (hook s.heap)),p.1 ∉ keep m U++rest:=fun p hp hm=>by
        have:=List.all_eq_true.1 h5 p hp;simp only [Bool.not_eq_true',List.contains_eq_mem,decide_eq_false_iff_not] at this;exact this hm
       split at h
       · rename_i r0 hr0;obtain ⟨hle,rfl⟩:=h;exact zr hrs hl zhp.ok h1 h2 h3 hdis hr0 hle
       · exact h.elim
     · exact h.elim
   · generalize zgc _ _ _ _=rest at h;simp only at h;split at h
     · rename_i hb;simp only [Bool.and_eq_true] at hb;obtain ⟨⟨h1,h2⟩,h3⟩:=hb;split at h
       · rename_i r0 hr0;obtain ⟨hle,rfl⟩:=h;exact zr (E:=[]) hrs (z2k rs) (fun p hp=>by cases hp) h1 h2 h3 (fun p hp=>by cases hp) hr0 hle
       · exact h.elim
     · exact h.elim
section
variable (P:Program) (sh:FuncId→List Sh) (n m:Nat) (lv:List (Nat×List Nat)) (G:Nat→St→Prop)
def regV (ops:Array Oper)(d:Bool)(K:AExit→St→Prop)(s:St):Prop:=
 match dstB ops n with
 | true=>lexV P sh ops s.nx ops.toList 0 s.env s.heap [] fun e h tr=>match !d||zjd ops tr with
  | true=>K .normal ⟨e,h,s.nx+32*ops.size⟩
  | false=>False
 | false=>False
def zff (K1:St→Prop)(K:AExit→St→Prop):AExit→St→Prop
 | .normal,s=>K1 s
 | e,s=>K e s
def condV (x:Operand)(s:St)(A B:St→Prop):Prop:=
 match ev s.env x with
 | .c (.a (.fz (.bool b)))=>match x with
  | .tmp t=>br b (A ⟨(t,bV true)::s.env,s.heap,s.nx⟩) (B ⟨(t,bV false)::s.env,s.heap,s.nx⟩)
  | _=>br b (A s) (B s)
 | _=>False
def runV:Code→(AExit→St→Prop)→St→Prop
 | .skip,K,s=>K .normal s
 | .ret,K,s=>K .ret s
 | .exit i,K,s=>K (.exit i) s
 | .seq a b,K,s=>runV a (zff (runV b K) K) s
 | .cond x a b,K,s=>condV x s (runV a K) (runV b K)
 | .block i c,K,s=>match isLoop c with
  | true=>zc4 m lv G (2*i+1) s
  | false=>runV c (z1i i K) s
 | .region i ops d,K,s=>match (z0r lv (2*i)).isSome with
  | true=>zc4 m lv G (2*i) s
  | false=>regV P sh n ops d K s
 | .scope c,K,s=>runV c K s
 | .label _,K,s=>K .normal s
 | _,_,_=>False
def z9z:Code→Nat→(AExit→St→Prop)→St→Prop
 | .region i ops d,p,K,s=>match p==2*i with
  | true=>regV P sh n ops d K s
  | false=>False
 | .seq a b,p,K,s=>match (pts a).contains p with
  | true=>z9z a p (zff (runV P sh n m lv G b K) K) s
  | false=>z9z b p K s
 | .cond _ a b,p,K,s=>match (pts a).contains p with
  | true=>z9z a p K s
  | false=>z9z b p K s
 | .block i c,p,K,s=>match p==2*i+1 with
  | true=>match c with
   | .loop b=>runV P sh n m lv G b (zff (zc4 m lv G (2*i+1)) (z1i i K)) s
   | _=>False
  | false=>match c with
   | .loop b=>z9z b p (zff (zc4 m lv G (2*i+1)) (z1i i K)) s
   | c=>z9z c p (z1i i K) s
 | .scope c,p,K,s=>z9z c p K s
 | _,_,_,_=>False
end
section
variable {P:Program} {sh:FuncId→List Sh} {n m:Nat} {lv:List (Nat×List Nat)} {G:Nat→St→Prop}
theorem zhg {P:Program}{ops:Array Oper}{nx:Nat}{K1 K2:Env→AHeap→z5s→Prop}(hk:∀ e h tr,K1 e h tr→K2 e h tr):∀ {l:List Oper} {i:Nat} {e:Env} {h:AHeap} {tr:z5s},lex P ops nx l i e h tr K1→lex P ops nx l i e h tr K2:=by
 intro l
 induction l with
 | nil=>exact fun h=>hk _ _ _ h
 | cons o rest ih=>
  intro i e h tr hl;unfold lex zos at hl ⊢;split
  · rename_i hw;rw [hw] at hl;exact hl
  · rename_i w hw;rw [hw] at hl;simp only at hl;split
    · rename_i hw1;rw [if_pos hw1] at hl;unfold zx8 at hl ⊢;cases hg:goCall o.op with
      | some c=>
       rw [hg] at hl;simp only at hl ⊢;cases hcl:calleeOf (ev e) c with
       | some fa=>rw [hcl] at hl;simp only at hl ⊢;exact hl.imp fun r u rd hk=>ih hk
       | none=>rw [hcl] at hl;exact hl.elim
      | none=>
       rw [hg] at hl;simp only at hl ⊢;cases ha:aopS P o (nx+32*i) (ev e) (hook h) with
       | some r=>rw [ha] at hl;simp only at hl ⊢;exact ih hl
       | none=>rw [ha] at hl;exact hl.elim
    · rename_i hw1;rw [if_neg hw1] at hl;exact ih hl
theorem zou (hP:P.follows .mixedOrders=true){i:Nat}{ops:Array Oper}{d:Bool}{K Q:AExit→St→Prop}{s:St}(hk:∀ e s,K e s→Q e s)(h:regV P sh n ops d K s):Awp P n m (.region i ops d) Q s:=by
 unfold regV at h;split at h
 · rename_i hd;refine Awp.uneq (Awp.region hP hd ?_);have h1:=z4x rfl h;refine zhg ?_ h1;rintro e1 h1 tr1 ⟨e2,he,hk2⟩;split at hk2
   · rename_i hb;refine ⟨fun hd2=> ?_,e2,he,hk _ _ hk2⟩;subst hd2;simpa using hb
   · exact hk2.elim
 · exact h.elim
def GOK (P:Program)(n m:Nat)(G:Nat→St→Prop)(c:Code)(Q:AExit→St→Prop):Prop:=∀ p s,p∈pts c→G p s→rz P n m c p Q s
theorem z45 {K1 Q1:St→Prop}{K Q:AExit→St→Prop}(h1:∀ s,K1 s→Q1 s)(h:∀ e s,K e s→Q e s):∀ e s,zff K1 K e s→zfd Q1 Q e s:=by
 intro e s hk;cases e with
 | normal=>exact h1 s hk
 | exit i=>exact h _ s hk
 | ret=>exact h _ s hk
theorem z2m {i:Nat}{K Q:AExit→St→Prop}(h:∀ e s,K e s→Q e s):∀ e s,z1i i K e s→z1i i Q e s:=by
 intro e s hk;cases e with
 | normal=>exact h _ s hk
 | exit j=>
  simp only [z1i] at hk ⊢;split
  · rename_i hj;rw [if_pos hj] at hk;exact h _ s hk
  · rename_i hj;rw [if_neg hj] at hk;exact h _ s hk
 | ret=>exact h _ s hk
theorem GOK.left {a b:Code}{Q:AExit→St→Prop}(h:GOK P n m G (.seq a b) Q):GOK P n m G a (zfd (Awp P n m b Q) Q):=fun p s hp hg=>by
 have:=h p s (List.mem_append.2 (.inl hp)) hg;unfold rz at this
 rwa [if_pos (by simpa using hp)] at this
theorem GOK.right {a b:Code}{Q:AExit→St→Prop}(hn:(pts (.seq a b)).Nodup)(h:GOK P n m G (.seq a b) Q):GOK P n m G b Q:=fun p s hp hg=>by
 have:=h p s (List.mem_append.2 (.inr hp)) hg;unfold rz at this
 rwa [if_neg (by have:=(List.nodup_append.1 hn).2.2;simp only [List.contains_eq_mem,decide_eq_true_eq];exact fun h1=>this p h1 p hp rfl)] at this
theorem GOK.condL {x:Operand}{a b:Code}{Q:AExit→St→Prop}(h:GOK P n m G (.cond x a b) Q):GOK P n m G a Q:=fun p s hp hg=>by
 have:=h p s (List.mem_append.2 (.inl hp)) hg;unfold rz at this
 rwa [if_pos (by simpa using hp)] at this
theorem GOK.condR {x:Operand}{a b:Code}{Q:AExit→St→Prop}(hn:(pts (.cond x a b)).Nodup)(h:GOK P n m G (.cond x a b) Q):GOK P n m G b Q:=fun p s hp hg=>by
 have:=h p s (List.mem_append.2 (.inr hp)) hg;unfold rz at this
 rwa [if_neg (by have:=(List.nodup_append.1 hn).2.2;simp only [List.contains_eq_mem,decide_eq_true_eq];exact fun h1=>this p h1 p hp rfl)] at this
theorem GOK.block {i:Nat}{c:Code}{Q:AExit→St→Prop}(hn:(pts (.block i c)).Nodup)(h:GOK P n m G (.block i c) Q):GOK P n m G c (z1i i Q):=fun p s hp hg=>by
 have:=h p s (List.mem_cons_of_mem _ hp) hg;unfold rz at this
 rwa [if_neg (fun e=>by subst e;exact (List.nodup_cons.1 hn).1 hp)] at this
theorem GOK.loop {c:Code}{Q:AExit→St→Prop}(h:GOK P n m G (.loop c) Q):GOK P n m G c (zfd (Alwp P n m c Q) Q):=fun p s hp hg=>by
 have:=h p s hp hg;unfold rz at this;exact this
theorem GOK.scope {c:Code}{Q:AExit→St→Prop}(h:GOK P n m G (.scope c) Q):GOK P n m G c Q:=fun p s hp hg=>by
 have:=h p s hp hg;unfold rz at this;exact this
theorem GOK.head {i:Nat}{c:Code}{Q:AExit→St→Prop}(h:GOK P n m G (.block i c) Q){s:St}(hg:zc4 m lv G (2*i+1) s):headA P n m c (z1i i Q) s:=by
 obtain ⟨s',hs,hg⟩:=zet hg;have:=h _ _ List.mem_cons_self hg;unfold rz at this;rw [if_pos rfl] at this;exact headA.weak hs this
theorem z39 (hP:P.follows .mixedOrders=true):∀ {c:Code} {K Q:AExit→St→Prop} {s:St},(pts c).Nodup→GOK P n m G c Q→(∀ e s,K e s→Q e s)→runV P sh n m lv G c K s→Awp P n m c Q s
 | .skip,K,Q,s,_,_,hk,h=>Awp.skip (hk _ _ h)
 | .ret,K,Q,s,_,_,hk,h=>Awp.ret (hk _ _ h)
 | .exit i,K,Q,s,_,_,hk,h=>Awp.exit (hk _ _ h)
 | .seq a b,K,Q,s,hn,hG,hk,h=>by
  have hn':=List.nodup_append.1 hn;exact Awp.seq (z39 hP hn'.1 hG.left (z45 (fun s hs=>z39 hP hn'.2.1 (hG.right hn) hk hs) hk) h)
 | .cond x a b,K,Q,s,hn,hG,hk,h=>by
  have hn':=List.nodup_append.1 hn;unfold runV condV at h;split at h
  · rename_i t ht;split at h
    · rename_i tt;have hsame:∀ y,t=y→look ((tt,bV y)::s.env)=look s.env:=fun y hy=>zd9 (by simp only [ev] at ht;rw [ht,hy];rfl);cases t with
      | true=>exact Awp.cond ht (fun _=>Awp.look (hsame _ rfl) (z39 hP hn'.1 hG.condL hk h)) (fun e=>by cases e)
      | false=>exact Awp.cond ht (fun e=>by cases e) (fun _=>Awp.look (hsame _ rfl) (z39 hP hn'.2.1 (hG.condR hn) hk h))
    · cases t with
      | true=>exact Awp.cond ht (fun _=>z39 hP hn'.1 hG.condL hk h) (fun e=>by cases e)
      | false=>exact Awp.cond ht (fun e=>by cases e) (fun _=>z39 hP hn'.2.1 (hG.condR hn) hk h)
  · exact h.elim
 | .block i c,K,Q,s,hn,hG,hk,h=>by
  unfold runV at h;split at h
  · rename_i hl;exact Awp.block (hG.head h).awp
  · exact Awp.block (z39 hP (List.nodup_cons.1 hn).2 (hG.block hn) (z2m hk) h)
 | .region i ops d,K,Q,s,hn,hG,hk,h=>by
  unfold runV at h;split at h
  · obtain ⟨s',hs,hg⟩:=zet h;have:=hG _ _ List.mem_cons_self hg;exact this.2.weak hs
  · exact zou hP hk h
 | .loop _,_,_,_,_,_,_,h=>h.elim
 | .rangeFunc ..,_,_,_,_,_,_,h=>h.elim
 | .scope c,K,Q,s,hn,hG,hk,h=>by
  unfold runV at h;exact Awp.scope (z39 hP hn hG.scope hk h)
 | .label _,K,Q,s,_,_,hk,h=>Awp.label (hk _ _ h)
 | .goto _,_,_,_,_,_,_,h=>h.elim
 | .refuse _,_,_,_,_,_,_,h=>h.elim
theorem z4o (hP:P.follows .mixedOrders=true):∀ {c:Code} {p:Nat} {K Q:AExit→St→Prop} {s:St},(pts c).Nodup→GOK P n m G c Q→(∀ e s,K e s→Q e s)→z9z P sh n m lv G c p K s→rz P n m c p Q s
 | .region i ops d,p,K,Q,s,_,_,hk,h=>by
  unfold z9z at h;split at h
  · rename_i hp;exact ⟨by simpa using hp,zou hP hk h⟩
  · exact h.elim
 | .seq a b,p,K,Q,s,hn,hG,hk,h=>by
  have hn':=List.nodup_append.1 hn;unfold z9z at h;unfold rz;split at h
  · rename_i hp;rw [if_pos hp];exact z4o hP hn'.1 hG.left (z45 (fun s hs=>z39 hP hn'.2.1 (hG.right hn) hk hs) hk) h
  · rename_i hp;rw [if_neg (by simp only [hp];decide)];exact z4o hP hn'.2.1 (hG.right hn) hk h
 | .cond x a b,p,K,Q,s,hn,hG,hk,h=>by
  have hn':=List.nodup_append.1 hn;unfold z9z at h;unfold rz;split at h
  · rename_i hp;rw [if_pos hp];exact z4o hP hn'.1 hG.condL hk h
  · rename_i hp;rw [if_neg (by simp only [hp];decide)];exact z4o hP hn'.2.1 (hG.condR hn) hk h
 | .block i c,p,K,Q,s,hn,hG,hk,h=>by
  unfold z9z at h;unfold rz;split at h
  · rename_i hp;rw [if_pos (by simpa using hp)];split at h
    · rename_i b;have hn2:(pts b).Nodup:=(List.nodup_cons.1 hn).2;exact (Alwp.unroll (z39 hP hn2 (GOK.loop (hG.block hn)) (z45 (fun s hs=>hG.head hs) (z2m hk)) h):Alwp _ _ _ _ _ _)
    · exact h.elim
  · rename_i hp;rw [if_neg (by simpa using hp)];split at h
    · rename_i b;have hn2:(pts b).Nodup:=(List.nodup_cons.1 hn).2;unfold rz;exact z4o hP hn2 (GOK.loop (hG.block hn)) (z45 (fun s hs=>hG.head hs) (z2m hk)) h
    · exact z4o hP (List.nodup_cons.1 hn).2 (hG.block hn) (z2m hk) h
 | .skip,_,_,_,_,_,_,_,h=>h.elim
 | .ret,_,_,_,_,_,_,_,h=>h.elim
 | .exit _,_,_,_,_,_,_,_,h=>h.elim
 | .loop _,_,_,_,_,_,_,_,h=>h.elim
 | .rangeFunc ..,_,_,_,_,_,_,_,h=>h.elim
 | .scope c,p,K,Q,s,hn,hG,hk,h=>by
  unfold z9z at h;unfold rz;exact z4o hP hn hG.scope hk h
 | .label _,_,_,_,_,_,_,_,h=>h.elim
 | .goto _,_,_,_,_,_,_,_,h=>h.elim
 | .refuse _,_,_,_,_,_,_,_,h=>h.elim
end
def endV (P:Program)(own:Bool)(rl:List ResultVar)(m:Nat)(U:List Nat)(R:TV→List AObj→Prop):AExit→St→Prop
 | .exit _,_=>False
 | _,s=>retV P own rl m U R s
def vcE (P:Program)(sh:FuncId→List Sh)(lv:List (Nat×List Nat))(f:FuncId)(args:List TV)(Hs:List AObj)(R:TV→List AObj→Prop)(G:Nat→St→Prop):Prop:=
 match P.funcs[f]? with
 | some fn=>match fn.body with
  | some c=>match z31 P f&&Nat.ble args.length fn.ntmps&&za0 (pts c) with
   | true=>runV P sh fn.ntmps Hs.length lv G c (endV P (ownB (sh f)) fn.results.toList Hs.length (lvU lv) R) ⟨zg8 0 args,z2p 0 Hs,Hs.length⟩
   | false=>False
  | none=>False
 | none=>False
def vcP (P:Program)(sh:FuncId→List Sh)(lv:List (Nat×List Nat))(f:FuncId)(m:Nat)(R:TV→List AObj→Prop)(G:Nat→St→Prop)(p:Nat)(s:St):Prop:=
 match P.funcs[f]? with
 | some fn=>match fn.body with
  | some c=>match za0 (pts c) with
   | true=>z9z P sh fn.ntmps m lv G c p (endV P (ownB (sh f)) fn.results.toList m (lvU lv) R) s
   | false=>False
  | none=>False
 | none=>False
section
variable {P:Program} {sh:FuncId→List Sh} {lv:List (Nat×List Nat)} {f:FuncId}
theorem zht {own:Bool}{rl:List ResultVar}{m:Nat}{U:List Nat}{r:TV}{Hs':List AObj}:∀ e s,endV P own rl m U (fun r0 Hs0=>TV.Le r0 r∧Hs0=Hs') e s→Ret P rl m r Hs' e s:=by
 intro e s h;cases e with
 | normal=>exact zpt h
 | exit i=>exact h
 | ret=>exact zpt h
theorem zni {fn:Func}{c:Code}{m:Nat}{r:TV}{Hs':List AObj}(hf:P.funcs[f]? =some fn)(hb:fn.body=some c):GOK P fn.ntmps m (RPt P f m r Hs') c (Ret P fn.results.toList m r Hs'):=by
 rintro p s _ ⟨fn',c',h1,h2,h3⟩;rw [hf] at h1;injection h1 with h1;subst h1
 rw [hb] at h2;injection h2 with h2;subst h2
 exact h3
theorem AC.vc (hP:P.follows .mixedOrders=true) (sh:FuncId→List Sh) (lv:List (Nat×List Nat)) {args:List TV} {Hs Hs':List AObj} {r:TV} (hlen:Hs.length≤Hs'.length) (hlive:∀ x∈Hs,isLive x) (hlive':∀ x∈Hs'.drop Hs.length,isLive x)
  (h:vcE P sh lv f args Hs (fun r0 Hs0=>TV.Le r0 r∧Hs0=Hs') (RPt P f Hs.length r Hs')):AC P f args Hs r Hs':=by
 unfold vcE at h;split at h
 · rename_i fn hf;split at h
   · rename_i c hc;split at h
     · rename_i hb;simp only [Bool.and_eq_true] at hb;exact AC.intro hf hc rfl rfl hb.1.1 (Nat.le_of_ble_eq_true hb.1.2) hlen hlive hlive' (z39 hP (z3j hb.2) (zni hf hc) zht h)
     · exact h.elim
   · exact h.elim
 · exact h.elim
theorem RPt.vc (hP:P.follows .mixedOrders=true) (sh:FuncId→List Sh) (lv:List (Nat×List Nat)) {m:Nat} {Hs':List AObj} {r:TV} {p:Nat} {s:St}
  (h:vcP P sh lv f m (fun r0 Hs0=>TV.Le r0 r∧Hs0=Hs') (RPt P f m r Hs') p s):RPt P f m r Hs' p s:=by
 unfold vcP at h;split at h
 · rename_i fn hf;split at h
   · rename_i c hc;split at h
     · rename_i hb;exact ⟨fn,c,hf,hc,z4o hP (z3j hb) (zni hf hc) zht h⟩
     · exact h.elim
   · exact h.elim
 · exact h.elim
end
end Go.AM

namespace Go.AM
theorem AC.le {P:Program}{f:FuncId}{args args':List TV}{Hs Hs':List AObj}{r r':TV}(h:AC P f args' Hs r Hs')(ha:All2 TV.Le args args')(hr:TV.Le r r'):AC P f args Hs r' Hs':=by
 refine ⟨h.1,h.2.1,fun w vals β Y h1 h2 hgl h3 h4=> ?_⟩;refine (h.2.2 w vals β Y h1 h2 hgl h3 (zix ha h4)).mono fun e w' ⟨v,β',h5,h6,h7,h8,h9⟩=> ?_;exact ⟨v,β',h5,h6,h7,TRep.le hr h8,h9⟩
theorem AC.args {P:Program}{f:FuncId}{args args':List TV}{Hs Hs':List AObj}{r:TV}(h:AC P f args' Hs r Hs')(ha:All2 TV.Le args args'):AC P f args Hs r Hs':=h.le ha (.refl r)
inductive OLe:AObj→AObj→Prop
 | refl (a:AObj):OLe a a
 | rows (n:Nat) (fs gs:List (List FV)):gs.length≤fs.length→(∀ (i:Nat) (e e':List FV),fs[i]? =some e→gs[i]? =some e'→e.length=e'.length)→
   (∀ (i j:Nat) (e e':List FV) (f f':FV),fs[i]? =some e→gs[i]? =some e'→e[j]? =some f→e'[j]? =some f'→FV.Le f f')→OLe (.arz n fs) (.arz n gs)
theorem OLe.live {a b:AObj}(h:OLe a b):isLive a↔isLive b:=by cases h<;>exact Iff.rfl
theorem OLe.bare {a b:AObj}(h:OLe a b)(hb:bareO a):bareO b:=by
 cases h with
 | refl=>exact hb
 | rows n fs gs hl _ _=>
  obtain ⟨m,hm⟩:=hb;simp only [flat,AObj.arr.injEq,List.map_eq_nil_iff] at hm;have:gs=[]:=List.eq_nil_of_length_eq_zero (by rw [hm.2] at hl;simpa using hl);exact ⟨n,by rw [this];rfl⟩
theorem OLe.rep {w:World}{X:Nat→Prop}{β:Nat→Option Nat}{a b:AObj}{k:Nat}(h:OLe a b)(hr:ORep w X β a k):ORep w X β b k:=by
 cases h with
 | refl=>exact hr
 | rows n fs gs hl he hf=>
  obtain ⟨us,t,h1,h2,h3,h4⟩:=hr
  have back:∀ {i:Nat} {e':List FV},gs[i]? =some e'→∃ e,fs[i]? =some e∧e.length=e'.length:=by
   intro i e' he';have hi:i<fs.length:=by have:=(List.getElem?_eq_some_iff.1 he').1;omega
   exact ⟨fs[i],List.getElem?_eq_getElem hi,he i _ _ (List.getElem?_eq_getElem hi) he'⟩
  have hlen:gs.length*n≤fs.length*n:=Nat.mul_le_mul_right _ hl;refine ⟨us,t,h1,by simp only [List.length_map] at h2 ⊢;omega,fun e' he'=> ?_,fun i j e' c' he' hc'=> ?_⟩
  · obtain ⟨g,hg,rfl⟩:=List.mem_map.1 he';obtain ⟨i,hi⟩:=List.getElem?_of_mem hg;obtain ⟨e,h5,h6⟩:=back hi;have:=h3 (fzs e) (List.mem_map.2 ⟨e,List.mem_of_getElem? h5,rfl⟩);simp only [fzs,List.length_map] at this ⊢;rw [←h6];exact this
  · rw [List.getElem?_map] at he';obtain ⟨g,hg,rfl⟩:=Option.map_eq_some_iff.1 he';rw [fzs,List.getElem?_map] at hc';obtain ⟨f',hf',rfl⟩:=Option.map_eq_some_iff.1 hc';obtain ⟨e,h5,h6⟩:=back hg;have hj:j<e.length:=by rw [h6];exact (List.getElem?_eq_some_iff.1 hf').1
    have hej:=List.getElem?_eq_getElem hj;obtain ⟨u,hu,hr⟩:=h4 i j (fzs e) (cell e[j]) (by rw [List.getElem?_map,h5];rfl) (by rw [fzs,List.getElem?_map,hej];rfl);exact ⟨u,hu,WRep.le (.a _ _ (.fz _ _ (hf i j e g _ _ h5 hg hej hf'))) hr⟩
theorem AC.obj {P:Program}{f:FuncId}{args:List TV}{Hs Hs' Hs'':List AObj}{r:TV}(h:AC P f args Hs r Hs')(ho:All2 OLe Hs' Hs''):AC P f args Hs r Hs'':=by
 have len:∀ {a b:List AObj},All2 OLe a b→a.length=b.length:=by
  intro a
  induction a with
  | nil=>intro b h;cases b; · rfl
         · exact h.elim
  | cons x a ih=>intro b h;cases b; · exact h.elim
                 · simp [ih h.2]
 have get:∀ {a b:List AObj} (i:Nat),All2 OLe a b→OLe (a.getD i .gone) (b.getD i .gone):=by
  intro a
  induction a with
  | nil=>intro b i h;cases b; · exact .refl _
         · exact h.elim
  | cons x a ih=>
   intro b i h;cases b with
   | nil=>exact h.elim
   | cons y b=>cases i with
    | zero=>exact h.1
    | succ i=>exact ih (b:=b) i h.2
 have hl:=len ho;refine ⟨h.1,by rw [←hl];exact h.2.1,fun w vals β Y h1 h2 hgl h3 h4=> ?_⟩;refine (h.2.2 w vals β Y h1 h2 hgl h3 h4).mono fun e w' ⟨v,β',k1,k2,k3,k4,k5,k6,k7⟩=> ?_
 have hown:Own (fun o=>Hs''.getD o .gone) β'=Own (fun o=>Hs'.getD o .gone) β':=by
  funext b
  exact propext ⟨fun ⟨o,a,c⟩=>⟨o,(get o ho).live.2 a,c⟩,fun ⟨o,a,c⟩=>⟨o,(get o ho).live.1 a,c⟩⟩
 refine ⟨v,β',k1,k2,⟨fun o b a c=> ?_,fun o a=> ?_,fun o o' b a a'=>k3.inj o o' b ((get o ho).live.2 a) ((get o' ho).live.2 a'),k3.lt⟩,by rw [hown];exact k4,by rw [←hl];exact k5,k6,k7⟩
 · rw [hown];exact (get o ho).rep (k3.rep o b ((get o ho).live.2 a) c)
 · exact (k3.has o ((get o ho).live.2 a)).imp id fun ⟨p,q⟩=>⟨(get o ho).bare p,q⟩
abbrev ci (n:Int):TV:= .c (.a (.fz (.int .i64 n)))
abbrev cb (b:Bool):TV:= .c (.a (.fz (.bool b)))
abbrev cs (s:List UInt8):TV:= .c (.a (.fz (.str s)))
abbrev c8 (n:Int):TV:= .c (.a (.fz (.int .u8 n)))
def LeR:List FV→List FV→Prop
 | [],[]=>True
 | x::xs,y::ys=>FV.Le x y∧LeR xs ys
 | _,_=>False
theorem LeR.refl:∀ l:List FV,LeR l l
 | []=>trivial
 | x::l=>⟨.refl x,LeR.refl l⟩
theorem LeR.length:∀ {a b:List FV},LeR a b→a.length=b.length
 | [],[],_=>rfl
 | _::_,_::_,h=>by simp [h.2.length]
 | [],_::_,h=>h.elim
 | _::_,[],h=>h.elim
theorem LeR.get:∀ {a b:List FV},LeR a b→∀ (i:Nat) (x y:FV),a[i]? =some x→b[i]? =some y→FV.Le x y
 | [],[],_,i,x,y,hx,_=>by simp at hx
 | a::a9,b::bs,h,i,x,y,hx,hy=>by
  cases i with
  | zero=>simp at hx hy;subst hx;subst hy;exact h.1
  | succ i=>exact h.2.get i x y (by simpa using hx) (by simpa using hy)
theorem le_agg {a b:List FV}(h:LeR a b):TV.Le (.agg (fzs a)) (.agg (fzs b)):=by
 refine .agg _ _ (by simp [fzs,h.length]) fun i x y hx hy=> ?_;rw [fzs,List.getElem?_map] at hx hy;obtain ⟨x',hx',rfl⟩:=Option.map_eq_some_iff.1 hx;obtain ⟨y',hy',rfl⟩:=Option.map_eq_some_iff.1 hy;exact .a _ _ (.fz _ _ (h.get i x' y' hx' hy'))
theorem le_c {x y:FV}(h:FV.Le x y):TV.Le (.c (.a (.fz x))) (.c (.a (.fz y))):= .c _ _ (.a _ _ (.fz _ _ h))
inductive Tm where
 | mk (k:Int) (s:List UInt8) (n:Int) (l:List Tm)
 deriving Inhabited
namespace Tm
def k:Tm→Int | .mk k _ _ _=>k
def s:Tm→List UInt8 | .mk _ s _ _=>s
def n:Tm→Int | .mk _ _ n _=>n
def l:Tm→List Tm | .mk _ _ _ l=>l
end Tm
mutual
def FT:Tm→List FV
 | .mk k s n l=> [.int .i64 k, .str s, .int .i64 n, .sl false 4 (FTs l)]
def FTs:List Tm→List (List FV)
 | []=> []
 | t::l=>FT t::FTs l
end
mutual
def Tm.sz:Tm→Nat
 | .mk _ _ _ l=>1+Tm.szs l
def Tm.szs:List Tm→Nat
 | []=>0
 | t::l=>Tm.sz t+Tm.szs l
end
theorem z2f:∀ l:List Tm,FTs l=l.map FT
 | []=>rfl
 | t::l=>by simp only [FTs,List.map_cons,z2f l]
theorem z01 (l:List Tm):(FTs l).length=l.length:=by rw [z2f,List.length_map]
theorem z2d (a b:List Tm):FTs (a++b)=FTs a++FTs b:=by simp only [z2f,List.map_append]
theorem z2j (t:Tm):(FT t).length=4:=by cases t;rfl
theorem zai (t:Tm):FT t=[.int .i64 t.k, .str t.s, .int .i64 t.n, .sl false 4 (FTs t.l)]:=by cases t;rfl
theorem Tm.sz_pos (t:Tm):1≤t.sz:=by cases t;simp only [Tm.sz];omega
theorem Tm.sz_eq (t:Tm):t.sz=1+Tm.szs t.l:=by cases t;rfl
mutual
def Tm.bk:Tm→Nat
 | .mk _ s _ l=>1+s.length+Tm.bks l
def Tm.bks:List Tm→Nat
 | []=>0
 | t::l=>Tm.bk t+Tm.bks l
end
mutual
theorem Tm.sz_bk:∀ t:Tm,t.sz≤t.bk
 | .mk _ s _ l=>by have:=Tm.szs_bks l;simp only [Tm.sz,Tm.bk];omega
theorem Tm.szs_bks:∀ l:List Tm,Tm.szs l≤Tm.bks l
 | []=>Nat.le_refl _
 | t::l=>by have:=Tm.sz_bk t;have:=Tm.szs_bks l;simp only [Tm.szs,Tm.bks];omega
end
theorem Tm.bks_mem:∀ {l:List Tm} {t:Tm},t∈l→t.bk≤Tm.bks l
 | x::l,t,h=>by
  rcases List.mem_cons.1 h with rfl | h
  · simp only [Tm.bks];omega
  · have:=Tm.bks_mem h;simp only [Tm.bks];omega
theorem Tm.szs_mem:∀ {l:List Tm} {t:Tm},t∈l→t.sz≤Tm.szs l
 | x::l,t,h=>by
  rcases List.mem_cons.1 h with rfl | h
  · simp only [Tm.szs];omega
  · have:=Tm.szs_mem h;simp only [Tm.szs];omega
theorem Tm.szs_append:∀ (a b:List Tm),Tm.szs (a++b)=Tm.szs a+Tm.szs b
 | [],b=>by simp [Tm.szs]
 | t::a,b=>by simp only [List.cons_append,Tm.szs,Tm.szs_append a b];omega
theorem Tm.szs_length:∀ l:List Tm,l.length≤Tm.szs l
 | []=>Nat.le_refl _
 | t::l=>by have:=Tm.szs_length l;have:=t.sz_pos;simp only [List.length_cons,Tm.szs];omega
theorem Tm.ind {P:Tm→Prop}(h:∀ t,(∀ u∈t.l,P u)→P t):∀ t,P t:=by
 have key:∀ n t,t.sz≤n→P t:=by
  intro n
  induction n with
  | zero=>intro t ht;have:=t.sz_pos;omega
  | succ n ih=>
   intro t ht;refine h t fun u hu=>ih u ?_;have:=Tm.szs_mem hu;rw [Tm.sz_eq] at ht;omega
 exact fun t=>key _ t (Nat.le_refl _)
theorem z9o (l:List Tm):Int.toNat (l.length:Int)=l.length:=by omega
theorem ziz (a:List Tm)(t:Tm)(b:List Tm):List.getD (FTs (a++t::b)) a.length []=FT t:=by
 rw [z2f];simp [List.getD]
theorem w64 {x:Int}(h1: -9223372036854775808≤x)(h2:x≤9223372036854775807):IntKind.wrap .i64 x=x:=Go.IntWalk.i64_in _ ⟨h1,h2⟩
def B:Nat:=549755813888
theorem leFT {k n:Int}{s:List UInt8}{x:FV}{l:List Tm}(h:FV.Le x (.sl false 4 (FTs l))):LeR [.int .i64 k, .str s, .int .i64 n,x] (FT (.mk k s n l)):=⟨.refl _, .refl _, .refl _,h,trivial⟩
theorem leSl {b:Bool}{l:List Tm}:FV.Le (.sl b 4 (FTs l)) (.sl false 4 (FTs l)):= .nn _ _ _
theorem z0m:FV.Le .N (.sl false 4 (FTs [])):= .N 4
theorem zvu {b:Bool}{rows:List (List FV)}{l:List Tm}(hl:rows.length=l.length)(h:∀ (i:Nat) (r:List FV) (t:Tm),rows[i]? =some r→l[i]? =some t→LeR r (FT t)):FV.Le (.sl b 4 rows) (.sl false 4 (FTs l)):=by
 refine .trans _ (.sl b 4 (FTs l)) _ (.rows b 4 rows _ (by rw [z01,hl]) (fun i e e' he he'=> ?_) (fun i j e e' f f' he he' hf hf'=> ?_)) leSl
 · rw [z2f,List.getElem?_map] at he';obtain ⟨t,ht,rfl⟩:=Option.map_eq_some_iff.1 he';exact (h i e t he ht).length
 · rw [z2f,List.getElem?_map] at he';obtain ⟨t,ht,rfl⟩:=Option.map_eq_some_iff.1 he';exact (h i e t he ht).get j f f' hf hf'
theorem midI (a:List Tm)(t:Tm)(b:List Tm):List.getD (FTs (a++t::b)) (Int.toNat (a.length:Int)) []=FT t:=by
 rw [show Int.toNat (a.length:Int)=a.length by omega,ziz]
theorem midI' (a a':List Tm)(h:a.length=a'.length)(t:Tm)(b:List Tm):List.getD (FTs (a'++t::b)) (Int.toNat (a.length:Int)) []=FT t:=by rw [h,midI]
theorem nx {α:Type}(a:List α)(t:α):(((a++ [t]).length:Nat):Int)=(a.length:Int)+1:=by simp
theorem ap {α:Type}(a:List α)(t:α)(b:List α):(a++ [t])++b=a++t::b:=by simp
theorem lenI (l:List Tm):(((FTs l).length:Nat):Int)=(l.length:Int):=by rw [z01]
theorem ltI {α:Type}(a:List α)(t:α)(b:List α):(a.length:Int)<(((a++t::b).length:Nat):Int):=by simp;omega
theorem ltI' (a:List Tm)(t:Tm)(b:List Tm):(a.length:Int)<(((FTs (a++t::b)).length:Nat):Int):=by rw [z01];exact ltI a t b
theorem geI' (a:List Tm):¬(a.length:Int)<(((FTs (a++ [])).length:Nat):Int):=by rw [z01];simp
abbrev aT (t:Tm):TV:= .agg [.a (.fz (.int .i64 t.k)), .a (.fz (.str t.s)), .a (.fz (.int .i64 t.n)), .a (.fz (.sl false 4 (FTs t.l)))]
abbrev cT (t:Tm):List WV:=[.a (.fz (.int .i64 t.k)), .a (.fz (.str t.s)), .a (.fz (.int .i64 t.n)), .a (.fz (.sl false 4 (FTs t.l)))]
abbrev rE (r:List FV):List FV:=[.int .i64 (FV.I (List.getD r 0 FV.N)), .str (FV.S (List.getD r 1 FV.N)), .int .i64 (FV.I (List.getD r 2 FV.N)),List.getD r 3 FV.N]
abbrev cE (r:List FV):List WV:=[.a (.fz (.int .i64 (FV.I (List.getD r 0 FV.N)))), .a (.fz (.str (FV.S (List.getD r 1 FV.N)))), .a (.fz (.int .i64 (FV.I (List.getD r 2 FV.N)))), .a (.fz (List.getD r 3 FV.N))]
abbrev aE (r:List FV):TV:= .agg (cE r)
abbrev FT4 (t:Tm):List FV:=[.int .i64 t.k, .str t.s, .int .i64 t.n, .sl false 4 (FTs t.l)]
theorem zfs (t:Tm):aE (FT t)=aT t:=by cases t;rfl
theorem cE_FT (t:Tm):cE (FT t)=cT t:=by cases t;rfl
theorem zf3 (t:Tm):rE (FT t)=FT t:=by cases t;rfl
theorem z71 (t:Tm):FT4 t=FT t:=by cases t;rfl
theorem zp6 (n:Nat)(l:List Tm):List.drop n (FTs l)=FTs (List.drop n l):=by rw [z2f,z2f,List.map_drop]
theorem FTs_take (n:Nat)(l:List Tm):List.take n (FTs l)=FTs (List.take n l):=by rw [z2f,z2f,List.map_take]
theorem FTs_set (n:Nat)(l:List Tm)(t:Tm):List.set (FTs l) n (FT t)=FTs (List.set l n t):=by rw [z2f,z2f,List.map_set]
theorem z5h (a:List Tm)(t:Tm)(b:List Tm):aE (List.getD (FTs (a++t::b)) (Int.toNat (a.length:Int)) [])=aT t:=by
 rw [show List.getD (FTs (a++t::b)) (Int.toNat (a.length:Int)) []=FT t from by rw [show Int.toNat (a.length:Int)=a.length by omega,ziz]];exact zfs t
theorem z60 (a:List Tm)(t:Tm)(b:List Tm):rE (List.getD (FTs (a++t::b)) (Int.toNat (a.length:Int)) [])=List.getD (FTs (a++t::b)) (Int.toNat (a.length:Int)) []:=by
 rw [show List.getD (FTs (a++t::b)) (Int.toNat (a.length:Int)) []=FT t from by rw [show Int.toNat (a.length:Int)=a.length by omega,ziz]];exact zf3 t
mutual
def okI:Tm→Prop
 | .mk _ _ n l=>(-9223372036854775808≤n∧n≤9223372036854775807)∧okIs l
def okIs:List Tm→Prop
 | []=>True
 | t::l=>okI t∧okIs l
end
theorem zxd:∀ {l:List Tm},(∀ t∈l,okI t)→okIs l
 | [],_=>trivial
 | t::l,h=>⟨h t List.mem_cons_self,zxd fun u hu=>h u (List.mem_cons_of_mem _ hu)⟩
structure Inf where
 lv:Int
 bd:Bool
 v:Tm
def Inf.c (i:Inf):List FV:=[.int .i64 i.lv, .bool i.bd, .int .i64 i.v.k, .str i.v.s, .int .i64 i.v.n, .sl false 4 (FTs i.v.l)]
def SR (l:List Inf):List (List FV):=l.map Inf.c
structure Sto where
 V:List Inf
 T:List Int
def IR (l:List Int):List (List FV):=l.map fun n=> [.int .i64 n]
abbrev aL (l:List Tm):TV:= .c (.a (.fz (.sl false 4 (FTs l))))
theorem leT {k n:Int}{s:List UInt8}{x:FV}{l:List Tm}(h:FV.Le x (.sl false 4 (FTs l))):TV.Le (.agg [.a (.fz (.int .i64 k)), .a (.fz (.str s)), .a (.fz (.int .i64 n)), .a (.fz x)]) (aT (.mk k s n l)):=le_agg (leFT h)
theorem z07 {x y:Bool}(h:x=y):TV.Le (cb x) (cb y)∧([]:List AObj)=[]:=⟨by rw [h];exact .refl _,rfl⟩
theorem z3n {x y:Int}(h:x=y):TV.Le (ci x) (ci y)∧([]:List AObj)=[]:=⟨by rw [h];exact .refl _,rfl⟩
theorem zll {x y:TV}(h:TV.Le x y):TV.Le x y∧([]:List AObj)=[]:=⟨h,rfl⟩
theorem AC.of_calls {P:Program} {f:FuncId} {args:List TV} {vals:List Value} {r:TV} {v:Value} (hen:z31 P f=true) (h:∀ w,Calls P f vals.toArray w fun e w'=>e= .returned v∧w'=w)
  (hv:∀ (w:World) (X:Nat→Prop) (β:Nat→Option Nat) (us:List Value),LRep (TRep w X β) args us→us=vals) (hr:∀ (w:World) (X:Nat→Prop) (β:Nat→Option Nat),TRep w X β r v):AC P f args [] r []:=by
 refine ⟨hen,Nat.le_refl _,fun w us β Y h1 h2 _ h3 h4=> ?_⟩;rw [hv _ _ _ _ h4];refine (h w).mono fun e w' ⟨he,hw⟩=> ?_;subst hw;exact ⟨v,β,he,Good.refl _ _,h3,hr _ _ _,h1,fun o ho=>absurd ho (Nat.not_lt_zero _),fun o b _ hb=>absurd (h1 o b hb) (Nat.not_lt_zero _)⟩
theorem AC.str_u8 {P:Program}{f:FuncId}{s:List UInt8}{c n:Int}(hen:z31 P f=true)(h:∀ w,Calls P f #[.string ⟨s.toArray⟩, .int .u8 c] w fun e w'=>e= .returned (.int .i64 n)∧w'=w):AC P f [cs s,c8 c] [] (ci n) []:=by
 refine AC.of_calls (vals:=[.string ⟨s.toArray⟩, .int .u8 c]) hen h (fun w X β us hu=> ?_) (fun w X β=> .a _ _ (.fz _ _ (.int _ _)));obtain ⟨u,us',rfl,h1,h2⟩:=hu.cons_inv;obtain ⟨v,vs',rfl,h3,h4⟩:=h2.cons_inv;rw [TRep.str_inv h1,TRep.int_inv h3,h4.nil_inv]
end Go.AM

namespace Go.AM
theorem zqc {w:World}{X:Nat→Prop}{n:Nat}{es:List (List FV)}{v:Value}(h:FRep w X (.sl false n es) v):(v= .slice none 0 0∧es=[])∨FRep w X (.sl true n es) v:=by
 cases h with
 | slnil=>exact .inl ⟨rfl,rfl⟩
 | sl0 nn n a=>exact .inr (.sl0 true n a)
 | sl nn n es b off cap len u h1 h2 h3 h4 h5 h6 h7=>exact .inr (.sl true n es b off cap len u h1 h2 h3 h4 h5 h6 h7)
theorem zve {w:World}{X:Nat→Prop}{β:Nat→Option Nat}{x:FV}{vals:List Value}(h:LRep (TRep w X β) [.c (.a (.fz x))] vals):∃ v,vals=[v]∧FRep w X x v:=by
 obtain ⟨v,us,rfl,h1,h2⟩:=h.cons_inv;obtain rfl:=h2.nil_inv;refine ⟨v,rfl, ?_⟩;have h1:WRep w X β (.a (.fz x)) v:=h1;cases h1 with
 | a _ _ h1=>cases h1 with
  | fz _ _ h1=>exact h1
theorem zmw {w:World}{X:Nat→Prop}{β:Nat→Option Nat}{x:FV}{v:Value}(h:FRep w X x v):LRep (TRep w X β) [.c (.a (.fz x))] [v]:= .cons (.a _ _ (.fz _ _ h)) .nil
theorem AC.clone0 {P:Program}{f:FuncId}{n:Nat}(h0:AC P f [.c (.a (.fz .N))] [] (.c (.a (.fz .N))) [])(h1:AC P f [.c (.a (.fz (.sl true n [])))] [] (.c (.a (.osl 0 n 0 0))) [.arz n []]):
  AC P f [.c (.a (.fz (.sl false n [])))] [] (.c (.a (.fz (.sl false n [])))) []:=by
 refine ⟨h0.1,by simp,fun w vals β Y g1 g2 gl g3 g4=> ?_⟩;obtain ⟨v,rfl,hv⟩:=zve g4;rcases zqc hv with ⟨e,_⟩ | hv
 · subst e;exact (h0.le (r':= .c (.a (.fz (.sl false n [])))) (z80) (le_c (.N n))).2.2 w [_] β Y g1 g2 gl g3 (zmw .N)
 · refine (h1.2.2 w [v] β Y g1 g2 gl g3 (zmw hv)).mono fun e w' ⟨v',β',k1,k2,k3,k4,k5,k6,k7⟩=> ?_
   have none':(fun b=>Y b∨Own (fun o=>([]:List AObj).getD o .gone) (fun _=>none) b)=Y:=by
    funext b
    refine propext ⟨fun h=>h.elim id fun ⟨o,h,_⟩=>by simp [isLive] at h, .inl⟩
   refine ⟨v',fun _=>none,k1,k2,⟨fun o b h=>by simp [isLive] at h,fun o h=>by simp [isLive] at h,fun o o' b h=>by simp [isLive] at h,fun o b h=>by cases h⟩, ?_,(fun o b h=>by cases h),(fun o h=>by simp at h),(fun o b _ h=>by cases h)⟩;rw [none'];have k4:WRep w' _ β' (.a (.osl 0 n 0 0)) v':=k4;refine show WRep w' Y (fun _=>none) (.a (.fz (.sl false n []))) v' from ?_;cases k4 with
   | a _ _ k4=>cases k4 with
    | oslN=>exact .a _ _ (.fz _ _ (.slnil n))
    | osl o n off len b' q cap sz t p1 p2 p3 p4 p5=>
     obtain ⟨kl,kY⟩:=k3.here (o:=0) (b:=b') (by simp [isLive]) p1;exact .a _ _ (.fz _ _ (.sl false n [] b' q cap 0 (fun _ _=> .bool false) rfl (Nat.zero_le _) kY kl (fun i e h=>by simp at h) (fun i j e f h=>by simp at h) (fun i j e f h=>by simp at h)))
theorem AC.clone_le {P:Program}{f:FuncId}{n M:Nat}(h0:AC P f [.c (.a (.fz .N))] [] (.c (.a (.fz .N))) [])(h1:∀ es:List (List FV),es.length≤M→AC P f [.c (.a (.fz (.sl true n es)))] [] (.c (.a (.osl 0 n 0 es.length))) [.arz n es]):
  (∀ es:List (List FV),es ≠ []→es.length≤M→AC P f [.c (.a (.fz (.sl false n es)))] [] (.c (.a (.osl 0 n 0 es.length))) [.arz n es])∧AC P f [.c (.a (.fz (.sl false n [])))] [] (.c (.a (.fz (.sl false n [])))) []:=by
 refine ⟨fun es hne hl=>⟨h0.1,by simp,fun w vals β Y g1 g2 gl g3 g4=> ?_⟩,(AC.clone0 h0 (h1 [] (Nat.zero_le _)))⟩;obtain ⟨v,rfl,hv⟩:=zve g4;rcases zqc hv with ⟨_,e⟩ | hv
 · exact absurd e hne
 · exact (h1 es hl).2.2 w [v] β Y g1 g2 gl g3 (zmw hv)
end Go.AM

namespace Go.AM
section
variable {β:Type}
def o1 {α:Type}(x:α)(K:α→β):β:=K x
end
end Go.AM
