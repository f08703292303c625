/- Contracts of the code's functions over plain values, and plain laws: part 3. No conditions. -/
import Derived.Test.YtfokmibdmphbiaaGreatPart2
import Derived.RangeFuncIn
import Derived.IntWalk
import Derived.Test.YtfokmibdmphbiaaGreatProg
import Derived.Test.YtfokmibdmphbiaaGreatShelf
namespace Go.AM
abbrev FR (r:Option Nat):Fence:={ Fence.wide with round:=r }
def z6x (ops:Array Oper):Bool:=ops.all fun o=>match o.op with | .defer _=>false | _=>true
theorem zkz {ops:Array Oper}(h:z6x ops=true):∀ (i:Nat) (o:Oper),ops[i]? =some o→∀ c,o.op ≠ .defer c:=fun i o ho c e=>by
 have:=Array.all_eq_true_iff_forall_mem.1 h o (Array.mem_of_getElem? ho);rw [e] at this;cases this
theorem zfv {ops:Array Oper}(h:z6x ops=true):∀ o∈ops.toList,∀ c,o.op ≠ .defer c:=fun o ho=>by
 obtain ⟨i,hi⟩:=List.getElem?_of_mem ho;exact zkz h i o (by simpa using hi)
theorem calls_in {r:Option Nat}{n:Nat}{P:Program}{f:FuncId}{args:Array Value}{w:World}{R:Ending→World→Prop}(h:Calls P f args w R):CallsIn (FR r) n P f args w R:=by
 have:=(callsIn_wide (n:=n)).2 h;exact this
theorem rows_in {r:Option Nat}{n:Nat}{P:Program}{row:String}{args:Array Value}{w:World}{R:Value→World→Prop}(h:Rows P row args w R):RowsIn (FR r) n P row args w R:=
 fun c cs _=>let ⟨v,w',hr,s⟩:=h c cs;⟨v,w',hr,stepsIn_wide.2 s⟩
theorem op_in {r:Option Nat}{n:Nat}{P:Program}{o:Oper}{a:Act}{w:World}{K:Act→World→Prop}{Q:Exit→Act→World→Prop}(hnd:∀ c,o.op ≠ .defer c)(h:o.wp P a w K Q):o.wpIn (FR r) n P a w K Q:=by
 refine ⟨fun _ _=>trivial, ?_⟩;rw [Oper.semAt_eq _ _ _ hnd];unfold Oper.wp at h;generalize (execOp a.eval o).run P w=res at h ⊢;cases res with
 | ok nx w'=>cases nx with
  | value v=>exact h
  | skip=>exact h
  | defer d=>exact h
  | enter f args=>exact ⟨fun hd=>by simp [FR,Fence.wide] at hd,calls_in h⟩
  | row row args=>exact ⟨fun hd=>by simp [FR,Fence.wide] at hd,rows_in h⟩
  | _=>exact h.elim
 | halt hl w'=>cases hl with
  | panic v=>exact h
  | _=>exact h.elim
theorem znv {r:Option Nat}{n:Nat}{P:Program}{ops:Array Oper}{Q:Exit→Act→World→Prop}(hq:¬LetsOut Q):∀ {l:List Oper} {a:Act} {w:World},(∀ o∈l,∀ c,o.op ≠ .defer c)→wpList P ops Q l a w→wpListIn (FR r) n P ops Q l a w
 | [],_,_,_,h=>h
 | o::rest,a,w,hd,h=>by
  have ih:∀ a w,wpList P ops Q rest a w→wpListIn (FR r) n P ops Q rest a w:=fun a w h=>znv hq (fun o ho=>hd o (List.mem_cons_of_mem _ ho)) h;unfold wpList at h;unfold wpListIn;split at h
  · rename_i hw;rw [if_pos hw];rcases h with h | ⟨_,h⟩
    · exact op_in (hd o List.mem_cons_self) (Oper.wp_mono ih h)
    · exact absurd h hq
  · rename_i hw;rw [if_neg hw];exact ⟨fun _ _=>trivial,ih _ _ h⟩
theorem zr4 {r:Option Nat}{n:Nat}{P:Program}{ops:Array Oper}{Q:Exit→Act→World→Prop}(hq:¬LetsOut Q)(hd:∀ (i:Nat) (o:Oper),ops[i]? =some o→∀ c,o.op ≠ .defer c):∀ {fuel:Nat} {listed:Array Bool} {a:Act} {w:World},
  wpAny P .any ops Q fuel listed a w→wpAnyIn (FR r) n P .any ops Q fuel listed a w
 | 0,_,_,_,h=>h
 | fuel+1,listed,a,w,h=>by
  refine ⟨h.1,fun i hi=> ?_⟩;have h2:=h.2 i hi;unfold wpOp at h2;unfold wpOpIn;cases ho:ops[i]? with
  | none=>rw [ho] at h2;exact zr4 hq hd h2
  | some o=>
   rw [ho] at h2;simp only at h2 ⊢;split at h2
   · rename_i hw;rw [if_pos hw];rcases h2 with h2 | ⟨_,h2⟩
     · exact op_in (hd i o ho) (Oper.wp_mono (fun a w h=>zr4 hq hd h) h2)
     · exact absurd h2 hq
   · rename_i hw;rw [if_neg hw];exact ⟨fun _ _=>trivial,zr4 hq hd h2⟩
section
variable {P:Program} {w0:World} {foot:Nat→Prop} {Y:Nat→Prop} {pin:Nat→Option (Option Nat)}
theorem zii {r:Option Nat} {n:Nat} {id:Nat} {ops:Array Oper} {dr:Bool} {s:St} {β:Nat→Option Nat} {a:Act} {w:World} {Q:Exit→Act→World→Prop} {R:St→Prop} (hm:P.follows .mixedOrders=true) (hnd:z6x ops=true) (hq:¬LetsOut Q) (hdst:dstB ops a.tmps.size=true)
  (hl:lex P ops s.nx ops.toList 0 s.env s.heap [] fun e h tr=>(dr=true→zjd ops tr=true)∧R ⟨e,h,s.nx+32*ops.size⟩)
  (hR:RelF P w0 foot Y pin (look s.env) (hook s.heap) β a w) (hb:∀ k,Occ pin β k→k<s.nx)
  (hQ:∀ s' a' w' β',R s'→a'.tmps.size=a.tmps.size→RelF P w0 foot Y pin (look s'.env) (hook s'.heap) β' a' w'→(∀ k,Occ pin β' k→k<s'.nx)→Q .normal a' w'):(Code.region id ops dr).wpIn (FR r) n P Q a w:=by
 have hdst':∀ (j:Nat) (q:Oper) (d:Nat),ops[j]? =some q→q.dst=some d→d<a.tmps.size:=by
  intro j q d hq hd;have:=Array.all_eq_true_iff_forall_mem.1 hdst q (Array.mem_of_getElem? hq);rw [hd] at this;simpa using this
 obtain ⟨δs,e',h',tr',hch,he,hh,htr,hdraw,hRR⟩:=za2 _ _ _ _ _ hl;rw [List.append_nil] at htr
 have hfin:∀ a' w' β',a'.tmps.size=a.tmps.size→RelF P w0 foot Y pin (endE (look s.env) δs) (endH (hook s.heap) δs) β' a' w'→(∀ k,Occ pin β' k→k<s.nx+32*ops.size)→Q .normal a' w':=by
  intro a' w' β' h1 h2 h3;refine hQ _ a' w' β' hRR h1 ?_ h3;show RelF P w0 foot Y pin (look e') (hook h') β' a' w';rw [he,hh];exact h2
 cases dr with
 | false=>
  refine wpIn_region_list (znv hq (zfv hnd) (z9m hdst' ops.toList 0 _ _ δs β a w (fun o ho=> ?_) hch rfl hR (by simpa using hb) (fun a' w' β' h1 _ h2 h3=>hfin a' w' β' h1 h2 (by simpa using h3))));obtain ⟨j,hj⟩:=List.getElem?_of_mem ho;exact ⟨j,by simpa using hj⟩
 | true=>
  refine wpIn_region_any hm (zr4 hq (zkz hnd) ?_)
  have hR':RelF P w0 foot Y pin (look s.env) (hook s.heap) β a { w with drawn:=w.drawn+1 }:=by
   have g:Goes w { w with drawn:=w.drawn+1 } (XO Y (hook s.heap) β) (XO Y (hook s.heap) β) β β:=⟨Nat.le_refl _,fun b hb _=>⟨rfl,hb⟩,fun _ _=>rfl,fun o b hb=>⟨hb,hR.objs.lt o b hb⟩⟩
   exact ⟨hR.good.drew,fun i=>(hR.env i).goes g,⟨fun o b h1 h2=>(hR.objs.rep o b h1 h2).goes g rfl,hR.objs.has,hR.objs.inj,hR.objs.lt⟩,hR.own,hR.defers,hR.ylt,hR.pins,hR.gl⟩
  have hfalse:∀ i,(Array.replicate ops.size false).getD i false=false:=by
   intro i;by_cases hi:i<ops.size
   · simp [hi]
   · simp [hi]
  refine zg9 (w0:=w0) (foot:=foot) (Y:=Y) hch htr (hdraw rfl) hdst' hfin ops.size _ β a _ (by simp) ?_ (fun j o e _ h2=>by rw [hfalse] at h2;cases h2) rfl (z86 hR' (fun t=> ?_) (fun x=> ?_)) (fun k hk=> .inl (hb k hk))
  · have:((List.range ops.size).filter fun i=> !(Array.replicate ops.size false).getD i true)=List.range ops.size:=by
     apply List.filter_eq_self.2;intro i hi;simp only [List.mem_range] at hi;simp [hi]
    rw [this];simp
  · have key:∀ n,eD (look s.env) (fun j=>δs.getD j ⟨none, .any,[],[]⟩) (fun j=>(Array.replicate ops.size false).getD j false) n=look s.env:=by
     intro n;induction n with
     | zero=>rfl
     | succ n ih=>simp only [eD];rw [if_neg (by rw [hfalse];simp)];exact ih
    rw [key]
  · have key:∀ n,hD (hook s.heap) (fun j=>δs.getD j ⟨none, .any,[],[]⟩) (fun j=>(Array.replicate ops.size false).getD j false) n=hook s.heap:=by
     intro n;induction n with
     | zero=>rfl
     | succ n ih=>simp only [hD];rw [if_neg (by rw [hfalse];simp)];exact ih
    rw [key]
end
theorem zij {P:Program} {w0:World} {foot:Nat→Prop} {Y:Nat→Prop} {pin:Nat→Option (Option Nat)} {r:Option Nat} {n:Nat} {id:Nat} {ops:Array Oper} {s:St} {β:Nat→Option Nat} {a:Act} {w:World} {Q:Exit→Act→World→Prop} {R:St→Prop} (hnd:z6x ops=true) (hq:¬LetsOut Q) (hdst:dstB ops a.tmps.size=true)
  (hl:lex P ops s.nx ops.toList 0 s.env s.heap [] fun e h _=>R ⟨e,h,s.nx+32*ops.size⟩)
  (hR:RelF P w0 foot Y pin (look s.env) (hook s.heap) β a w) (hb:∀ k,Occ pin β k→k<s.nx)
  (hQ:∀ s' a' w' β',R s'→a'.tmps.size=a.tmps.size→a'.defers=a.defers→RelF P w0 foot Y pin (look s'.env) (hook s'.heap) β' a' w'→(∀ k,Occ pin β' k→k<s'.nx)→Q .normal a' w'):(Code.region id ops false).wpIn (FR r) n P Q a w:=by
 have hdst':∀ (j:Nat) (q:Oper) (d:Nat),ops[j]? =some q→q.dst=some d→d<a.tmps.size:=by
  intro j q d hq hd;have:=Array.all_eq_true_iff_forall_mem.1 hdst q (Array.mem_of_getElem? hq);rw [hd] at this;simpa using this
 obtain ⟨δs,e',h',tr',hch,he,hh,_,hRR⟩:=za2 _ _ _ _ _ hl;refine wpIn_region_list (znv hq (zfv hnd) (z9m hdst' ops.toList 0 _ _ δs β a w (fun o ho=> ?_) hch rfl hR (by simpa using hb) (fun a' w' β' h1 hd h2 h3=> ?_)))
 · obtain ⟨j,hj⟩:=List.getElem?_of_mem ho;exact ⟨j,by simpa using hj⟩
 · refine hQ _ a' w' β' hRR h1 hd ?_ (by simpa using h3);show RelF P w0 foot Y pin (look e') (hook h') β' a' w';rw [he,hh];exact h2
def AsgS (P:Program)(n:Nat)(A:Code)(s:St)(R:St→Prop):Prop:=
 ∀ (w0:World) (foot Y:Nat→Prop) (pin:Nat→Option (Option Nat)) (r:Option Nat) (n':Nat) (β:Nat→Option Nat) (a:Act) (w:World) (Q:Exit→Act→World→Prop),¬LetsOut Q→a.tmps.size=n→
  RelF P w0 foot Y pin (look s.env) (hook s.heap) β a w→(∀ k,Occ pin β k→k<s.nx)→
  (∀ s' a' w' β',R s'→a'.tmps.size=n→a'.defers=a.defers→RelF P w0 foot Y pin (look s'.env) (hook s'.heap) β' a' w'→(∀ k,Occ pin β' k→k<s'.nx)→Q .normal a' w')→A.wpIn (FR r) n' P Q a w
theorem AsgS.region {P:Program} {n id:Nat} {ops:Array Oper} {s:St} {R:St→Prop} (hnd:z6x ops=true) (hdst:dstB ops n=true)
  (hl:lex P ops s.nx ops.toList 0 s.env s.heap [] fun e h _=>R ⟨e,h,s.nx+32*ops.size⟩):AsgS P n (.region id ops false) s R:=by
 intro w0 foot Y pin r n' β a w Q hq ha hR hb hQ;subst ha;exact zij hnd hq hdst hl hR hb hQ
theorem AsgS.seq {P:Program}{n:Nat}{A A':Code}{s:St}{R R':St→Prop}(h1:AsgS P n A s R)(h2:∀ s',R s'→AsgS P n A' s' R'):AsgS P n (.seq A A') s R':=by
 intro w0 foot Y pin r n' β a w Q hq ha hR hb hQ;refine wpIn_seq (h1 w0 foot Y pin r n' β a w _ (fun ⟨_,_,h⟩=>hq ⟨_,_,h⟩) ha hR hb fun s' a' w' β' k1 k2 k3 k4 k5=> ?_);exact h2 s' k1 w0 foot Y pin r n' β' a' w' Q hq k2 k4 k5 fun s2 a2 w2 β2 j1 j2 j3 j4 j5=>hQ s2 a2 w2 β2 j1 j2 (j3.trans k3) j4 j5
section
variable {P:Program} {n m:Nat} {c:Code} {Q:AExit→St→Prop} {s:St}
def AwpR (P:Program)(n m:Nat)(c:Code)(Q:AExit→St→Prop)(s:St):Prop:=
 ∀ (l:Nat) (w0:World) (foot Y:Nat→Prop) (pin:Nat→Option (Option Nat)) (β:Nat→Option Nat) (a:Act) (w:World),(∀ o b,pin o=some b→o<m)→a.tmps.size=n→RelF P w0 foot Y pin (look s.env) (hook s.heap) β a w→(∀ k,Occ pin β k→k<s.nx)→
  c.wpIn (FR (some l)) 0 P (Lift P w0 foot Y pin n Q) a w
theorem AwpR.mono {Q':AExit→St→Prop}(h:AwpR P n m c Q s)(hq:∀ e s,Q e s→Q' e s):AwpR P n m c Q' s:=
 fun l w0 foot Y pin β a w hm hn hR hb=>wpIn_mono (h l w0 foot Y pin β a w hm hn hR hb) (Lift.mono hq)
theorem AwpR.skip (h:Q .normal s):AwpR P n m .skip Q s:=fun _ _ _ _ _ β _ _ _ hn hR hb=>wpIn_skip ⟨s,β,h,hn,hR,hb⟩
theorem AwpR.ret (h:Q .ret s):AwpR P n m .ret Q s:=fun _ _ _ _ _ β _ _ _ hn hR hb=>wpIn_ret ⟨s,β,h,hn,hR,hb⟩
theorem AwpR.exit {i:Nat}(h:Q (.exit i) s):AwpR P n m (.exit i) Q s:=fun _ _ _ _ _ β _ _ _ hn hR hb=>wpIn_exit ⟨s,β,h,hn,hR,hb⟩
theorem AwpR.seq {c₁ c₂:Code}(h:AwpR P n m c₁ (zfd (AwpR P n m c₂ Q) Q) s):AwpR P n m (.seq c₁ c₂) Q s:=fun l w0 foot Y pin β a w hm hn hR hb=>by
 refine wpIn_seq (wpIn_mono (h l w0 foot Y pin β a w hm hn hR hb) fun e a' w' hq=> ?_);cases e with
 | normal=>obtain ⟨s',β',h1,h2,h3,h4⟩:=hq;exact h1 l w0 foot Y pin β' a' w' hm h2 h3 h4
 | exit i=>exact hq
 | ret=>exact hq
 | _=>exact hq.elim
theorem AwpR.cond {x:Operand}{c₁ c₂:Code}{t:Bool}(hc:ev s.env x= .c (.a (.fz (.bool t))))(ht:t=true→AwpR P n m c₁ Q s)(hf:t=false→AwpR P n m c₂ Q s):AwpR P n m (.cond x c₁ c₂) Q s:=fun l w0 foot Y pin β a w hm hn hR hb=>by
 have hv:=hR.eval x;rw [←zlj,hc] at hv;refine wpIn_cond (t:=t) hv.bool_inv ?_;cases t with
 | true=>exact ht rfl l w0 foot Y pin β a w hm hn hR hb
 | false=>exact hf rfl l w0 foot Y pin β a w hm hn hR hb
theorem AwpR.block {i:Nat}(h:AwpR P n m c (z1i i Q) s):AwpR P n m (.block i c) Q s:=fun l w0 foot Y pin β a w hm hn hR hb=>by
 refine wpIn_block (wpIn_mono (h l w0 foot Y pin β a w hm hn hR hb) fun e a' w' hq=> ?_);cases e with
 | normal=>exact hq
 | exit j=>
  obtain ⟨s',β',h1,h2⟩:=hq;simp only [z1i] at h1;simp only [Exit.inBlock];split at h1
  · rename_i hj;rw [if_pos hj];exact ⟨s',β',h1,h2⟩
  · rename_i hj;rw [if_neg hj];exact ⟨s',β',h1,h2⟩
 | ret=>exact hq
 | _=>exact hq.elim
theorem lift_out {w0:World}{foot Y:Nat→Prop}{pin:Nat→Option (Option Nat)}:¬LetsOut (Lift P w0 foot Y pin n Q):=fun ⟨_,_,h⟩=>h
theorem AwpR.region {i:Nat} {ops:Array Oper} {d:Bool} (hP:P.follows .mixedOrders=true) (hd:dstB ops n=true) (hnd:z6x ops=true)
  (hl:lex P ops s.nx ops.toList 0 s.env s.heap [] fun e h tr=>(d=true→zjd ops tr=true)∧Q .normal ⟨e,h,s.nx+32*ops.size⟩):AwpR P n m (.region i ops d) Q s:=fun l w0 foot Y pin β a w _ hn hR hb=>by
 subst hn;exact zii (R:=Q .normal) hP hnd lift_out hd hl hR hb fun s' a' w' β' h1 h2 h3 h4=>⟨s',β',h1,h2,h3,h4⟩
theorem AwpR.look {e1 e2:Env}{h:AHeap}{nx:Nat}(he:look e1=look e2)(hA:AwpR P n m c Q ⟨e1,h,nx⟩):AwpR P n m c Q ⟨e2,h,nx⟩:=fun l w0 foot Y pin β a w hm hn hR hb=>
 hA l w0 foot Y pin β a w hm hn (by show RelF _ _ _ _ _ (Go.AM.look e1) _ _ _ _;rw [he];exact hR) hb
theorem AwpR.uneq (h:AwpR P n m c (eqQ Q) s):AwpR P n m c Q s:=fun l w0 foot Y pin β a w hm hn hR hb=>by
 refine wpIn_mono (h l w0 foot Y pin β a w hm hn hR hb) fun e a' w' hq=> ?_
 have key:∀ x,At P w0 foot Y pin n (eqQ Q x) a' w'→At P w0 foot Y pin n (Q x) a' w':=by
  rintro x ⟨s',β',⟨e2,h1,h2⟩,h3,h4,h5⟩;exact ⟨_,β',h2,h3,by show RelF _ _ _ _ _ (Go.AM.look e2) _ _ _ _;rw [h1];exact h4,h5⟩
 cases e with
 | normal=>exact key _ hq
 | exit i=>exact key _ hq
 | ret=>exact key _ hq
 | _=>exact hq.elim
end
def z8m:Code→Bool
 | .skip=>true
 | .ret=>true
 | .exit _=>true
 | .seq a b=>z8m a&&z8m b
 | .cond _ a b=>z8m a&&z8m b
 | .block _ c=> !isLoop c&&z8m c
 | .region _ ops _=>z6x ops
 | _=>false
section
variable {P:Program} {sh:FuncId→List Sh} {n m:Nat}
theorem regR_inv (hP:P.follows .mixedOrders=true){i:Nat}{ops:Array Oper}{d:Bool}{K Q:AExit→St→Prop}{s:St}(hnd:z6x ops=true)(hk:∀ e s,K e s→Q e s)(h:regV P sh n ops d K s):AwpR P n m (.region i ops d) Q s:=by
 unfold regV at h;split at h
 · rename_i hd;refine AwpR.uneq (AwpR.region hP hd hnd ?_);have h1:=z4x rfl h;refine zhg ?_ h1;rintro e1 h1 tr1 ⟨e2,he,hk2⟩;split at hk2
   · rename_i hb;refine ⟨fun hd2=> ?_,e2,he,hk _ _ hk2⟩;subst hd2;simpa using hb
   · exact hk2.elim
 · exact h.elim
theorem z5i (hP:P.follows .mixedOrders=true){G:Nat→St→Prop}:∀ {c:Code} {K Q:AExit→St→Prop} {s:St},z8m c=true→(∀ e s,K e s→Q e s)→runV P sh n m [] G c K s→AwpR P n m c Q s
 | .skip,K,Q,s,_,hk,h=>AwpR.skip (hk _ _ h)
 | .ret,K,Q,s,_,hk,h=>AwpR.ret (hk _ _ h)
 | .exit i,K,Q,s,_,hk,h=>AwpR.exit (hk _ _ h)
 | .seq a b,K,Q,s,hp,hk,h=>by
  simp only [z8m,Bool.and_eq_true] at hp;refine AwpR.seq (z5i hP hp.1 (fun e s hs=> ?_) h);cases e with
  | normal=>exact z5i hP hp.2 hk hs
  | exit i=>exact hk _ s hs
  | ret=>exact hk _ s hs
 | .cond x a b,K,Q,s,hp,hk,h=>by
  simp only [z8m,Bool.and_eq_true] at hp;unfold runV condV at h;split at h
  · rename_i t ht;split at h
    · rename_i tt;have hsame:∀ y,t=y→look ((tt,bV y)::s.env)=look s.env:=fun y hy=>zd9 (by simp only [ev] at ht;rw [ht,hy];rfl);cases t with
      | true=>exact AwpR.cond ht (fun _=>AwpR.look (hsame _ rfl) (z5i hP hp.1 hk h)) (fun e=>by cases e)
      | false=>exact AwpR.cond ht (fun e=>by cases e) (fun _=>AwpR.look (hsame _ rfl) (z5i hP hp.2 hk h))
    · cases t with
      | true=>exact AwpR.cond ht (fun _=>z5i hP hp.1 hk h) (fun e=>by cases e)
      | false=>exact AwpR.cond ht (fun e=>by cases e) (fun _=>z5i hP hp.2 hk h)
  · exact h.elim
 | .block i c,K,Q,s,hp,hk,h=>by
  simp only [z8m,Bool.and_eq_true,Bool.not_eq_true'] at hp;unfold runV at h;rw [hp.1] at h;exact AwpR.block (z5i hP hp.2 (z2m hk) h)
 | .region i ops d,K,Q,s,hp,hk,h=>by
  unfold runV at h;simp only [z0r,Option.isSome_none] at h;exact regR_inv hP hp hk h
 | .loop _,_,_,_,hp,_,_=>by cases hp
 | .rangeFunc ..,_,_,_,hp,_,_=>by cases hp
 | .scope _,_,_,_,hp,_,_=>by cases hp
 | .label _,_,_,_,hp,_,_=>by cases hp
 | .goto _,_,_,_,hp,_,_=>by cases hp
 | .refuse _,_,_,_,hp,_,_=>by cases hp
end
end Go.AM

namespace Go.AM
theorem AV.ren_id (x:AV):x.ren (fun o=>o)=x:=by cases x<;>rfl
theorem z92 {α:Type}{f:α→α}(h:∀ x,f x=x)(l:List α):l.map f=l:=by
 rw [show f=id from funext h,List.map_id]
theorem WV.ren_id (x:WV):x.ren (fun o=>o)=x:=by
 cases x with
 | a x=>simp only [WV.ren,AV.ren_id]
 | fn f a b=>
  simp only [WV.ren];rw [z92 (fun p:Bool×List AV=>by rw [z92 AV.ren_id]) a,z92 (fun p:Bool×List AV=>by rw [z92 AV.ren_id]) b]
theorem TV.ren_id (x:TV):x.ren (fun o=>o)=x:=by
 cases x with
 | any=>rfl
 | c x=>simp only [TV.ren,WV.ren_id]
 | agg cs=>simp only [TV.ren];rw [z92 WV.ren_id]
 | tup vs=>simp only [TV.ren];rw [z92 (fun p:Bool×List WV=>by rw [z92 WV.ren_id]) vs]
theorem TRep.cut {w:World}{X:Nat→Prop}{β:Nat→Option Nat}{m:Nat}{x:TV}{v:Value}(h:TRep w X β x v)(hlt:x.lt m=true):TRep w X (cutβ (fun o=>o) m β) x v:=by
 refine TRep.unmap (σ:=fun o=>o) (m:=m) (β2:=β) (X2:=X) (fun _ _ h=>h) (fun o b ho hb=>by simp only [cutβ,ho,if_true];exact hb) hlt ?_;rw [TV.ren_id];exact h
section
variable {P:Program} {w0:World} {foot:Nat→Prop} {Y:Nat→Prop} {pin:Nat→Option (Option Nat)} {e:Nat→TV} {h h':Nat→AObj} {β β':Nat→Option Nat} {a:Act} {W W':World} {m0:Nat}
theorem RelF.under (hR:RelF P w0 foot Y pin e h β a W) (hlt:∀ i,(e i).lt m0=true) (g:Good W (Own h β) W') (hO:Objs h' β' Y W') (hown:∀ o b,isLive (h' o)→β' o=some b→Own h β b∨W.heap.size≤b)
  (hp:∀ o,o<m0→β' o=β o) (hpm:∀ o b,pin o=some b→o<m0):RelF P w0 foot Y pin e h' β' a W':=by
 have old:∀ b,Own h β b→foot b∨w0.heap.size≤b:=fun b ⟨o,h1,h2⟩=>hR.own o b h1 h2
 have gs:Goes W W' (XO Y h β) (XO Y h' β') (cutβ (fun o=>o) m0 β) β':=by
  refine ⟨g.size,fun b hx hb=>⟨g.blk b hb fun ho=>hx (.inr ho),fun hx'=> ?_⟩,g.shp,fun o b hb=> ?_⟩
  · rcases hx' with hy | ⟨o,h1,h2⟩
    · exact hx (.inl hy)
    · rcases hown o b h1 h2 with h3 | h3
      · exact hx (.inr h3)
      · omega
  · simp only [cutβ] at hb;split at hb
    · rename_i ho;exact ⟨by rw [hp o ho];exact hb,hR.objs.lt o b hb⟩
    · cases hb
 refine ⟨hR.good.trans g fun b hb ho=> ?_,fun i=>((hR.env i).cut (hlt i)).goes gs,hO,fun o b h1 h2=> ?_,hR.defers.good hR.objs g,hR.ylt,fun o x hx=> ?_,hR.gl⟩
 · rcases old b ho with h1 | h1
   · exact h1
   · omega
 · rcases hown o b h1 h2 with h3 | h3
   · exact old b h3
   · exact .inr (Nat.le_trans hR.good.size h3)
 · rw [hp o (hpm o x hx)];exact hR.pins o x hx
end
abbrev bk0 (S I:TypeId):Array Oper:= #[
 ⟨some 4, .load S (.tmp 1),S, "iter.go:28", #[],none⟩,
 ⟨some 5, .call ⟨.builtin .len, #[.tmp 4], #[S]⟩,I, "iter.go:28", #[⟨0, .data⟩],none⟩,
 ⟨some 6, .binOp .sub I (.tmp 5) (.const (.int .i64 1)) I,I, "iter.go:28", #[⟨1, .data⟩],none⟩,
 ⟨some 3, .assign (.tmp 6),I, "iter.go:28", #[⟨2, .data⟩,⟨0, .phase⟩,⟨1, .phase⟩,⟨2, .phase⟩],none⟩]
abbrev bk1 (I B:TypeId):Array Oper:= #[
 ⟨some 7, .move (.tmp 3),I, "iter.go:28", #[],none⟩,
 ⟨some 8, .binOp .geq I (.tmp 7) (.const (.int .i64 0)) I,B, "iter.go:28", #[⟨0, .data⟩],none⟩]
abbrev bk3a (S E Y I:TypeId):List Oper:=[
 ⟨some 11, .move (.tmp 0),Y, "iter.go:29", #[],none⟩,
 ⟨some 12, .move (.tmp 3),I, "iter.go:29", #[],none⟩,
 ⟨some 13, .load S (.tmp 1),S, "iter.go:29", #[],none⟩,
 ⟨some 14, .move (.tmp 3),I, "iter.go:29", #[],none⟩,
 ⟨some 15, .indexAddr S (.tmp 13) (.tmp 14),0, "iter.go:29", #[⟨2, .data⟩,⟨3, .data⟩],none⟩,
 ⟨some 16, .load E (.tmp 15),E, "iter.go:29", #[⟨4, .data⟩],none⟩]
abbrev bk3b (E I B:TypeId):List Oper:=[
 ⟨some 17, .call ⟨.value (.tmp 11), #[.tmp 12, .tmp 16], #[I,E]⟩,B, "iter.go:29", #[⟨0, .data⟩,⟨1, .data⟩,⟨5, .data⟩],none⟩,
 ⟨some 18, .unOp .not B (.tmp 17),B, "iter.go:29", #[⟨6, .data⟩],none⟩]
abbrev bk2 (I:TypeId):Array Oper:= #[
 ⟨some 9, .move (.tmp 3),I, "iter.go:28", #[],none⟩,
 ⟨some 10, .binOp .sub I (.tmp 9) (.const (.int .i64 1)) I,I, "iter.go:28", #[⟨0, .data⟩],none⟩,
 ⟨some 3, .assign (.tmp 10),I, "iter.go:28", #[⟨1, .data⟩,⟨0, .phase⟩,⟨1, .phase⟩],none⟩]
abbrev bkRound (S E Y I B:TypeId):Code:=
 .seq (.seq (.region 1 (bk1 I B) false) (.cond (.tmp 8) .skip (.exit 0)))
  (.seq (.block 1 (.seq (.region 3 (bk3a S E Y I++bk3b E I B).toArray false) (.cond (.tmp 18) .ret .skip))) (.region 2 (bk2 I) false))
def bkBody (S E Y I B:TypeId):Code:= .seq (.region 0 (bk0 S I) false) (.block 0 (.loop (bkRound S E Y I B)))
def IsBk (P:Program)(bk:FuncId)(S E:TypeId):Prop:=z31 P bk=true∧∃ (fn:Func) (Y I B:TypeId),P.funcs[bk]? =some fn∧fn.body=some (bkBody S E Y I B)∧fn.ntmps=19∧fn.results= #[]
section
variable {P:Program} {n:Nat} {ops:Array Oper} {Q:Exit→Act→World→Prop} {l:List Oper} {a:Act} {w:World}
theorem z1g {d:Option Nat}{op:Op}{t:TypeId}{p:String}{af:Array Edge}{v:Value}(hnd:∀ c,op ≠ .defer c)(h:(execOp a.eval ⟨d,op,t,p,af,none⟩).run P w= .ok (.value v) w)(k:wpListIn Fence.wide n P ops Q l (a.put d v) w):wpListIn Fence.wide n P ops Q (⟨d,op,t,p,af,none⟩::l) a w:=by
 unfold wpListIn;rw [if_pos (by rfl)];refine ⟨fun _ _=>trivial, ?_⟩;rw [Oper.semAt_eq _ _ _ hnd,h];exact k
theorem zcl {d i:Nat}{v:Value}:(a.put (some d) v).tmps.getD i undef=if i=d∧d<a.tmps.size then v else a.tmps.getD i undef:=by
 simp only [Act.put,Array.getD_eq_getD_getElem?,Array.getElem?_setIfInBounds];by_cases h:i=d
 · subst h;by_cases h2:i<a.tmps.size
   · simp [h2]
   · simp [h2]
 · simp [h,show¬d=i from fun e=>h e.symm]
theorem size_put {d:Option Nat}{v:Value}:(a.put d v).tmps.size=a.tmps.size:=by cases d<;>simp [Act.put]
theorem zt {d:Option Nat}{v:Value}:(a.put d v).defers=a.defers:=by cases d<;>rfl
theorem z1c {t:Nat}:a.eval (.tmp t)=a.tmps.getD t undef:=rfl
theorem ztb {I:TypeId}{r:Int}(x y:Operand):(do eqGuard .sub I x y (.int .i64 r) (.int .i64 1);binOp .sub I (.int .i64 r) (.int .i64 1):Sem Value).run P w= .ok (.int .i64 (IntKind.i64.wrap (r-1))) w:=by
 obtain ⟨z,h1,h2⟩:=zif (P:=P) (w:=w) (X:=fun _=>False) (β:=fun _=>none) (op:= .sub) (t:=I) (x:=iV r) (y:=iV 1) (u:= .int .i64 r) (v:= .int .i64 1) x y rfl (.int_mk _ _) (.int_mk _ _);rw [h1,TRep.int_inv h2]
theorem run_geq {I:TypeId}{r:Int}(x y:Operand):(do eqGuard .geq I x y (.int .i64 r) (.int .i64 0);binOp .geq I (.int .i64 r) (.int .i64 0):Sem Value).run P w= .ok (.bool (r≥0)) w:=by
 obtain ⟨z,h1,h2⟩:=zif (P:=P) (w:=w) (X:=fun _=>False) (β:=fun _=>none) (op:= .geq) (t:=I) (x:=iV r) (y:=iV 0) (u:= .int .i64 r) (v:= .int .i64 0) x y rfl (.int_mk _ _) (.int_mk _ _);rw [h1,TRep.bool_inv h2]
end
structure Itf (a:Act)(yv bp:Value):Prop where
 size:a.tmps.size=19
 defers:a.defers=[]
 t0:a.tmps.getD 0 undef=yv
 t1:a.tmps.getD 1 undef=bp
theorem Itf.put {a:Act}{yv bp:Value}(h:Itf a yv bp){d:Nat}(hd:2≤d)(v:Value):Itf (a.put (some d) v) yv bp:=
 ⟨by rw [size_put];exact h.size,by rw [zt];exact h.defers,by rw [zcl,if_neg (by omega)];exact h.t0,by rw [zcl,if_neg (by omega)];exact h.t1⟩
theorem zf0 {P:Program}{w:World}{s:Sem Value}{v:Value}(h:s.run P w= .ok v w):(do pure (.value (←s)):Sem Next).run P w= .ok (.value v) w:=by
 simp only [Sem.run_bind,h,Result.andThen_ok,Sem.run_pure]
section
variable {P:Program} {a:Act} {w:World} {d:Option Nat} {t I S:TypeId} {p:String} {af:Array Edge} {u v x:Value} {i j:Nat}
theorem xload (h:(Instr.loadAt S (a.eval (.tmp i))).run P w= .ok v w):(execOp a.eval ⟨d, .load S (.tmp i),t,p,af,none⟩).run P w= .ok (.value v) w:=zf0 h
theorem xlen (h:(Builtin.len_ #[S] t #[a.eval (.tmp i)]).run P w= .ok v w):(execOp a.eval ⟨d, .call ⟨.builtin .len, #[.tmp i], #[S]⟩,t,p,af,none⟩).run P w= .ok (.value v) w:=by
 have e:(execOp a.eval ⟨d, .call ⟨.builtin .len, #[.tmp i], #[S]⟩,t,p,af,none⟩).run P w=(do pure (.value (←Builtin.len_ #[S] t #[a.eval (.tmp i)])):Sem Next).run P w:=by
  simp only [execOp,resolve,invoke,Sem.run_bind,Sem.run_pure,Result.andThen_ok,builtin,List.map_toArray,List.map_cons,List.map_nil]
 rw [e];exact zf0 h
theorem zwm:(execOp a.eval ⟨d, .move (.tmp i),t,p,af,none⟩).run P w= .ok (.value (a.eval (.tmp i))) w:=rfl
theorem zw6:(execOp a.eval ⟨d, .assign (.tmp i),t,p,af,none⟩).run P w= .ok (.value (a.eval (.tmp i))) w:=rfl
theorem xbin {op:BinOp}{c:Value}(h:(do eqGuard op I (.tmp i) (.const c) (a.eval (.tmp i)) c;binOp op I (a.eval (.tmp i)) c:Sem Value).run P w= .ok v w):(execOp a.eval ⟨d, .binOp op I (.tmp i) (.const c) I,t,p,af,none⟩).run P w= .ok (.value v) w:=by
 refine Eq.trans ?_ (zf0 h);rfl
theorem xnot {b:Bool}(h:a.eval (.tmp i)= .bool b):(execOp a.eval ⟨d, .unOp .not I (.tmp i),t,p,af,none⟩).run P w= .ok (.value (.bool (!b))) w:=by
 have h1:(Op.unary .not (a.eval (.tmp i))).run P w= .ok (.bool (!b)) w:=by rw [h];rfl
 exact zf0 h1
theorem xindex (h:(Instr.indexAt S (a.eval (.tmp i)) (a.eval (.tmp j))).run P w= .ok v w):(execOp a.eval ⟨d, .indexAddr S (.tmp i) (.tmp j),t,p,af,none⟩).run P w= .ok (.value v) w:=zf0 h
end
section
variable {P:Program} {n:Nat} {Q:Exit→Act→World→Prop} {a:Act} {w:World} {S E Yt I B:TypeId} {yv bp sv ev uv:Value}
theorem Itf.same {a:Act}(h:Itf a yv bp){d:Nat}(hd:d<19)(v:Value):(a.put (some d) v).tmps.getD d undef=v:=by rw [zcl,if_pos ⟨rfl,by rw [h.size];exact hd⟩]
theorem z0o {a:Act}{d i:Nat}(hd:i≠d)(v:Value):(a.put (some d) v).tmps.getD i undef=a.tmps.getD i undef:=by rw [zcl,if_neg (fun h=>hd h.1)]
theorem bk0_in {N:Nat} (hi:Itf a yv bp) (hl:(Instr.loadAt S bp).run P w= .ok sv w) (hn:(Builtin.len_ #[S] I #[sv]).run P w= .ok (.int .i64 N) w)
  (k:∀ a',Itf a' yv bp→a'.tmps.getD 3 undef= .int .i64 (IntKind.i64.wrap ((N:Int)-1))→Q .normal a' w):(Code.region 0 (bk0 S I) false).wpIn Fence.wide n P Q a w:=by
 refine wpIn_region_list ?_;refine z1g (v:=sv) (by simp) (xload (by rw [z1c,hi.t1];exact hl)) ?_;have h1:=hi.put (d:=4) (by omega) sv;have g4:=hi.same (d:=4) (by omega) sv;generalize a.put (some 4) sv=a1 at h1 g4 ⊢;refine z1g (v:= .int .i64 N) (by simp) (xlen (by rw [z1c,g4];exact hn)) ?_;have h2:=h1.put (d:=5) (by omega) (.int .i64 N);have g5:=h1.same (d:=5) (by omega) (.int .i64 N);generalize a1.put (some 5) (.int .i64 N)=a2 at h2 g5 ⊢;refine z1g (v:= .int .i64 (IntKind.i64.wrap ((N:Int)-1))) (by simp) (xbin (by rw [z1c,g5];exact ztb _ _)) ?_;have h3:=h2.put (d:=6) (by omega) (.int .i64 (IntKind.i64.wrap ((N:Int)-1)));have g6:=h2.same (d:=6) (by omega) (.int .i64 (IntKind.i64.wrap ((N:Int)-1)));generalize a2.put (some 6) (.int .i64 (IntKind.i64.wrap ((N:Int)-1)))=a3 at h3 g6 ⊢;refine z1g (by simp) zw6 ?_;rw [z1c,g6];exact k _ (h3.put (by omega) _) (h3.same (by omega) _)
theorem bk1_in {r:Int} (hi:Itf a yv bp) (h3:a.tmps.getD 3 undef= .int .i64 r)
  (k:∀ a',Itf a' yv bp→a'.tmps.getD 3 undef= .int .i64 r→a'.tmps.getD 8 undef= .bool (r≥0)→Q .normal a' w):(Code.region 1 (bk1 I B) false).wpIn Fence.wide n P Q a w:=by
 refine wpIn_region_list ?_;refine z1g (by simp) zwm ?_;rw [z1c,h3];have h1:=hi.put (d:=7) (by omega) (.int .i64 r);have g7:=hi.same (d:=7) (by omega) (.int .i64 r);have f3:(a.put (some 7) (.int .i64 r)).tmps.getD 3 undef= .int .i64 r:=(z0o (by omega) _).trans h3;generalize a.put (some 7) (.int .i64 r)=a1 at h1 g7 f3 ⊢;refine z1g (v:= .bool (r≥0)) (by simp) (xbin (by rw [z1c,g7];exact run_geq _ _)) ?_;exact k _ (h1.put (by omega) _) ((z0o (by omega) _).trans f3) (h1.same (by omega) _)
theorem bk2_in {r:Int} (hi:Itf a yv bp) (h3:a.tmps.getD 3 undef= .int .i64 r)
  (k:∀ a',Itf a' yv bp→a'.tmps.getD 3 undef= .int .i64 (IntKind.i64.wrap (r-1))→Q .normal a' w):(Code.region 2 (bk2 I) false).wpIn Fence.wide n P Q a w:=by
 refine wpIn_region_list ?_;refine z1g (by simp) zwm ?_;rw [z1c,h3];have h1:=hi.put (d:=9) (by omega) (.int .i64 r);have g9:=hi.same (d:=9) (by omega) (.int .i64 r);generalize a.put (some 9) (.int .i64 r)=a1 at h1 g9 ⊢;refine z1g (v:= .int .i64 (IntKind.i64.wrap (r-1))) (by simp) (xbin (by rw [z1c,g9];exact ztb _ _)) ?_;have h2:=h1.put (d:=10) (by omega) (.int .i64 (IntKind.i64.wrap (r-1)));have g10:=h1.same (d:=10) (by omega) (.int .i64 (IntKind.i64.wrap (r-1)));generalize a1.put (some 10) (.int .i64 (IntKind.i64.wrap (r-1)))=a2 at h2 g10 ⊢;refine z1g (by simp) zw6 ?_;rw [z1c,g10];exact k _ (h2.put (by omega) _) (h2.same (by omega) _)
theorem bk3_in {r:Int} {l:Nat} {lp:Loop} {R:World→Prop} (hyv:yv= .func (.yield l) #[] #[]) (hi:Itf a yv bp) (h3:a.tmps.getD 3 undef= .int .i64 r)
  (hl:(Instr.loadAt S bp).run P w= .ok sv w) (hx:(Instr.indexAt S sv (.int .i64 r)).run P w= .ok ev w) (he:(Instr.loadAt E ev).run P w= .ok uv w) (hlp:w.heap[l]? =some (.loop lp)) (hps:lp.params.size=2)
  (hr:RoundIn Fence.wide (n-1) P l lp.fn ((lp.params.zip #[.int .i64 r,uv]).foldl (fun tmps (t,a)=>tmps.setIfInBounds t a) lp.tmps) lp.assign lp.body w (fun e w'=>e= .returned (.bool true)∧R w'))
  (k:∀ a' w',Itf a' yv bp→a'.tmps.getD 3 undef= .int .i64 r→a'.tmps.getD 18 undef= .bool false→R w'→Q .normal a' w'):(Code.region 3 (bk3a S E Yt I++bk3b E I B).toArray false).wpIn Fence.wide n P Q a w:=by
 refine wpIn_region_list ?_;refine z1g (by simp) zwm ?_;rw [z1c,hi.t0];have h1:=hi.put (d:=11) (by omega) yv;have g11:=hi.same (d:=11) (by omega) yv;have f3:(a.put (some 11) yv).tmps.getD 3 undef= .int .i64 r:=(z0o (by omega) _).trans h3;generalize a.put (some 11) yv=a1 at h1 g11 f3 ⊢;refine z1g (by simp) zwm ?_;rw [z1c,f3];have h2:=h1.put (d:=12) (by omega) (.int .i64 r);have g12:=h1.same (d:=12) (by omega) (.int .i64 r)
 replace g11:=(z0o (a:=a1) (d:=12) (i:=11) (by omega) (.int .i64 r)).trans g11
 replace f3:=(z0o (a:=a1) (d:=12) (i:=3) (by omega) (.int .i64 r)).trans f3
 generalize a1.put (some 12) (.int .i64 r)=a2 at h2 g12 g11 f3 ⊢;refine z1g (v:=sv) (by simp) (xload (by rw [z1c,h2.t1];exact hl)) ?_;have h3:=h2.put (d:=13) (by omega) sv;have g13:=h2.same (d:=13) (by omega) sv
 replace g11:=(z0o (a:=a2) (d:=13) (i:=11) (by omega) sv).trans g11
 replace g12:=(z0o (a:=a2) (d:=13) (i:=12) (by omega) sv).trans g12
 replace f3:=(z0o (a:=a2) (d:=13) (i:=3) (by omega) sv).trans f3
 generalize a2.put (some 13) sv=a3 at h3 g13 g12 g11 f3 ⊢;refine z1g (by simp) zwm ?_;rw [z1c,f3];have h4:=h3.put (d:=14) (by omega) (.int .i64 r);have g14:=h3.same (d:=14) (by omega) (.int .i64 r)
 replace g11:=(z0o (a:=a3) (d:=14) (i:=11) (by omega) (.int .i64 r)).trans g11
 replace g12:=(z0o (a:=a3) (d:=14) (i:=12) (by omega) (.int .i64 r)).trans g12
 replace g13:=(z0o (a:=a3) (d:=14) (i:=13) (by omega) (.int .i64 r)).trans g13
 replace f3:=(z0o (a:=a3) (d:=14) (i:=3) (by omega) (.int .i64 r)).trans f3
 generalize a3.put (some 14) (.int .i64 r)=a4 at h4 g14 g13 g12 g11 f3 ⊢;refine z1g (v:=ev) (by simp) (xindex (by rw [z1c,z1c,g13,g14];exact hx)) ?_;have h5:=h4.put (d:=15) (by omega) ev;have g15:=h4.same (d:=15) (by omega) ev
 replace g11:=(z0o (a:=a4) (d:=15) (i:=11) (by omega) ev).trans g11
 replace g12:=(z0o (a:=a4) (d:=15) (i:=12) (by omega) ev).trans g12
 replace f3:=(z0o (a:=a4) (d:=15) (i:=3) (by omega) ev).trans f3
 generalize a4.put (some 15) ev=a5 at h5 g15 g12 g11 f3 ⊢;refine z1g (v:=uv) (by simp) (xload (by rw [z1c,g15];exact he)) ?_;have h6:=h5.put (d:=16) (by omega) uv;have g16:=h5.same (d:=16) (by omega) uv
 replace g11:=(z0o (a:=a5) (d:=16) (i:=11) (by omega) uv).trans g11
 replace g12:=(z0o (a:=a5) (d:=16) (i:=12) (by omega) uv).trans g12
 replace f3:=(z0o (a:=a5) (d:=16) (i:=3) (by omega) uv).trans f3
 generalize a5.put (some 16) uv=a6 at h6 g16 g12 g11 f3 ⊢;show wpListIn Fence.wide n P _ Q (bk3b E I B) a6 w;unfold bk3b wpListIn;rw [if_pos (by rfl)];refine ⟨fun _ _=>trivial, ?_⟩;rw [Oper.semAt_eq _ _ _ (by simp)]
 have hrun:(execOp a6.eval ⟨some 17, .call ⟨.value (.tmp 11), #[.tmp 12, .tmp 16], #[I,E]⟩,B, "iter.go:29", #[⟨0, .data⟩,⟨1, .data⟩,⟨5, .data⟩],none⟩).run P w= .ok (.round l lp.fn ((lp.params.zip #[.int .i64 r,uv]).foldl (fun tmps (t,a)=>tmps.setIfInBounds t a) lp.tmps) lp.assign lp.body) w:=by
  have e1:a6.eval (.tmp 11)= .func (.yield l) #[] #[]:=by rw [z1c,g11,hyv]
  have hy:=run_yield (P:=P) (w:=w) (l:=l) (r:=lp) (args:= #[.int .i64 r,uv]) hlp (by simp [hps]);simp only [execOp,resolve,Deferred.ofValue,e1,invoke,callFunc,Sem.run_bind,Sem.run_pure,Result.andThen_ok,List.map_toArray,List.map_cons,List.map_nil,z1c,g12,g16];rw [show (#[]:Array Value)++ #[.int .i64 r,uv]= #[.int .i64 r,uv] from by simp];exact hy
 rw [hrun];refine ⟨fun h=>(by simp [Fence.wide] at h),hr.mono ?_⟩;rintro e w' ⟨rfl,hw⟩;have h7:=h6.put (d:=17) (by omega) (.bool true);have g17:=h6.same (d:=17) (by omega) (.bool true)
 replace f3:=(z0o (a:=a6) (d:=17) (i:=3) (by omega) (.bool true)).trans f3
 show wpListIn _ _ _ _ _ _ (a6.put (some 17) (.bool true)) w';generalize a6.put (some 17) (.bool true)=a7 at h7 g17 f3 ⊢;refine z1g (v:= .bool (!true)) (by simp) (xnot (by rw [z1c,g17])) ?_;exact k _ _ (h7.put (by omega) _) ((z0o (by omega) _).trans f3) (h7.same (by omega) _) hw
end
theorem zwi {w0 w:World}{ds:List Deferred}{l:Nat}{r:Loop}{o:Obj}(m:Marks w0 w ds)(hl:w.heap[l]? =some (.loop r)):Marks w0 (w.putObj l o) ds:=by
 obtain ⟨Ds,h1,h2,h3⟩:=m;refine ⟨Ds,h1,h2,fun D hD=>⟨(h3 D hD).1, ?_⟩⟩;have h4:=(h3 D hD).2;have hne:D≠l:=fun e=>by subst e;rw [hl] at h4;cases h4
 rw [World.putObj_heap_other hne];exact h4
section
variable {P:Program} {w0:World} {foot:Nat→Prop} {Y:Nat→Prop} {pin pin':Nat→Option (Option Nat)} {e:Nat→TV} {h:Nat→AObj} {β:Nat→Option Nat} {a:Act} {w:World} {l:Nat} {r:Loop}
theorem RelF.turn (hR:RelF P w0 foot Y pin e h β a w)(hl:w.heap[l]? =some (.loop r))(h0:w0.heap.size≤l)(o:Obj):RelF P w0 foot Y pin e h β a (w.putObj l o):=
 RelF.calm (Calm.put (ze7 hl) h0) hR (zwi hR.defers hl)
theorem gl_put (hg:Gl P w foot)(hl:w.heap[l]? =some (.loop r))(o:Obj):Gl P (w.putObj l o) foot:=fun k hk=>by
 obtain ⟨h1,h2,h3⟩:=hg k hk;refine ⟨?_,h2,by rw [World.putObj_size];exact h3⟩;unfold Lib.TabIs World.var? at*;rw [hk] at h1 ⊢;simp only [Option.bind_some] at h1 ⊢;by_cases hkl:k=l
 · subst hkl;rw [hl] at h1;cases h1
 · rw [World.putObj_heap_other hkl];exact h1
theorem RelF.rebase (hR:RelF P w0 foot Y pin e h β a w)(hd:a.defers=[])(hp:∀ o x,pin' o=some x→β o=x)(hl:w.heap[l]? =some (.loop r))(o:Obj):
  RelF P (w.putObj l o) (Own h β) Y pin' e h β a (w.putObj l o):=by
 have c:Calm { w with heap:= #[] } w (w.putObj l o):=Calm.put (ze7 hl) (Nat.zero_le _)
 exact ⟨⟨Nat.le_refl _,fun _ _ _=>rfl,fun _ _=>rfl,rfl,rfl,rfl⟩,fun i=>TRep.calm c (hR.env i),Objs.calm c hR.objs,fun o b h1 h2=> .inl ⟨o,h1,h2⟩,hd▸Marks.nil _ _,fun b hb=>by rw [World.putObj_size];exact hR.y b hb,hp,gl_put hR.now hl o⟩
theorem RelF.notOwn (hR:RelF P w0 foot Y pin e h β a w)(hl:w.heap[l]? =some (.loop r)):¬Own h β l:=fun ho=>by
 rcases hR.objs.own_heap ho with ⟨us,t,h5⟩ | ⟨ms,ck,h5⟩<;>rw [hl] at h5<;>cases h5
end
structure Out (P:Program)(w0:World)(foot Y:Nat→Prop)(pin:Nat→Option (Option Nat))(env:Env)(m0:Nat)(a:Act)(β0:Nat→Option Nat)(l:Nat)(lp:Loop)(Hx:AHeap)(nxx:Nat)(w:World):Prop where
 ex:∃ β,RelF P w0 foot Y pin (look env) (hook Hx) β a w∧(∀ k,Occ pin β k→k<nxx)∧∀ o,o<m0→β o=β0 o
 lp:w.heap[l]? =some (.loop lp)
theorem zxf {env:Env}{m0:Nat}(h:∀ p∈env,p.2.lt m0=true)(i:Nat):(look env i).lt m0=true:=by
 rcases ziw (l:=env) (i:=i) with h1 | h1
 · rw [h1];rfl
 · exact h _ h1
section
variable {P:Program} {w0:World} {foot Y:Nat→Prop} {pin:Nat→Option (Option Nat)} {env:Env} {m0 n:Nat} {a:Act} {β0:Nat→Option Nat} {l:Nat} {lp:Loop}
variable {α:Type} {H:α→AHeap} {nx:α→Nat} {Next:α→Prop}
theorem ztl {x:α} {w:World} {k:Nat} {p1 p2:Nat} {A body:Code} {v:TV} {uv:Value}
  {β:Nat→Option Nat} (hR:RelF P w0 foot Y pin (look env) (hook (H x)) β a w) (hb:∀ k,Occ pin β k→k<nx x) (hβ:∀ o,o<m0→β o=β0 o) (hlp:w.heap[l]? =some (.loop lp)) (hl0:w0.heap.size≤l) (henv:∀ p∈env,p.2.lt m0=true) (hpm:∀ o b,pin o=some b→o<m0) (hm0:m0≤nx x) (hmx:∀ x,Next x→m0≤nx x) (hn:a.tmps.size=n)
  (htm:lp.tmps=a.tmps) (hpa:lp.params= #[p1,p2]) (has:lp.assign=A) (hbo:lp.body=body) (hst:lp.state= .ready) (hpe:lp.pending=none)
  (hp1:p1<n) (hp2:p2<n)
  (hvr:TRep w (XO Y (hook (H x)) β) β v uv)
  (hround:AsgS P n A ⟨(p2,v)::(p1,iV k)::env,H x,nx x⟩ fun s=>AwpR P n m0 body (fun ex s'=>ex= .normal∧∃ x',Next x'∧Sle m0 s' ⟨[],H x',nx x'⟩) s):
  RoundIn Fence.wide 0 P l lp.fn ((lp.params.zip #[.int .i64 k,uv]).foldl (fun tmps (t,a)=>tmps.setIfInBounds t a) lp.tmps) lp.assign lp.body w (fun e w'=>e= .returned (.bool true)∧∃ x',Next x'∧Out P w0 foot Y pin env m0 a β0 l lp (H x') (nx x') w'):=by
 have hlw:l<w.heap.size:=(Array.getElem?_eq_some_iff.1 hlp).1
 let pin':Nat→Option (Option Nat):=fun o=>if o<m0 then some (β o) else none
 have hpin':∀ o b,pin' o=some b→o<m0:=fun o b h=>by
  simp only [pin'] at h;split at h
  · assumption
  · cases h
 have hpv:∀ {β':Nat→Option Nat},(∀ o x,pin' o=some x→β' o=x)→∀ o,o<m0→β' o=β o:=fun hp o ho=>hp o (β o) (by simp only [pin',ho,if_true]);refine roundIn_of_wpIn trivial ?_;rw [has,hbo,hpa,htm];have etm:((#[p1,p2]:Array Nat).zip #[.int .i64 k,uv]).foldl (fun tmps (t,a)=>tmps.setIfInBounds t a) a.tmps=(a.tmps.setIfInBounds p1 (.int .i64 k)).setIfInBounds p2 uv:=by simp
 rw [etm];have hsz:((a.tmps.setIfInBounds p1 (.int .i64 k)).setIfInBounds p2 uv).size=n:=by simp [hn]
 have hR1:RelF P w (Own (hook (H x)) β) Y pin' (look ((p2,v)::(p1,iV k)::env)) (hook (H x)) β { tmps:=(a.tmps.setIfInBounds p1 (.int .i64 k)).setIfInBounds p2 uv,defers:=[] } w:=by
  refine ⟨⟨Nat.le_refl _,fun _ _ _=>rfl,fun _ _=>rfl,rfl,rfl,rfl⟩,fun i=> ?_,hR.objs,fun o b h1 h2=> .inl ⟨o,h1,h2⟩,Marks.nil _ _,hR.y,fun o x hx=> ?_,hR.now⟩
  · simp only [look,Array.getD_eq_getD_getElem?,Array.getElem?_setIfInBounds,Array.size_setIfInBounds];by_cases h2:p2=i
    · subst h2;simp only [if_true,show p2<a.tmps.size by omega];exact hvr
    · simp only [h2,if_false];by_cases h1:p1=i
      · subst h1;simp only [if_true,show p1<a.tmps.size by omega];exact .int_mk _ _
      · simp only [h1,if_false];have:=hR.env i
        rwa [Array.getD_eq_getD_getElem?] at this
  · simp only [pin'] at hx;split at hx
    · exact Option.some.inj hx
    · cases hx
 refine hround w _ _ _ (some l) _ β _ w _ (fun ⟨_,_,h⟩=>h) hsz hR1 (fun o ho=> ?_) fun s1 a1 w1 β1 hA hs1 hd1 hR1' hb1=> ?_
 · rcases ho with ho | ho
   · exact hb o (.inl ho)
   · cases hq:pin' o with
     | none=>exact absurd hq ho
     | some b=>have:=hpin' o b hq;show o<nx x;omega
 · have hl1:w1.heap[l]? =some (.loop lp):=(hR1'.good.blk l hlw (hR.notOwn hlp)).trans hlp;refine ⟨_,run_beginRound hl1 hst, ?_⟩;have hR2:=hR1'.rebase (pin':=pin') hd1 hR1'.pins hl1 (.loop { lp with state:= .busy })
   refine wpIn_mono (hA l _ _ Y pin' β1 a1 _ hpin' hs1 hR2 hb1) fun ex a2 w2 hq=> ?_;cases ex with
   | normal=>
    obtain ⟨s2,β2,⟨_,x',hx',hsle⟩,h2,h3,h4⟩:=hq;obtain ⟨β3,hR3,hb3⟩:=zhv hsle hpin' h3;have hl1':(w1.putObj l (.loop { lp with state:= .busy })).heap[l]? =some (.loop { lp with state:= .busy }):=World.putObj_heap_same (Array.getElem?_eq_some_iff.1 hl1).1
    have hl2:w2.heap[l]? =some (.loop { lp with state:= .busy }):=(hR3.good.blk l (Array.getElem?_eq_some_iff.1 hl1').1 (hR2.notOwn hl1')).trans hl1'
    refine ⟨_,_,run_endRound none hl2,rfl,x',hx',⟨β3, ?_,fun o ho=> ?_,fun o ho=> ?_⟩, ?_⟩
    · have U1:=hR.under (fun i=>zxf henv i) hR1'.good hR1'.objs hR1'.own (hpv hR1'.pins) hpm;have U2:=U1.turn hl1 hl0 (.loop { lp with state:= .busy })
      have U3:=U2.under (fun i=>zxf henv i) hR3.good hR3.objs hR3.own (fun o ho=>(hpv hR3.pins o ho).trans (hpv hR1'.pins o ho).symm) hpm;exact U3.turn hl2 hl0 _
    · rcases ho with ho | ho
      · exact hb3 o (.inl ho)
      · cases hq:pin o with
        | none=>exact absurd hq ho
        | some b=>have:=hpm o b hq;have:=hmx x' hx';omega
    · exact (hpv hR3.pins o ho).trans (hβ o ho)
    · rw [World.putObj_heap_same (Array.getElem?_eq_some_iff.1 hl2).1];cases lp;simp only at hst hpe;subst hst;subst hpe;rfl
   | ret=>obtain ⟨_,_,⟨h,_⟩,_⟩:=hq;cases h
   | exit i=>obtain ⟨_,_,⟨h,_⟩,_⟩:=hq;cases h
   | goto t=>exact hq.elim
   | panic c=>exact hq.elim
   | outgrown=>exact hq.elim
end
theorem len_run {P:Program}{w:World}{X:Nat→Prop}{β:Nat→Option Nat}{t e ty:TypeId}{d:TyD}{x:TV}{u:Value}{N:Nat}{rd:List Nat}(hd:tyOf P t=some d)(hk:d.kind= .slice e)(hx:TRep w X β x u)(hl:zhj x=some (N,rd)):(Builtin.len_ #[t] ty #[u]).run P w= .ok (.int .i64 N) w:=by
 have ht:=z2e hd hk;unfold zhj at hl;split at hl
 · injection hl with hl;injection hl with h1 h2;subst h1;rw [hx.nils_inv];simp [Builtin.len_,run_underlying ht,goInt]
 · injection hl with hl;injection hl with h1 h2;subst h1
   rename_i nn n es;have h1:=hx.fz_inv;cases h1 with
   | slnil=>simp [Builtin.len_,run_underlying ht,goInt]
   | sl0 _ _ a=>simp [Builtin.len_,run_underlying ht,goInt]
   | sl _ _ _ b off cap len f g1=>subst g1;simp [Builtin.len_,run_underlying ht,goInt]
 · injection hl with hl;injection hl with h1 h2;subst h1
   have h1:=hx.fz_inv;cases h1 with
   | z0 _ a=>simp [Builtin.len_,run_underlying ht,goInt]
   | z0n=>simp [Builtin.len_,run_underlying ht,goInt]
 · injection hl with hl;injection hl with h1 h2;subst h1
   obtain ⟨b,q,cap,sz,tt,_,_,_,_,_,rfl⟩ | ⟨rfl,rfl⟩:=hx.osl_inv
   · simp [Builtin.len_,run_underlying ht,goInt]
   · simp [Builtin.len_,run_underlying ht,goInt]
 · cases hl
theorem i64_id {x:Int}(h1: -9223372036854775808≤x)(h2:x≤9223372036854775807):IntKind.wrap .i64 x=x:=Go.IntWalk.i64_in _ ⟨h1,h2⟩
section
variable {P:Program} {w0:World} {foot Y:Nat→Prop} {pin:Nat→Option (Option Nat)} {e:Nat→TV} {h:AHeap} {β:Nat→Option Nat} {a:Act} {w:World}
theorem RelF.load {S:TypeId}{dS:TyD}{x:TV}{u:Value}{r:TV×List Nat}(hR:RelF P w0 foot Y pin e (hook h) β a w)(hS:tyOf P S=some dS)(hx:TRep w (XO Y (hook h) β) β x u)(hl:z6h dS (fun o=>flat (hook h o)) x=some r):
  ∃ v,(Instr.loadAt S u).run P w= .ok v w∧TRep w (XO Y (hook h) β) β r.1 v:=by
 have hf:∀ o,flat (flat (hook h o))=flat (hook h o):=fun o=>z5b _;have hO:=z9v (h':=fun o=>flat (hook h o)) hf hR.objs;rw [←ze1 (h':=fun o=>flat (hook h o)) hf] at hx ⊢;exact zhr (P:=P) hO hS hx hl
end
theorem itf0 (y b:Value):Itf { tmps:= #[y,b]++Array.replicate (19-(#[y,b]:Array Value).size) undef,defers:=[] } y b:=
 ⟨by simp,rfl,by simp [Array.getD_eq_getD_getElem?],by simp [Array.getD_eq_getD_getElem?]⟩
theorem awp_back {P:Program} {n m m0:Nat} {env:Env} {α:Type} {H:α→AHeap} {nx:α→Nat} {Inv:α→Prop} {idx:α→Nat} {y v:α→TV} {bk:FuncId} {S E:TypeId} {dS dE:TyD} {g:Operand} {p1 p2:Nat} {A body:Code} {Q:AExit→St→Prop} {N oc:Nat} {xs:TV} {x0:α} {rdn:List Nat}
  (hbk:IsBk P bk S E) (hS:tyOf P S=some dS) (hk:dS.kind= .slice E) (hE:tyOf P E=some dE) (hm:m≤m0) (henv:∀ p∈env,p.2.lt m0=true)
  (hg:ev env g= .c (.fn (.func bk) [] [(false,[.ep oc 1 0 0])])) (hoc:oc<m0) (hnx:∀ x,Inv x→m0≤nx x)
  (hbox:∀ x,Inv x→∃ rd,z6h dS (fun o=>flat (hook (H x) o)) (.c (.a (.ep oc 1 0 0)))=some (xs,rd)) (hlen:zhj xs=some (N,rdn)) (hN:N<9223372036854775808)
  (hel:∀ x k,Inv x→idx x=k+1→∃ rd,z2r P dS xs (iV k)=some (y x)∧z6h dE (fun o=>flat (hook (H x) o)) (y x)=some (v x,rd))
  (hp1:p1<n) (hp2:p2<n)
  (hround:∀ x k,Inv x→idx x=k+1→AsgS P n A ⟨(p2,v x)::(p1,iV k)::env,H x,nx x⟩ fun s=>AwpR P n m0 body (fun ex s'=>ex= .normal∧∃ x',(Inv x'∧idx x'=k)∧Sle m0 s' ⟨[],H x',nx x'⟩) s)
  (hx0:Inv x0) (hi0:idx x0=N) (hdone:∀ x,Inv x→idx x=0→Q .normal ⟨env,H x,nx x⟩):
  Awp P n m (.rangeFunc g #[p1,p2] A body) Q ⟨env,H x0,nx x0⟩:=fun w0 foot Y pin β a w hpm hn hR hb=>by
 obtain ⟨hent,fn,Yt,I,B,hfn,hbody,hnt,hres⟩:=hbk;refine (wpIn_wide (n:=0)).1 (wpIn_rangeFunc fun fid _=> ?_);have hv:=hR.eval g;rw [←zlj,hg] at hv;generalize hav:a.eval g=av at hv;cases hv with
 | fn _ _ _ us vs hl1 hl2=>
 have hus:us=[]:=hl1.nil_inv;subst hus;obtain ⟨bp,vs',rfl,hp,hvs⟩:=hl2.cons_inv;have hvs':vs'=[]:=hvs.nil_inv;subst hvs';obtain ⟨qs,rfl,hq,h1⟩:=hp;have h1:=h1 rfl;obtain ⟨bp,qs',rfl,hbp,hqs⟩:=hq.cons_inv;have hqs':qs'=[]:=hqs.nil_inv;subst hqs';have hbpR:ARep w (XO Y (hook (H x0)) β) β (.ep oc 1 0 0) bp:=hbp;have hsize:=hR.good.size
 let l:=w.heap.size+1
 let lp:Loop:={ state:= .ready,pending:=none,fn:=fid,tmps:=a.tmps,params:= #[p1,p2],assign:=A,body:=body,defers:=w.heap.size }
 let w1:=(w.alloc (.deferred (some []))).alloc (.loop lp)
 have hl1:w1.heap[l]? =some (.loop lp):=by
  have:=World.alloc_heap_new (w.alloc (.deferred (some []))) (.loop lp)
  rwa [World.size_alloc] at this
 have hD1:w1.heap[w.heap.size]? =some (.deferred (some [])):=by
  show ((w.heap.push _).push _)[w.heap.size]? =_;rw [Array.getElem?_push,if_neg (by simp),Array.getElem?_push,if_pos rfl]
 have c1:Calm w0 w w1:=(Calm.alloc w0 w _ hsize).trans (Calm.alloc w0 _ _ (by rw [World.size_alloc];omega))
 have old1:∀ b,b<w.heap.size→w1.heap[b]? =w.heap[b]? :=fun b hb=>by
  show ((w.heap.push _).push _)[b]? =_;rw [Array.getElem?_push,if_neg (by simp;omega),Array.getElem?_push,if_neg (by omega)]
 obtain ⟨Ds,hds,hnds,hdd⟩:=hR.defers;have hm1:Marks w0 w1 a.defers:=⟨Ds,hds,hnds,fun D hD=>⟨(hdd D hD).1,by rw [old1 D (Array.getElem?_eq_some_iff.1 (hdd D hD).2).1];exact (hdd D hD).2⟩⟩;have hRc:RelF P w0 foot Y pin (look env) (hook (H x0)) β a w1:=RelF.calm c1 hR hm1
 have hR1:RelF P w0 foot Y pin (look env) (hook (H x0)) β { a with defers:=mark w.heap.size::a.defers } w1:=by
  refine ⟨hRc.good,hRc.env,hRc.objs,hRc.own,⟨w.heap.size::Ds,by rw [hds];rfl,List.nodup_cons.2 ⟨fun hD=> ?_,hnds⟩,fun D hD=> ?_⟩,hRc.ylt,hRc.pins,hRc.gl⟩
  · have:=(Array.getElem?_eq_some_iff.1 (hdd _ hD).2).1;omega
  · rcases List.mem_cons.1 hD with rfl | hD
    · exact ⟨hsize,hD1⟩
    · exact ⟨(hdd D hD).1,by rw [old1 D (Array.getElem?_eq_some_iff.1 (hdd D hD).2).1];exact (hdd D hD).2⟩
 have hO0:Out P w0 foot Y pin env m0 { a with defers:=mark w.heap.size::a.defers } β l lp (H x0) (nx x0) w1:=⟨⟨β,hR1,hb,fun _ _=>rfl⟩,hl1⟩
 have hl0:w0.heap.size≤l:=by omega
 have hav':a.eval g= .func (.func bk) #[] #[bp]:=hav
 have hres1:(resolve a.eval (rangeCall g l) 0).run P w1= .ok { target:= .fn (.func bk) #[bp],args:= #[.func (.yield l) #[] #[]] } w1:=by
  simp only [resolve,Deferred.ofValue,hav',Sem.run_pure,List.map_toArray,List.map_cons,List.map_nil,show a.eval (.const (.func (.yield l) #[] #[]))= .func (.yield l) #[] #[] from rfl];simp
 have hinv1:(invoke (.fn (.func bk) #[bp]) #[.func (.yield l) #[] #[]]).run P w1= .ok (.enter bk #[.func (.yield l) #[] #[],bp]) w1:=by
  unfold z31 at hent;rw [hfn] at hent;simp only [Bool.and_eq_true,Bool.not_eq_true',beq_eq_false_iff_ne] at hent;have hb:fn.body.isNone=false:=by rw [hbody];rfl
  simp only [invoke,callFunc,Sem.run_bind,Sem.run_pure,Result.andThen_ok,run_program,hfn,beq_eq_false_iff_ne.2 hent.1,Bool.false_eq_true,if_false,hb];rfl
 refine ⟨l,[mark w.heap.size],w1,_,w1,bk, #[.func (.yield l) #[] #[],bp],w1,run_enterLoop_outer fid a.tmps #[p1,p2] _ body,hres1,fun _ _=>trivial,hinv1,fun h=>absurd h (by decide), ?_⟩;refine callsIn_of_wp hfn hbody trivial ?_
 have hi0':Itf { tmps:= #[.func (.yield l) #[] #[],bp]++Array.replicate (fn.ntmps-(#[.func (.yield l) #[] #[],bp]:Array Value).size) undef,defers:=[] } (.func (.yield l) #[] #[]) bp:=by
  rw [hnt];exact itf0 _ _
 generalize ({ tmps:= #[.func (.yield l) #[] #[],bp]++Array.replicate (fn.ntmps-(#[.func (.yield l) #[] #[],bp]:Array Value).size) undef,defers:=[] }:Act)=a0 at hi0' ⊢
 have hend:∀ x W a2,Inv x→idx x=0→Itf a2 (.func (.yield l) #[] #[]) bp→Out P w0 foot Y pin env m0 { a with defers:=mark w.heap.size::a.defers } β l lp (H x) (nx x) W→bodyPost P fn (rangePost Fence.wide 0 P l (Lift P w0 foot Y pin n Q) { a with defers:=[mark w.heap.size]++a.defers }) .normal a2 W:=by
  intro x W a2 hx hix hi2 hO;refine ⟨hi2.defers, .tuple #[],by simp [results,hres], ?_⟩;obtain ⟨β2,hR2,hb2,_⟩:=hO.ex;exact ⟨none,_,run_endLoop hO.lp (by simp [lp]),⟨_,β2,hdone x hx hix,hn,hR2.turn hO.lp hl0 _,hb2⟩⟩
 have hread:∀ x W,Inv x→Out P w0 foot Y pin env m0 { a with defers:=mark w.heap.size::a.defers } β l lp (H x) (nx x) W→∃ β2 sv,RelF P w0 foot Y pin (look env) (hook (H x)) β2 { a with defers:=mark w.heap.size::a.defers } W∧(∀ k,Occ pin β2 k→k<nx x)∧(∀ o,o<m0→β2 o=β o)∧(Instr.loadAt S bp).run P W= .ok sv W∧TRep W (XO Y (hook (H x)) β2) β2 xs sv:=by
  intro x W hx hO;obtain ⟨β2,hR2,hb2,hβ2⟩:=hO.ex;obtain ⟨rd,hld⟩:=hbox x hx
  have hep:TRep W (XO Y (hook (H x)) β2) β2 (.c (.a (.ep oc 1 0 0))) bp:=by
   refine .a _ _ ?_;cases hbpR with
   | ep _ _ _ _ b hb=>exact .ep _ _ _ _ b ((hβ2 oc hoc).trans hb)
  obtain ⟨sv,h1,h2⟩:=hR2.load hS hep hld;exact ⟨β2,sv,hR2,hb2,hβ2,h1,h2⟩
 obtain ⟨β2,sv,hR2,_,_,hld,hxs⟩:=hread x0 w1 hx0 hO0;refine wpIn_seq (bk0_in hi0' hld (len_run hS hk hxs hlen) fun a1 hi1 h31=> ?_);rw [i64_id (by omega) (by omega)] at h31
 refine wpIn_block (wpIn_loop (fun a2 W=> ∃ x,Inv x∧idx x≤N∧Itf a2 (.func (.yield l) #[] #[]) bp∧a2.tmps.getD 3 undef= .int .i64 ((idx x:Int)-1)∧Out P w0 foot Y pin env m0 { a with defers:=mark w.heap.size::a.defers } β l lp (H x) (nx x) W)
  (fun a2 _=>match a2.tmps.getD 3 undef with | .int _ r=>(r+1).toNat | _=>0) ⟨x0,hx0,by omega,hi1,by rw [hi0];exact h31,hO0⟩ ?_)
 rintro a2 W ⟨x,hx,hle,hi2,h32,hO⟩;refine wpIn_seq (wpIn_seq (bk1_in hi2 h32 fun a3 hi3 h33 h8=> ?_));cases hix:idx x with
 | zero=>
  refine wpIn_cond_false (by rw [z1c,h8,hix];rfl) (wpIn_exit ?_);simp only [Exit.then,Exit.inBlock,if_true];exact hend x W a3 hx hix hi3 hO
 | succ k=>
  rw [hix] at h33 h32 h8;have ek:((k+1:Nat):Int)-1=(k:Int):=by omega
  rw [ek] at h33 h32 h8;refine wpIn_cond_true (by rw [z1c,h8];simp) (wpIn_skip ?_);obtain ⟨β3,sv,hR3,hb3,hβ3,hld,hxs⟩:=hread x W hx hO;obtain ⟨rd,hixa,hlde⟩:=hel x k hx hix;obtain ⟨ev,hev,hevr⟩:=z8k hS hixa hxs (.int_mk _ _);obtain ⟨uv,huv,huvr⟩:=hR3.load hE hevr hlde
  refine wpIn_seq (wpIn_block (wpIn_seq (bk3_in (lp:=lp) (R:=fun W'=> ∃ x',(Inv x'∧idx x'=k)∧Out P w0 foot Y pin env m0 { a with defers:=mark w.heap.size::a.defers } β l lp (H x') (nx x') W') rfl hi3 h33 hld hev huv hO.lp rfl
   (ztl (v:=v x) hR3 hb3 hβ3 hO.lp hl0 henv (fun o b hq=>Nat.lt_of_lt_of_le (hpm o b hq) hm) (hnx x hx) (fun x' hx'=>hnx x' hx'.1) hn rfl rfl rfl rfl rfl rfl hp1 hp2 huvr (hround x k hx hix)) fun a4 W' hi4 h34 h18 ⟨x',⟨hx',hix'⟩,hO'⟩=> ?_)))
  · refine wpIn_cond_false (by rw [z1c,h18]) (wpIn_skip ?_);refine bk2_in hi4 h34 fun a5 hi5 h35=> ?_;rw [i64_id (by omega) (by omega)] at h35;refine ⟨⟨x',hx',by omega,hi5,by rw [hix'];exact h35,hO'⟩, ?_⟩;simp only [h35,h32];omega
end Go.AM

namespace Go.AM
def ctxQ (P:Program)(n m:Nat):Code→Nat→(AExit→St→Prop)→(AExit→St→Prop)
 | .seq a b,p,Q=>if (pts a).contains p then ctxQ P n m a p (zfd (Awp P n m b Q) Q) else ctxQ P n m b p Q
 | .cond _ a b,p,Q=>if (pts a).contains p then ctxQ P n m a p Q else ctxQ P n m b p Q
 | .block i c,p,Q=>if p=2*i+1 then Q else ctxQ P n m c p (z1i i Q)
 | .loop c,p,Q=>ctxQ P n m c p (zfd (Alwp P n m c Q) Q)
 | _,_,Q=>Q
def rngP:Code→Option (Operand×Nat×Nat×Code×Code)
 | .rangeFunc g ps A b=>match ps.toList with
  | [p1,p2]=>some (g,p1,p2,A,b)
  | _=>none
 | _=>none
theorem rngP_inv {c:Code}{g:Operand}{p1 p2:Nat}{A:Code}{b:Code}(h:rngP c=some (g,p1,p2,A,b)):c= .rangeFunc g #[p1,p2] A b:=by
 unfold rngP at h;split at h
 · rename_i g' ps A' b';split at h
   · rename_i q1 q2 hps;injection h with h
     simp only [Prod.mk.injEq] at h;obtain ⟨rfl,rfl,rfl,rfl,rfl⟩:=h;have:ps= #[q1,q2]:=by apply Array.ext';simpa using hps
     rw [this]
   · cases h
 · cases h
def asgB (n:Nat):Code→Bool
 | .region _ ops false=>z6x ops&&dstB ops n
 | .seq (.region _ ops false) (.region _ ops' false)=>(z6x ops&&dstB ops n)&&(z6x ops'&&dstB ops' n)
 | _=>false
def asgV (P:Program)(sh:FuncId→List Sh)(n:Nat)(A:Code)(K:AExit→St→Prop)(s:St):Prop:=
 match A with
 | .region _ ops _=>regV P sh n ops false K s
 | .seq (.region _ ops _) (.region _ ops' _)=>regV P sh n ops false (zff (regV P sh n ops' false K) fun _ _=>False) s
 | _=>False
theorem zi0 {P:Program}{sh:FuncId→List Sh}{n id:Nat}{ops:Array Oper}{K:AExit→St→Prop}{s:St}{R:St→Prop}(hnd:z6x ops=true)(hdst:dstB ops n=true)(h:regV P sh n ops false K s)(hk:∀ s',K .normal s'→∀ e,look s'.env=look e→R ⟨e,s'.heap,s'.nx⟩):AsgS P n (.region id ops false) s R:=by
 unfold regV at h;split at h
 · refine AsgS.region hnd hdst (zhg ?_ (z4x rfl h));rintro e h _ ⟨e2,he,hk2⟩;simp only [Bool.not_false,Bool.true_or] at hk2;exact hk _ hk2 e he
 · exact h.elim
def zbf:Code→Nat→Option (Operand×Nat×Nat×Code×Code)
 | .seq a b,p=>if (pts a).contains p then zbf a p else zbf b p
 | .cond _ a b,p=>if (pts a).contains p then zbf a p else zbf b p
 | .block i c,p=>if p=2*i+1 then rngP c else zbf c p
 | .loop c,p=>zbf c p
 | _,_=>none
section
variable {P:Program} {n m:Nat}
theorem z6o {g:Operand}{p1 p2:Nat}{A:Code}{y:Code}{s:St}:∀ {c:Code} {p:Nat} {Q:AExit→St→Prop},zbf c p=some (g,p1,p2,A,y)→(∀ i,Awp P n m (.rangeFunc g #[p1,p2] A y) (z1i i (ctxQ P n m c p Q)) s)→rz P n m c p Q s
 | .seq a b,p,Q,hr,h=>by
  unfold zbf at hr;unfold rz;unfold ctxQ at h;split
  · rename_i hc;rw [if_pos hc] at hr;simp only [hc,if_true] at h;exact z6o hr h
  · rename_i hc;rw [if_neg hc] at hr;simp only [hc] at h;exact z6o hr h
 | .cond _ a b,p,Q,hr,h=>by
  unfold zbf at hr;unfold rz;unfold ctxQ at h;split
  · rename_i hc;rw [if_pos hc] at hr;simp only [hc,if_true] at h;exact z6o hr h
  · rename_i hc;rw [if_neg hc] at hr;simp only [hc] at h;exact z6o hr h
 | .block i c,p,Q,hr,h=>by
  unfold zbf at hr;unfold rz;unfold ctxQ at h;split
  · rename_i hc;rw [if_pos hc] at hr;simp only [hc,if_true] at h;rw [rngP_inv hr];exact h i
  · rename_i hc;rw [if_neg hc] at hr;simp only [hc,if_false] at h;exact z6o hr h
 | .loop c,p,Q,hr,h=>by
  unfold zbf at hr;unfold rz;unfold ctxQ at h;exact z6o hr h
 | .skip,_,_,hr,_=>by cases hr
 | .rangeFunc ..,_,_,hr,_=>by cases hr
 | .exit _,_,_,hr,_=>by cases hr
 | .scope _,_,_,hr,_=>by cases hr
 | .label _,_,_,hr,_=>by cases hr
 | .goto _,_,_,hr,_=>by cases hr
 | .ret,_,_,hr,_=>by cases hr
 | .region ..,_,_,hr,_=>by cases hr
 | .refuse _,_,_,hr,_=>by cases hr
end
def aftV (P:Program)(sh:FuncId→List Sh)(n m:Nat)(lv:List (Nat×List Nat))(G:Nat→St→Prop):Code→Nat→(AExit→St→Prop)→St→Prop
 | .seq a b,p,K,s=>match (pts a).contains p with
  | true=>aftV P sh n m lv G a p (zff (runV P sh n m lv G b K) K) s
  | false=>aftV P sh n m lv G b p K s
 | .cond _ a b,p,K,s=>match (pts a).contains p with
  | true=>aftV P sh n m lv G a p K s
  | false=>aftV P sh n m lv G b p K s
 | .block i c,p,K,s=>match p==2*i+1 with
  | true=>K .normal s
  | false=>match c with
   | .loop b=>aftV P sh n m lv G b p (zff (zc4 m lv G (2*i+1)) (z1i i K)) s
   | c=>aftV P sh n m lv G c p (z1i i K) s
 | _,_,_,_=>False
section
variable {P:Program} {sh:FuncId→List Sh} {n m:Nat} {lv:List (Nat×List Nat)} {G:Nat→St→Prop}
theorem z6f (hP:P.follows .mixedOrders=true):∀ {c:Code} {p:Nat} {K Q:AExit→St→Prop} {s:St},(pts c).Nodup→GOK P n m G c Q→(∀ e s,K e s→Q e s)→aftV P sh n m lv G c p K s→ctxQ P n m c p Q .normal s
 | .seq a b,p,K,Q,s,hn,hG,hk,h=>by
  have hn':=List.nodup_append.1 hn;unfold aftV at h;unfold ctxQ;split at h
  · rename_i hp;rw [if_pos hp];exact z6f hP hn'.1 hG.left (z45 (fun s hs=>z39 hP hn'.2.1 (hG.right hn) hk hs) hk) h
  · rename_i hp;rw [if_neg (by simp only [hp];decide)];exact z6f hP hn'.2.1 (hG.right hn) hk h
 | .cond x a b,p,K,Q,s,hn,hG,hk,h=>by
  have hn':=List.nodup_append.1 hn;unfold aftV at h;unfold ctxQ;split at h
  · rename_i hp;rw [if_pos hp];exact z6f hP hn'.1 hG.condL hk h
  · rename_i hp;rw [if_neg (by simp only [hp];decide)];exact z6f hP hn'.2.1 (hG.condR hn) hk h
 | .block i c,p,K,Q,s,hn,hG,hk,h=>by
  unfold aftV at h;unfold ctxQ;split at h
  · rename_i hp;rw [if_pos (by simpa using hp)];exact hk _ _ h
  · rename_i hp;rw [if_neg (by simpa using hp)];split at h
    · rename_i b;have hn2:(pts b).Nodup:=(List.nodup_cons.1 hn).2;unfold ctxQ;exact z6f hP hn2 (GOK.loop (hG.block hn)) (z45 (fun s hs=>hG.head hs) (z2m hk)) h
    · exact z6f hP (List.nodup_cons.1 hn).2 (hG.block hn) (z2m hk) h
 | .skip,_,_,_,_,_,_,_,h=>h.elim
 | .exit _,_,_,_,_,_,_,_,h=>h.elim
 | .ret,_,_,_,_,_,_,_,h=>h.elim
 | .loop _,_,_,_,_,_,_,_,h=>h.elim
 | .region ..,_,_,_,_,_,_,_,h=>h.elim
 | .rangeFunc ..,_,_,_,_,_,_,_,h=>h.elim
 | .scope _,_,_,_,_,_,_,_,h=>h.elim
 | .label _,_,_,_,_,_,_,_,h=>h.elim
 | .goto _,_,_,_,_,_,_,_,h=>h.elim
 | .refuse _,_,_,_,_,_,_,_,h=>h.elim
end
def vcA (P:Program)(sh:FuncId→List Sh)(lv:List (Nat×List Nat))(f:FuncId)(m:Nat)(R:TV→List AObj→Prop)(G:Nat→St→Prop)(p:Nat)(s:St):Prop:=
 match P.funcs[f]? with
 | some fn=>match fn.body with
  | some c=>match za0 (pts c) with
   | true=>aftV P sh fn.ntmps m lv G c p (endV P (ownB (sh f)) fn.results.toList m (lvU lv) R) s
   | false=>False
  | none=>False
 | none=>False
def endR (m0:Nat)(U:List Nat)(R:AHeap→Nat→Prop):AExit→St→Prop
 | .normal,s=>zc4 m0 [(0,[]),(1000001,U)] (fun _ s'=>R s'.heap s'.nx) 0 s
 | _,_=>False
def vcR (P:Program)(sh:FuncId→List Sh)(f:FuncId)(m0:Nat)(U:List Nat)(p:Nat)(env:Env)(k:Int)(v:TV)(h:AHeap)(nx:Nat)(R:AHeap→Nat→Prop):Prop:=
 match P.funcs[f]? with
 | some fn=>match fn.body with
  | some c=>match zbf c p with
   | some (_,p1,p2,A,body)=>asgV P sh fn.ntmps A (zff (runV P sh fn.ntmps m0 [] (fun _ _=>False) body (endR m0 U R)) fun _ _=>False) ⟨(p2,v)::(p1,iV k)::env,h,nx⟩
   | none=>False
  | none=>False
 | none=>False
def prepV (m0:Nat)(U live:List Nat)(K:St→Prop)(s:St):Prop:=zc4 m0 [(0,live),(1000001,U)] (fun _ s'=>K s') 0 s
def rngB (P:Program)(f:FuncId)(p:Nat):Option Operand:=
 match P.funcs[f]? with
 | some fn=>match fn.body with
  | some c=>match zbf c p with
   | some (g,p1,p2,A,body)=>match za0 (pts c)&&asgB fn.ntmps A&&z8m body&&Nat.blt p1 fn.ntmps&&Nat.blt p2 fn.ntmps with
    | true=>some g
    | false=>none
   | none=>none
  | none=>none
 | none=>none
theorem Sle.less {m m0:Nat}{s s':St}(h:Sle m0 s s')(hm:m≤m0):Sle m s s':=by
 obtain ⟨σ,E,h1,h2,h3,h4⟩:=h;exact ⟨σ,E,h1,Nat.le_trans hm h2,fun o ho=>h3 o (Nat.lt_of_lt_of_le ho hm),h4⟩
theorem Sle.noEnv {m:Nat}{s s':St}(h:Sle m s s'):Sle m s ⟨[],s'.heap,s'.nx⟩:=by
 obtain ⟨σ,E,h1,h2,h3,h4,h5⟩:=h;exact ⟨σ,E,h1,h2,h3,(fun p hp=>by cases hp),h5⟩
theorem zjr {m:Nat}{lv:List (Nat×List Nat)}{G:Nat→St→Prop}{p:Nat}{s:St}(h:zc4 m lv G p s):∃ s',Sle m s s'∧G p s':=zet h
theorem RPt.back {P:Program} {sh:FuncId→List Sh} {lv:List (Nat×List Nat)} {f:FuncId} {m m0 p oc N:Nat} {r:TV} {Hs':List AObj} {U live rdn:List Nat} {env:Env} {s0:St} {α:Type} {H:α→AHeap} {nx:α→Nat} {Inv:α→Prop} {idx:α→Nat} {y v:α→TV} {x0:α} {bk:FuncId} {S E:TypeId} {dS dE:TyD} {g:Operand} {xs:TV}
  (hP:P.follows .mixedOrders=true) (hrg:rngB P f p=some g) (hbk:IsBk P bk S E) (hS:tyOf P S=some dS) (hk:dS.kind= .slice E) (hE:tyOf P E=some dE)
  (hs:prepV m0 U live (fun s'=>s'=⟨env,H x0,nx x0⟩) s0) (hm:Nat.ble m m0=true) (henv:env.all (fun p=>p.2.lt m0)=true)
  (hg:ev env g= .c (.fn (.func bk) [] [(false,[.ep oc 1 0 0])])) (hoc:Nat.blt oc m0=true) (hnx:∀ x,Inv x→m0≤nx x)
  (hbox:∀ x,Inv x→∃ rd,z6h dS (fun o=>flat (hook (H x) o)) (.c (.a (.ep oc 1 0 0)))=some (xs,rd)) (hlen:zhj xs=some (N,rdn)) (hN:N<9223372036854775808)
  (hel:∀ x k,Inv x→idx x=k+1→∃ rd,z2r P dS xs (iV k)=some (y x)∧z6h dE (fun o=>flat (hook (H x) o)) (y x)=some (v x,rd))
  (hround:∀ x k,Inv x→idx x=k+1→vcR P sh f m0 U p env k (v x) (H x) (nx x) fun h n=> ∃ x',(Inv x'∧idx x'=k)∧h=H x'∧n=nx x')
  (hx0:Inv x0) (hi0:idx x0=N) (hdone:∀ x,Inv x→idx x=0→vcA P sh lv f m (fun r0 Hs0=>TV.Le r0 r∧Hs0=Hs') (RPt P f m r Hs') p ⟨env,H x,nx x⟩):
  RPt P f m r Hs' p s0:=by
 have hm':m≤m0:=Nat.le_of_ble_eq_true hm;obtain ⟨s',hsle,rfl⟩:=zjr hs;unfold rngB at hrg;unfold vcR at hround;split at hrg
 · rename_i fn hf;simp only [hf] at hround;split at hrg
   · rename_i c hb;simp only [hb] at hround;split at hrg
     · rename_i g' p1 p2 A body hat;simp only [hat] at hround;split at hrg
       · rename_i hall;injection hrg with hrg
         subst hrg;simp only [Bool.and_eq_true] at hall;obtain ⟨⟨⟨⟨h1,h2⟩,h3⟩,h4⟩,h5⟩:=hall;refine ⟨fn,c,hf,hb,z7y (hsle.less hm') (z6o hat fun i=> ?_)⟩;refine awp_back (m0:=m0) (Inv:=Inv) (idx:=idx) (y:=y) (v:=v) hbk hS hk hE hm' (fun p hp=>List.all_eq_true.1 henv p hp) hg (by simpa using hoc) hnx hbox hlen hN hel (by simpa using h4) (by simpa using h5) (fun x k hx hix=> ?_) hx0 hi0 (fun x hx hix=> ?_)
         · have hr:=hround x k hx hix
           have fin:∀ s':St,zff (runV P sh fn.ntmps m0 [] (fun _ _=>False) body (endR m0 U fun h n=> ∃ x',(Inv x'∧idx x'=k)∧h=H x'∧n=nx x')) (fun _ _=>False) .normal s'→∀ e,look s'.env=look e→AwpR P fn.ntmps m0 body (fun ex s'=>ex= .normal∧∃ x',(Inv x'∧idx x'=k)∧Sle m0 s' ⟨[],H x',nx x'⟩) ⟨e,s'.heap,s'.nx⟩:=by
            intro s' hk2 e he;refine AwpR.look he (AwpR.mono (z5i hP h3 (fun _ _ h=>h) hk2) fun ex s hs=> ?_);cases ex with
            | normal=>
             have hs:zc4 m0 [(0,[]),(1000001,U)] (fun _ s'=> ∃ x',(Inv x'∧idx x'=k)∧s'.heap=H x'∧s'.nx=nx x') 0 s:=hs;obtain ⟨s2,hs2,x',hx',e1,e2⟩:=zjr hs;exact ⟨rfl,x',hx',e1▸e2▸hs2.noEnv⟩
            | exit i=>exact hs.elim
            | ret=>exact hs.elim
           unfold asgB at h2;split at h2
           · simp only [Bool.and_eq_true] at h2;exact zi0 h2.1 h2.2 hr fin
           · simp only [Bool.and_eq_true] at h2;refine AsgS.seq (zi0 (R:=fun s'=> ∃ s'',look s'.env=look s''.env∧s'.heap=s''.heap∧s'.nx=s''.nx∧regV P sh fn.ntmps _ false _ s'') h2.1.1 h2.1.2 hr fun s' hk2 e he=>⟨s',he.symm,rfl,rfl,hk2⟩) fun s' hs'=> ?_;obtain ⟨s'',e1,e2,e3,hk3⟩:=hs';intro w0 foot Y pin r n' β a w Q q1 q2 q3 q4 q5;refine zi0 h2.2.1 h2.2.2 hk3 fin w0 foot Y pin r n' β a w Q q1 q2 ?_ ?_ q5
             · rw [←e1,←e2];exact q3
             · rw [←e3];exact q4
           · cases h2
         · have ha:=hdone x hx hix;unfold vcA at ha;simp only [hf,hb,h1] at ha;exact z6f hP (z3j h1) (zni hf hb) (fun e s h=>zht e s h) ha
       · cases hrg
     · cases hrg
   · cases hrg
 · cases hrg
def zr7 (P:Program)(S E:TypeId)(n:Nat):Bool:=
 match tyOf P S,tyOf P E with
 | some dS,some dE=>(match dS.kind with | .slice e=>Nat.beq e E | _=>false) && !dS.agg&&dE.agg&&Nat.beq dE.size n
 | _,_=>false
theorem RPt.backF {P:Program} {sh:FuncId→List Sh} {lv:List (Nat×List Nat)} {f:FuncId} {m m0 p oc n:Nat} {r:TV} {Hs':List AObj} {U live:List Nat} {env:Env} {s0:St} {α:Type} {H:α→AHeap} {nx:α→Nat} {Inv:α→Prop} {idx:α→Nat} {x0:α} {bk:FuncId} {S E:TypeId} {g:Operand} {es:List (List FV)}
  (hP:P.follows .mixedOrders=true) (hrg:rngB P f p=some g) (hbk:IsBk P bk S E) (hT:zr7 P S E n=true)
  (hs:prepV m0 U live (fun s'=>s'=⟨env,H x0,nx x0⟩) s0) (hm:Nat.ble m m0=true) (henv:env.all (fun p=>p.2.lt m0)=true)
  (hg:ev env g= .c (.fn (.func bk) [] [(false,[.ep oc 1 0 0])])) (hoc:Nat.blt oc m0=true) (hnx:∀ x,Inv x→m0≤nx x)
  (hbox:∀ x,Inv x→hook (H x) oc= .arr 1 [[.a (.fz (.sl false n es))]]) (hrow:∀ e∈es,e.length=n) (hN:es.length<9223372036854775808)
  (hidx:∀ x,Inv x→idx x≤es.length)
  (hround:∀ x k,Inv x→idx x=k+1→k<es.length→vcR P sh f m0 U p env k (.agg (fzs (es.getD k []))) (H x) (nx x) fun h n=> ∃ x',(Inv x'∧idx x'=k)∧h=H x'∧n=nx x')
  (hx0:Inv x0) (hi0:idx x0=es.length) (hdone:∀ x,Inv x→idx x=0→vcA P sh lv f m (fun r0 Hs0=>TV.Le r0 r∧Hs0=Hs') (RPt P f m r Hs') p ⟨env,H x,nx x⟩):
  RPt P f m r Hs' p s0:=by
 unfold zr7 at hT;split at hT
 · rename_i dS dE hS hE;split at hT
   · rename_i e hk;simp only [Bool.and_eq_true,Bool.not_eq_true'] at hT;obtain ⟨⟨⟨h1,h2⟩,h3⟩,h4⟩:=hT;have h1:=Nat.eq_of_beq_eq_true h1;have h4:=Nat.eq_of_beq_eq_true h4;subst h1
     have red:∀ (d:TyD) (l:List WV),d.agg=true→d.size=l.length→zfb d l=some (.agg l):=fun d l ha hl=>by
      unfold zfb;rw [ha,if_pos rfl,if_pos (by omega),hl,List.take_length]
     refine RPt.back (y:=fun x=> .c (.a (.fz (.pt (es.getD (idx x-1) []))))) (v:=fun x=> .agg (fzs (es.getD (idx x-1) []))) (xs:= .c (.a (.fz (.sl false n es)))) (N:=es.length) (rdn:=[]) hP hrg hbk hS hk hE hs hm henv hg hoc hnx (fun x hx=> ?_) rfl hN (fun x k hx hix=> ?_) (fun x k hx hix=> ?_) hx0 hi0 hdone
     · refine ⟨[oc], ?_⟩;unfold z6h;simp only [hbox x hx];show (if 1=1 then _ else none)=_
       rw [if_pos rfl];show (match zfb dS [.a (.fz (.sl false n es))] with | some v=>some (v,[oc]) | none=>none)=_
       unfold zfb;rw [h2];rfl
     · have hle:=hidx x hx;have hlt:k<es.length:=by omega
       have hr:=hrow (es.getD k []) (by simp [List.getD,hlt]);refine ⟨[], ?_, ?_⟩
       · unfold z2r iV;simp only [hk,hE,zg7];rw [if_pos ⟨h4,by omega,by omega⟩,Int.toNat_natCast,hix,Nat.add_sub_cancel]
       · unfold z6h;simp only [hix,Nat.add_sub_cancel];rw [red dE _ h3 (by rw [h4];unfold fzs;rw [List.length_map,hr])]
     · have hle:=hidx x hx;have:=hround x k hx hix (by omega);simp only [hix,Nat.add_sub_cancel];exact this
   · cases hT
 · cases hT
end Go.AM

set_option maxRecDepth 100000
open Go Go.Proofs
namespace Go.AM
abbrev RW:=List (List FV)
abbrev RT (a:TV)(b:List AObj)(r:TV)(H:List AObj):Prop:=TV.Le a r∧b=H
open List (getD length take drop)
open Int (toNat)
abbrev Q0 (a:FV):WV:= .a (.fz a)
abbrev Q1 (a:Int):FV:= .int .i64 a
abbrev Q2 (a:Int):WV:=Q0 (Q1 a)
abbrev Q3 (a b c d:Nat):WV:= .a (.osl a b c d)
abbrev Q4 (a:Nat)(b:RW):FV:= .sl false a b
abbrev Q5 (a:Nat)(b:WV):Nat×TV:=(a, .c b)
abbrev Q6 (a:List UInt8):WV:=Q0 (.str a)
abbrev Q7 (a:Nat)(b:List WV):AObj:= .arr a [b]
abbrev Q8 (a:Nat)(b:RW):WV:=Q0 (Q4 a b)
abbrev Q9 (a b c d:Nat):WV:= .a (.ep a b c d)
abbrev Q10 (a:Nat)(b:List TV)(c:List AObj)(d:TV)(e:List AObj):Prop:=AC Tryz.prog a b c d e
abbrev Q11 (a:Bool):WV:=Q0 (.bool a)
abbrev Q14 (a:Int)(b:List UInt8)(c:Int)(d:WV):List WV:=[Q2 a,Q6 b,Q2 c,d]
abbrev Q18 (a:Nat)(b:Int):Nat×TV:=Q5 a (Q2 b)
abbrev Q19 (a:List WV):Bool×(List WV):=(false,a)
abbrev Q20 (a:RW):AObj:= .arz 1 a
abbrev Q21 (a:Int)(b:List UInt8)(c:Int)(d:Nat)(e:RW):List WV:=Q14 a b c (Q8 d e)
abbrev Q22 (a:RW):AObj:= .arz 6 a
abbrev Q24 (a:Bool):TV:= .c (Q11 a)
abbrev Q25 (a:Int):TV:= .c (Q2 a)
abbrev Q28 (a b:Nat)(c:List WV):Nat×AObj:=(a,Q7 b c)
abbrev Q30 (a:Int):List WV:=[Q2 a]
abbrev Q31 (a:Int):Bool×(List WV):=Q19 (Q30 a)
abbrev Q36 (a b c d:Nat):AObj:=Q7 2 [Q3 a 6 0 b,Q3 c 1 0 d]
abbrev Q37  :WV:=Q0 .N
abbrev Q38 (a b:AObj)(c:RW):List AObj:=[a,b,Q20 c]
abbrev Q40 (a:Bool)(b:List AObj)(c:TV)(d:List AObj):Prop:=RT (Q24 a) b c d
abbrev Q42 (a b:WV)(c:Int)(d:WV)(e:Int)(f:WV):List WV:=[a,b,Q2 c,d,Q2 e,f]
abbrev Q43 (a:Nat):Nat×AObj:=(a, .gone)
abbrev Q45 (a:List WV):Bool×(List WV):=(true,a)
abbrev Q47 (a:Int)(b:List UInt8)(c:Int):List WV:=Q14 a b c Q37
abbrev Q49 (a b c:Nat):Nat×TV:=Q5 a (Q9 b c 0 0)
abbrev Q51 (a:Nat)(b:List TV)(c:TV)(d:List AObj):Prop:=Q10 a b [] c d
abbrev Q53 (a:List (Bool×(List WV)))(b:List AObj)(c:TV)(d:List AObj):Prop:=RT (.tup a) b c d
abbrev Q54 (a:Nat)(b:List TV)(c:TV):Prop:=Q51 a b c []
abbrev Q58 (a b:Nat)(c:TV)(d:List AObj)(e:Nat)(f:List (Nat×TV))(g:List (Nat×AObj))(h:Nat):Prop:=RPt Tryz.prog a b c d e ⟨f,g,h⟩
abbrev Q59 (a b c d:Nat)(e:WV)(f:Int):List WV:=[Q9 a b c d,e,Q2 f]
abbrev Q61 (a:Nat)(b:RW):Nat×AObj:=(a,Q20 b)
abbrev Q62 (a b:Nat)(c:RW):Nat×TV:=Q5 a (Q8 b c)
abbrev Q63 (a:Bool)(b:TV)(c:List AObj):Prop:=Q40 a [] b c
abbrev Q64 (a b c d e f g h:Nat)(i:Int):List WV:=Q59 a b c d (Q3 e f g h) i
abbrev Q65 (a b c d:Nat)(e f:Int)(g:Nat)(h:RW)(i j:Int):List WV:=Q42 (Q9 a b c d) (Q2 e) f (Q8 g h) i (Q2 j)
abbrev Q66 (a:Nat)(b:List TV)(c:Bool):Prop:=Q54 a b (Q24 c)
abbrev Q67 (a:TV)(b:List AObj):Prop:=Q63 false a b
abbrev Q68 (a:List WV)(b:Bool×(List WV)):List (Bool×(List WV)):=[Q45 a,b]
abbrev Q69 (a:Nat)(b:RW):Nat×AObj:=(a,Q22 b)
abbrev Q70 (a:Nat)(b:RW):TV:= .c (Q8 a b)
abbrev Q71 (a b c d e:Nat):Nat×AObj:=(a,Q36 b c d e)
abbrev Q72 (a:Int)(b:List AObj)(c:TV)(d:List AObj):Prop:=RT (Q25 a) b c d
abbrev Q73 (a b:Nat)(c:RW):Nat×AObj:=(a, .arz b c)
abbrev Q74 (a b:Nat)(c:Int)(d:List UInt8)(e:Int)(f:Nat)(g:RW):Nat×AObj:=Q28 a b (Q21 c d e f g)
abbrev Q75 (a b c d e f g h i:Nat)(j:Int):AObj:=Q7 a (Q64 b c d e f g h i j)
abbrev Q76 (a:Int)(b c d e f g h i:WV):List WV:=[Q2 a,b,c,d,e,f,g,h,i]
abbrev Q77 (a:Nat)(b:List TV)(c:List AObj)(d:List (Bool×(List WV)))(e:List AObj):Prop:=Q10 a b c (.tup d) e
abbrev Q79 (a b:List WV):List (Bool×(List WV)):=Q68 a (Q19 b)
abbrev Q82 (a b c:Nat×TV)(d:Nat)(e:Int):List (Nat×TV):=[a,b,c,Q18 d e]
abbrev Q83 (a:Int)(b:List UInt8)(c:Int)(d:RW):TV:= .agg (Q21 a b c 4 d)
abbrev Q85 (a b:Nat):TV:= .c (Q9 a b 0 0)
abbrev Q87 (a:Nat):TV:=Q85 0 a
abbrev Q88 (a:Nat)(b c:TV):List TV:=[Q87 a,b,c]
abbrev Q89 (a b:Nat)(c:Int)(d:List UInt8)(e:Int):Nat×AObj:=Q28 a b (Q47 c d e)
abbrev Q90 (a b c d e:Nat)(f g:Int)(h:Nat)(i:RW)(j k:Int):AObj:=Q7 a (Q65 b c d e f g h i j k)
abbrev Q91 (a b c d:Nat)(e f:RW):List AObj:=[Q36 a b c d, .gone, .gone,Q22 e,Q20 f]
abbrev Q92 (a b c d:AObj)(e:RW)(f:AObj):List AObj:=[a,b,c,d,Q22 e,f]
abbrev Q93 (a b:Bool×(List WV))(c:Int):List (Bool×(List WV)):=[a,b,Q31 c]
abbrev Q96 (a b c d:AObj)(e:Nat)(f:RW):List AObj:=[a,b,c,d, .arz e f]
abbrev Q97 (a b c d e:Nat):Nat×TV:=Q5 a (Q3 b c d e)
abbrev Q98 (a b:Nat):Nat×TV:=Q49 a b 4
abbrev Q99 (a:TV)(b:Int):List TV:=[a,Q25 b]
abbrev Q100 (a:Int):AObj:=Q7 1 (Q30 a)
abbrev Q101 (a:Bool×(List WV))(b c:Int):List (Bool×(List WV)):=Q93 a (Q31 b) c
abbrev Q105 (a:Int)(b:AObj):List AObj:=[Q100 a,b]
abbrev Q107 (a b:Nat)(c d:RW):List AObj:=Q38 (Q36 1 a 2 b) (Q22 c) d
abbrev Q112 (a:AObj)(b c d e:Nat)(f g:RW)(h:Nat)(i:RW):List AObj:=[a,Q36 b c d e, .gone, .gone, .gone,Q22 f,Q20 g, .arz h i]
abbrev Q113 (a:Int)(b:Bool)(c:Int)(d:List UInt8)(e:Int)(f:WV):List WV:=Q42 (Q2 a) (Q11 b) c (Q6 d) e f
abbrev Q114 (a b:Nat×TV)(c:Nat)(d:Int)(e:Nat)(f:Int):List (Nat×TV):=Q82 a b (Q18 c d) e f
abbrev Q115 (a:TV)(b:WV):List TV:=[a, .c b]
abbrev Q116 (a:Bool):List WV:=[Q11 a]
abbrev Q117 (a:List WV)(b:Bool):List (Bool×(List WV)):=Q79 a (Q116 b)
abbrev Q118 (a b:Nat)(c:Int):Nat×AObj:=Q28 a b (Q30 c)
abbrev Q119 (a:Nat)(b:Int)(c:List UInt8)(d:Int)(e:Nat)(f:RW):AObj:=Q7 a (Q21 b c d e f)
abbrev Q120 (a:Nat):Nat×TV:=Q5 a Q37
abbrev Q122 (a b:Nat):AV:= .ep a b 0 0
abbrev Q123 (a:Nat):AV:=Q122 a 1
abbrev Q124 (a:RW):WV:=Q8 4 a
abbrev Q125 (a:Int)(b:Bool)(c:Int)(d:List UInt8)(e:Int)(f:RW):List WV:=Q113 a b c d e (Q124 f)
abbrev Q127 (a:Int)(b c:WV)(d:RW)(e f g:WV)(h:RW)(i:WV):List WV:=Q76 a b c (Q124 d) e f g (Q124 h) i
abbrev Q128 (a:Int)(b c:WV)(d:RW)(e f g:WV)(h i:RW):List WV:=Q127 a b c d e f g h (Q124 i)
abbrev Q129 (a:List WV)(b:Int):List (Bool×(List WV)):=Q68 a (Q31 b)
abbrev Q130 (a b c d e:Nat)(f g:Int)(h:Nat)(i:RW)(j k:Int)(l m n o:Nat)(p q:RW):List AObj:=[Q90 a b c d e f g h i j k,Q36 l m n o,Q22 p,Q20 q]
abbrev Q131 (a b:Nat×TV)(c:Nat)(d:Int):List (Nat×TV):=[a,b,Q18 c d]
abbrev Q132 (a:List WV)(b c:Int):List (Bool×(List WV)):=Q101 (Q45 a) b c
abbrev Q133 (a:Nat)(b:RW)(c:WV):List TV:=Q115 (Q70 a b) c
abbrev Q134 (a:Nat×TV)(b:Nat)(c:WV)(d:Nat)(e:Int)(f:Nat)(g:Int):List (Nat×TV):=Q114 a (Q5 b c) d e f g
theorem hP:Tryz.prog.follows .mixedOrders=true:=by kernel_rfl
def sh:FuncId→List Sh
 | 7=> [⟨Sto×Sto,fun _=>(.tup [Q19 [Q9 0 2 0 0],Q19 [Q9 3 2 0 0]]),fun x _=>(Q92 (Q36 1 (length x.1.V) 2 (length x.1.T)) (Q22 (SR x.1.V)) (Q20 (IR x.1.T)) (Q36 4 (length x.2.V) 5 (length x.2.T)) (SR x.2.V) (Q20 (IR x.2.T))),false,false,[]⟩]
 | 9=> [⟨(Int×Int)×Sto,fun x=>(.tup [Q31 x.1.1,Q31 x.1.2]),fun x _=>(Q91 3 (length x.2.V) 4 (length x.2.T) (SR x.2.V) (IR x.2.T)),true,false,[]⟩]
 | 11=> [⟨Tm×Int×Int,fun x=>(.tup (Q132 (cT x.1) x.2.1 x.2.2)),fun _ H=>H,true,false,[]⟩]
 | 13=> [⟨Unit,fun _=>(Q87 2),fun _ _=>(Q107 0 0 [] []),false,false,[]⟩]
 | 14=> [⟨Int×Sto,fun x=>(Q25 x.1),fun x _=>(Q91 3 (length x.2.V) 4 (length x.2.T) (SR x.2.V) (IR x.2.T)),false,false,[]⟩]
 | 15=> [⟨Tm,fun x=>(aT x),fun _ H=>H,true,false,[]⟩]
 | 16=> [⟨Sto,fun _=>(.tup []),fun x _=>(Q91 3 (length x.V) 4 (length x.T) (SR x.V) (IR x.T)),false,false,[]⟩]
 | 17=> [⟨Tm,fun x=>(aT x),fun _ H=>H,true,false,[]⟩]
 | 20=> [⟨Int×Sto,fun x=>(Q25 x.1),fun x _=>(Q91 3 (length x.2.V) 4 (length x.2.T) (SR x.2.V) (IR x.2.T)),false,false,[]⟩]
 | 21=> [⟨Int×Sto,fun x=>(Q25 x.1),fun x _=>(Q91 3 (length x.2.V) 4 (length x.2.T) (SR x.2.V) (IR x.2.T)),false,false,[]⟩]
 | 22=> [⟨Int×Sto,fun x=>(Q25 x.1),fun x _=>(Q91 3 (length x.2.V) 4 (length x.2.T) (SR x.2.V) (IR x.2.T)),false,false,[]⟩]
 | 23=> [⟨(Int×Int)×Sto,fun x=>(.tup [Q31 x.1.1,Q31 x.1.2]),fun x _=>(Q91 3 (length x.2.V) 4 (length x.2.T) (SR x.2.V) (IR x.2.T)),true,false,[]⟩]
 | 25=> [⟨Int×Bool×Tm×Bool,fun x=>(.tup (Q117 (Q125 x.1 x.2.1 x.2.2.1.k x.2.2.1.s x.2.2.1.n (FTs x.2.2.1.l)) x.2.2.2)),fun _ H=>H,true,false,[]⟩]
 | 27=> [⟨Tm×Int×Int,fun x=>(.tup (Q132 (cT x.1) x.2.1 x.2.2)),fun _ H=>H,true,false,[]⟩]
 | 28=> [⟨Tm×Int×Int,fun x=>(.tup (Q129 (cT x.1) x.2.1)),fun x H=>List.set H 3 (Q100 x.2.2),true,false,[]⟩]
 | 29=> [⟨Tm,fun x=>(aT x),fun _ H=>H,true,false,[]⟩]
 | 30=> [⟨List Tm,fun x=>(Q70 4 (FTs x)),fun _ H=>H,true,false,[]⟩]
 | 31=> [⟨Nat,fun x=>(.c (Q3 0 1 0 x)),fun _ H=>H,false,true,[]⟩]
 | 40=> [⟨RW,fun _=>(.c (.fn (.func 58) [] [(false,[(Q123 0)])])),fun x _=> [Q7 1 [Q8 8 x]],true,false,[]⟩]
 | 41=> [⟨Int×Sto×Nat×RW×Int,fun x=>(Q25 x.1),fun x H=>bif Nat.beq H.length 5 then (Q112 (Q75 3 1 2 0 0 7 8 0 x.2.2.1 x.2.2.2.2) 5 (length x.2.1.V) 6 (length x.2.1.T) (SR x.2.1.V) (IR x.2.1.T) 8 x.2.2.2.1) else (Q92 (Q7 3 (Q59 1 2 0 0 Q37 x.2.2.2.2)) (Q36 4 (length x.2.1.V) 5 (length x.2.1.T)) .gone .gone (SR x.2.1.V) (Q20 (IR x.2.1.T))),true,false,[]⟩]
 | 42=> [⟨Tm×Int×Int,fun x=>(.tup (Q129 (cT x.1) x.2.1)),fun x H=>List.set H 3 (Q100 x.2.2),true,false,[]⟩]
 | 43=> [⟨Bool,fun x=>(.c (Q0 (.sl x 4 []))),fun _ _=> [],false,false,[]⟩,⟨RW,fun x=>(.c (Q3 0 4 0 (length x))),fun x _=> [.arz 4 x],false,false,[]⟩]
 | 44=> [⟨Tm,fun x=>(aT x),fun _ H=>H,true,false,[]⟩]
 | 45=> [⟨Unit,fun _=>(.c Q37),fun _ _=> [],false,false,[]⟩,⟨Unit,fun _=>(.c (Q3 0 4 0 0)),fun _ _=> [.arz 4 []],false,false,[]⟩]
 | 46=> [⟨Int,fun x=>(Q25 x),fun _ H=>H,true,true,[]⟩]
 | 49=> [⟨Bool,fun x=>(Q24 x),fun _ H=>H,true,true,[]⟩]
 | 51=> [⟨Int,fun _=>(.tup []),fun x _=> [Q100 x],false,false,[]⟩,⟨Unit,fun _=>(.tup []),fun _ _=> [Q7 1 [Q37]],false,false,[]⟩,⟨Nat×RW,fun _=>(.tup []),fun x _=> [Q7 1 [Q3 1 1 0 x.1],Q20 x.2],false,false,[]⟩,⟨Nat×RW,fun _=>(.tup []),fun x _=>(Q38 (Q7 1 [Q3 2 1 0 x.1]) .gone x.2),false,false,[]⟩]
 | 52=> [⟨Int,fun _=>(.tup []),fun x _=> [Q100 x],false,false,[]⟩]
 | 59=> [⟨Int×Sto×Nat×RW×Int,fun x=>(Q25 x.1),fun x _=>(Q112 (Q75 3 1 2 0 0 7 8 0 x.2.2.1 x.2.2.2.2) 5 (length x.2.1.V) 6 (length x.2.1.T) (SR x.2.1.V) (IR x.2.1.T) 8 x.2.2.2.1),true,false,[]⟩]
 | 60=> [⟨Tm×Bool×Int,fun x=>(.tup (Q93 (Q45 (cT x.1)) (Q19 (Q116 x.2.1)) x.2.2)),fun _ H=>H,true,false,[]⟩]
 | 61=> [⟨Tm×Bool,fun x=>(.tup (Q117 (cT x.1) x.2)),fun _ H=>H,true,false,[]⟩]
 | 68=> [⟨Int,fun x=>(Q25 x),fun _ H=>H,true,true,[]⟩]
 | 73=> [⟨Tm×Tm×List Tm×Int×Nat×Int,fun x=>(.tup (Q129 (Q128 x.1.k (Q6 x.1.s) (Q2 x.1.n) (FTs x.1.l) (Q2 x.2.1.k) (Q6 x.2.1.s) (Q2 x.2.1.n) (FTs x.2.1.l) (FTs x.2.2.1)) x.2.2.2.1)),fun x H=>List.set H 0 (Q75 3 1 2 0 0 4 8 0 x.2.2.2.2.1 x.2.2.2.2.2),true,false,[]⟩]
 | 74=> [⟨Sto×Nat×RW×Int,fun _=>(.tup []),fun x _=>(Q112 (Q75 3 1 2 0 0 7 8 0 x.2.1 x.2.2.2) 5 (length x.1.V) 6 (length x.1.T) (SR x.1.V) (IR x.1.T) 8 x.2.2.1),true,false,[]⟩]
 | 75=> [⟨Tm,fun x=>(aT x),fun _ H=>H,true,false,[]⟩]
 | 77=> [⟨Int×Sto×Nat×RW×Int,fun x=>(Q25 x.1),fun x _=>(Q112 (Q75 3 1 2 0 0 7 8 0 x.2.2.1 x.2.2.2.2) 5 (length x.2.1.V) 6 (length x.2.1.T) (SR x.2.1.V) (IR x.2.1.T) 8 x.2.2.2.1),true,false,[]⟩]
 | 78=> [⟨Int×Sto×Nat×RW×Int,fun x=>(Q25 x.1),fun x _=>(Q112 (Q75 3 1 2 0 0 7 8 0 x.2.2.1 x.2.2.2.2) 5 (length x.2.1.V) 6 (length x.2.1.T) (SR x.2.1.V) (IR x.2.1.T) 8 x.2.2.2.1),true,false,[]⟩]
 | 80=> [⟨Tm×Bool,fun x=>(.tup (Q117 (cT x.1) x.2)),fun _ H=>H,true,false,[]⟩]
 | 81=> [⟨Tm×Int,fun x=>(.tup (Q129 (cT x.1) x.2)),fun _ H=>H,true,false,[]⟩]
 | 83=> [⟨Tm,fun x=>(aT x),fun _ H=>H,true,false,[]⟩]
 | 89=> [⟨Tm×Int×Int,fun x=>(.tup (Q132 (cT x.1) x.2.1 x.2.2)),fun _ H=>H,true,false,[]⟩]
 | 90=> [⟨Tm,fun x=>(.tup (Q79 (cT x) [Q37])),fun _ _=> [],false,false,[]⟩,⟨Tm×List Tm,fun x=>(.tup (Q79 (cT x.1) [Q3 0 4 0 (length x.2)])),fun x _=> [.arz 4 (FTs x.2)],false,false,[]⟩]
 | 91=> [⟨List Tm,fun _=>(.c (.fn (.func 104) [] [(false,[(Q123 0)])])),fun x _=> [Q7 1 [Q124 (FTs x)]],true,false,[]⟩]
 | 92=> [⟨List Tm×Int×Nat×Int,fun x=>(.tup [Q19 [Q124 (FTs x.1)],Q31 x.2.1]),fun x H=>List.set H 0 (Q75 3 1 2 0 0 4 8 0 x.2.2.1 x.2.2.2),true,false,[]⟩]
 | 94=> [⟨Int×Sto,fun x=>(Q25 x.1),fun x _=>(Q91 3 (length x.2.V) 4 (length x.2.T) (SR x.2.V) (IR x.2.T)),true,false,[]⟩]
 | 95=> [⟨Int×Sto×Nat×RW×Int,fun x=>(Q25 x.1),fun x _=>(Q112 (Q75 3 1 2 0 0 7 8 0 x.2.2.1 x.2.2.2.2) 5 (length x.2.1.V) 6 (length x.2.1.T) (SR x.2.1.V) (IR x.2.1.T) 8 x.2.2.2.1),true,false,[]⟩]
 | 97=> [⟨Tm×Int,fun x=>(.tup (Q129 (cT x.1) x.2)),fun _ H=>H,true,false,[]⟩]
 | 99=> [⟨Tm,fun x=>(aT x),fun _ H=>H,true,false,[]⟩]
 | 100=> [⟨Tm,fun x=>(aT x),fun _ H=>H,true,false,[]⟩]
 | 101=> [⟨Tm,fun x=>(aT x),fun _ H=>H,true,false,[]⟩]
 | 105=> [⟨List Tm×Int×Int,fun x=>(.tup (Q101 (Q19 [Q124 (FTs x.1)]) x.2.1 x.2.2)),fun _ H=>H,true,false,[]⟩]
 | 107=> [⟨Tm,fun x=>(aT x),fun _ H=>H,true,false,[]⟩]
 | 108=> [⟨Tm×Sto,fun x=>(aT x.1),fun x _=>(Q91 3 (length x.2.V) 4 (length x.2.T) (SR x.2.V) (IR x.2.T)),true,false,[]⟩]
 | 109=> [⟨(Tm×Int×Int)×Sto,fun x=>(.tup (Q132 (cT x.1.1) x.1.2.1 x.1.2.2)),fun x _=>(Q91 3 (length x.2.V) 4 (length x.2.T) (SR x.2.V) (IR x.2.T)),true,false,[]⟩]
 | 112=> [⟨Tm,fun x=>(aT x),fun _ H=>H,true,false,[]⟩]
 | 118=> [⟨Tm×Bool,fun x=>(.tup (Q117 (cT x.1) x.2)),fun _ H=>H,true,false,[]⟩]
 | 121=> [⟨Tm,fun x=>(aT x),fun _ H=>H,true,false,[]⟩]
 | 124=> [⟨Tm×Sto×Int×Int×List Tm×Int×Int,fun x=>(aT x.1),fun x _=>(Q92 (Q90 6 1 2 0 0 x.2.2.1 x.2.2.2.1 4 (FTs x.2.2.2.2.1) x.2.2.2.2.2.1 x.2.2.2.2.2.2) (Q36 4 (length x.2.1.V) 5 (length x.2.1.T)) .gone .gone (SR x.2.1.V) (Q20 (IR x.2.1.T))),true,false,[]⟩]
 | 125=> [⟨Tm,fun x=>(aT x),fun _ H=>H,true,false,[]⟩]
 | 127=> [⟨Int×Int×List Tm×Int×Int,fun _=>(Q83 0 [] 0 []),fun x H=>List.set H 0 (Q90 6 1 2 0 0 x.1 x.2.1 4 (FTs x.2.2.1) x.2.2.2.1 x.2.2.2.2),true,false,[]⟩]
 | 128=> [⟨Tm×Sto×Int×Int×List Tm×Int×Int,fun x=>(aT x.1),fun x _=>(Q92 (Q90 6 1 2 0 0 x.2.2.1 x.2.2.2.1 4 (FTs x.2.2.2.2.1) x.2.2.2.2.2.1 x.2.2.2.2.2.2) (Q36 4 (length x.2.1.V) 5 (length x.2.1.T)) .gone .gone (SR x.2.1.V) (Q20 (IR x.2.1.T))),true,false,[]⟩]
 | 129=> [⟨Tm×Bool,fun x=>(.tup (Q117 (cT x.1) x.2)),fun _ H=>H,true,false,[]⟩]
 | _=> []
abbrev VQ (l:List (Nat×List Nat))(f m:Nat)(r:TV)(H:List AObj)(p:Nat)(s:St):Prop:=vcP Tryz.prog sh l f m (fun r0 Hs0=>TV.Le r0 r∧Hs0=H) (RPt Tryz.prog f m r H) p s
abbrev VE (l:List (Nat×List Nat))(f m:Nat)(r:TV)(H:List AObj)(a:List TV)(h:List AObj):Prop:=vcE Tryz.prog sh l f a h (fun r0 Hs0=>TV.Le r0 r∧Hs0=H) (RPt Tryz.prog f m r H)
def lv3:List (Nat×List Nat):=[]
theorem v3 (v:RW)(j:Int)(k:List UInt8)(l:Int)(m:RW)(n:Int)(o:List UInt8)(p:Int)(q:RW)(g:Int)(r:TV)(b:List AObj):VE lv3 3 0 r b [Q70 6 v,Q83 j k l m,Q83 n o p q,Q25 g] []=
  (∃ s:Bool,((Q66 4 [] s)∧(br (!s) (Q67 r b) (∃ J:Bool,((Q66 5 [Q70 6 v] J)∧(((4:Nat)=4∧2≤2)∧(∃ K:Bool,((Q66 6 [Q70 4 [[(Q1 j),(.str k),(Q1 l),(Q4 4 m)],[(Q1 n),(.str o),(Q1 p),(Q4 4 q)]]] K)∧((true=true)∧(br J (Q63 s r b) (br K (Q63 s r b) (br (decide ((g:Int)>(150:Int))) (Q63 s r b) (∃ f:Sto×Sto,((Q51 7 [Q70 6 v] (.tup [Q19 [Q9 0 2 0 0],Q19 [Q9 3 2 0 0]]) (Q92 (Q36 1 (length f.1.V) 2 (length f.1.T)) (Q22 (SR f.1.V)) (Q20 (IR f.1.T)) (Q36 4 (length f.2.V) 5 (length f.2.T)) (SR f.2.V) (Q20 (IR f.2.T))))∧(∃ L:Int,(∃ M:Int,((Q10 8 [Q87 2] (Q107 (length f.1.V) (length f.1.T) (SR f.1.V) (IR f.1.T)) (.agg [Q2 L,Q2 M]) (Q107 (length f.1.V) (length f.1.T) (SR f.1.V) (IR f.1.T)))∧(∃ a:(Int×Int)×Sto,((Q77 9 [Q87 2,Q83 j k l m,Q83 n o p q,Q25 g] (Q107 (length f.1.V) (length f.1.T) (SR f.1.V) (IR f.1.T)) [Q31 a.1.1,Q31 a.1.2] (Q91 3 (length a.2.V) 4 (length a.2.T) (SR a.2.V) (IR a.2.T)))∧(br ((a.1.2:Int) !=(0:Int)) (∃ N:Bool,((Q10 10 [Q87 2,Q85 3 2] (Q92 (Q36 1 (length a.2.V) 2 (length a.2.T)) (Q22 (SR a.2.V)) (Q20 (IR a.2.T)) (Q36 4 (length f.2.V) 5 (length f.2.T)) (SR f.2.V) (Q20 (IR f.2.T))) (Q24 N) (Q92 (Q36 1 (length a.2.V) 2 (length a.2.T)) (Q22 (SR a.2.V)) (Q20 (IR a.2.T)) (Q36 4 (length f.2.V) 5 (length f.2.T)) (SR f.2.V) (Q20 (IR f.2.T))))∧(br s (br N (∃ I:Int,(∃ t:Int,((Q10 8 [Q87 2] (Q107 (length a.2.V) (length a.2.T) (SR a.2.V) (IR a.2.T)) (.agg [Q2 I,Q2 t]) (Q107 (length a.2.V) (length a.2.T) (SR a.2.V) (IR a.2.T)))∧(br (((I:Int)==L)&&(((t:Int)==M)&&true)) (Q63 ((a.1.1:Int)==(0:Int)) r b) (Q67 r b))))) (Q67 r b)) (Q67 r b)))) (∃ h:Tm×Int×Int,((Q77 11 (Q88 2 (Q83 j k l m) (Q25 2000)) (Q107 (length a.2.V) (length a.2.T) (SR a.2.V) (IR a.2.T)) (Q132 (cT h.1) h.2.1 h.2.2) (Q107 (length a.2.V) (length a.2.T) (SR a.2.V) (IR a.2.T)))∧(∃ i:Tm×Int×Int,((Q77 11 (Q88 2 (Q83 n o p q) (Q25 2000)) (Q107 (length a.2.V) (length a.2.T) (SR a.2.V) (IR a.2.T)) (Q132 (cT i.1) i.2.1 i.2.2) (Q107 (length a.2.V) (length a.2.T) (SR a.2.V) (IR a.2.T)))∧(∃ B:Bool,((Q66 12 [(aT h.1),(aT i.1)] B)∧(br ((h.2.2:Int)==(0:Int)) (br ((i.2.2:Int)==(0:Int)) (br (!B) (Q67 r b) (∃ C:Int,(∃ D:Int,((Q10 8 [Q87 2] (Q107 (length a.2.V) (length a.2.T) (SR a.2.V) (IR a.2.T)) (.agg [Q2 C,Q2 D]) (Q107 (length a.2.V) (length a.2.T) (SR a.2.V) (IR a.2.T)))∧(∃ c:(Int×Int)×Sto,((Q77 9 [Q87 2,Q83 j k l m,Q83 n o p q,Q25 2000] (Q107 (length a.2.V) (length a.2.T) (SR a.2.V) (IR a.2.T)) [Q31 c.1.1,Q31 c.1.2] (Q91 3 (length c.2.V) 4 (length c.2.T) (SR c.2.V) (IR c.2.T)))∧(br s (br (decide ((a.1.1:Int)≤g)) (br ((h.2.2:Int) !=(0:Int)) (Q63 true r b) (br ((i.2.2:Int) !=(0:Int)) (Q63 true r b) (br ((c.1.2:Int)==(0:Int)) (∃ u:Int,(∃ w:Int,((Q10 8 [Q87 2] (Q107 (length c.2.V) (length c.2.T) (SR c.2.V) (IR c.2.T)) (.agg [Q2 u,Q2 w]) (Q107 (length c.2.V) (length c.2.T) (SR c.2.V) (IR c.2.T)))∧(br (((u:Int)==C)&&(((w:Int)==D)&&true)) (Q63 true r b) (Q63 ((c.1.2:Int)==(80:Int)) r b))))) (Q63 ((c.1.2:Int)==(80:Int)) r b)))) (Q67 r b)) (Q67 r b)))))))) (∃ E:Int,(∃ F:Int,((Q10 8 [Q87 2] (Q107 (length a.2.V) (length a.2.T) (SR a.2.V) (IR a.2.T)) (.agg [Q2 E,Q2 F]) (Q107 (length a.2.V) (length a.2.T) (SR a.2.V) (IR a.2.T)))∧(∃ d:(Int×Int)×Sto,((Q77 9 [Q87 2,Q83 j k l m,Q83 n o p q,Q25 2000] (Q107 (length a.2.V) (length a.2.T) (SR a.2.V) (IR a.2.T)) [Q31 d.1.1,Q31 d.1.2] (Q91 3 (length d.2.V) 4 (length d.2.T) (SR d.2.V) (IR d.2.T)))∧(br s (br (decide ((a.1.1:Int)≤g)) (br ((h.2.2:Int) !=(0:Int)) (Q63 true r b) (br ((i.2.2:Int) !=(0:Int)) (Q63 true r b) (br ((d.1.2:Int)==(0:Int)) (∃ x:Int,(∃ y:Int,((Q10 8 [Q87 2] (Q107 (length d.2.V) (length d.2.T) (SR d.2.V) (IR d.2.T)) (.agg [Q2 x,Q2 y]) (Q107 (length d.2.V) (length d.2.T) (SR d.2.V) (IR d.2.T)))∧(br (((x:Int)==E)&&(((y:Int)==F)&&true)) (Q63 true r b) (Q63 ((d.1.2:Int)==(80:Int)) r b))))) (Q63 ((d.1.2:Int)==(80:Int)) r b)))) (Q67 r b)) (Q67 r b)))))))) (∃ G:Int,(∃ H:Int,((Q10 8 [Q87 2] (Q107 (length a.2.V) (length a.2.T) (SR a.2.V) (IR a.2.T)) (.agg [Q2 G,Q2 H]) (Q107 (length a.2.V) (length a.2.T) (SR a.2.V) (IR a.2.T)))∧(∃ e:(Int×Int)×Sto,((Q77 9 [Q87 2,Q83 j k l m,Q83 n o p q,Q25 2000] (Q107 (length a.2.V) (length a.2.T) (SR a.2.V) (IR a.2.T)) [Q31 e.1.1,Q31 e.1.2] (Q91 3 (length e.2.V) 4 (length e.2.T) (SR e.2.V) (IR e.2.T)))∧(br s (br (decide ((a.1.1:Int)≤g)) (br ((h.2.2:Int) !=(0:Int)) (Q63 true r b) (br ((i.2.2:Int) !=(0:Int)) (Q63 true r b) (br ((e.1.2:Int)==(0:Int)) (∃ z:Int,(∃ A:Int,((Q10 8 [Q87 2] (Q107 (length e.2.V) (length e.2.T) (SR e.2.V) (IR e.2.T)) (.agg [Q2 z,Q2 A]) (Q107 (length e.2.V) (length e.2.T) (SR e.2.V) (IR e.2.T)))∧(br (((z:Int)==G)&&(((A:Int)==H)&&true)) (Q63 true r b) (Q63 ((e.1.2:Int)==(80:Int)) r b))))) (Q63 ((e.1.2:Int)==(80:Int)) r b)))) (Q67 r b)) (Q67 r b)))))))))))))))))))))))))))))))))):=by kernel_rfl
def lv4:List (Nat×List Nat):=[]
theorem v4  (r:TV) (f:List AObj):VE lv4 4 0 r f [] []=
  (∃ _:Unit,((Q51 13 [] (Q87 2) (Q107 0 0 [] []))∧(∃ c:Int×Sto,((Q10 14 (Q99 (Q87 2) 0) (Q107 0 0 [] []) (Q25 c.1) (Q91 3 (length c.2.V) 4 (length c.2.T) (SR c.2.V) (IR c.2.T)))∧(∃ q:Int,(∃ s:Int,((Q10 8 [Q87 2] (Q107 (length c.2.V) (length c.2.T) (SR c.2.V) (IR c.2.T)) (.agg [Q2 q,Q2 s]) (Q107 (length c.2.V) (length c.2.T) (SR c.2.V) (IR c.2.T)))∧(((4:Nat)=4∧1≤1)∧(∃ t:Tm,((Q54 15 [.agg (Q47 0 [102] 0),Q70 4 [[(Q1 4),(.str []),(Q1 c.1), .N]]] (aT t))∧(((4:Nat)=4∧1≤1)∧(∃ u:Tm,((Q54 15 [.agg (Q47 0 [102] 0),Q70 4 [[(Q1 0),(.str [97]),(Q1 0), .N]]] (aT u))∧(((4:Nat)=4∧1≤1)∧(∃ v:Tm,((Q54 15 [.agg (Q47 0 [102] 0),Q70 4 [(FT4 u)]] (aT v))∧(∃ d:(Int×Int)×Sto,((Q77 9 [Q87 2,(aT t),(aT v),Q25 20] (Q107 (length c.2.V) (length c.2.T) (SR c.2.V) (IR c.2.T)) [Q31 d.1.1,Q31 d.1.2] (Q91 3 (length d.2.V) 4 (length d.2.T) (SR d.2.V) (IR d.2.T)))∧(∃ p:Tm×Int×Int,((Q77 11 (Q88 2 (.agg (Q47 4 [] c.1)) (Q25 9)) (Q107 (length d.2.V) (length d.2.T) (SR d.2.V) (IR d.2.T)) (Q132 (cT p.1) p.2.1 p.2.2) (Q107 (length d.2.V) (length d.2.T) (SR d.2.V) (IR d.2.T)))∧(((4:Nat)=4∧1≤1)∧(∃ i:Tm,((Q54 15 [.agg (Q47 0 [102] 0),Q70 4 [[(Q1 0),(.str [97]),(Q1 0), .N]]] (aT i))∧(∃ j:Bool,((Q66 12 [(aT p.1),(aT i)] j)∧(∃ e:Sto,((Q77 16 [Q87 2, .agg [Q2 q,Q2 s]] (Q107 (length d.2.V) (length d.2.T) (SR d.2.V) (IR d.2.T)) [] (Q91 3 (length e.V) 4 (length e.T) (SR e.V) (IR e.T)))∧(∃ k:Tm,((Q54 17 [Q25 1, .agg (Q47 4 [] c.1)] (aT k))∧(((4:Nat)=4∧1≤1)∧(∃ l:Tm,((Q54 15 [.agg (Q47 0 [102] 0),Q70 4 [[(Q1 3),(.str []),(Q1 0), .N]]] (aT l))∧(∃ m:Tm,((Q54 17 [Q25 1,(aT l)] (aT m))∧(∃ b:(Int×Int)×Sto,((Q77 9 [Q87 2,(aT k),(aT m),Q25 20] (Q107 (length e.V) (length e.T) (SR e.V) (IR e.T)) [Q31 b.1.1,Q31 b.1.2] (Q91 3 (length b.2.V) 4 (length b.2.T) (SR b.2.V) (IR b.2.T)))∧(((4:Nat)=4∧1≤1)∧(∃ n:Tm,((Q54 15 [.agg (Q47 4 [] c.1),Q70 4 [[(Q1 0),(.str [97]),(Q1 0), .N]]] (aT n))∧(((4:Nat)=4∧1≤1)∧(∃ o:Tm,((Q54 15 [.agg (Q47 0 [102] 0),Q70 4 [[(Q1 0),(.str [97]),(Q1 0), .N]]] (aT o))∧(∃ a:(Int×Int)×Sto,((Q77 9 [Q87 2,(aT n),(aT o),Q25 20] (Q107 (length b.2.V) (length b.2.T) (SR b.2.V) (IR b.2.T)) [Q31 a.1.1,Q31 a.1.2] (Q91 3 (length a.2.V) 4 (length a.2.T) (SR a.2.V) (IR a.2.T)))∧(br ((d.1.2:Int)==(0:Int)) (br j (br ((b.1.2:Int)==(170:Int)) (br ((a.1.2:Int)==(171:Int)) (∃ g:Int,(∃ h:Int,((Q10 8 [Q87 2] (Q107 (length a.2.V) (length a.2.T) (SR a.2.V) (IR a.2.T)) (.agg [Q2 g,Q2 h]) (Q107 (length a.2.V) (length a.2.T) (SR a.2.V) (IR a.2.T)))∧(Q63 (((g:Int)==q)&&(((h:Int)==s)&&true)) r f)))) (Q67 r f)) (Q67 r f)) (Q67 r f)) (Q67 r f)))))))))))))))))))))))))))))))))))))))))))))):=by kernel_rfl
def lv5:List (Nat×List Nat):=[(1,[0,3])]
theorem v5 (l:RW)(r:TV)(a:List AObj):VE lv5 5 0 r a [Q70 6 l] []=
  ((FV.L 6 (Q4 6 l)=true)∧(br (decide (((length l:Int):Int)>(8:Int))) (Q63 true r a) (Q58 5 0 r a 1 [Q62 0 6 l,Q18 3 0] [] 0))):=by kernel_rfl
theorem v5_1a (a:RW)(b:Int)(r:TV)(c:List AObj):VQ lv5 5 0 r c 1 ⟨[Q62 0 6 a,Q18 3 b],[],0⟩=
  ((FV.L 6 (Q4 6 a)=true)∧(br (decide ((b:Int)<(length a:Int))) (((FV.L 6 (Q4 6 a)=true)∧((0≤b)∧((b<(length a:Int))∧(([(Q1 (FV.I (getD (getD a (toNat b) []) 0 FV.N))),(.bool (FV.asB (getD (getD a (toNat b) []) 1 FV.N))),(Q1 (FV.I (getD (getD a (toNat b) []) 2 FV.N))),(.str (FV.S (getD (getD a (toNat b) []) 3 FV.N))),(Q1 (FV.I (getD (getD a (toNat b) []) 4 FV.N))),(getD (getD a (toNat b) []) 5 FV.N)]:List FV)=(getD a (toNat b) [])))))∧(∃ d:Bool,((Q66 18 (Q99 (.agg (Q14 (FV.I (getD (getD a (toNat b) []) 2 FV.N)) (FV.S (getD (getD a (toNat b) []) 3 FV.N)) (FV.I (getD (getD a (toNat b) []) 4 FV.N)) (Q0 (getD (getD a (toNat b) []) 5 FV.N)))) 12) d)∧(((FV.L 6 (Q4 6 a)=true)∧((0≤b)∧((b<(length a:Int))∧(([(Q1 (FV.I (getD (getD a (toNat b) []) 0 FV.N))),(.bool (FV.asB (getD (getD a (toNat b) []) 1 FV.N))),(Q1 (FV.I (getD (getD a (toNat b) []) 2 FV.N))),(.str (FV.S (getD (getD a (toNat b) []) 3 FV.N))),(Q1 (FV.I (getD (getD a (toNat b) []) 4 FV.N))),(getD (getD a (toNat b) []) 5 FV.N)]:List FV)=(getD a (toNat b) [])))))∧(∃ e:Bool,((Q66 19 (Q99 (.agg (Q14 (FV.I (getD (getD a (toNat b) []) 2 FV.N)) (FV.S (getD (getD a (toNat b) []) 3 FV.N)) (FV.I (getD (getD a (toNat b) []) 4 FV.N)) (Q0 (getD (getD a (toNat b) []) 5 FV.N)))) 1000) e)∧(br d (Q63 true r c) (br (!e) (Q63 true r c) (Q58 5 0 r c 1 [Q62 0 6 a,Q18 3 (IntKind.wrap .i64 (b+1))] [] 0))))))))) (Q67 r c))):=by kernel_rfl
def lv6:List (Nat×List Nat):=[(1,[0,3])]
theorem v6 (l:RW)(r:TV)(a:List AObj):VE lv6 6 0 r a [Q70 4 l] []=
  ((FV.L 4 (Q4 4 l)=true)∧(br (decide (((length l:Int):Int)>(8:Int))) (Q63 true r a) (Q58 6 0 r a 1 [Q62 0 4 l,Q18 3 0] [] 0))):=by kernel_rfl
theorem v6_1a (a:RW)(b:Int)(r:TV)(c:List AObj):VQ lv6 6 0 r c 1 ⟨[Q62 0 4 a,Q18 3 b],[],0⟩=
  ((FV.L 4 (Q4 4 a)=true)∧(br (decide ((b:Int)<(length a:Int))) (((FV.L 4 (Q4 4 a)=true)∧((0≤b)∧((b<(length a:Int))∧(((rE (getD a (toNat b) [])):List FV)=(getD a (toNat b) [])))))∧(∃ d:Bool,((Q66 18 (Q99 (aE (getD a (toNat b) [])) 24) d)∧(((FV.L 4 (Q4 4 a)=true)∧((0≤b)∧((b<(length a:Int))∧(((rE (getD a (toNat b) [])):List FV)=(getD a (toNat b) [])))))∧(∃ e:Bool,((Q66 19 (Q99 (aE (getD a (toNat b) [])) 1000) e)∧(br d (Q63 true r c) (br (!e) (Q63 true r c) (Q58 6 0 r c 1 [Q62 0 4 a,Q18 3 (IntKind.wrap .i64 (b+1))] [] 0))))))))) (Q67 r c))):=by kernel_rfl
def lv7:List (Nat×List Nat):=[(1,[0,4,5,6]),(5,[0,4,5,7])]
theorem v7 (l:RW)(r:TV)(a:List AObj):VE lv7 7 0 r a [Q70 6 l] []=
  (∃ _:Unit,((Q51 13 [] (Q87 2) (Q107 0 0 [] []))∧(Q58 7 0 r a 1 (Q82 (Q62 0 6 l) (Q49 4 0 2) (Q49 5 3 2) 6 0) [Q71 0 1 0 2 0,Q69 1 [],Q61 2 [],Q71 3 4 0 5 0,Q69 4 [],Q61 5 []] 6))):=by kernel_rfl
theorem v7_1a (a:RW)(b:Int)(h0_0l h0_1l:Nat)(h1 h2:RW)(h3_0l h3_1l:Nat)(h4 h5:RW)(r:TV)(e:List AObj):VQ lv7 7 0 r e 1 ⟨Q82 (Q62 0 6 a) (Q49 4 0 2) (Q49 5 3 2) 6 b,[Q71 0 1 h0_0l 2 h0_1l,Q69 1 h1,Q61 2 h2,Q71 3 4 h3_0l 5 h3_1l,Q69 4 h4,Q61 5 h5],6⟩=
  ((FV.L 6 (Q4 6 a)=true)∧(br (decide ((b:Int)<(length a:Int))) (((FV.L 6 (Q4 6 a)=true)∧((0≤b)∧((b<(length a:Int))∧(([(Q1 (FV.I (getD (getD a (toNat b) []) 0 FV.N))),(.bool (FV.asB (getD (getD a (toNat b) []) 1 FV.N))),(Q1 (FV.I (getD (getD a (toNat b) []) 2 FV.N))),(.str (FV.S (getD (getD a (toNat b) []) 3 FV.N))),(Q1 (FV.I (getD (getD a (toNat b) []) 4 FV.N))),(getD (getD a (toNat b) []) 5 FV.N)]:List FV)=(getD a (toNat b) [])))))∧(∃ c:Int×Sto,((Q10 14 (Q99 (Q87 2) (FV.I (getD (getD a (toNat b) []) 0 FV.N))) (Q107 h0_0l h0_1l h1 h2) (Q25 c.1) (Q91 3 (length c.2.V) 4 (length c.2.T) (SR c.2.V) (IR c.2.T)))∧(((FV.L 6 (Q4 6 a)=true)∧((0≤b)∧((b<(length a:Int))∧(([(Q1 (FV.I (getD (getD a (toNat b) []) 0 FV.N))),(.bool (FV.asB (getD (getD a (toNat b) []) 1 FV.N))),(Q1 (FV.I (getD (getD a (toNat b) []) 2 FV.N))),(.str (FV.S (getD (getD a (toNat b) []) 3 FV.N))),(Q1 (FV.I (getD (getD a (toNat b) []) 4 FV.N))),(getD (getD a (toNat b) []) 5 FV.N)]:List FV)=(getD a (toNat b) [])))))∧(∃ d:Int×Sto,((Q10 20 (Q99 (Q87 2) (FV.I (getD (getD a (toNat b) []) 0 FV.N))) (Q107 h3_0l h3_1l h4 h5) (Q25 d.1) (Q91 3 (length d.2.V) 4 (length d.2.T) (SR d.2.V) (IR d.2.T)))∧(Q58 7 0 r e 1 (Q82 (Q62 0 6 a) (Q49 4 0 2) (Q49 5 3 2) 6 (IntKind.wrap .i64 (b+1))) [Q71 0 1 (length c.2.V) 2 (length c.2.T),Q69 1 (SR c.2.V),Q61 2 (IR c.2.T),Q71 3 4 (length d.2.V) 5 (length d.2.T),Q69 4 (SR d.2.V),Q61 5 (IR d.2.T)] 6))))))) (Q58 7 0 r e 5 (Q82 (Q62 0 6 a) (Q49 4 0 2) (Q49 5 3 2) 7 0) [Q71 0 1 h0_0l 2 h0_1l,Q69 1 h1,Q61 2 h2,Q71 3 4 h3_0l 5 h3_1l,Q69 4 h4,Q61 5 h5] 6))):=by kernel_rfl
theorem v7_5a (b:RW)(a:Int)(h0_0l h0_1l:Nat)(h1 h2:RW)(h3_0l h3_1l:Nat)(h4 h5:RW)(r:TV)(c:List AObj):VQ lv7 7 0 r c 5 ⟨Q82 (Q62 0 6 b) (Q49 4 0 2) (Q49 5 3 2) 7 a,[Q71 0 1 h0_0l 2 h0_1l,Q69 1 h1,Q61 2 h2,Q71 3 4 h3_0l 5 h3_1l,Q69 4 h4,Q61 5 h5],6⟩=
  ((FV.L 6 (Q4 6 b)=true)∧(br (decide ((a:Int)<(length b:Int))) (((FV.L 6 (Q4 6 b)=true)∧((0≤a)∧((a<(length b:Int))∧(([(Q1 (FV.I (getD (getD b (toNat a) []) 0 FV.N))),(.bool (FV.asB (getD (getD b (toNat a) []) 1 FV.N))),(Q1 (FV.I (getD (getD b (toNat a) []) 2 FV.N))),(.str (FV.S (getD (getD b (toNat a) []) 3 FV.N))),(Q1 (FV.I (getD (getD b (toNat a) []) 4 FV.N))),(getD (getD b (toNat a) []) 5 FV.N)]:List FV)=(getD b (toNat a) [])))))∧(br (FV.asB (getD (getD b (toNat a) []) 1 FV.N)) (((FV.L 6 (Q4 6 b)=true)∧((0≤a)∧((a<(length b:Int))∧(([(Q1 (FV.I (getD (getD b (toNat a) []) 0 FV.N))),(.bool (FV.asB (getD (getD b (toNat a) []) 1 FV.N))),(Q1 (FV.I (getD (getD b (toNat a) []) 2 FV.N))),(.str (FV.S (getD (getD b (toNat a) []) 3 FV.N))),(Q1 (FV.I (getD (getD b (toNat a) []) 4 FV.N))),(getD (getD b (toNat a) []) 5 FV.N)]:List FV)=(getD b (toNat a) [])))))∧(∃ d:Int×Sto,((Q10 21 (Q88 2 (Q25 a) (.agg (Q14 (FV.I (getD (getD b (toNat a) []) 2 FV.N)) (FV.S (getD (getD b (toNat a) []) 3 FV.N)) (FV.I (getD (getD b (toNat a) []) 4 FV.N)) (Q0 (getD (getD b (toNat a) []) 5 FV.N))))) (Q107 h0_0l h0_1l h1 h2) (Q25 d.1) (Q91 3 (length d.2.V) 4 (length d.2.T) (SR d.2.V) (IR d.2.T)))∧(((FV.L 6 (Q4 6 b)=true)∧((0≤a)∧((a<(length b:Int))∧(([(Q1 (FV.I (getD (getD b (toNat a) []) 0 FV.N))),(.bool (FV.asB (getD (getD b (toNat a) []) 1 FV.N))),(Q1 (FV.I (getD (getD b (toNat a) []) 2 FV.N))),(.str (FV.S (getD (getD b (toNat a) []) 3 FV.N))),(Q1 (FV.I (getD (getD b (toNat a) []) 4 FV.N))),(getD (getD b (toNat a) []) 5 FV.N)]:List FV)=(getD b (toNat a) [])))))∧(∃ e:Int×Sto,((Q10 22 (Q88 2 (Q25 a) (.agg (Q14 (FV.I (getD (getD b (toNat a) []) 2 FV.N)) (FV.S (getD (getD b (toNat a) []) 3 FV.N)) (FV.I (getD (getD b (toNat a) []) 4 FV.N)) (Q0 (getD (getD b (toNat a) []) 5 FV.N))))) (Q107 h3_0l h3_1l h4 h5) (Q25 e.1) (Q91 3 (length e.2.V) 4 (length e.2.T) (SR e.2.V) (IR e.2.T)))∧(Q58 7 0 r c 5 (Q82 (Q62 0 6 b) (Q49 4 0 2) (Q49 5 3 2) 7 (IntKind.wrap .i64 (a+1))) [Q71 0 1 (length d.2.V) 2 (length d.2.T),Q69 1 (SR d.2.V),Q61 2 (IR d.2.T),Q71 3 4 (length e.2.V) 5 (length e.2.T),Q69 4 (SR e.2.V),Q61 5 (IR e.2.T)] 6))))))) (Q58 7 0 r c 5 (Q82 (Q62 0 6 b) (Q49 4 0 2) (Q49 5 3 2) 7 (IntKind.wrap .i64 (a+1))) [Q71 0 1 h0_0l 2 h0_1l,Q69 1 h1,Q61 2 h2,Q71 3 4 h3_0l 5 h3_1l,Q69 4 h4,Q61 5 h5] 6))) (Q53 [Q19 [Q9 0 2 0 0],Q19 [Q9 3 2 0 0]] (Q92 (Q36 1 h0_0l 2 h0_1l) (Q22 h1) (Q20 h2) (Q36 4 h3_0l 5 h3_1l) h4 (Q20 h5)) r c))):=by kernel_rfl
def lv8:List (Nat×List Nat):=[]
theorem v8 (b a:Nat)(o1 o2:RW)(r:TV)(c:List AObj):VE lv8 8 3 r c [Q87 2] (Q107 b a o1 o2)=
  (RT (.agg [Q2 (a:Int),Q2 (b:Int)]) (Q107 b a o1 o2) r c):=by kernel_rfl
def lv9:List (Nat×List Nat):=[(1000001,[1,2])]
theorem v9 (c:Int)(d:List UInt8)(e:Int)(f:RW)(g:Int)(h:List UInt8)(i:Int)(j:RW)(b:Int)(o0_0l o0_1l:Nat)(o1 o2:RW)(r:TV)(k:List AObj):VE lv9 9 3 r k [Q87 2,Q83 c d e f,Q83 g h i j,Q25 b] (Q107 o0_0l o0_1l o1 o2)=
  (((8:Nat)=8∧1≤1)∧(∃ a:(Int×Int)×Sto,((Q77 23 (Q88 2 (Q70 8 [[(Q1 c),(.str d),(Q1 e),(Q4 4 f),(Q1 g),(.str h),(Q1 i),(Q4 4 j)]]) (Q25 b)) (Q107 o0_0l o0_1l o1 o2) [Q31 a.1.1,Q31 a.1.2] (Q91 3 (length a.2.V) 4 (length a.2.T) (SR a.2.V) (IR a.2.T)))∧(Q53 [Q31 a.1.1,Q31 a.1.2] (Q91 3 (length a.2.V) 4 (length a.2.T) (SR a.2.V) (IR a.2.T)) r k)))):=by kernel_rfl
def lv10:List (Nat×List Nat):=[(1,[0,1,5])]
theorem v10 (o0_0l o0_1l:Nat)(o1 o2:RW)(a b:Nat)(o4 o5:RW)(r:TV)(c:List AObj):VE lv10 10 6 r c [Q87 2,Q85 3 2] (Q92 (Q36 1 o0_0l 2 o0_1l) (Q22 o1) (Q20 o2) (Q36 4 a 5 b) o4 (Q20 o5))=
  (∃ d:Int,((Q10 24 [Q87 2] (Q107 o0_0l o0_1l o1 o2) (Q25 d) (Q107 o0_0l o0_1l o1 o2))∧(br ((d:Int) !=(a:Int)) (Q40 false (Q92 (Q36 1 o0_0l 2 o0_1l) (Q22 o1) (Q20 o2) (Q36 4 a 5 b) o4 (Q20 o5)) r c) (∃ e:Int,(∃ f:Int,((Q10 8 [Q87 2] (Q107 o0_0l o0_1l o1 o2) (.agg [Q2 e,Q2 f]) (Q107 o0_0l o0_1l o1 o2))∧(br ((e:Int) !=(b:Int)) (Q40 false (Q92 (Q36 1 o0_0l 2 o0_1l) (Q22 o1) (Q20 o2) (Q36 4 a 5 b) o4 (Q20 o5)) r c) (Q58 10 6 r c 1 (Q131 (Q49 0 0 2) (Q49 1 3 2) 5 0) [Q71 0 1 o0_0l 2 o0_1l,Q69 1 o1,Q61 2 o2,Q71 3 4 a 5 b,Q69 4 o4,Q61 5 o5] 6)))))))):=by kernel_rfl
theorem v10_1a (b:Int)(h0_0l h0_1l:Nat)(h1 h2:RW)(a h3_1l:Nat)(h4 h5:RW)(r:TV)(d:List AObj):VQ lv10 10 6 r d 1 ⟨Q131 (Q49 0 0 2) (Q49 1 3 2) 5 b,[Q71 0 1 h0_0l 2 h0_1l,Q69 1 h1,Q61 2 h2,Q71 3 4 a 5 h3_1l,Q69 4 h4,Q61 5 h5],6⟩=
  (br (decide ((b:Int)<(a:Int))) (∃ c:Int×Bool×Tm×Bool,((Q77 25 (Q99 (Q87 2) b) (Q107 h0_0l h0_1l h1 h2) (Q117 (Q125 c.1 c.2.1 c.2.2.1.k c.2.2.1.s c.2.2.1.n (FTs c.2.2.1.l)) c.2.2.2) (Q107 h0_0l h0_1l h1 h2))∧((0≤b∧b<(a:Int))∧((((0+(toNat b))<(length h4))∧((([(Q1 (FV.I (getD (getD h4 (0+(toNat b)) []) 0 FV.N))),(.bool (FV.asB (getD (getD h4 (0+(toNat b)) []) 1 FV.N))),(Q1 (FV.I (getD (getD h4 (0+(toNat b)) []) 2 FV.N))),(.str (FV.S (getD (getD h4 (0+(toNat b)) []) 3 FV.N))),(Q1 (FV.I (getD (getD h4 (0+(toNat b)) []) 4 FV.N))),(getD (getD h4 (0+(toNat b)) []) 5 FV.N)]:List FV)=(take 6 (drop 0 (getD h4 (0+(toNat b)) []))))∧((6:Nat)=6)))∧(∃ e:Bool,((Q66 26 [.agg (Q125 c.1 c.2.1 c.2.2.1.k c.2.2.1.s c.2.2.1.n (FTs c.2.2.1.l)), .agg (Q113 (FV.I (getD (getD h4 (0+(toNat b)) []) 0 FV.N)) (FV.asB (getD (getD h4 (0+(toNat b)) []) 1 FV.N)) (FV.I (getD (getD h4 (0+(toNat b)) []) 2 FV.N)) (FV.S (getD (getD h4 (0+(toNat b)) []) 3 FV.N)) (FV.I (getD (getD h4 (0+(toNat b)) []) 4 FV.N)) (Q0 (getD (getD h4 (0+(toNat b)) []) 5 FV.N)))] e)∧(br (!c.2.2.2) (Q40 false (Q92 (Q36 1 h0_0l 2 h0_1l) (Q22 h1) (Q20 h2) (Q36 4 a 5 h3_1l) h4 (Q20 h5)) r d) (br (!e) (Q40 false (Q92 (Q36 1 h0_0l 2 h0_1l) (Q22 h1) (Q20 h2) (Q36 4 a 5 h3_1l) h4 (Q20 h5)) r d) (Q58 10 6 r d 1 (Q131 (Q49 0 0 2) (Q49 1 3 2) 5 (IntKind.wrap .i64 (b+1))) [Q71 0 1 h0_0l 2 h0_1l,Q69 1 h1,Q61 2 h2,Q71 3 4 a 5 h3_1l,Q69 4 h4,Q61 5 h5] 6))))))))) (Q40 true (Q92 (Q36 1 h0_0l 2 h0_1l) (Q22 h1) (Q20 h2) (Q36 4 a 5 h3_1l) h4 (Q20 h5)) r d)):=by kernel_rfl
def lv11:List (Nat×List Nat):=[]
theorem v11 (e:Int)(f:List UInt8)(g:Int)(h:RW)(a:Int)(o0_0l o0_1l:Nat)(o1 o2:RW)(r:TV)(b:List AObj):VE lv11 11 3 r b (Q88 2 (Q83 e f g h) (Q25 a)) (Q107 o0_0l o0_1l o1 o2)=
  (∃ d:Tm×Int×Int,((Q77 27 [Q83 e f g h,Q25 a, .c (.fn (.func 28) [(false,[(Q122 0 2)])] [])] (Q107 o0_0l o0_1l o1 o2) (Q132 (cT d.1) d.2.1 d.2.2) (Q107 o0_0l o0_1l o1 o2))∧(br ((d.2.2:Int) !=(0:Int)) (Q53 (Q132 (Q47 0 [] 0) 0 d.2.2) (Q107 o0_0l o0_1l o1 o2) r b) (∃ i:Tm,((Q54 29 [(aT d.1)] (aT i))∧(Q53 (Q132 (cT i) d.2.1 0) (Q107 o0_0l o0_1l o1 o2) r b)))))):=by kernel_rfl
def lv12:List (Nat×List Nat):=[(1,[2,3,5])]
theorem v12 (d:Int)(e:List UInt8)(f:Int)(b:RW)(g:Int)(h:List UInt8)(i:Int)(c:RW)(r:TV)(a:List AObj):VE lv12 12 0 r a [Q83 d e f b,Q83 g h i c] []=
  (br ((d:Int) !=g) (Q67 r a) (br (!((e:List UInt8)==h)) (Q67 r a) (br ((f:Int) !=i) (Q67 r a) ((FV.L 4 (Q4 4 b)=true)∧((FV.L 4 (Q4 4 c)=true)∧(br (((length b:Int):Int) !=(length c:Int)) (Q67 r a) (Q58 12 0 r a 1 (Q131 (Q98 2 0) (Q98 3 1) 5 0) [Q74 0 4 d e f 4 b,Q74 1 4 g h i 4 c] 2))))))):=by kernel_rfl
theorem v12_1a (c h0_0:Int)(e:List UInt8)(f:Int)(a:RW)(g:Int)(h:List UInt8)(i:Int)(b:RW)(r:TV)(d:List AObj):VQ lv12 12 0 r d 1 ⟨Q131 (Q98 2 0) (Q98 3 1) 5 c,[Q74 0 4 h0_0 e f 4 a,Q74 1 4 g h i 4 b],2⟩=
  ((FV.L 4 (Q4 4 a)=true)∧(br (decide ((c:Int)<(length a:Int))) (((FV.L 4 (Q4 4 a)=true)∧((0≤c)∧((c<(length a:Int))∧(((rE (getD a (toNat c) [])):List FV)=(getD a (toNat c) [])))))∧(((FV.L 4 (Q4 4 b)=true)∧((0≤c)∧((c<(length b:Int))∧(((rE (getD b (toNat c) [])):List FV)=(getD b (toNat c) [])))))∧(∃ j:Bool,((Q66 12 [(aE (getD a (toNat c) [])),(aE (getD b (toNat c) []))] j)∧(br (!j) (Q67 r d) (Q58 12 0 r d 1 (Q131 (Q98 2 0) (Q98 3 1) 5 (IntKind.wrap .i64 (c+1))) [Q74 0 4 h0_0 e f 4 a,Q74 1 4 g h i 4 b] 2)))))) (Q63 true r d))):=by kernel_rfl
def lv13:List (Nat×List Nat):=[]
theorem v13  (r:TV) (a:List AObj):VE lv13 13 0 r a [] []=
  (RT (Q87 2) (Q107 0 0 [] []) r a):=by kernel_rfl
def lv14:List (Nat×List Nat):=[(1000001,[1,2])]
theorem v14 (a:Int)(o0_0l o0_1l:Nat)(o1 o2:RW)(r:TV)(b:List AObj):VE lv14 14 3 r b (Q99 (Q87 2) a) (Q107 o0_0l o0_1l o1 o2)=
  ((1≤1)∧((o0_0l≤(length o1)∧z0u (o0_0l+1) 72)∧(Q72 (IntKind.wrap .i64 ((((o0_0l+1):Nat):Int)-(1:Int))) (Q91 3 (o0_0l+1) 4 o0_1l ((take o0_0l o1)++ [[(Q1 (z0g [a,(0:Int)])),(.bool false),(Q1 0),(.str []),(Q1 0), .N]]) o2) r b))):=by kernel_rfl
def lv15:List (Nat×List Nat):=[]
theorem v15 (a:Int)(c:List UInt8)(d:Int)(f_3 args:RW)(r:TV)(b:List AObj):VE lv15 15 0 r b [Q83 a c d f_3,Q70 4 args] []=
  ((FV.L 4 (Q4 4 args)=true)∧(br (((length args:Int):Int)==(0:Int)) (RT (Q83 a c d f_3) [] r b) (br ((a:Int)==(6:Int)) ((FV.L 4 (Q4 4 f_3)=true)∧(br (decide (((length f_3:Int):Int)>(0:Int))) (((1:Nat)=1∧2≤2)∧(∃ e:List Tm,((Q54 30 [Q70 1 [[(Q4 4 f_3)],[(Q4 4 args)]]] (Q70 4 (FTs e)))∧(RT (Q83 6 [] 0 (FTs e)) [] r b)))) (((4:Nat)=4∧1≤1)∧(((1:Nat)=1∧2≤2)∧(∃ f:List Tm,((Q54 30 [Q70 1 [[(Q4 4 [[(Q1 a),(.str c),(Q1 d),(Q4 4 f_3)]])],[(Q4 4 args)]]] (Q70 4 (FTs f)))∧(RT (Q83 6 [] 0 (FTs f)) [] r b))))))) (((4:Nat)=4∧1≤1)∧(((1:Nat)=1∧2≤2)∧(∃ g:List Tm,((Q54 30 [Q70 1 [[(Q4 4 [[(Q1 a),(.str c),(Q1 d),(Q4 4 f_3)]])],[(Q4 4 args)]]] (Q70 4 (FTs g)))∧(RT (Q83 6 [] 0 (FTs g)) [] r b)))))))):=by kernel_rfl
def lv16:List (Nat×List Nat):=[(1,[0,3,4,22,23,24]),(1000001,[1,2])]
theorem v16 (m_0 m_1:Int)(o0_0l a:Nat)(o1 o2:RW)(r:TV)(b:List AObj):VE lv16 16 3 r b [Q87 2, .agg [Q2 m_0,Q2 m_1]] (Q107 o0_0l a o1 o2)=
  (((0≤(z0d [(z0g [m_0,(0:Int)]),(a:Int)]))∧(((z0d [(z0g [m_0,(0:Int)]),(a:Int)])≤(a:Int))∧((a:Int)≤(a:Int))))∧(Q58 16 3 r b 1 [Q49 0 0 2,Q49 3 5 2,Q18 4 (z0d [(z0g [m_0,(0:Int)]),(a:Int)]),Q97 22 4 1 (0+(toNat (z0d [(z0g [m_0,(0:Int)]),(a:Int)]))) ((toNat (a:Int))-(toNat (z0d [(z0g [m_0,(0:Int)]),(a:Int)]))),Q18 23 ((((toNat (a:Int))-(toNat (z0d [(z0g [m_0,(0:Int)]),(a:Int)]))):Nat):Int),Q18 24 0] [Q71 0 3 o0_0l 4 a,Q43 1,Q43 2,Q69 3 o1,Q61 4 o2,Q28 5 2 [Q2 m_0,Q2 m_1]] 6)):=by kernel_rfl
theorem v16_1a (g:Int)(x22o e:Nat)(x23 b:Int)(a d:Nat)(h3 h4:RW)(h5_0 h5_1:Int)(r:TV)(f:List AObj):VQ lv16 16 3 r f 1 ⟨[Q49 0 0 2,Q49 3 5 2,Q18 4 g,Q97 22 4 1 x22o e,Q18 23 x23,Q18 24 b],[Q71 0 3 a 4 d,Q43 1,Q43 2,Q69 3 h3,Q61 4 h4,Q28 5 2 [Q2 h5_0,Q2 h5_1]],6⟩=
  (br (decide ((b:Int)<x23)) ((0≤b∧b<(e:Int))∧((((x22o+(toNat b))<(length h4))∧((([(Q1 (FV.I (getD (getD h4 (x22o+(toNat b)) []) 0 FV.N)))]:List FV)=(take 1 (drop 0 (getD h4 (x22o+(toNat b)) []))))∧((1:Nat)=1)))∧((0≤(FV.I (getD (getD h4 (x22o+(toNat b)) []) 0 FV.N))∧(FV.I (getD (getD h4 (x22o+(toNat b)) []) 0 FV.N))<(a:Int))∧((((0+(toNat (FV.I (getD (getD h4 (x22o+(toNat b)) []) 0 FV.N))))<(length h3))∧((([(Q1 (FV.I (getD (getD h3 (0+(toNat (FV.I (getD (getD h4 (x22o+(toNat b)) []) 0 FV.N)))) []) 0 FV.N)))]:List FV)=(take 1 (drop 0 (getD h3 (0+(toNat (FV.I (getD (getD h4 (x22o+(toNat b)) []) 0 FV.N)))) []))))∧((1:Nat)=1)))∧((0≤(FV.I (getD (getD h4 (x22o+(toNat b)) []) 0 FV.N))∧(FV.I (getD (getD h4 (x22o+(toNat b)) []) 0 FV.N))<(a:Int))∧(((0+(toNat (FV.I (getD (getD h4 (x22o+(toNat b)) []) 0 FV.N))))<(length h3)∧(length (getD h3 (0+(toNat (FV.I (getD (getD h4 (x22o+(toNat b)) []) 0 FV.N)))) []))=6)∧(Q58 16 3 r f 1 [Q49 0 0 2,Q49 3 5 2,Q18 4 g,Q97 22 4 1 x22o e,Q18 23 x23,Q18 24 (IntKind.wrap .i64 (b+1))] [Q71 0 3 a 4 d,Q43 1,Q43 2,Q69 3 (List.set h3 (0+(toNat (FV.I (getD (getD h4 (x22o+(toNat b)) []) 0 FV.N)))) [(Q1 (FV.I (getD (getD h3 (0+(toNat (FV.I (getD (getD h4 (x22o+(toNat b)) []) 0 FV.N)))) []) 0 FV.N))),(.bool false),(Q1 0),(.str []),(Q1 0), .N]),Q61 4 h4,Q28 5 2 [Q2 h5_0,Q2 h5_1]] 6))))))) (((0≤(0:Int))∧(((0:Int)≤(z0d [(z0g [h5_1,(0:Int)]),(a:Int)]))∧((z0d [(z0g [h5_1,(0:Int)]),(a:Int)])≤(a:Int))))∧(((0≤(0:Int))∧(((0:Int)≤g)∧(g≤(d:Int))))∧(∃ h:Nat,((Q10 31 (Q115 (.c (Q3 0 1 0 (toNat g))) (.fn (.func 32) [] [(false,[(Q123 1)])])) [Q20 h4,Q100 (z0d [(z0g [h5_1,(0:Int)]),(a:Int)])] (.c (Q3 0 1 0 h)) [Q20 h4,Q100 (z0d [(z0g [h5_1,(0:Int)]),(a:Int)])])∧(Q53 [] (Q91 3 (toNat (z0d [(z0g [h5_1,(0:Int)]),(a:Int)])) 4 h h3 h4) r f)))))):=by kernel_rfl
def lv17:List (Nat×List Nat):=[(1,[3,4,6,7])]
theorem v17 (n t_0:Int)(a:List UInt8)(b:Int)(c:RW)(r:TV)(d:List AObj):VE lv17 17 0 r d [Q25 n,Q83 t_0 a b c] []=
  (Q58 17 0 r d 1 (Q114 (Q98 3 0) (Q98 4 1) 6 (z0g [n,(0:Int)]) 7 0) [Q74 0 4 t_0 a b 4 c,Q89 1 4 0 [] 0] 2):=by kernel_rfl
theorem zv4 (x6 h h0_0:Int)(a:List UInt8)(b:Int)(c:RW)(d:Int)(e:List UInt8)(f:Int)(r:TV)(g:List AObj):VQ lv17 17 0 r g 1 ⟨Q114 (Q98 3 0) (Q98 4 1) 6 x6 7 h,[Q74 0 4 h0_0 a b 4 c,Q89 1 4 d e f],2⟩=
  (br (decide ((h:Int)<x6)) (((4:Nat)=4∧1≤1)∧(Q58 17 0 r g 1 (Q114 (Q98 3 0) (Q98 4 1) 6 x6 7 (IntKind.wrap .i64 (h+1))) [Q74 0 4 5 [] 0 4 [[(Q1 h0_0),(.str a),(Q1 b),(Q4 4 c)]],Q89 1 4 d e f] 2)) (RT (Q83 h0_0 a b c) [] r g)):=by kernel_rfl
def lv18:List (Nat×List Nat):=[]
theorem v18 (b:Int)(c:List UInt8)(d:Int)(e:RW)(a:Int)(r:TV)(f:List AObj):VE lv18 18 0 r f (Q99 (Q83 b c d e) a) []=
  (∃ g:Int,((Q54 33 (Q99 (Q83 b c d e) a) (Q25 g))∧(Q63 (decide ((g:Int)<(0:Int))) r f))):=by kernel_rfl
def lv19:List (Nat×List Nat):=[(1,[1,2,5])]
theorem v19 (d:Int)(e:List UInt8)(b:Int)(f:RW)(a:Int)(r:TV)(c:List AObj):VE lv19 19 0 r c (Q99 (Q83 d e b f) a) []=
  (br ((d:Int) !=(2:Int)) (br (decide ((b:Int)>a)) (Q67 r c) (br (decide ((b:Int)<(IntKind.wrap .i64 (0-a)))) (Q67 r c) (Q58 19 0 r c 1 (Q131 (Q18 1 a) (Q98 2 0) 5 0) [Q74 0 4 d e b 4 f] 1))) (Q58 19 0 r c 1 (Q131 (Q18 1 a) (Q98 2 0) 5 0) [Q74 0 4 d e b 4 f] 1)):=by kernel_rfl
theorem v19_1a (x1 e h0_0:Int)(c:List UInt8)(d:Int)(a:RW)(r:TV)(b:List AObj):VQ lv19 19 0 r b 1 ⟨Q131 (Q18 1 x1) (Q98 2 0) 5 e,[Q74 0 4 h0_0 c d 4 a],1⟩=
  ((FV.L 4 (Q4 4 a)=true)∧(br (decide ((e:Int)<(length a:Int))) (((FV.L 4 (Q4 4 a)=true)∧((0≤e)∧((e<(length a:Int))∧(((rE (getD a (toNat e) [])):List FV)=(getD a (toNat e) [])))))∧(∃ f:Bool,((Q66 19 (Q99 (aE (getD a (toNat e) [])) x1) f)∧(br (!f) (Q67 r b) (Q58 19 0 r b 1 (Q131 (Q18 1 x1) (Q98 2 0) 5 (IntKind.wrap .i64 (e+1))) [Q74 0 4 h0_0 c d 4 a] 1))))) (Q63 true r b))):=by kernel_rfl
def lv20:List (Nat×List Nat):=[(1000001,[1,2])]
theorem v20 (a:Int)(o0_0l o0_1l:Nat)(o1 o2:RW)(r:TV)(b:List AObj):VE lv20 20 3 r b (Q99 (Q87 2) a) (Q107 o0_0l o0_1l o1 o2)=
  ((1≤1)∧((o0_0l≤(length o1)∧z0u (o0_0l+1) 72)∧(Q72 (IntKind.wrap .i64 ((((o0_0l+1):Nat):Int)-(1:Int))) (Q91 3 (o0_0l+1) 4 o0_1l ((take o0_0l o1)++ [[(Q1 (z0g [a,(0:Int)])),(.bool false),(Q1 0),(.str []),(Q1 0), .N]]) o2) r b))):=by kernel_rfl
def lv21:List (Nat×List Nat):=[(1000001,[1,2])]
theorem v21 (x t_0:Int)(d:List UInt8)(e:Int)(f:RW)(a o0_1l:Nat)(o1 o2:RW)(r:TV)(b:List AObj):VE lv21 21 3 r b (Q88 2 (Q25 x) (Q83 t_0 d e f)) (Q107 a o0_1l o1 o2)=
  (∃ c:Int×Bool×Tm×Bool,((Q77 25 (Q99 (Q87 2) x) (Q107 a o0_1l o1 o2) (Q117 (Q125 c.1 c.2.1 c.2.2.1.k c.2.2.1.s c.2.2.1.n (FTs c.2.2.1.l)) c.2.2.2) (Q107 a o0_1l o1 o2))∧(br (!c.2.2.2) (Q72 1 (Q91 3 a 4 o0_1l o1 o2) r b) (br c.2.1 (Q72 1 (Q91 3 a 4 o0_1l o1 o2) r b) (∃ h:Bool,((Q66 34 [Q83 t_0 d e f] h)∧(br (!h) (Q72 1 (Q91 3 a 4 o0_1l o1 o2) r b) (∃ g:Int,((Q54 35 [Q83 t_0 d e f] (Q25 g))∧(br (decide ((g:Int)>(0:Int))) (Q72 1 (Q91 3 a 4 o0_1l o1 o2) r b) ((0≤x∧x<(a:Int))∧(((0+(toNat x))<(length o1)∧(length (getD o1 (0+(toNat x)) []))=6)∧((1≤1)∧((o0_1l≤(length o2)∧z0u (o0_1l+1) 8)∧(Q72 0 (Q91 3 a 4 (o0_1l+1) (List.set o1 (0+(toNat x)) [(Q1 c.1),(.bool true),(Q1 t_0),(.str d),(Q1 e),(Q4 4 f)]) ((take o0_1l o2)++ [[(Q1 x)]])) r b))))))))))))))):=by kernel_rfl
def lv22:List (Nat×List Nat):=[(1000001,[1,2])]
theorem v22 (x t_0:Int)(c:List UInt8)(d:Int)(e:RW)(a o0_1l:Nat)(o1 o2:RW)(r:TV)(b:List AObj):VE lv22 22 3 r b (Q88 2 (Q25 x) (Q83 t_0 c d e)) (Q107 a o0_1l o1 o2)=
  (∃ g:Bool,((Q66 36 [Q83 t_0 c d e] g)∧(br (decide ((x:Int)<(0:Int))) (Q72 1 (Q91 3 a 4 o0_1l o1 o2) r b) (br (decide ((x:Int)≥(a:Int))) (Q72 1 (Q91 3 a 4 o0_1l o1 o2) r b) (br (!g) (Q72 1 (Q91 3 a 4 o0_1l o1 o2) r b) ((0≤x∧x<(a:Int))∧((((0+(toNat x))<(length o1))∧((([(.bool (FV.asB (getD (getD o1 (0+(toNat x)) []) 1 FV.N)))]:List FV)=(take 1 (drop 1 (getD o1 (0+(toNat x)) []))))∧((1:Nat)=1)))∧(br (FV.asB (getD (getD o1 (0+(toNat x)) []) 1 FV.N)) (Q72 1 (Q91 3 a 4 o0_1l o1 o2) r b) (∃ f:Int,((Q54 37 (Q99 (Q83 t_0 c d e) 0) (Q25 f))∧(br (decide ((f:Int)>(0:Int))) (Q72 1 (Q91 3 a 4 o0_1l o1 o2) r b) ((0≤x∧x<(a:Int))∧((((0+(toNat x))<(length o1))∧((([(Q1 (FV.I (getD (getD o1 (0+(toNat x)) []) 0 FV.N)))]:List FV)=(take 1 (drop 0 (getD o1 (0+(toNat x)) []))))∧((1:Nat)=1)))∧((0≤x∧x<(a:Int))∧(((0+(toNat x))<(length o1)∧(length (getD o1 (0+(toNat x)) []))=6)∧((1≤1)∧((o0_1l≤(length o2)∧z0u (o0_1l+1) 8)∧(Q72 0 (Q91 3 a 4 (o0_1l+1) (List.set o1 (0+(toNat x)) [(Q1 (FV.I (getD (getD o1 (0+(toNat x)) []) 0 FV.N))),(.bool true),(Q1 t_0),(.str c),(Q1 d),(Q4 4 e)]) ((take o0_1l o2)++ [[(Q1 x)]])) r b)))))))))))))))))):=by kernel_rfl
def lv23:List (Nat×List Nat):=[(1,[0,8,9,22]),(1000001,[1,2])]
theorem v23 (l:RW)(a:Int)(o0_0l o0_1l:Nat)(o1 o2:RW)(r:TV)(b:List AObj):VE lv23 23 3 r b (Q88 2 (Q70 8 l) (Q25 a)) (Q107 o0_0l o0_1l o1 o2)=
  (∃ d:Bool,((Q66 38 (Q133 8 l (.fn (.func 39) [] [])) d)∧(br d (Q53 [Q31 0,Q31 1] (Q91 3 o0_0l 4 o0_1l o1 o2) r b) (∃ e:Int,(∃ f:Int,((Q10 8 [Q87 2] (Q107 o0_0l o0_1l o1 o2) (.agg [Q2 e,Q2 f]) (Q107 o0_0l o0_1l o1 o2))∧(∃ g:RW,((Q51 40 [Q70 8 l] (.c (.fn (.func 58) [] [(false,[(Q123 0)])])) [Q7 1 [Q8 8 g]])∧(Q58 23 3 r b 1 [Q49 0 0 2,Q49 8 5 2,Q49 9 6 1,Q5 22 (.fn (.func 58) [] [(false,[(Q123 9)])])] [Q71 0 3 o0_0l 4 o0_1l,Q43 1,Q43 2,Q69 3 o1,Q61 4 o2,Q28 5 2 [Q2 e,Q2 f],Q28 6 1 [Q9 7 3 0 0],Q28 7 3 (Q64 0 2 0 0 8 8 0 0 a),Q73 8 8 [],Q28 9 1 [Q8 8 g]] 10))))))))):=by kernel_rfl
theorem v23_1an (a:Nat)(b:Nat)(h:RW)(i:RW)(d:Int)(e:Int)(c:Nat)(f:Int)(j:RW)(g:RW)(K:St→Prop):prepV 10 [3,4,8] [0,8,9,22] K ⟨[Q49 0 0 2,Q49 8 5 2,Q49 9 6 1,Q5 22 (.fn (.func 58) [] [(false,[(Q123 9)])])],[Q71 0 3 a 4 b,Q43 1,Q43 2,Q69 3 h,Q61 4 i,Q28 5 2 [Q2 d,Q2 e],Q28 6 1 [Q9 7 3 0 0],Q28 7 3 (Q64 0 2 0 0 8 8 0 c f),Q73 8 8 j,Q28 9 1 [Q8 8 g]],10⟩=
  (K ⟨[Q49 0 0 2,Q49 8 5 2,Q49 9 6 1,Q5 22 (.fn (.func 58) [] [(false,[(Q123 9)])])],[Q71 0 10 a 11 b,Q43 1,Q43 2,Q43 3,Q43 4,Q28 5 2 [Q2 d,Q2 e],Q28 6 1 [Q9 7 3 0 0],Q28 7 3 (Q64 0 2 0 0 12 8 0 c f),Q43 8,Q28 9 1 [Q8 8 g],Q69 10 h,Q61 11 i,Q73 12 8 j],13⟩):=by kernel_rfl
theorem v23_1ara (b:Nat)(d:Nat)(e:Int)(f:Int)(a:Nat)(g:Int)(h:RW)(j:RW)(l:RW)(i:RW)(k:Int)(m:Int)(n:List UInt8)(o:Int)(p:RW)(q:Int)(r:List UInt8)(s:Int)(t:RW)(R:AHeap→Nat→Prop):vcR Tryz.prog sh 23 10 [3,4,8] 1 [(0,(Q87 2)),(8,(Q85 5 2)),(9,(Q85 6 1)),(22,(.c (.fn (.func 58) [] [(false,[(Q123 9)])])))] k (.agg [Q2 m,Q6 n,Q2 o,Q124 p,Q2 q,Q6 r,Q2 s,Q124 t]) [(0,(Q36 10 b 11 d)),(1, .gone),(2, .gone),(3, .gone),(4, .gone),(5,(Q7 2 [Q2 e,Q2 f])),(6,(Q7 1 [Q9 7 3 0 0])),(7,(Q75 3 0 2 0 0 12 8 0 a g)),(8, .gone),(9,(Q7 1 [Q8 8 h])),(10,(Q22 j)),(11,(Q20 l)),(12,(.arz 8 i))] 13 R=
  ((1≤1)∧((a≤(length i)∧z0u (a+1) 112)∧(R [(0,(Q36 10 b 11 d)),(1, .gone),(2, .gone),(3, .gone),(4, .gone),(5,(Q7 2 [Q2 e,Q2 f])),(6,(Q7 1 [Q9 7 3 0 0])),(7,(Q75 3 0 2 0 0 12 8 0 (a+1) g)),(8, .gone),(9,(Q7 1 [Q8 8 h])),(10,(Q22 j)),(11,(Q20 l)),(12,(.arz 8 ((take a i)++ [[(Q1 m),(.str n),(Q1 o),(Q4 4 p),(Q1 q),(.str r),(Q1 s),(Q4 4 t)]])))] 13))):=by kernel_rfl
theorem v23_1aza (b:Nat)(c:Nat)(f:Int)(g:Int)(d:Nat)(h:Int)(j:RW)(k:RW)(l:RW)(m:RW)(r:TV)(e:List AObj):vcA Tryz.prog sh lv23 23 3 (fun r0 Hs0=>TV.Le r0 r∧Hs0=e) (RPt Tryz.prog 23 3 r e) 1 ⟨[Q49 0 0 2,Q49 8 5 2,Q49 9 6 1,Q5 22 (.fn (.func 58) [] [(false,[(Q123 9)])])],[Q71 0 10 b 11 c,Q43 1,Q43 2,Q43 3,Q43 4,Q28 5 2 [Q2 f,Q2 g],Q28 6 1 [Q9 7 3 0 0],Q28 7 3 (Q64 0 2 0 0 12 8 0 d h),Q43 8,Q28 9 1 [Q8 8 j],Q69 10 k,Q61 11 l,Q73 12 8 m],13⟩=
  (∃ a:Int×Sto×Nat×RW×Int,((Q10 41 [Q87 3] (Q96 (Q75 3 1 2 0 0 4 8 0 d h) (Q36 2 b 3 c) (Q22 k) (Q20 l) 8 m) (Q25 a.1) (Q112 (Q75 3 1 2 0 0 7 8 0 a.2.2.1 a.2.2.2.2) 5 (length a.2.1.V) 6 (length a.2.1.T) (SR a.2.1.V) (IR a.2.1.T) 8 a.2.2.2.1))∧(br ((a.1:Int) !=(0:Int)) (∃ i:Sto,((Q77 16 [Q87 2, .agg [Q2 f,Q2 g]] (Q107 (length a.2.1.V) (length a.2.1.T) (SR a.2.1.V) (IR a.2.1.T)) [] (Q91 3 (length i.V) 4 (length i.T) (SR i.V) (IR i.T)))∧(Q53 [Q31 0,Q31 a.1] (Q91 3 (length i.V) 4 (length i.T) (SR i.V) (IR i.T)) r e))) (Q53 [Q31 a.2.2.2.2,Q31 0] (Q91 3 (length a.2.1.V) 4 (length a.2.1.T) (SR a.2.1.V) (IR a.2.1.T)) r e)))):=by kernel_rfl
def lv24:List (Nat×List Nat):=[]
theorem v24 (a o0_1l:Nat)(o1 o2:RW)(r:TV)(b:List AObj):VE lv24 24 3 r b [Q87 2] (Q107 a o0_1l o1 o2)=
  (Q72 (a:Int) (Q107 a o0_1l o1 o2) r b):=by kernel_rfl
def lv25:List (Nat×List Nat):=[]
theorem v25 (x:Int)(a o0_1l:Nat)(o1 o2:RW)(r:TV)(b:List AObj):VE lv25 25 3 r b (Q99 (Q87 2) x) (Q107 a o0_1l o1 o2)=
  (br (decide ((x:Int)<(0:Int))) (Q53 (Q117 (Q113 0 false 0 [] 0 Q37) false) (Q107 a o0_1l o1 o2) r b) (br (decide ((x:Int)≥(a:Int))) (Q53 (Q117 (Q113 0 false 0 [] 0 Q37) false) (Q107 a o0_1l o1 o2) r b) ((0≤x∧x<(a:Int))∧((((0+(toNat x))<(length o1))∧((([(Q1 (FV.I (getD (getD o1 (0+(toNat x)) []) 0 FV.N))),(.bool (FV.asB (getD (getD o1 (0+(toNat x)) []) 1 FV.N))),(Q1 (FV.I (getD (getD o1 (0+(toNat x)) []) 2 FV.N))),(.str (FV.S (getD (getD o1 (0+(toNat x)) []) 3 FV.N))),(Q1 (FV.I (getD (getD o1 (0+(toNat x)) []) 4 FV.N))),(getD (getD o1 (0+(toNat x)) []) 5 FV.N)]:List FV)=(take 6 (drop 0 (getD o1 (0+(toNat x)) []))))∧((6:Nat)=6)))∧(Q53 (Q117 (Q113 (FV.I (getD (getD o1 (0+(toNat x)) []) 0 FV.N)) (FV.asB (getD (getD o1 (0+(toNat x)) []) 1 FV.N)) (FV.I (getD (getD o1 (0+(toNat x)) []) 2 FV.N)) (FV.S (getD (getD o1 (0+(toNat x)) []) 3 FV.N)) (FV.I (getD (getD o1 (0+(toNat x)) []) 4 FV.N)) (Q0 (getD (getD o1 (0+(toNat x)) []) 5 FV.N))) true) (Q107 a o0_1l o1 o2) r b))))):=by kernel_rfl
def lv26:List (Nat×List Nat):=[]
theorem v26 (b:Int)(c:Bool)(d:Int)(e:List UInt8)(f:Int)(g:RW)(h:Int)(i:Bool)(j:Int)(k:List UInt8)(l:Int)(m:RW)(r:TV)(a:List AObj):VE lv26 26 0 r a [.agg (Q125 b c d e f g), .agg (Q125 h i j k l m)] []=
  (∃ n:Bool,((Q66 12 [Q83 d e f g,Q83 j k l m] n)∧(br ((b:Int)==h) (br ((c:Bool)==i) (Q63 n r a) (Q67 r a)) (Q67 r a)))):=by kernel_rfl
def lv27:List (Nat×List Nat):=[]
theorem v27_F28 (d:Int)(e:List UInt8)(f:Int)(g:RW)(b:Int)(o0_0l o0_1l:Nat)(o1 o2:RW)(r:TV)(a:List AObj):VE lv27 27 3 r a [Q83 d e f g,Q25 b, .c (.fn (.func 28) [(false,[(Q122 0 2)])] [])] (Q107 o0_0l o0_1l o1 o2)=
  (∃ i:Bool,((Q66 34 [Q83 d e f g] i)∧(br (!i) (Q53 (Q132 (Q47 0 [] 0) 0 1) (Q107 o0_0l o0_1l o1 o2) r a) (∃ h:Tm×Int×Int,((Q77 28 (Q88 2 (Q83 d e f g) (Q85 3 1)) [Q36 1 o0_0l 2 o0_1l,Q22 o1,Q20 o2,Q100 b] (Q129 (cT h.1) h.2.1) [Q36 1 o0_0l 2 o0_1l,Q22 o1,Q20 o2,Q100 h.2.2])∧(br ((h.2.1:Int) !=(0:Int)) (Q53 (Q132 (Q47 0 [] 0) 0 h.2.1) (Q107 o0_0l o0_1l o1 o2) r a) (Q53 (Q132 (cT h.1) h.2.2 0) (Q107 o0_0l o0_1l o1 o2) r a))))))):=by kernel_rfl
def lv29:List (Nat×List Nat):=[]
theorem v29 (a:Int)(b:List UInt8)(c:Int)(d:RW)(r:TV)(e:List AObj):VE lv29 29 0 r e [Q83 a b c d] []=
  (∃ f:Bool,((Q66 34 [Q83 a b c d] f)∧(br (!f) (RT (Q83 a b c d) [] r e) (∃ g:Tm,((Q54 44 [Q83 a b c d] (aT g))∧(RT (aT g) [] r e)))))):=by kernel_rfl
def lv30:List (Nat×List Nat):=[(1,[0,3,9,10,11]),(5,[6,25,26,27])]
theorem v30 (a:RW)(r:TV)(b:List AObj):VE lv30 30 0 r b [Q70 1 a] []=
  ((FV.L 1 (Q4 1 a)=true)∧(Q58 30 0 r b 1 [Q62 0 1 a,Q18 3 0,Q62 9 1 a,Q18 10 (length a:Int),Q18 11 0] [] 0)):=by kernel_rfl
theorem v30_1a (e:RW)(f:Int)(b:RW)(x10 a:Int)(r:TV)(d:List AObj):VQ lv30 30 0 r d 1 ⟨[Q62 0 1 e,Q18 3 f,Q62 9 1 b,Q18 10 x10,Q18 11 a],[],0⟩=
  (br (decide ((a:Int)<x10)) (((FV.L 1 (Q4 1 b)=true)∧((0≤a)∧((a<(length b:Int))∧(([(getD (getD b (toNat a) []) 0 FV.N)]:List FV)=(getD b (toNat a) [])))))∧((FV.L 4 (getD (getD b (toNat a) []) 0 FV.N)=true)∧(br (decide (((IntKind.wrap .i64 (f+(((length (FV.ses (getD (getD b (toNat a) []) 0 FV.N))):Nat):Int))):Int)<(0:Int))) False (Q58 30 0 r d 1 [Q62 0 1 e,Q18 3 (IntKind.wrap .i64 (f+(((length (FV.ses (getD (getD b (toNat a) []) 0 FV.N))):Nat):Int))),Q62 9 1 b,Q18 10 x10,Q18 11 (IntKind.wrap .i64 (a+1))] [] 0)))) ((∃ _:Unit,((Q54 45 (Q99 (.c Q37) f) (.c Q37))∧((FV.L 1 (Q4 1 e)=true)∧(Q58 30 0 r d 5 (Q114 (Q120 6) (Q62 25 1 e) 26 (length e:Int) 27 0) [] 0))))∨(∃ _:Unit,((Q51 45 (Q99 (.c Q37) f) (.c (Q3 0 4 0 0)) [.arz 4 []])∧((FV.L 1 (Q4 1 e)=true)∧(Q58 30 0 r d 5 (Q114 (Q97 6 0 4 0 0) (Q62 25 1 e) 26 (length e:Int) 27 0) [Q73 0 4 []] 1)))))):=by kernel_rfl
theorem v30_5a (b:RW)(x26 a:Int)(r:TV)(d:List AObj):VQ lv30 30 0 r d 5 ⟨Q114 (Q120 6) (Q62 25 1 b) 26 x26 27 a,[],0⟩=
  (br (decide ((a:Int)<x26)) (((FV.L 1 (Q4 1 b)=true)∧((0≤a)∧((a<(length b:Int))∧(([(getD (getD b (toNat a) []) 0 FV.N)]:List FV)=(getD b (toNat a) [])))))∧((FV.L 4 (getD (getD b (toNat a) []) 0 FV.N)=true)∧(br (List.isEmpty (FV.ses (getD (getD b (toNat a) []) 0 FV.N))) (Q58 30 0 r d 5 (Q114 (Q120 6) (Q62 25 1 b) 26 x26 27 (IntKind.wrap .i64 (a+1))) [] 0) ((z0u (length (FV.ses (getD (getD b (toNat a) []) 0 FV.N))) 56)∧(Q58 30 0 r d 5 (Q114 (Q97 6 0 4 0 (length (FV.ses (getD (getD b (toNat a) []) 0 FV.N)))) (Q62 25 1 b) 26 x26 27 (IntKind.wrap .i64 (a+1))) [Q73 0 4 (FV.ses (getD (getD b (toNat a) []) 0 FV.N))] 1))))) (RT (.c Q37) [] r d)):=by kernel_rfl
theorem v30_5b (c:Nat)(b:RW)(x26 a:Int)(e:RW)(r:TV)(d:List AObj):VQ lv30 30 0 r d 5 ⟨Q114 (Q97 6 0 4 0 c) (Q62 25 1 b) 26 x26 27 a,[Q73 0 4 e],1⟩=
  (br (decide ((a:Int)<x26)) (((FV.L 1 (Q4 1 b)=true)∧((0≤a)∧((a<(length b:Int))∧(([(getD (getD b (toNat a) []) 0 FV.N)]:List FV)=(getD b (toNat a) [])))))∧((FV.L 4 (getD (getD b (toNat a) []) 0 FV.N)=true)∧((c≤(length e)∧z0u (c+(length (FV.ses (getD (getD b (toNat a) []) 0 FV.N)))) 56)∧(Q58 30 0 r d 5 (Q114 (Q97 6 0 4 0 (c+(length (FV.ses (getD (getD b (toNat a) []) 0 FV.N))))) (Q62 25 1 b) 26 x26 27 (IntKind.wrap .i64 (a+1))) [Q73 0 4 ((take c e)++(FV.ses (getD (getD b (toNat a) []) 0 FV.N)))] 1)))) (((4:Nat)=4∧(0+c)≤(length e))∧(RT (Q70 4 (take c (drop 0 e))) [] r d))):=by kernel_rfl
def lv31:List (Nat×List Nat):=[(1,[0,1,5,6])]
theorem v31_F32 (e:Nat)(d:RW)(a:Int)(r:TV)(b:List AObj):VE lv31 31 2 r b (Q115 (.c (Q3 0 1 0 e)) (.fn (.func 32) [] [(false,[(Q123 1)])])) [Q20 d,Q100 a]=
  (∃ f:Int,((Q10 46 (Q115 (.c (Q3 0 1 0 e)) (.fn (.func 32) [] [(false,[(Q123 1)])])) [Q20 d,Q100 a] (Q25 f) [Q20 d,Q100 a])∧(br ((f:Int)==(-1:Int)) (RT (.c (Q3 0 1 0 e)) [Q20 d,Q100 a] r b) (Q58 31 2 r b 1 (Q134 (Q97 0 0 1 0 e) 1 (.fn (.func 32) [] [(false,[(Q123 1)])]) 5 f 6 (IntKind.wrap .i64 (f+1))) [Q61 0 d,Q118 1 1 a] 2)))):=by kernel_rfl
def lv33:List (Nat×List Nat):=[(1,[2,5,6])]
theorem v33 (b:Int)(c:List UInt8)(d:Int)(e:RW)(a:Int)(r:TV)(f:List AObj):VE lv33 33 0 r f (Q99 (Q83 b c d e) a) []=
  (Q58 33 0 r f 1 (Q131 (Q98 2 0) (Q18 5 (IntKind.wrap .i64 (a-1))) 6 0) [Q74 0 4 b c d 4 e] 1):=by kernel_rfl
theorem v33_1a (f e h0_0:Int)(c:List UInt8)(d:Int)(a:RW)(r:TV)(b:List AObj):VQ lv33 33 0 r b 1 ⟨Q131 (Q98 2 0) (Q18 5 f) 6 e,[Q74 0 4 h0_0 c d 4 a],1⟩=
  ((FV.L 4 (Q4 4 a)=true)∧(br (decide ((e:Int)<(length a:Int))) (br (decide ((f:Int)≥(0:Int))) (((FV.L 4 (Q4 4 a)=true)∧((0≤e)∧((e<(length a:Int))∧(((rE (getD a (toNat e) [])):List FV)=(getD a (toNat e) [])))))∧(∃ g:Int,((Q54 33 (Q99 (aE (getD a (toNat e) [])) f) (Q25 g))∧(Q58 33 0 r b 1 (Q131 (Q98 2 0) (Q18 5 g) 6 (IntKind.wrap .i64 (e+1))) [Q74 0 4 h0_0 c d 4 a] 1)))) (Q72 f [] r b)) (Q72 f [] r b))):=by kernel_rfl
def lv34:List (Nat×List Nat):=[]
theorem v34 (f:Int)(e:List UInt8)(d:Int)(a:RW)(r:TV)(b:List AObj):VE lv34 34 0 r b [Q83 f e d a] []=
  (br ((f:Int)==(0:Int)) (∃ g:Bool,((Q66 47 [.c (Q6 e)] g)∧(br g (br ((d:Int)==(0:Int)) ((FV.L 4 (Q4 4 a)=true)∧(Q63 (((length a:Int):Int)==(0:Int)) r b)) (Q67 r b)) (∃ h:Bool,((Q66 48 [.c (Q6 e)] h)∧(br h (br ((d:Int)==(0:Int)) ((FV.L 4 (Q4 4 a)=true)∧(Q63 (((length a:Int):Int)==(0:Int)) r b)) (Q67 r b)) (Q67 r b))))))) (br ((f:Int)==(1:Int)) (br (decide ((d:Int)≥(1:Int))) (br ((e:List UInt8)==[]) ((FV.L 4 (Q4 4 a)=true)∧(br (((length a:Int):Int)==(0:Int)) (∃ i:Bool,((Q66 49 (Q133 4 a (.fn (.func 50) [] [])) i)∧(Q63 (!i) r b))) (Q67 r b))) (Q67 r b)) (Q67 r b)) (br ((f:Int)==(2:Int)) (br ((e:List UInt8)==[]) ((FV.L 4 (Q4 4 a)=true)∧(br (((length a:Int):Int)==(0:Int)) (∃ j:Bool,((Q66 49 (Q133 4 a (.fn (.func 50) [] [])) j)∧(Q63 (!j) r b))) (Q67 r b))) (Q67 r b)) (br ((f:Int)==(3:Int)) (br (decide ((d:Int)≥(0:Int))) (br (decide ((d:Int)≤(4611686018427387904:Int))) (br ((e:List UInt8)==[]) ((FV.L 4 (Q4 4 a)=true)∧(br (((length a:Int):Int)==(0:Int)) (∃ k:Bool,((Q66 49 (Q133 4 a (.fn (.func 50) [] [])) k)∧(Q63 (!k) r b))) (Q67 r b))) (Q67 r b)) (Q67 r b)) (Q67 r b)) (br ((f:Int)==(4:Int)) (br (decide ((d:Int)≥(0:Int))) (br (decide ((d:Int)≤(4611686018427387904:Int))) (br ((e:List UInt8)==[]) ((FV.L 4 (Q4 4 a)=true)∧(br (((length a:Int):Int)==(0:Int)) (∃ l:Bool,((Q66 49 (Q133 4 a (.fn (.func 50) [] [])) l)∧(Q63 (!l) r b))) (Q67 r b))) (Q67 r b)) (Q67 r b)) (Q67 r b)) (br ((f:Int)==(5:Int)) (br ((d:Int)==(0:Int)) (br ((e:List UInt8)==[]) ((FV.L 4 (Q4 4 a)=true)∧(br (((length a:Int):Int)==(1:Int)) (∃ m:Bool,((Q66 49 (Q133 4 a (.fn (.func 50) [] [])) m)∧(Q63 (!m) r b))) (Q67 r b))) (Q67 r b)) (Q67 r b)) (br ((f:Int)==(6:Int)) (br ((d:Int)==(0:Int)) ((FV.L 4 (Q4 4 a)=true)∧(br (decide (((length a:Int):Int)≥(2:Int))) (((FV.L 4 (Q4 4 a)=true)∧((0≤(0:Int))∧(((0:Int)<(length a:Int))∧(((rE (getD a 0 [])):List FV)=(getD a 0 [])))))∧((FV.L 4 (Q4 4 a)=true)∧(br (((FV.I (getD (getD a 0 []) 0 FV.N)):Int) !=(6:Int)) (br ((e:List UInt8)==[]) ((FV.L 4 (Q4 4 a)=true)∧(br (((length a:Int):Int)==(length a:Int)) (∃ n:Bool,((Q66 49 (Q133 4 a (.fn (.func 50) [] [])) n)∧(Q63 (!n) r b))) (Q67 r b))) (Q67 r b)) (Q67 r b)))) ((FV.L 4 (Q4 4 a)=true)∧(Q67 r b)))) ((FV.L 4 (Q4 4 a)=true)∧(Q67 r b))) (Q67 r b)))))))):=by kernel_rfl
def lv35:List (Nat×List Nat):=[]
theorem v35 (a:Int)(b:List UInt8)(d:Int)(e:RW)(r:TV)(f:List AObj):VE lv35 35 0 r f [Q83 a b d e] []=
  ((∃ i:Int,((Q77 51 [Q83 a b d e,Q25 0, .c (.fn (.func 52) [] [(false,[(Q123 0)])])] [Q100 0] [] [Q100 i])∧(Q72 i [] r f)))∨((∃ _:Unit,((Q77 51 [Q83 a b d e,Q25 0, .c (.fn (.func 52) [] [(false,[(Q123 0)])])] [Q100 0] [] [Q7 1 [Q37]])∧(RT (.c Q37) [] r f)))∨((∃ g:Nat×RW,((Q77 51 [Q83 a b d e,Q25 0, .c (.fn (.func 52) [] [(false,[(Q123 0)])])] [Q100 0] [] [Q7 1 [Q3 1 1 0 g.1],Q20 g.2])∧(((1:Nat)=1∧(0+g.1)≤(length g.2))∧(RT (Q70 1 (take g.1 (drop 0 g.2))) [] r f))))∨(∃ h:Nat×RW,((Q77 51 [Q83 a b d e,Q25 0, .c (.fn (.func 52) [] [(false,[(Q123 0)])])] [Q100 0] [] (Q38 (Q7 1 [Q3 2 1 0 h.1]) .gone h.2))∧(((1:Nat)=1∧(0+h.1)≤(length h.2))∧(RT (Q70 1 (take h.1 (drop 0 h.2))) [] r f))))))):=by kernel_rfl
def lv36:List (Nat×List Nat):=[(3,[1,3,7])]
theorem v36 (e:Int)(d:List UInt8)(b:Int)(a:RW)(r:TV)(f:List AObj):VE lv36 36 0 r f [Q83 e d b a] []=
  (br ((e:Int)==(0:Int)) (∃ g:Bool,((Q66 53 [.c (Q6 d)] g)∧(∃ h:Bool,((Q66 54 [.c (Q6 d)] h)∧(br g (br ((b:Int)==(0:Int)) ((FV.L 4 (Q4 4 a)=true)∧(Q63 (((length a:Int):Int)==(0:Int)) r f)) (Q67 r f)) (br h (br ((b:Int)==(0:Int)) ((FV.L 4 (Q4 4 a)=true)∧(Q63 (((length a:Int):Int)==(0:Int)) r f)) (Q67 r f)) (Q67 r f))))))) (br ((e:Int)==(1:Int)) (br (decide ((b:Int)≥(1:Int))) (br ((d:List UInt8)==[]) ((FV.L 4 (Q4 4 a)=true)∧(Q58 36 0 r f 3 (Q131 (Q98 1 0) (Q5 3 (Q11 (((length a:Int):Int)==(0:Int)))) 7 0) [Q74 0 4 e d b 4 a] 1)) (Q58 36 0 r f 3 (Q131 (Q98 1 0) (Q5 3 (Q11 false)) 7 0) [Q74 0 4 e d b 4 a] 1)) (Q58 36 0 r f 3 (Q131 (Q98 1 0) (Q5 3 (Q11 false)) 7 0) [Q74 0 4 e d b 4 a] 1)) (br ((e:Int)==(2:Int)) (br ((d:List UInt8)==[]) ((FV.L 4 (Q4 4 a)=true)∧(Q58 36 0 r f 3 (Q131 (Q98 1 0) (Q5 3 (Q11 (((length a:Int):Int)==(0:Int)))) 7 0) [Q74 0 4 e d b 4 a] 1)) (Q58 36 0 r f 3 (Q131 (Q98 1 0) (Q5 3 (Q11 false)) 7 0) [Q74 0 4 e d b 4 a] 1)) (br ((e:Int)==(3:Int)) (br (decide ((b:Int)≥(0:Int))) (br (decide ((b:Int)≤(4611686018427387904:Int))) (br ((d:List UInt8)==[]) ((FV.L 4 (Q4 4 a)=true)∧(Q58 36 0 r f 3 (Q131 (Q98 1 0) (Q5 3 (Q11 (((length a:Int):Int)==(0:Int)))) 7 0) [Q74 0 4 e d b 4 a] 1)) (Q58 36 0 r f 3 (Q131 (Q98 1 0) (Q5 3 (Q11 false)) 7 0) [Q74 0 4 e d b 4 a] 1)) (Q58 36 0 r f 3 (Q131 (Q98 1 0) (Q5 3 (Q11 false)) 7 0) [Q74 0 4 e d b 4 a] 1)) (Q58 36 0 r f 3 (Q131 (Q98 1 0) (Q5 3 (Q11 false)) 7 0) [Q74 0 4 e d b 4 a] 1)) (br ((e:Int)==(4:Int)) (br (decide ((b:Int)≥(0:Int))) (br (decide ((b:Int)≤(4611686018427387904:Int))) (br ((d:List UInt8)==[]) ((FV.L 4 (Q4 4 a)=true)∧(Q58 36 0 r f 3 (Q131 (Q98 1 0) (Q5 3 (Q11 (((length a:Int):Int)==(0:Int)))) 7 0) [Q74 0 4 e d b 4 a] 1)) (Q58 36 0 r f 3 (Q131 (Q98 1 0) (Q5 3 (Q11 false)) 7 0) [Q74 0 4 e d b 4 a] 1)) (Q58 36 0 r f 3 (Q131 (Q98 1 0) (Q5 3 (Q11 false)) 7 0) [Q74 0 4 e d b 4 a] 1)) (Q58 36 0 r f 3 (Q131 (Q98 1 0) (Q5 3 (Q11 false)) 7 0) [Q74 0 4 e d b 4 a] 1)) (br ((e:Int)==(5:Int)) (br ((b:Int)==(0:Int)) (br ((d:List UInt8)==[]) ((FV.L 4 (Q4 4 a)=true)∧(Q58 36 0 r f 3 (Q131 (Q98 1 0) (Q5 3 (Q11 (((length a:Int):Int)==(1:Int)))) 7 0) [Q74 0 4 e d b 4 a] 1)) (Q58 36 0 r f 3 (Q131 (Q98 1 0) (Q5 3 (Q11 false)) 7 0) [Q74 0 4 e d b 4 a] 1)) (Q58 36 0 r f 3 (Q131 (Q98 1 0) (Q5 3 (Q11 false)) 7 0) [Q74 0 4 e d b 4 a] 1)) (br ((e:Int)==(6:Int)) (br ((b:Int)==(0:Int)) ((FV.L 4 (Q4 4 a)=true)∧(br (decide (((length a:Int):Int)≥(2:Int))) (((FV.L 4 (Q4 4 a)=true)∧((0≤(0:Int))∧(((0:Int)<(length a:Int))∧(((rE (getD a 0 [])):List FV)=(getD a 0 [])))))∧((FV.L 4 (Q4 4 a)=true)∧(br (((FV.I (getD (getD a 0 []) 0 FV.N)):Int) !=(6:Int)) (br ((d:List UInt8)==[]) ((FV.L 4 (Q4 4 a)=true)∧(Q58 36 0 r f 3 (Q131 (Q98 1 0) (Q5 3 (Q11 (((length a:Int):Int)==(length a:Int)))) 7 0) [Q74 0 4 e d b 4 a] 1)) (Q58 36 0 r f 3 (Q131 (Q98 1 0) (Q5 3 (Q11 false)) 7 0) [Q74 0 4 e d b 4 a] 1)) (Q58 36 0 r f 3 (Q131 (Q98 1 0) (Q5 3 (Q11 false)) 7 0) [Q74 0 4 e d b 4 a] 1)))) ((FV.L 4 (Q4 4 a)=true)∧(Q58 36 0 r f 3 (Q131 (Q98 1 0) (Q5 3 (Q11 false)) 7 0) [Q74 0 4 e d b 4 a] 1)))) ((FV.L 4 (Q4 4 a)=true)∧(Q58 36 0 r f 3 (Q131 (Q98 1 0) (Q5 3 (Q11 false)) 7 0) [Q74 0 4 e d b 4 a] 1))) (Q58 36 0 r f 3 (Q131 (Q98 1 0) (Q5 3 (Q11 false)) 7 0) [Q74 0 4 e d b 4 a] 1)))))))):=by kernel_rfl
theorem v36_3a (f:Bool)(e h0_0:Int)(c:List UInt8)(d:Int)(a:RW)(r:TV)(b:List AObj):VQ lv36 36 0 r b 3 ⟨Q131 (Q98 1 0) (Q5 3 (Q11 f)) 7 e,[Q74 0 4 h0_0 c d 4 a],1⟩=
  ((FV.L 4 (Q4 4 a)=true)∧(br (decide ((e:Int)<(length a:Int))) (br f (((FV.L 4 (Q4 4 a)=true)∧((0≤e)∧((e<(length a:Int))∧(((rE (getD a (toNat e) [])):List FV)=(getD a (toNat e) [])))))∧(∃ g:Bool,((Q66 36 [(aE (getD a (toNat e) []))] g)∧(Q58 36 0 r b 3 (Q131 (Q98 1 0) (Q5 3 (Q11 g)) 7 (IntKind.wrap .i64 (e+1))) [Q74 0 4 h0_0 c d 4 a] 1)))) (Q63 f r b)) (Q63 f r b))):=by kernel_rfl
def lv37:List (Nat×List Nat):=[(1,[1,2,5,6,7])]
theorem v37 (a:Int)(c:List UInt8)(b:Int)(d:RW)(k:Int)(r:TV)(e:List AObj):VE lv37 37 0 r e (Q99 (Q83 a c b d) k) []=
  (br ((a:Int)==(3:Int)) (Q72 (z0g [(0:Int),(IntKind.wrap .i64 ((IntKind.wrap .i64 (b-k))+(1:Int)))]) [] r e) (∃ f:Bool,((Q66 55 [Q83 a c b d] f)∧(Q58 37 0 r e 1 [Q18 1 k,Q98 2 0,Q18 5 0,Q5 6 (Q11 f),Q18 7 0] [Q74 0 4 a c b 4 d] 1)))):=by kernel_rfl
theorem v37_1a (x1 x5:Int)(f:Bool)(e h0_0:Int)(b:List UInt8)(c:Int)(a:RW)(r:TV)(d:List AObj):VQ lv37 37 0 r d 1 ⟨[Q18 1 x1,Q98 2 0,Q18 5 x5,Q5 6 (Q11 f),Q18 7 e],[Q74 0 4 h0_0 b c 4 a],1⟩=
  ((FV.L 4 (Q4 4 a)=true)∧(br (decide ((e:Int)<(length a:Int))) (br f (((FV.L 4 (Q4 4 a)=true)∧((0≤e)∧((e<(length a:Int))∧(((rE (getD a (toNat e) [])):List FV)=(getD a (toNat e) [])))))∧(∃ g:Int,((Q54 56 (Q99 (Q83 h0_0 b c a) x1) (Q25 g))∧(∃ h:Int,((Q54 37 (Q99 (aE (getD a (toNat e) [])) g) (Q25 h))∧(Q58 37 0 r d 1 [Q18 1 x1,Q98 2 0,Q18 5 (z0g [x5,h]),Q5 6 (Q11 f),Q18 7 (IntKind.wrap .i64 (e+1))] [Q74 0 4 h0_0 b c 4 a] 1)))))) (Q72 x5 [] r d)) (Q72 x5 [] r d))):=by kernel_rfl
def lv38:List (Nat×List Nat):=[]
theorem v38_F39 (s:RW)(r:TV)(a:List AObj):VE lv38 38 0 r a (Q133 8 s (.fn (.func 39) [] [])) []=
  (∃ b:Int,((Q54 57 (Q133 8 s (.fn (.func 39) [] [])) (Q25 b))∧(Q63 (decide ((b:Int)≥(0:Int))) r a))):=by kernel_rfl
def lv40:List (Nat×List Nat):=[]
theorem v40 (s:RW)(r:TV)(a:List AObj):VE lv40 40 0 r a [Q70 8 s] []=
  (RT (.c (.fn (.func 58) [] [(false,[(Q123 0)])])) [Q7 1 [Q8 8 s]] r a):=by kernel_rfl
def lv41:List (Nat×List Nat):=[(1,[0]),(1000001,[2,3,4])]
theorem v41 (a:Nat)(b:Int)(o1_0l o1_1l:Nat)(o2 o3 o4:RW)(r:TV)(c:List AObj):VE lv41 41 5 r c [Q87 3] (Q96 (Q75 3 1 2 0 0 4 8 0 a b) (Q36 2 o1_0l 3 o1_1l) (Q22 o2) (Q20 o3) 8 o4)=
  (Q58 41 5 r c 1 [Q49 0 0 3] [Q28 0 3 (Q64 1 2 0 0 7 8 0 a b),Q71 1 5 o1_0l 6 o1_1l,Q43 2,Q43 3,Q43 4,Q69 5 o2,Q61 6 o3,Q73 7 8 o4] 8):=by kernel_rfl
theorem zra (a:Nat)(c:Int)(h1_0l h1_1l:Nat)(h5 h6 h7:RW)(r:TV)(d:List AObj):VQ lv41 41 5 r d 1 ⟨[Q49 0 0 3],[Q28 0 3 (Q64 1 2 0 0 7 8 0 a c),Q71 1 5 h1_0l 6 h1_1l,Q43 2,Q43 3,Q43 4,Q69 5 h5,Q61 6 h6,Q73 7 8 h7],8⟩=
  (br (decide (((a:Int):Int)>(0:Int))) ((0≤(IntKind.wrap .i64 ((a:Int)-(1:Int)))∧(IntKind.wrap .i64 ((a:Int)-(1:Int)))<(a:Int))∧((((0+(toNat (IntKind.wrap .i64 ((a:Int)-(1:Int)))))<(length h7))∧((([(Q1 (FV.I (getD (getD h7 (0+(toNat (IntKind.wrap .i64 ((a:Int)-(1:Int))))) []) 0 FV.N))),(.str (FV.S (getD (getD h7 (0+(toNat (IntKind.wrap .i64 ((a:Int)-(1:Int))))) []) 1 FV.N))),(Q1 (FV.I (getD (getD h7 (0+(toNat (IntKind.wrap .i64 ((a:Int)-(1:Int))))) []) 2 FV.N))),(getD (getD h7 (0+(toNat (IntKind.wrap .i64 ((a:Int)-(1:Int))))) []) 3 FV.N),(Q1 (FV.I (getD (getD h7 (0+(toNat (IntKind.wrap .i64 ((a:Int)-(1:Int))))) []) 4 FV.N))),(.str (FV.S (getD (getD h7 (0+(toNat (IntKind.wrap .i64 ((a:Int)-(1:Int))))) []) 5 FV.N))),(Q1 (FV.I (getD (getD h7 (0+(toNat (IntKind.wrap .i64 ((a:Int)-(1:Int))))) []) 6 FV.N))),(getD (getD h7 (0+(toNat (IntKind.wrap .i64 ((a:Int)-(1:Int))))) []) 7 FV.N)]:List FV)=(take 8 (drop 0 (getD h7 (0+(toNat (IntKind.wrap .i64 ((a:Int)-(1:Int))))) []))))∧((8:Nat)=8)))∧(((0≤(0:Int))∧(((0:Int)≤(IntKind.wrap .i64 ((a:Int)-(1:Int))))∧((IntKind.wrap .i64 ((a:Int)-(1:Int)))≤(a:Int))))∧(br (decide ((c:Int)≤(0:Int))) (Q72 80 (Q112 (Q75 3 1 2 0 0 7 8 0 (toNat (IntKind.wrap .i64 ((a:Int)-(1:Int)))) c) 5 h1_0l 6 h1_1l h5 h6 8 h7) r d) (∃ b:Int×Sto×Nat×RW×Int,((Q10 59 [Q87 3, .agg [Q2 (FV.I (getD (getD h7 (0+(toNat (IntKind.wrap .i64 ((a:Int)-(1:Int))))) []) 0 FV.N)),Q6 (FV.S (getD (getD h7 (0+(toNat (IntKind.wrap .i64 ((a:Int)-(1:Int))))) []) 1 FV.N)),Q2 (FV.I (getD (getD h7 (0+(toNat (IntKind.wrap .i64 ((a:Int)-(1:Int))))) []) 2 FV.N)),Q0 (getD (getD h7 (0+(toNat (IntKind.wrap .i64 ((a:Int)-(1:Int))))) []) 3 FV.N),Q2 (FV.I (getD (getD h7 (0+(toNat (IntKind.wrap .i64 ((a:Int)-(1:Int))))) []) 4 FV.N)),Q6 (FV.S (getD (getD h7 (0+(toNat (IntKind.wrap .i64 ((a:Int)-(1:Int))))) []) 5 FV.N)),Q2 (FV.I (getD (getD h7 (0+(toNat (IntKind.wrap .i64 ((a:Int)-(1:Int))))) []) 6 FV.N)),Q0 (getD (getD h7 (0+(toNat (IntKind.wrap .i64 ((a:Int)-(1:Int))))) []) 7 FV.N)]] (Q96 (Q75 3 1 2 0 0 4 8 0 (toNat (IntKind.wrap .i64 ((a:Int)-(1:Int)))) (IntKind.wrap .i64 (c-1))) (Q36 2 h1_0l 3 h1_1l) (Q22 h5) (Q20 h6) 8 h7) (Q25 b.1) (Q112 (Q75 3 1 2 0 0 7 8 0 b.2.2.1 b.2.2.2.2) 5 (length b.2.1.V) 6 (length b.2.1.T) (SR b.2.1.V) (IR b.2.1.T) 8 b.2.2.2.1))∧(br ((b.1:Int) !=(0:Int)) (Q72 b.1 (Q112 (Q75 3 1 2 0 0 7 8 0 b.2.2.1 b.2.2.2.2) 5 (length b.2.1.V) 6 (length b.2.1.T) (SR b.2.1.V) (IR b.2.1.T) 8 b.2.2.2.1) r d) (Q58 41 5 r d 1 [Q49 0 0 3] [Q28 0 3 (Q64 1 2 0 0 7 8 0 b.2.2.1 b.2.2.2.2),Q71 1 5 (length b.2.1.V) 6 (length b.2.1.T),Q43 2,Q43 3,Q43 4,Q69 5 (SR b.2.1.V),Q61 6 (IR b.2.1.T),Q73 7 8 b.2.2.2.1] 8)))))))) (Q72 0 (Q112 (Q75 3 1 2 0 0 7 8 0 a c) 5 h1_0l 6 h1_1l h5 h6 8 h7) r d)):=by kernel_rfl
def lv28:List (Nat×List Nat):=[(1,[0,2,4,6,9,36,37])]
theorem v28 (e:Int)(f:List UInt8)(g:Int)(h:RW)(o0_0l o0_1l:Nat)(o1 o2:RW)(a:Int)(r:TV)(d:List AObj):VE lv28 28 4 r d (Q88 2 (Q83 e f g h) (Q85 3 1)) [Q36 1 o0_0l 2 o0_1l,Q22 o1,Q20 o2,Q100 a]=
  (br (decide ((a:Int)≤(0:Int))) (Q53 (Q129 (Q47 0 [] 0) 80) [Q36 1 o0_0l 2 o0_1l,Q22 o1,Q20 o2,Q100 a] r d) (∃ b:Tm×Int×Int,((Q77 42 (Q88 2 (Q83 e f g h) (Q85 3 1)) [Q36 1 o0_0l 2 o0_1l,Q22 o1,Q20 o2,Q100 (IntKind.wrap .i64 (a-1))] (Q129 (cT b.1) b.2.1) [Q36 1 o0_0l 2 o0_1l,Q22 o1,Q20 o2,Q100 b.2.2])∧(br ((b.2.1:Int) !=(0:Int)) (Q53 (Q129 (Q47 0 [] 0) b.2.1) [Q36 1 o0_0l 2 o0_1l,Q22 o1,Q20 o2,Q100 b.2.2] r d) ((∃ j:Bool,((Q54 43 [Q70 4 (FTs b.1.l)] (.c (Q0 (.sl j 4 []))))∧((FV.L 4 (.sl j 4 [])=true)∧(Q58 28 4 r d 1 [Q49 0 0 2,Q49 2 3 1,Q98 4 4,Q98 6 5,Q5 9 (Q0 (.sl j 4 [])),Q18 36 0,Q18 37 0] [Q71 0 1 o0_0l 2 o0_1l,Q69 1 o1,Q61 2 o2,Q118 3 1 b.2.2,Q28 4 4 (cT b.1),Q89 5 4 0 [] 0] 6))))∨(∃ i:RW,((Q51 43 [Q70 4 (FTs b.1.l)] (.c (Q3 0 4 0 (length i))) [.arz 4 i])∧(Q58 28 4 r d 1 [Q49 0 0 2,Q49 2 3 1,Q98 4 4,Q98 6 5,Q97 9 6 4 0 (length i),Q18 36 (length i:Int),Q18 37 0] [Q71 0 1 o0_0l 2 o0_1l,Q69 1 o1,Q61 2 o2,Q118 3 1 b.2.2,Q28 4 4 (cT b.1),Q89 5 4 0 [] 0,Q73 6 4 i] 7)))))))):=by kernel_rfl
theorem v28_1a (c:Bool)(b:RW)(x36 a:Int)(h0_0l h0_1l:Nat)(h1 h2:RW)(h3_0 d:Int)(e:List UInt8)(f:Int)(g:RW)(h:Int)(i:List UInt8)(j:Int)(r:TV)(k:List AObj):VQ lv28 28 4 r k 1 ⟨[Q49 0 0 2,Q49 2 3 1,Q98 4 4,Q98 6 5,Q5 9 (Q0 (.sl c 4 b)),Q18 36 x36,Q18 37 a],[Q71 0 1 h0_0l 2 h0_1l,Q69 1 h1,Q61 2 h2,Q118 3 1 h3_0,Q74 4 4 d e f 4 g,Q89 5 4 h i j],6⟩=
  (br (decide ((a:Int)<x36)) (br ((d:Int)==(6:Int)) (br ((a:Int)==(0:Int)) (Q58 28 4 r k 1 [Q49 0 0 2,Q49 2 3 1,Q98 4 4,Q98 6 5,Q5 9 (Q0 (.sl c 4 b)),Q18 36 x36,Q18 37 (IntKind.wrap .i64 (a+1))] [Q71 0 1 h0_0l 2 h0_1l,Q69 1 h1,Q61 2 h2,Q118 3 1 h3_0,Q74 4 4 d e f 4 g,Q89 5 4 h i j] 6) (((FV.L 4 (.sl c 4 b)=true)∧((0≤a)∧((a<(length b:Int))∧(((rE (getD b (toNat a) [])):List FV)=(getD b (toNat a) [])))))∧(∃ l:Tm×Int×Int,((Q77 28 (Q88 2 (aE (getD b (toNat a) [])) (Q85 3 1)) [Q36 1 h0_0l 2 h0_1l,Q22 h1,Q20 h2,Q100 h3_0] (Q129 (cT l.1) l.2.1) [Q36 1 h0_0l 2 h0_1l,Q22 h1,Q20 h2,Q100 l.2.2])∧(((FV.L 4 (.sl c 4 b)=true)∧((0≤a)∧((a<(length b:Int))∧(((rE (getD b (toNat a) [])):List FV)=(getD b (toNat a) [])))))∧False))))) (((FV.L 4 (.sl c 4 b)=true)∧((0≤a)∧((a<(length b:Int))∧(((rE (getD b (toNat a) [])):List FV)=(getD b (toNat a) [])))))∧(∃ m:Tm×Int×Int,((Q77 28 (Q88 2 (aE (getD b (toNat a) [])) (Q85 3 1)) [Q36 1 h0_0l 2 h0_1l,Q22 h1,Q20 h2,Q100 h3_0] (Q129 (cT m.1) m.2.1) [Q36 1 h0_0l 2 h0_1l,Q22 h1,Q20 h2,Q100 m.2.2])∧(((FV.L 4 (.sl c 4 b)=true)∧((0≤a)∧((a<(length b:Int))∧(((rE (getD b (toNat a) [])):List FV)=(getD b (toNat a) [])))))∧False))))) (Q53 (Q129 (Q14 d e f (Q0 (.sl c 4 b))) 0) [Q36 1 h0_0l 2 h0_1l,Q22 h1,Q20 h2,Q100 h3_0] r k)):=by kernel_rfl
theorem v28_1b (b:Nat)(x36 a:Int)(h0_0l h0_1l:Nat)(h1 h2:RW)(h3_0 c:Int)(e:List UInt8)(f:Int)(h:RW)(i:Int)(j:List UInt8)(k:Int)(d:RW)(r:TV)(g:List AObj):VQ lv28 28 4 r g 1 ⟨[Q49 0 0 2,Q49 2 3 1,Q98 4 4,Q98 6 5,Q97 9 6 4 0 b,Q18 36 x36,Q18 37 a],[Q71 0 1 h0_0l 2 h0_1l,Q69 1 h1,Q61 2 h2,Q118 3 1 h3_0,Q74 4 4 c e f 4 h,Q89 5 4 i j k,Q73 6 4 d],7⟩=
  (br (decide ((a:Int)<x36)) (br ((c:Int)==(6:Int)) (br ((a:Int)==(0:Int)) (Q58 28 4 r g 1 [Q49 0 0 2,Q49 2 3 1,Q98 4 4,Q98 6 5,Q97 9 6 4 0 b,Q18 36 x36,Q18 37 (IntKind.wrap .i64 (a+1))] [Q71 0 1 h0_0l 2 h0_1l,Q69 1 h1,Q61 2 h2,Q118 3 1 h3_0,Q74 4 4 c e f 4 h,Q89 5 4 i j k,Q73 6 4 d] 7) ((0≤a∧a<(b:Int))∧((((0+(toNat a))<(length d))∧((((rE (getD d (0+(toNat a)) [])):List FV)=(take 4 (drop 0 (getD d (0+(toNat a)) []))))∧((4:Nat)=4)))∧(∃ l:Tm×Int×Int,((Q77 28 (Q88 2 (aE (getD d (0+(toNat a)) [])) (Q85 3 1)) [Q36 1 h0_0l 2 h0_1l,Q22 h1,Q20 h2,Q100 h3_0] (Q129 (cT l.1) l.2.1) [Q36 1 h0_0l 2 h0_1l,Q22 h1,Q20 h2,Q100 l.2.2])∧((0≤a∧a<(b:Int))∧(((0+(toNat a))<(length d)∧(length (getD d (0+(toNat a)) []))=4)∧(br ((l.2.1:Int) !=(0:Int)) (Q53 (Q129 (Q47 0 [] 0) l.2.1) [Q36 1 h0_0l 2 h0_1l,Q22 h1,Q20 h2,Q100 l.2.2] r g) (Q58 28 4 r g 1 [Q49 0 0 2,Q49 2 3 1,Q98 4 4,Q98 6 5,Q97 9 6 4 0 b,Q18 36 x36,Q18 37 (IntKind.wrap .i64 (a+1))] [Q71 0 1 h0_0l 2 h0_1l,Q69 1 h1,Q61 2 h2,Q118 3 1 l.2.2,Q74 4 4 c e f 4 h,Q89 5 4 i j k,Q73 6 4 (List.set d (0+(toNat a)) (FT4 l.1))] 7))))))))) ((0≤a∧a<(b:Int))∧((((0+(toNat a))<(length d))∧((((rE (getD d (0+(toNat a)) [])):List FV)=(take 4 (drop 0 (getD d (0+(toNat a)) []))))∧((4:Nat)=4)))∧(∃ m:Tm×Int×Int,((Q77 28 (Q88 2 (aE (getD d (0+(toNat a)) [])) (Q85 3 1)) [Q36 1 h0_0l 2 h0_1l,Q22 h1,Q20 h2,Q100 h3_0] (Q129 (cT m.1) m.2.1) [Q36 1 h0_0l 2 h0_1l,Q22 h1,Q20 h2,Q100 m.2.2])∧((0≤a∧a<(b:Int))∧(((0+(toNat a))<(length d)∧(length (getD d (0+(toNat a)) []))=4)∧(br ((m.2.1:Int) !=(0:Int)) (Q53 (Q129 (Q47 0 [] 0) m.2.1) [Q36 1 h0_0l 2 h0_1l,Q22 h1,Q20 h2,Q100 m.2.2] r g) (Q58 28 4 r g 1 [Q49 0 0 2,Q49 2 3 1,Q98 4 4,Q98 6 5,Q97 9 6 4 0 b,Q18 36 x36,Q18 37 (IntKind.wrap .i64 (a+1))] [Q71 0 1 h0_0l 2 h0_1l,Q69 1 h1,Q61 2 h2,Q118 3 1 m.2.2,Q74 4 4 c e f 4 h,Q89 5 4 i j k,Q73 6 4 (List.set d (0+(toNat a)) (FT4 m.1))] 7))))))))) ((((4:Nat)=4∧(0+b)≤(length d))∧True)∧(Q53 (Q129 (Q21 c e f 4 (take b (drop 0 d))) 0) [Q36 1 h0_0l 2 h0_1l,Q22 h1,Q20 h2,Q100 h3_0] r g))):=by kernel_rfl
def lv44:List (Nat×List Nat):=[(3,[2,6,30,31,32])]
theorem v44 (c:Int)(d:List UInt8)(e:Int)(a:RW)(r:TV)(b:List AObj):VE lv44 44 0 r b [Q83 c d e a] []=
  (br ((c:Int)==(5:Int)) (((FV.L 4 (Q4 4 a)=true)∧((0≤(0:Int))∧(((0:Int)<(length a:Int))∧(((rE (getD a 0 [])):List FV)=(getD a 0 [])))))∧(∃ g:Tm,((Q54 44 [(aE (getD a 0 []))] (aT g))∧(∃ f:Tm×Bool,((Q54 61 [(aT g)] (.tup (Q117 (cT f.1) f.2)))∧(br f.2 (RT (aT f.1) [] r b) (∃ h:Tm,((Q54 17 [Q25 1,(aT g)] (aT h))∧(RT (aT h) [] r b))))))))) (br ((c:Int)==(6:Int)) ((FV.L 4 (Q4 4 a)=true)∧(Q58 44 0 r b 3 [Q98 2 0,Q120 6,Q62 30 4 a,Q18 31 (length a:Int),Q18 32 0] [Q89 0 4 0 [] 0] 1)) (RT (Q83 c d e a) [] r b))):=by kernel_rfl
theorem v44_3a (b:RW)(x31 a h0_0:Int)(c:List UInt8)(d:Int)(r:TV)(e:List AObj):VQ lv44 44 0 r e 3 ⟨[Q98 2 0,Q120 6,Q62 30 4 b,Q18 31 x31,Q18 32 a],[Q89 0 4 h0_0 c d],1⟩=
  (br (decide ((a:Int)<x31)) (((FV.L 4 (Q4 4 b)=true)∧((0≤a)∧((a<(length b:Int))∧(((rE (getD b (toNat a) [])):List FV)=(getD b (toNat a) [])))))∧(∃ f:Tm,((Q54 44 [(aE (getD b (toNat a) []))] (aT f))∧((1≤1)∧((z0u 1 56)∧(Q58 44 0 r e 3 [Q98 2 0,Q97 6 1 4 0 1,Q62 30 4 b,Q18 31 x31,Q18 32 (IntKind.wrap .i64 (a+1))] [Q89 0 4 h0_0 c d,Q73 1 4 [(FT4 f)]] 2)))))) (((FV.L 4 .N=true)∧((0≤(0:Int))∧(((0:Int)<((0:Nat):Int))∧(([(Q1 0),(.str []),(Q1 0), .N]:List FV)=[]))))∧((FV.L 4 .N=true)∧(((0≤(1:Int))∧(((1:Int)≤(0:Int))∧((0:Int)≤((0:Nat):Int))))∧(∃ g:Tm,((Q54 15 (Q115 (.agg (Q47 0 [] 0)) Q37) (aT g))∧(RT (aT g) [] r e))))))):=by kernel_rfl
theorem v44_3b (a:Nat)(c:RW)(x31 b h0_0:Int)(e:List UInt8)(f:Int)(d:RW)(r:TV)(g:List AObj):VQ lv44 44 0 r g 3 ⟨[Q98 2 0,Q97 6 1 4 0 a,Q62 30 4 c,Q18 31 x31,Q18 32 b],[Q89 0 4 h0_0 e f,Q73 1 4 d],2⟩=
  (br (decide ((b:Int)<x31)) (((FV.L 4 (Q4 4 c)=true)∧((0≤b)∧((b<(length c:Int))∧(((rE (getD c (toNat b) [])):List FV)=(getD c (toNat b) [])))))∧(∃ h:Tm,((Q54 44 [(aE (getD c (toNat b) []))] (aT h))∧((1≤1)∧((a≤(length d)∧z0u (a+1) 56)∧(Q58 44 0 r g 3 [Q98 2 0,Q97 6 1 4 0 (a+1),Q62 30 4 c,Q18 31 x31,Q18 32 (IntKind.wrap .i64 (b+1))] [Q89 0 4 h0_0 e f,Q73 1 4 ((take a d)++ [(FT4 h)])] 2)))))) ((0≤(0:Int)∧(0:Int)<(a:Int))∧(((0<(length d))∧((((rE (getD d 0 [])):List FV)=(take 4 (drop 0 (getD d 0 []))))∧((4:Nat)=4)))∧(((0≤(1:Int))∧(((1:Int)≤(a:Int))∧((a:Int)≤(a:Int))))∧(((4:Nat)=4∧(1+((toNat (a:Int))-1))≤(length d))∧(∃ i:Tm,((Q54 15 [(aE (getD d 0 [])),Q70 4 (take ((toNat (a:Int))-1) (drop 1 d))] (aT i))∧(RT (aT i) [] r g)))))))):=by kernel_rfl
def lv45:List (Nat×List Nat):=[]
theorem v45 (n:Int)(r:TV)(a:List AObj):VE lv45 45 0 r a (Q99 (.c Q37) n) []=
  (br (decide ((n:Int)<(0:Int))) False ((FV.L 4 .N=true)∧(br (decide (((IntKind.wrap .i64 (n-0)):Int)>(0:Int))) ((FV.L 4 .N=true)∧(((0≤(0:Int))∧(((0:Int)≤(0:Int))∧((0:Int)≤((0:Nat):Int))))∧((0<(IntKind.wrap .i64 (n-0))∧z0u (toNat (IntKind.wrap .i64 (n-0))) 56)∧((FV.L 4 .N=true)∧(((0≤(0:Int))∧(((0:Int)≤(0:Int))∧((0:Int)≤(((toNat (IntKind.wrap .i64 (n-0))):Nat):Int))))∧(RT (.c (Q3 0 4 0 0)) [.arz 4 []] r a)))))) (RT (.c Q37) [] r a)))):=by kernel_rfl
def lv46:List (Nat×List Nat):=[(1,[0,1,7,8])]
theorem v46_F32 (d:Nat)(e:RW)(a:Int)(r:TV)(b:List AObj):VE lv46 46 2 r b (Q115 (.c (Q3 0 1 0 d)) (.fn (.func 32) [] [(false,[(Q123 1)])])) [Q20 e,Q100 a]=
  (Q58 46 2 r b 1 (Q134 (Q97 0 0 1 0 d) 1 (.fn (.func 32) [] [(false,[(Q123 1)])]) 7 (d:Int) 8 0) [Q61 0 e,Q118 1 1 a] 2):=by kernel_rfl
theorem zh (e:Nat)(x7 b:Int)(d:RW)(a:Int)(r:TV)(c:List AObj):VQ lv46 46 2 r c 1 ⟨Q134 (Q97 0 0 1 0 e) 1 (.fn (.func 32) [] [(false,[(Q123 1)])]) 7 x7 8 b,[Q61 0 d,Q118 1 1 a],2⟩=
  (br (decide ((b:Int)<x7)) ((0≤b∧b<(e:Int))∧((((0+(toNat b))<(length d))∧((([(Q1 (FV.I (getD (getD d (0+(toNat b)) []) 0 FV.N)))]:List FV)=(take 1 (drop 0 (getD d (0+(toNat b)) []))))∧((1:Nat)=1)))∧(∃ f:Bool,((Q10 32 [Q25 (FV.I (getD (getD d (0+(toNat b)) []) 0 FV.N)),Q87 1] [Q100 a] (Q24 f) [Q100 a])∧(br f (Q72 b [Q20 d,Q100 a] r c) (Q58 46 2 r c 1 (Q134 (Q97 0 0 1 0 e) 1 (.fn (.func 32) [] [(false,[(Q123 1)])]) 7 x7 8 (IntKind.wrap .i64 (b+1))) [Q61 0 d,Q118 1 1 a] 2)))))) (Q72 (-1:Int) [Q20 d,Q100 a] r c)):=by kernel_rfl
def lv32:List (Nat×List Nat):=[]
theorem v32 (x o0_0:Int)(r:TV)(a:List AObj):VE lv32 32 1 r a [Q25 x,Q87 1] [Q100 o0_0]=
  (Q40 (decide ((x:Int)≥o0_0)) [Q100 o0_0] r a):=by kernel_rfl
def lv47:List (Nat×List Nat):=[]
theorem v47 (s:List UInt8)(r:TV)(a:List AObj):VE lv47 47 0 r a [.c (Q6 s)] []=
  (∃ d:Bool,((Q66 62 [.c (Q6 s)] d)∧(br d ((0≤(0:Int)∧(0:Int)<(length s:Int))∧(∃ e:Bool,((Q66 63 [.c (Q0 (.int .u8 ((UInt8.toNat (getD s 0 0):Nat):Int)))] e)∧(br e (∃ b:Int,((Q54 64 (Q115 (.c (Q6 s)) (.fn (.func 65) [] [])) (Q25 b))∧(Q63 ((b:Int)==(length s:Int)) r a))) (Q67 r a))))) (Q67 r a)))):=by kernel_rfl
def lv48:List (Nat×List Nat):=[]
theorem v48 (s:List UInt8)(r:TV)(a:List AObj):VE lv48 48 0 r a [.c (Q6 s)] []=
  (∃ d:Bool,((Q66 62 [.c (Q6 s)] d)∧(br d (∃ b:Int,((Q54 64 (Q115 (.c (Q6 s)) (.fn (.func 66) [] [])) (Q25 b))∧(br ((b:Int)==(length s:Int)) (Q63 true r a) (br (((length s:Int):Int)==(1:Int)) (∃ e:Bool,((Q66 67 (Q115 (.c (Q6 [44,59,33])) (Q6 s)) e)∧(Q63 e r a))) (Q67 r a))))) (Q67 r a)))):=by kernel_rfl
def lv49:List (Nat×List Nat):=[]
theorem v49_F50 (s:RW)(r:TV)(a:List AObj):VE lv49 49 0 r a (Q133 4 s (.fn (.func 50) [] [])) []=
  (∃ b:Int,((Q54 68 (Q133 4 s (.fn (.func 50) [] [])) (Q25 b))∧(Q63 (decide ((b:Int)≥(0:Int))) r a))):=by kernel_rfl
def lv51:List (Nat×List Nat):=[(1,[1,2,7,27,28,29])]
theorem v51_F52 (a:Int)(b:List UInt8)(d:Int)(e:RW)(k o0_0:Int)(r:TV)(f:List AObj):VE lv51 51 1 r f [Q83 a b d e,Q25 k, .c (.fn (.func 52) [] [(false,[(Q123 0)])])] [Q100 o0_0]=
  (br ((a:Int) !=(5:Int)) (br ((a:Int) !=(6:Int)) (∃ i:Int,((Q77 52 [Q83 a b d e,Q25 k,Q87 1] [Q100 o0_0] [] [Q100 i])∧(Q53 [] [Q100 i] r f))) (∃ g:FV,(∃ j:Int,((Q54 69 [Q83 a b d e] (.tup [Q19 [Q0 g],Q31 j]))∧((FV.L 4 g=true)∧(Q58 51 1 r f 1 [Q18 1 k,Q5 2 (.fn (.func 52) [] [(false,[(Q123 0)])]),Q18 7 j,Q5 27 (Q0 g),Q18 28 (length (FV.ses g):Int),Q18 29 0] [Q118 0 1 o0_0] 1)))))) (∃ h:FV,(∃ l:Int,((Q54 69 [Q83 a b d e] (.tup [Q19 [Q0 h],Q31 l]))∧((FV.L 4 h=true)∧(Q58 51 1 r f 1 [Q18 1 k,Q5 2 (.fn (.func 52) [] [(false,[(Q123 0)])]),Q18 7 l,Q5 27 (Q0 h),Q18 28 (length (FV.ses h):Int),Q18 29 0] [Q118 0 1 o0_0] 1)))))):=by kernel_rfl
theorem zgd (x1 x7:Int)(b:FV)(x28 a h0_0:Int)(r:TV)(d:List AObj):VQ lv51 51 1 r d 1 ⟨[Q18 1 x1,Q5 2 (.fn (.func 52) [] [(false,[(Q123 0)])]),Q18 7 x7,Q5 27 (Q0 b),Q18 28 x28,Q18 29 a],[Q118 0 1 h0_0],1⟩=
  (br (decide ((a:Int)<x28)) (((FV.L 4 b=true)∧((0≤a)∧((a<(length (FV.ses b):Int))∧(((rE (getD (FV.ses b) (toNat a) [])):List FV)=(getD (FV.ses b) (toNat a) [])))))∧((∃ g:Int,((Q77 51 [(aE (getD (FV.ses b) (toNat a) [])),Q25 (IntKind.wrap .i64 (x1+x7)), .c (.fn (.func 52) [] [(false,[(Q123 0)])])] [Q100 h0_0] [] [Q100 g])∧(Q58 51 1 r d 1 [Q18 1 x1,Q5 2 (.fn (.func 52) [] [(false,[(Q123 0)])]),Q18 7 x7,Q5 27 (Q0 b),Q18 28 x28,Q18 29 (IntKind.wrap .i64 (a+1))] [Q118 0 1 g] 1)))∨((∃ _:Unit,((Q77 51 [(aE (getD (FV.ses b) (toNat a) [])),Q25 (IntKind.wrap .i64 (x1+x7)), .c (.fn (.func 52) [] [(false,[(Q123 0)])])] [Q100 h0_0] [] [Q7 1 [Q37]])∧(Q58 51 1 r d 1 [Q18 1 x1,Q5 2 (.fn (.func 52) [] [(false,[(Q123 0)])]),Q18 7 x7,Q5 27 (Q0 b),Q18 28 x28,Q18 29 (IntKind.wrap .i64 (a+1))] [Q28 0 1 [Q37]] 1)))∨((∃ e:Nat×RW,((Q77 51 [(aE (getD (FV.ses b) (toNat a) [])),Q25 (IntKind.wrap .i64 (x1+x7)), .c (.fn (.func 52) [] [(false,[(Q123 0)])])] [Q100 h0_0] [] [Q7 1 [Q3 1 1 0 e.1],Q20 e.2])∧(Q58 51 1 r d 1 [Q18 1 x1,Q5 2 (.fn (.func 52) [] [(false,[(Q123 0)])]),Q18 7 x7,Q5 27 (Q0 b),Q18 28 x28,Q18 29 (IntKind.wrap .i64 (a+1))] [Q28 0 1 [Q3 1 1 0 e.1],Q61 1 e.2] 2)))∨(∃ f:Nat×RW,((Q77 51 [(aE (getD (FV.ses b) (toNat a) [])),Q25 (IntKind.wrap .i64 (x1+x7)), .c (.fn (.func 52) [] [(false,[(Q123 0)])])] [Q100 h0_0] [] (Q38 (Q7 1 [Q3 2 1 0 f.1]) .gone f.2))∧(Q58 51 1 r d 1 [Q18 1 x1,Q5 2 (.fn (.func 52) [] [(false,[(Q123 0)])]),Q18 7 x7,Q5 27 (Q0 b),Q18 28 x28,Q18 29 (IntKind.wrap .i64 (a+1))] [Q28 0 1 [Q3 1 1 0 f.1],Q61 1 f.2] 2))))))) (Q53 [] [Q100 h0_0] r d)):=by kernel_rfl
def lv53:List (Nat×List Nat):=[(1,[0,3])]
theorem v53 (s:List UInt8)(r:TV)(a:List AObj):VE lv53 53 0 r a [.c (Q6 s)] []=
  (br (decide (((length s:Int):Int)<(1:Int))) (Q67 r a) (br (decide (((length s:Int):Int)>(32:Int))) (Q67 r a) ((0≤(0:Int)∧(0:Int)<(length s:Int))∧(∃ b:Bool,((Q66 70 [.c (Q0 (.int .u8 ((UInt8.toNat (getD s 0 0):Nat):Int)))] b)∧(br (!b) (Q67 r a) (Q58 53 0 r a 1 [Q5 0 (Q6 s),Q18 3 0] [] 0))))))):=by kernel_rfl
theorem v53_1a (d:List UInt8)(b:Int)(r:TV)(a:List AObj):VQ lv53 53 0 r a 1 ⟨[Q5 0 (Q6 d),Q18 3 b],[],0⟩=
  (br (decide ((b:Int)<(length d:Int))) ((0≤b∧b<(length d:Int))∧(∃ e:Bool,((Q66 71 [.c (Q0 (.int .u8 ((UInt8.toNat (getD d (toNat b) 0):Nat):Int)))] e)∧(br (!e) (Q67 r a) (Q58 53 0 r a 1 [Q5 0 (Q6 d),Q18 3 (IntKind.wrap .i64 (b+1))] [] 0))))) (Q63 true r a)):=by kernel_rfl
def lv54:List (Nat×List Nat):=[(1,[0,3])]
theorem v54 (s:List UInt8)(r:TV)(a:List AObj):VE lv54 54 0 r a [.c (Q6 s)] []=
  (br ((s:List UInt8)==[44]) (Q63 true r a) (br ((s:List UInt8)==[59]) (Q63 true r a) (br ((s:List UInt8)==[33]) (Q63 true r a) (Q58 54 0 r a 1 [Q5 0 (Q6 s),Q18 3 0] [] 0)))):=by kernel_rfl
theorem v54_1a (b:List UInt8)(d:Int)(r:TV)(a:List AObj):VQ lv54 54 0 r a 1 ⟨[Q5 0 (Q6 b),Q18 3 d],[],0⟩=
  (br (decide ((d:Int)<(length b:Int))) ((0≤d∧d<(length b:Int))∧(∃ e:Bool,((Q66 72 [.c (Q0 (.int .u8 ((UInt8.toNat (getD b (toNat d) 0):Nat):Int)))] e)∧(br (!e) (Q67 r a) (Q58 54 0 r a 1 [Q5 0 (Q6 b),Q18 3 (IntKind.wrap .i64 (d+1))] [] 0))))) (br (decide (((length b:Int):Int)≥(1:Int))) (Q63 (decide (((length b:Int):Int)≤(32:Int))) r a) (Q67 r a))):=by kernel_rfl
def lv55:List (Nat×List Nat):=[]
theorem v55 (a:Int)(c:List UInt8)(d:Int)(e:RW)(r:TV)(b:List AObj):VE lv55 55 0 r b [Q83 a c d e] []=
  (br ((a:Int)==(5:Int)) (Q63 true r b) (Q63 ((a:Int)==(6:Int)) r b)):=by kernel_rfl
def lv56:List (Nat×List Nat):=[]
theorem v56 (b:Int)(c:List UInt8)(d:Int)(e:RW)(k:Int)(r:TV)(a:List AObj):VE lv56 56 0 r a (Q99 (Q83 b c d e) k) []=
  (br ((b:Int)==(5:Int)) (Q72 (IntKind.wrap .i64 (k+1)) [] r a) (Q72 k [] r a)):=by kernel_rfl
def lv57:List (Nat×List Nat):=[(1,[0,1,7,8])]
theorem v57_F39 (s:RW)(r:TV)(a:List AObj):VE lv57 57 0 r a (Q133 8 s (.fn (.func 39) [] [])) []=
  ((FV.L 8 (Q4 8 s)=true)∧(Q58 57 0 r a 1 (Q134 (Q62 0 8 s) 1 (.fn (.func 39) [] []) 7 (length s:Int) 8 0) [] 0)):=by kernel_rfl
theorem zgz (b:RW)(x7 a:Int)(r:TV)(c:List AObj):VQ lv57 57 0 r c 1 ⟨Q134 (Q62 0 8 b) 1 (.fn (.func 39) [] []) 7 x7 8 a,[],0⟩=
  (br (decide ((a:Int)<x7)) (((FV.L 8 (Q4 8 b)=true)∧((0≤a)∧((a<(length b:Int))∧(([(Q1 (FV.I (getD (getD b (toNat a) []) 0 FV.N))),(.str (FV.S (getD (getD b (toNat a) []) 1 FV.N))),(Q1 (FV.I (getD (getD b (toNat a) []) 2 FV.N))),(getD (getD b (toNat a) []) 3 FV.N),(Q1 (FV.I (getD (getD b (toNat a) []) 4 FV.N))),(.str (FV.S (getD (getD b (toNat a) []) 5 FV.N))),(Q1 (FV.I (getD (getD b (toNat a) []) 6 FV.N))),(getD (getD b (toNat a) []) 7 FV.N)]:List FV)=(getD b (toNat a) [])))))∧(∃ d:Bool,((Q66 39 [.agg [Q2 (FV.I (getD (getD b (toNat a) []) 0 FV.N)),Q6 (FV.S (getD (getD b (toNat a) []) 1 FV.N)),Q2 (FV.I (getD (getD b (toNat a) []) 2 FV.N)),Q0 (getD (getD b (toNat a) []) 3 FV.N),Q2 (FV.I (getD (getD b (toNat a) []) 4 FV.N)),Q6 (FV.S (getD (getD b (toNat a) []) 5 FV.N)),Q2 (FV.I (getD (getD b (toNat a) []) 6 FV.N)),Q0 (getD (getD b (toNat a) []) 7 FV.N)]] d)∧(br d (Q72 a [] r c) (Q58 57 0 r c 1 (Q134 (Q62 0 8 b) 1 (.fn (.func 39) [] []) 7 x7 8 (IntKind.wrap .i64 (a+1))) [] 0))))) (Q72 (-1:Int) [] r c)):=by kernel_rfl
def lv59:List (Nat×List Nat):=[(1000001,[2,3,4])]
theorem v59 (w:Int)(x:List UInt8)(y:Int)(z:RW)(A:Int)(B:List UInt8)(C:Int)(D:RW)(u:Nat)(v:Int)(o1_0l o1_1l:Nat)(o2 o3 o4:RW)(r:TV)(c:List AObj):VE lv59 59 5 r c [Q87 3, .agg [Q2 w,Q6 x,Q2 y,Q124 z,Q2 A,Q6 B,Q2 C,Q124 D]] (Q96 (Q75 3 1 2 0 0 4 8 0 u v) (Q36 2 o1_0l 3 o1_1l) (Q22 o2) (Q20 o3) 8 o4)=
  (∃ b:Tm×Tm×List Tm×Int×Nat×Int,((Q77 73 [Q87 3,Q83 w x y z] (Q96 (Q75 3 1 2 0 0 4 8 0 u v) (Q36 2 o1_0l 3 o1_1l) (Q22 o2) (Q20 o3) 8 o4) (Q129 (Q128 b.1.k (Q6 b.1.s) (Q2 b.1.n) (FTs b.1.l) (Q2 b.2.1.k) (Q6 b.2.1.s) (Q2 b.2.1.n) (FTs b.2.1.l) (FTs b.2.2.1)) b.2.2.2.1) (Q96 (Q75 3 1 2 0 0 4 8 0 b.2.2.2.2.1 b.2.2.2.2.2) (Q36 2 o1_0l 3 o1_1l) (Q22 o2) (Q20 o3) 8 o4))∧(br ((b.2.2.2.1:Int) !=(0:Int)) (Q72 b.2.2.2.1 (Q112 (Q75 3 1 2 0 0 7 8 0 b.2.2.2.2.1 b.2.2.2.2.2) 5 o1_0l 6 o1_1l o2 o3 8 o4) r c) (∃ a:Tm×Tm×List Tm×Int×Nat×Int,((Q77 73 [Q87 3,Q83 A B C D] (Q96 (Q75 3 1 2 0 0 4 8 0 b.2.2.2.2.1 b.2.2.2.2.2) (Q36 2 o1_0l 3 o1_1l) (Q22 o2) (Q20 o3) 8 o4) (Q129 (Q128 a.1.k (Q6 a.1.s) (Q2 a.1.n) (FTs a.1.l) (Q2 a.2.1.k) (Q6 a.2.1.s) (Q2 a.2.1.n) (FTs a.2.1.l) (FTs a.2.2.1)) a.2.2.2.1) (Q96 (Q75 3 1 2 0 0 4 8 0 a.2.2.2.2.1 a.2.2.2.2.2) (Q36 2 o1_0l 3 o1_1l) (Q22 o2) (Q20 o3) 8 o4))∧(br ((a.2.2.2.1:Int) !=(0:Int)) (Q72 a.2.2.2.1 (Q112 (Q75 3 1 2 0 0 7 8 0 a.2.2.2.2.1 a.2.2.2.2.2) 5 o1_0l 6 o1_1l o2 o3 8 o4) r c) (br ((b.1.k:Int)==(5:Int)) (∃ O:Tm,((Q54 75 [(aT b.1)] (aT O))∧(∃ P:Tm,((Q54 75 [(aT a.1)] (aT P))∧(((4:Nat)=4∧1≤1)∧(((4:Nat)=4∧1≤1)∧(∃ q:Sto×Nat×RW×Int,((Q77 74 (Q88 3 (Q70 4 [(FT4 O)]) (Q70 4 [(FT4 P)])) (Q96 (Q75 3 1 2 0 0 4 8 0 a.2.2.2.2.1 a.2.2.2.2.2) (Q36 2 o1_0l 3 o1_1l) (Q22 o2) (Q20 o3) 8 o4) [] (Q112 (Q75 3 1 2 0 0 7 8 0 q.2.1 q.2.2.2) 5 (length q.1.V) 6 (length q.1.T) (SR q.1.V) (IR q.1.T) 8 q.2.2.1))∧(Q72 0 (Q112 (Q75 3 1 2 0 0 7 8 0 q.2.1 q.2.2.2) 5 (length q.1.V) 6 (length q.1.T) (SR q.1.V) (IR q.1.T) 8 q.2.2.1) r c))))))))) (br ((a.1.k:Int)==(5:Int)) (∃ S:Tm,((Q54 75 [(aT b.1)] (aT S))∧(∃ U:Tm,((Q54 75 [(aT a.1)] (aT U))∧(((4:Nat)=4∧1≤1)∧(((4:Nat)=4∧1≤1)∧(∃ t:Sto×Nat×RW×Int,((Q77 74 (Q88 3 (Q70 4 [(FT4 S)]) (Q70 4 [(FT4 U)])) (Q96 (Q75 3 1 2 0 0 4 8 0 a.2.2.2.2.1 a.2.2.2.2.2) (Q36 2 o1_0l 3 o1_1l) (Q22 o2) (Q20 o3) 8 o4) [] (Q112 (Q75 3 1 2 0 0 7 8 0 t.2.1 t.2.2.2) 5 (length t.1.V) 6 (length t.1.T) (SR t.1.V) (IR t.1.T) 8 t.2.2.1))∧(Q72 0 (Q112 (Q75 3 1 2 0 0 7 8 0 t.2.1 t.2.2.2) 5 (length t.1.V) 6 (length t.1.T) (SR t.1.V) (IR t.1.T) 8 t.2.2.1) r c))))))))) (∃ W:Bool,((Q66 76 [.agg (Q128 b.1.k (Q6 b.1.s) (Q2 b.1.n) (FTs b.1.l) (Q2 b.2.1.k) (Q6 b.2.1.s) (Q2 b.2.1.n) (FTs b.2.1.l) (FTs b.2.2.1))] W)∧(br W (∃ E:Bool,((Q66 76 [.agg (Q128 a.1.k (Q6 a.1.s) (Q2 a.1.n) (FTs a.1.l) (Q2 a.2.1.k) (Q6 a.2.1.s) (Q2 a.2.1.n) (FTs a.2.1.l) (FTs a.2.2.1))] E)∧(br E (br ((b.2.1.n:Int)==a.2.1.n) (∃ d:Int×Sto×Nat×RW×Int,((Q10 77 (Q88 3 (.agg (Q128 b.1.k (Q6 b.1.s) (Q2 b.1.n) (FTs b.1.l) (Q2 b.2.1.k) (Q6 b.2.1.s) (Q2 b.2.1.n) (FTs b.2.1.l) (FTs b.2.2.1))) (.agg (Q128 a.1.k (Q6 a.1.s) (Q2 a.1.n) (FTs a.1.l) (Q2 a.2.1.k) (Q6 a.2.1.s) (Q2 a.2.1.n) (FTs a.2.1.l) (FTs a.2.2.1)))) (Q96 (Q75 3 1 2 0 0 4 8 0 a.2.2.2.2.1 a.2.2.2.2.2) (Q36 2 o1_0l 3 o1_1l) (Q22 o2) (Q20 o3) 8 o4) (Q25 d.1) (Q112 (Q75 3 1 2 0 0 7 8 0 d.2.2.1 d.2.2.2.2) 5 (length d.2.1.V) 6 (length d.2.1.T) (SR d.2.1.V) (IR d.2.1.T) 8 d.2.2.2.1))∧(Q72 d.1 (Q112 (Q75 3 1 2 0 0 7 8 0 d.2.2.1 d.2.2.2.2) 5 (length d.2.1.V) 6 (length d.2.1.T) (SR d.2.1.V) (IR d.2.1.T) 8 d.2.2.2.1) r c))) (∃ F:Bool,((Q66 76 [.agg (Q128 b.1.k (Q6 b.1.s) (Q2 b.1.n) (FTs b.1.l) (Q2 b.2.1.k) (Q6 b.2.1.s) (Q2 b.2.1.n) (FTs b.2.1.l) (FTs b.2.2.1))] F)∧(br F (∃ e:Int×Sto×Nat×RW×Int,((Q10 78 (Q88 3 (.agg (Q128 b.1.k (Q6 b.1.s) (Q2 b.1.n) (FTs b.1.l) (Q2 b.2.1.k) (Q6 b.2.1.s) (Q2 b.2.1.n) (FTs b.2.1.l) (FTs b.2.2.1))) (.agg (Q128 a.1.k (Q6 a.1.s) (Q2 a.1.n) (FTs a.1.l) (Q2 a.2.1.k) (Q6 a.2.1.s) (Q2 a.2.1.n) (FTs a.2.1.l) (FTs a.2.2.1)))) (Q96 (Q75 3 1 2 0 0 4 8 0 a.2.2.2.2.1 a.2.2.2.2.2) (Q36 2 o1_0l 3 o1_1l) (Q22 o2) (Q20 o3) 8 o4) (Q25 e.1) (Q112 (Q75 3 1 2 0 0 7 8 0 e.2.2.1 e.2.2.2.2) 5 (length e.2.1.V) 6 (length e.2.1.T) (SR e.2.1.V) (IR e.2.1.T) 8 e.2.2.2.1))∧(Q72 e.1 (Q112 (Q75 3 1 2 0 0 7 8 0 e.2.2.1 e.2.2.2.2) 5 (length e.2.1.V) 6 (length e.2.1.T) (SR e.2.1.V) (IR e.2.1.T) 8 e.2.2.2.1) r c))) (∃ G:Bool,((Q66 76 [.agg (Q128 a.1.k (Q6 a.1.s) (Q2 a.1.n) (FTs a.1.l) (Q2 a.2.1.k) (Q6 a.2.1.s) (Q2 a.2.1.n) (FTs a.2.1.l) (FTs a.2.2.1))] G)∧(br G (∃ f:Int×Sto×Nat×RW×Int,((Q10 78 (Q88 3 (.agg (Q128 a.1.k (Q6 a.1.s) (Q2 a.1.n) (FTs a.1.l) (Q2 a.2.1.k) (Q6 a.2.1.s) (Q2 a.2.1.n) (FTs a.2.1.l) (FTs a.2.2.1))) (.agg (Q128 b.1.k (Q6 b.1.s) (Q2 b.1.n) (FTs b.1.l) (Q2 b.2.1.k) (Q6 b.2.1.s) (Q2 b.2.1.n) (FTs b.2.1.l) (FTs b.2.2.1)))) (Q96 (Q75 3 1 2 0 0 4 8 0 a.2.2.2.2.1 a.2.2.2.2.2) (Q36 2 o1_0l 3 o1_1l) (Q22 o2) (Q20 o3) 8 o4) (Q25 f.1) (Q112 (Q75 3 1 2 0 0 7 8 0 f.2.2.1 f.2.2.2.2) 5 (length f.2.1.V) 6 (length f.2.1.T) (SR f.2.1.V) (IR f.2.1.T) 8 f.2.2.2.1))∧(Q72 f.1 (Q112 (Q75 3 1 2 0 0 7 8 0 f.2.2.1 f.2.2.2.2) 5 (length f.2.1.V) 6 (length f.2.1.T) (SR f.2.1.V) (IR f.2.1.T) 8 f.2.2.2.1) r c))) (∃ H:Bool,((Q66 79 [(aT b.2.1),(aT a.2.1)] H)∧(br (!H) (Q72 170 (Q112 (Q75 3 1 2 0 0 7 8 0 a.2.2.2.2.1 a.2.2.2.2.2) 5 o1_0l 6 o1_1l o2 o3 8 o4) r c) ((FV.L 4 (Q4 4 (FTs b.2.2.1))=true)∧((FV.L 4 (Q4 4 (FTs a.2.2.1))=true)∧(br (((length (FTs b.2.2.1):Int):Int) !=(length (FTs a.2.2.1):Int)) (Q72 170 (Q112 (Q75 3 1 2 0 0 7 8 0 a.2.2.2.2.1 a.2.2.2.2.2) 5 o1_0l 6 o1_1l o2 o3 8 o4) r c) (∃ m:Sto×Nat×RW×Int,((Q77 74 (Q88 3 (Q70 4 (FTs b.2.2.1)) (Q70 4 (FTs a.2.2.1))) (Q96 (Q75 3 1 2 0 0 4 8 0 a.2.2.2.2.1 a.2.2.2.2.2) (Q36 2 o1_0l 3 o1_1l) (Q22 o2) (Q20 o3) 8 o4) [] (Q112 (Q75 3 1 2 0 0 7 8 0 m.2.1 m.2.2.2) 5 (length m.1.V) 6 (length m.1.T) (SR m.1.V) (IR m.1.T) 8 m.2.2.1))∧(Q72 0 (Q112 (Q75 3 1 2 0 0 7 8 0 m.2.1 m.2.2.2) 5 (length m.1.V) 6 (length m.1.T) (SR m.1.V) (IR m.1.T) 8 m.2.2.1) r c)))))))))))))))) (∃ I:Bool,((Q66 76 [.agg (Q128 b.1.k (Q6 b.1.s) (Q2 b.1.n) (FTs b.1.l) (Q2 b.2.1.k) (Q6 b.2.1.s) (Q2 b.2.1.n) (FTs b.2.1.l) (FTs b.2.2.1))] I)∧(br I (∃ g:Int×Sto×Nat×RW×Int,((Q10 78 (Q88 3 (.agg (Q128 b.1.k (Q6 b.1.s) (Q2 b.1.n) (FTs b.1.l) (Q2 b.2.1.k) (Q6 b.2.1.s) (Q2 b.2.1.n) (FTs b.2.1.l) (FTs b.2.2.1))) (.agg (Q128 a.1.k (Q6 a.1.s) (Q2 a.1.n) (FTs a.1.l) (Q2 a.2.1.k) (Q6 a.2.1.s) (Q2 a.2.1.n) (FTs a.2.1.l) (FTs a.2.2.1)))) (Q96 (Q75 3 1 2 0 0 4 8 0 a.2.2.2.2.1 a.2.2.2.2.2) (Q36 2 o1_0l 3 o1_1l) (Q22 o2) (Q20 o3) 8 o4) (Q25 g.1) (Q112 (Q75 3 1 2 0 0 7 8 0 g.2.2.1 g.2.2.2.2) 5 (length g.2.1.V) 6 (length g.2.1.T) (SR g.2.1.V) (IR g.2.1.T) 8 g.2.2.2.1))∧(Q72 g.1 (Q112 (Q75 3 1 2 0 0 7 8 0 g.2.2.1 g.2.2.2.2) 5 (length g.2.1.V) 6 (length g.2.1.T) (SR g.2.1.V) (IR g.2.1.T) 8 g.2.2.2.1) r c))) (∃ J:Bool,((Q66 76 [.agg (Q128 a.1.k (Q6 a.1.s) (Q2 a.1.n) (FTs a.1.l) (Q2 a.2.1.k) (Q6 a.2.1.s) (Q2 a.2.1.n) (FTs a.2.1.l) (FTs a.2.2.1))] J)∧(br J (∃ h:Int×Sto×Nat×RW×Int,((Q10 78 (Q88 3 (.agg (Q128 a.1.k (Q6 a.1.s) (Q2 a.1.n) (FTs a.1.l) (Q2 a.2.1.k) (Q6 a.2.1.s) (Q2 a.2.1.n) (FTs a.2.1.l) (FTs a.2.2.1))) (.agg (Q128 b.1.k (Q6 b.1.s) (Q2 b.1.n) (FTs b.1.l) (Q2 b.2.1.k) (Q6 b.2.1.s) (Q2 b.2.1.n) (FTs b.2.1.l) (FTs b.2.2.1)))) (Q96 (Q75 3 1 2 0 0 4 8 0 a.2.2.2.2.1 a.2.2.2.2.2) (Q36 2 o1_0l 3 o1_1l) (Q22 o2) (Q20 o3) 8 o4) (Q25 h.1) (Q112 (Q75 3 1 2 0 0 7 8 0 h.2.2.1 h.2.2.2.2) 5 (length h.2.1.V) 6 (length h.2.1.T) (SR h.2.1.V) (IR h.2.1.T) 8 h.2.2.2.1))∧(Q72 h.1 (Q112 (Q75 3 1 2 0 0 7 8 0 h.2.2.1 h.2.2.2.2) 5 (length h.2.1.V) 6 (length h.2.1.T) (SR h.2.1.V) (IR h.2.1.T) 8 h.2.2.2.1) r c))) (∃ K:Bool,((Q66 79 [(aT b.2.1),(aT a.2.1)] K)∧(br (!K) (Q72 170 (Q112 (Q75 3 1 2 0 0 7 8 0 a.2.2.2.2.1 a.2.2.2.2.2) 5 o1_0l 6 o1_1l o2 o3 8 o4) r c) ((FV.L 4 (Q4 4 (FTs b.2.2.1))=true)∧((FV.L 4 (Q4 4 (FTs a.2.2.1))=true)∧(br (((length (FTs b.2.2.1):Int):Int) !=(length (FTs a.2.2.1):Int)) (Q72 170 (Q112 (Q75 3 1 2 0 0 7 8 0 a.2.2.2.2.1 a.2.2.2.2.2) 5 o1_0l 6 o1_1l o2 o3 8 o4) r c) (∃ o:Sto×Nat×RW×Int,((Q77 74 (Q88 3 (Q70 4 (FTs b.2.2.1)) (Q70 4 (FTs a.2.2.1))) (Q96 (Q75 3 1 2 0 0 4 8 0 a.2.2.2.2.1 a.2.2.2.2.2) (Q36 2 o1_0l 3 o1_1l) (Q22 o2) (Q20 o3) 8 o4) [] (Q112 (Q75 3 1 2 0 0 7 8 0 o.2.1 o.2.2.2) 5 (length o.1.V) 6 (length o.1.T) (SR o.1.V) (IR o.1.T) 8 o.2.2.1))∧(Q72 0 (Q112 (Q75 3 1 2 0 0 7 8 0 o.2.1 o.2.2.2) 5 (length o.1.V) 6 (length o.1.T) (SR o.1.V) (IR o.1.T) 8 o.2.2.1) r c)))))))))))))))))) (∃ L:Bool,((Q66 76 [.agg (Q128 b.1.k (Q6 b.1.s) (Q2 b.1.n) (FTs b.1.l) (Q2 b.2.1.k) (Q6 b.2.1.s) (Q2 b.2.1.n) (FTs b.2.1.l) (FTs b.2.2.1))] L)∧(br L (∃ i:Int×Sto×Nat×RW×Int,((Q10 78 (Q88 3 (.agg (Q128 b.1.k (Q6 b.1.s) (Q2 b.1.n) (FTs b.1.l) (Q2 b.2.1.k) (Q6 b.2.1.s) (Q2 b.2.1.n) (FTs b.2.1.l) (FTs b.2.2.1))) (.agg (Q128 a.1.k (Q6 a.1.s) (Q2 a.1.n) (FTs a.1.l) (Q2 a.2.1.k) (Q6 a.2.1.s) (Q2 a.2.1.n) (FTs a.2.1.l) (FTs a.2.2.1)))) (Q96 (Q75 3 1 2 0 0 4 8 0 a.2.2.2.2.1 a.2.2.2.2.2) (Q36 2 o1_0l 3 o1_1l) (Q22 o2) (Q20 o3) 8 o4) (Q25 i.1) (Q112 (Q75 3 1 2 0 0 7 8 0 i.2.2.1 i.2.2.2.2) 5 (length i.2.1.V) 6 (length i.2.1.T) (SR i.2.1.V) (IR i.2.1.T) 8 i.2.2.2.1))∧(Q72 i.1 (Q112 (Q75 3 1 2 0 0 7 8 0 i.2.2.1 i.2.2.2.2) 5 (length i.2.1.V) 6 (length i.2.1.T) (SR i.2.1.V) (IR i.2.1.T) 8 i.2.2.2.1) r c))) (∃ M:Bool,((Q66 76 [.agg (Q128 a.1.k (Q6 a.1.s) (Q2 a.1.n) (FTs a.1.l) (Q2 a.2.1.k) (Q6 a.2.1.s) (Q2 a.2.1.n) (FTs a.2.1.l) (FTs a.2.2.1))] M)∧(br M (∃ j:Int×Sto×Nat×RW×Int,((Q10 78 (Q88 3 (.agg (Q128 a.1.k (Q6 a.1.s) (Q2 a.1.n) (FTs a.1.l) (Q2 a.2.1.k) (Q6 a.2.1.s) (Q2 a.2.1.n) (FTs a.2.1.l) (FTs a.2.2.1))) (.agg (Q128 b.1.k (Q6 b.1.s) (Q2 b.1.n) (FTs b.1.l) (Q2 b.2.1.k) (Q6 b.2.1.s) (Q2 b.2.1.n) (FTs b.2.1.l) (FTs b.2.2.1)))) (Q96 (Q75 3 1 2 0 0 4 8 0 a.2.2.2.2.1 a.2.2.2.2.2) (Q36 2 o1_0l 3 o1_1l) (Q22 o2) (Q20 o3) 8 o4) (Q25 j.1) (Q112 (Q75 3 1 2 0 0 7 8 0 j.2.2.1 j.2.2.2.2) 5 (length j.2.1.V) 6 (length j.2.1.T) (SR j.2.1.V) (IR j.2.1.T) 8 j.2.2.2.1))∧(Q72 j.1 (Q112 (Q75 3 1 2 0 0 7 8 0 j.2.2.1 j.2.2.2.2) 5 (length j.2.1.V) 6 (length j.2.1.T) (SR j.2.1.V) (IR j.2.1.T) 8 j.2.2.2.1) r c))) (∃ N:Bool,((Q66 79 [(aT b.2.1),(aT a.2.1)] N)∧(br (!N) (Q72 170 (Q112 (Q75 3 1 2 0 0 7 8 0 a.2.2.2.2.1 a.2.2.2.2.2) 5 o1_0l 6 o1_1l o2 o3 8 o4) r c) ((FV.L 4 (Q4 4 (FTs b.2.2.1))=true)∧((FV.L 4 (Q4 4 (FTs a.2.2.1))=true)∧(br (((length (FTs b.2.2.1):Int):Int) !=(length (FTs a.2.2.1):Int)) (Q72 170 (Q112 (Q75 3 1 2 0 0 7 8 0 a.2.2.2.2.1 a.2.2.2.2.2) 5 o1_0l 6 o1_1l o2 o3 8 o4) r c) (∃ p:Sto×Nat×RW×Int,((Q77 74 (Q88 3 (Q70 4 (FTs b.2.2.1)) (Q70 4 (FTs a.2.2.1))) (Q96 (Q75 3 1 2 0 0 4 8 0 a.2.2.2.2.1 a.2.2.2.2.2) (Q36 2 o1_0l 3 o1_1l) (Q22 o2) (Q20 o3) 8 o4) [] (Q112 (Q75 3 1 2 0 0 7 8 0 p.2.1 p.2.2.2) 5 (length p.1.V) 6 (length p.1.T) (SR p.1.V) (IR p.1.T) 8 p.2.2.1))∧(Q72 0 (Q112 (Q75 3 1 2 0 0 7 8 0 p.2.1 p.2.2.2) 5 (length p.1.V) 6 (length p.1.T) (SR p.1.V) (IR p.1.T) 8 p.2.2.1) r c)))))))))))))))))))))))))):=by kernel_rfl
def lv42:List (Nat×List Nat):=[(1,[0,2,4,6])]
theorem v42 (b:Int)(c:List UInt8)(d:Int)(e:RW)(o0_0l o0_1l:Nat)(o1 o2:RW)(a:Int)(r:TV)(f:List AObj):VE lv42 42 4 r f (Q88 2 (Q83 b c d e) (Q85 3 1)) [Q36 1 o0_0l 2 o0_1l,Q22 o1,Q20 o2,Q100 a]=
  (Q58 42 4 r f 1 [Q49 0 0 2,Q49 2 3 1,Q98 4 4,Q98 6 5] [Q71 0 1 o0_0l 2 o0_1l,Q69 1 o1,Q61 2 o2,Q118 3 1 a,Q74 4 4 b c d 4 e,Q89 5 4 0 [] 0] 6):=by kernel_rfl
theorem v42_1a (h0_0l h0_1l:Nat)(h1 h2:RW)(a h4_0:Int)(b:List UInt8)(c:Int)(d:RW)(f:Int)(g:List UInt8)(h:Int)(r:TV)(e:List AObj):VQ lv42 42 4 r e 1 ⟨[Q49 0 0 2,Q49 2 3 1,Q98 4 4,Q98 6 5],[Q71 0 1 h0_0l 2 h0_1l,Q69 1 h1,Q61 2 h2,Q118 3 1 a,Q74 4 4 h4_0 b c 4 d,Q89 5 4 f g h],6⟩=
  (∃ i:Tm×Bool×Int,((Q77 60 [Q87 2,Q83 h4_0 b c d] (Q107 h0_0l h0_1l h1 h2) (Q93 (Q45 (cT i.1)) (Q19 (Q116 i.2.1)) i.2.2) (Q107 h0_0l h0_1l h1 h2))∧(br (!i.2.1) (Q53 (Q129 (Q21 h4_0 b c 4 d) 0) [Q36 1 h0_0l 2 h0_1l,Q22 h1,Q20 h2,Q100 a] r e) (br ((i.2.2:Int) !=(0:Int)) (Q53 (Q129 (Q47 0 [] 0) 80) [Q36 1 h0_0l 2 h0_1l,Q22 h1,Q20 h2,Q100 a] r e) (br (decide ((a:Int)≤(0:Int))) (Q53 (Q129 (Q47 0 [] 0) 80) [Q36 1 h0_0l 2 h0_1l,Q22 h1,Q20 h2,Q100 a] r e) (Q58 42 4 r e 1 [Q49 0 0 2,Q49 2 3 1,Q98 4 4,Q98 6 5] [Q71 0 1 h0_0l 2 h0_1l,Q69 1 h1,Q61 2 h2,Q118 3 1 (IntKind.wrap .i64 (a-1)),Q28 4 4 (cT i.1),Q89 5 4 f g h] 6)))))):=by kernel_rfl
def lv43:List (Nat×List Nat):=[]
theorem v43  (r:TV) (a:List AObj):VE lv43 43 0 r a [.c Q37] []=
  (RT (.c Q37) [] r a):=by kernel_rfl
theorem v43_i1 (s:RW)(r:TV)(a:List AObj):VE lv43 43 0 r a [.c (Q0 (.sl true 4 s))] []=
  ((FV.L 4 (.sl true 4 s)=true)∧((0≤0∧z0u (0+(length s)) 56)∧(RT (.c (Q3 0 4 0 (0+(length s)))) [.arz 4 ([]++s)] r a))):=by kernel_rfl
def lv61:List (Nat×List Nat):=[]
theorem v61 (b:Int)(d:List UInt8)(e:Int)(a:RW)(r:TV)(c:List AObj):VE lv61 61 0 r c [Q83 b d e a] []=
  ((FV.L 4 (Q4 4 a)=true)∧(br ((b:Int) !=(6:Int)) (Q53 (Q117 (Q47 0 [] 0) false) [] r c) (((FV.L 4 (Q4 4 a)=true)∧((0≤(IntKind.wrap .i64 ((length a:Int)-(1:Int))))∧(((IntKind.wrap .i64 ((length a:Int)-(1:Int)))<(length a:Int))∧(((rE (getD a (toNat (IntKind.wrap .i64 ((length a:Int)-(1:Int)))) [])):List FV)=(getD a (toNat (IntKind.wrap .i64 ((length a:Int)-(1:Int)))) [])))))∧(br (((FV.I (getD (getD a (toNat (IntKind.wrap .i64 ((length a:Int)-(1:Int)))) []) 0 FV.N)):Int) !=(3:Int)) (Q53 (Q117 (Q47 0 [] 0) false) [] r c) (((FV.L 4 (Q4 4 a)=true)∧((0≤(IntKind.wrap .i64 ((length a:Int)-(1:Int))))∧(((IntKind.wrap .i64 ((length a:Int)-(1:Int)))<(length a:Int))∧(((rE (getD a (toNat (IntKind.wrap .i64 ((length a:Int)-(1:Int)))) [])):List FV)=(getD a (toNat (IntKind.wrap .i64 ((length a:Int)-(1:Int)))) [])))))∧(br (((FV.I (getD (getD a (toNat (IntKind.wrap .i64 ((length a:Int)-(1:Int)))) []) 2 FV.N)):Int) !=(0:Int)) (Q53 (Q117 (Q47 0 [] 0) false) [] r c) (((FV.L 4 (Q4 4 a)=true)∧((0≤(0:Int))∧(((0:Int)<(length a:Int))∧(((rE (getD a 0 [])):List FV)=(getD a 0 [])))))∧((FV.L 4 (Q4 4 a)=true)∧(((0≤(1:Int))∧(((1:Int)≤(IntKind.wrap .i64 ((length a:Int)-(1:Int))))∧((IntKind.wrap .i64 ((length a:Int)-(1:Int)))≤(length a:Int))))∧(∃ f:Tm,((Q54 15 [(aE (getD a 0 [])),Q70 4 (drop 1 (take (toNat (IntKind.wrap .i64 ((length a:Int)-(1:Int)))) a))] (aT f))∧(∃ g:Bool,((Q66 82 (Q99 (aT f) 0) g)∧(br g (Q53 (Q117 (Q47 0 [] 0) false) [] r c) (∃ h:Tm,((Q54 83 [(aT f),Q25 0,Q25 (-1:Int)] (aT h))∧(Q53 (Q117 (cT h) true) [] r c))))))))))))))))):=by kernel_rfl
def lv62:List (Nat×List Nat):=[]
theorem v62 (s:List UInt8)(r:TV)(a:List AObj):VE lv62 62 0 r a [.c (Q6 s)] []=
  (br (!((s:List UInt8)==[])) (Q63 (decide (((length s:Int):Int)≤(32:Int))) r a) (Q67 r a)):=by kernel_rfl
def lv63:List (Nat×List Nat):=[]
theorem v63 (c:Int)(r:TV)(a:List AObj):VE lv63 63 0 r a [.c (Q0 (.int .u8 c))] []=
  (br (decide (((97:Int):Int)≤c)) (Q63 (decide ((c:Int)≤(122:Int))) r a) (Q67 r a)):=by kernel_rfl
def lv64:List (Nat×List Nat):=[(1,[0,1,7,8])]
theorem v64_F65 (s:List UInt8)(r:TV)(a:List AObj):VE lv64 64 0 r a (Q115 (.c (Q6 s)) (.fn (.func 65) [] [])) []=
  (Q58 64 0 r a 1 (Q134 (Q5 0 (Q6 s)) 1 (.fn (.func 65) [] []) 7 (length s:Int) 8 0) [] 0):=by kernel_rfl
theorem zg4 (d:List UInt8)(x7 b:Int)(r:TV)(a:List AObj):VQ lv64 64 0 r a 1 ⟨Q134 (Q5 0 (Q6 d)) 1 (.fn (.func 65) [] []) 7 x7 8 b,[],0⟩=
  (br (decide ((b:Int)<x7)) ((0≤b∧b<(length d:Int))∧(∃ e:Bool,((Q66 65 [.c (Q0 (.int .u8 ((UInt8.toNat (getD d (toNat b) 0):Nat):Int)))] e)∧(br (!e) (Q72 b [] r a) (Q58 64 0 r a 1 (Q134 (Q5 0 (Q6 d)) 1 (.fn (.func 65) [] []) 7 x7 8 (IntKind.wrap .i64 (b+1))) [] 0))))) (Q72 (length d:Int) [] r a)):=by kernel_rfl
theorem v64_F66 (s:List UInt8)(r:TV)(a:List AObj):VE lv64 64 0 r a (Q115 (.c (Q6 s)) (.fn (.func 66) [] [])) []=
  (Q58 64 0 r a 1 (Q134 (Q5 0 (Q6 s)) 1 (.fn (.func 66) [] []) 7 (length s:Int) 8 0) [] 0):=by kernel_rfl
theorem zgk (d:List UInt8)(x7 b:Int)(r:TV)(a:List AObj):VQ lv64 64 0 r a 1 ⟨Q134 (Q5 0 (Q6 d)) 1 (.fn (.func 66) [] []) 7 x7 8 b,[],0⟩=
  (br (decide ((b:Int)<x7)) ((0≤b∧b<(length d:Int))∧(∃ e:Bool,((Q66 66 [.c (Q0 (.int .u8 ((UInt8.toNat (getD d (toNat b) 0):Nat):Int)))] e)∧(br (!e) (Q72 b [] r a) (Q58 64 0 r a 1 (Q134 (Q5 0 (Q6 d)) 1 (.fn (.func 66) [] []) 7 x7 8 (IntKind.wrap .i64 (b+1))) [] 0))))) (Q72 (length d:Int) [] r a)):=by kernel_rfl
def lv67:List (Nat×List Nat):=[]
theorem v67 (s substr:List UInt8)(r:TV)(a:List AObj):VE lv67 67 0 r a (Q115 (.c (Q6 s)) (Q6 substr)) []=
  (∃ b:Int,((Q54 87 (Q115 (.c (Q6 s)) (Q6 substr)) (Q25 b))∧(Q63 (decide ((b:Int)≥(0:Int))) r a))):=by kernel_rfl
def lv68:List (Nat×List Nat):=[(1,[0,1,7,8])]
theorem v68_F50 (s:RW)(r:TV)(a:List AObj):VE lv68 68 0 r a (Q133 4 s (.fn (.func 50) [] [])) []=
  ((FV.L 4 (Q4 4 s)=true)∧(Q58 68 0 r a 1 (Q134 (Q62 0 4 s) 1 (.fn (.func 50) [] []) 7 (length s:Int) 8 0) [] 0)):=by kernel_rfl
theorem zgn (c:RW)(x7 b:Int)(r:TV)(a:List AObj):VQ lv68 68 0 r a 1 ⟨Q134 (Q62 0 4 c) 1 (.fn (.func 50) [] []) 7 x7 8 b,[],0⟩=
  (br (decide ((b:Int)<x7)) (((FV.L 4 (Q4 4 c)=true)∧((0≤b)∧((b<(length c:Int))∧(((rE (getD c (toNat b) [])):List FV)=(getD c (toNat b) [])))))∧(∃ d:Bool,((Q66 50 [(aE (getD c (toNat b) []))] d)∧(br d (Q72 b [] r a) (Q58 68 0 r a 1 (Q134 (Q62 0 4 c) 1 (.fn (.func 50) [] []) 7 x7 8 (IntKind.wrap .i64 (b+1))) [] 0))))) (Q72 (-1:Int) [] r a)):=by kernel_rfl
def lv52:List (Nat×List Nat):=[]
theorem v52 (b:Int)(d:List UInt8)(c:Int)(e:RW)(k o0_0:Int)(r:TV)(a:List AObj):VE lv52 52 1 r a [Q83 b d c e,Q25 k,Q87 1] [Q100 o0_0]=
  (br ((b:Int)==(3:Int)) (Q53 [] [Q100 (z0g [o0_0,(IntKind.wrap .i64 ((IntKind.wrap .i64 (c-k))+(1:Int)))])] r a) (Q53 [] [Q100 o0_0] r a)):=by kernel_rfl
def lv69:List (Nat×List Nat):=[]
theorem v69 (b:Int)(d:List UInt8)(e:Int)(c:RW)(r:TV)(a:List AObj):VE lv69 69 0 r a [Q83 b d e c] []=
  (br ((b:Int)==(5:Int)) (Q53 [Q19 [Q124 c],Q31 1] [] r a) (br ((b:Int)==(6:Int)) (Q53 [Q19 [Q124 c],Q31 0] [] r a) (Q53 [Q19 [Q37],Q31 0] [] r a))):=by kernel_rfl
def lv70:List (Nat×List Nat):=[]
theorem v70 (c:Int)(r:TV)(a:List AObj):VE lv70 70 0 r a [.c (Q0 (.int .u8 c))] []=
  (br (decide ((c:Int)≥(97:Int))) (Q63 (decide ((c:Int)≤(122:Int))) r a) (Q67 r a)):=by kernel_rfl
def lv71:List (Nat×List Nat):=[]
theorem v71 (c:Int)(r:TV)(a:List AObj):VE lv71 71 0 r a [.c (Q0 (.int .u8 c))] []=
  (∃ b:Bool,((Q66 70 [.c (Q0 (.int .u8 c))] b)∧(br b (Q63 true r a) (br (decide ((c:Int)≥(65:Int))) (br (decide ((c:Int)≤(90:Int))) (Q63 true r a) (∃ d:Bool,((Q66 88 [.c (Q0 (.int .u8 c))] d)∧(br d (Q63 true r a) (br ((c:Int)==(95:Int)) (Q63 true r a) (Q63 ((c:Int)==(39:Int)) r a)))))) (∃ e:Bool,((Q66 88 [.c (Q0 (.int .u8 c))] e)∧(br e (Q63 true r a) (br ((c:Int)==(95:Int)) (Q63 true r a) (Q63 ((c:Int)==(39:Int)) r a))))))))):=by kernel_rfl
def lv72:List (Nat×List Nat):=[(1,[0,3])]
theorem v72 (c:Int)(r:TV)(a:List AObj):VE lv72 72 0 r a [.c (Q0 (.int .u8 c))] []=
  (Q58 72 0 r a 1 [Q5 0 (Q0 (.int .u8 c)),Q18 3 0] [] 0):=by kernel_rfl
theorem v72_1a (x0 b:Int)(r:TV)(a:List AObj):VQ lv72 72 0 r a 1 ⟨[Q5 0 (Q0 (.int .u8 x0)),Q18 3 b],[],0⟩=
  (br (decide ((b:Int)<(16:Int))) ((0≤b∧b<((16:Nat):Int))∧(br ((((UInt8.toNat (getD [43,45,42,47,60,62,61,38,124,94,126,64,35,36,63,58] (toNat b) 0):Nat):Int):Int)==x0) (Q63 true r a) (Q58 72 0 r a 1 [Q5 0 (Q0 (.int .u8 x0)),Q18 3 (IntKind.wrap .i64 (b+1))] [] 0))) (Q67 r a)):=by kernel_rfl
def lv39:List (Nat×List Nat):=[]
theorem v39 (b:Int)(c:List UInt8)(d:Int)(e:RW)(f:Int)(g:List UInt8)(h:Int)(i:RW)(r:TV)(a:List AObj):VE lv39 39 0 r a [.agg [Q2 b,Q6 c,Q2 d,Q124 e,Q2 f,Q6 g,Q2 h,Q124 i]] []=
  (∃ j:Bool,((Q66 34 [Q83 b c d e] j)∧(br (!j) (Q63 true r a) (∃ k:Bool,((Q66 34 [Q83 f g h i] k)∧(Q63 (!k) r a)))))):=by kernel_rfl
def lv73:List (Nat×List Nat):=[]
theorem v73 (f:Int)(g:List UInt8)(h:Int)(i:RW)(a:Nat)(c:Int)(o1_0l o1_1l:Nat)(o2 o3 o4:RW)(r:TV)(e:List AObj):VE lv73 73 5 r e [Q87 3,Q83 f g h i] (Q96 (Q75 3 1 2 0 0 4 8 0 a c) (Q36 2 o1_0l 3 o1_1l) (Q22 o2) (Q20 o3) 8 o4)=
  (∃ b:Tm×Int×Int,((Q77 89 (Q88 2 (Q83 f g h i) (Q25 c)) (Q107 o1_0l o1_1l o2 o3) (Q132 (cT b.1) b.2.1 b.2.2) (Q107 o1_0l o1_1l o2 o3))∧(br ((b.2.2:Int) !=(0:Int)) (Q53 (Q129 (Q76 0 (Q6 []) (Q2 0) Q37 (Q2 0) (Q6 []) (Q2 0) Q37 Q37) b.2.2) (Q96 (Q75 3 1 2 0 0 4 8 0 a c) (Q36 2 o1_0l 3 o1_1l) (Q22 o2) (Q20 o3) 8 o4) r e) ((∃ j:Tm,((Q54 90 [(aT b.1)] (.tup (Q79 (cT j) [Q37])))∧(Q53 (Q129 (Q127 b.1.k (Q6 b.1.s) (Q2 b.1.n) (FTs b.1.l) (Q2 j.k) (Q6 j.s) (Q2 j.n) (FTs j.l) Q37) 0) (Q96 (Q75 3 1 2 0 0 4 8 0 a b.2.1) (Q36 2 o1_0l 3 o1_1l) (Q22 o2) (Q20 o3) 8 o4) r e)))∨(∃ d:Tm×List Tm,((Q51 90 [(aT b.1)] (.tup (Q79 (cT d.1) [Q3 0 4 0 (length d.2)])) [.arz 4 (FTs d.2)])∧(((4:Nat)=4∧(0+(length d.2))≤(length (FTs d.2)))∧(Q53 (Q129 (Q128 b.1.k (Q6 b.1.s) (Q2 b.1.n) (FTs b.1.l) (Q2 d.1.k) (Q6 d.1.s) (Q2 d.1.n) (FTs d.1.l) (take (length d.2) (drop 0 (FTs d.2)))) 0) (Q96 (Q75 3 1 2 0 0 4 8 0 a b.2.1) (Q36 2 o1_0l 3 o1_1l) (Q22 o2) (Q20 o3) 8 o4) r e)))))))):=by kernel_rfl
def lv75:List (Nat×List Nat):=[]
theorem v75 (b:Int)(c:List UInt8)(d:Int)(a:RW)(r:TV)(e:List AObj):VE lv75 75 0 r e [Q83 b c d a] []=
  (∃ f:Bool,((Q66 34 [Q83 b c d a] f)∧(br (!f) (RT (Q83 b c d a) [] r e) (br ((b:Int)==(5:Int)) (((FV.L 4 (Q4 4 a)=true)∧((0≤(0:Int))∧(((0:Int)<(length a:Int))∧(((rE (getD a 0 [])):List FV)=(getD a 0 [])))))∧(RT (aE (getD a 0 [])) [] r e)) (∃ g:Tm,((Q54 83 [Q83 b c d a,Q25 0,Q25 1] (aT g))∧(((4:Nat)=4∧1≤1)∧(∃ h:Tm,((Q54 15 [(aT g),Q70 4 [[(Q1 3),(.str []),(Q1 0), .N]]] (aT h))∧(RT (aT h) [] r e)))))))))):=by kernel_rfl
def lv74:List (Nat×List Nat):=[(1,[3,4,5,8]),(1000001,[2,3,4])]
theorem v74 (a b:RW)(d:Nat)(e:Int)(o1_0l o1_1l:Nat)(o2 o3 o4:RW)(r:TV)(f:List AObj):VE lv74 74 5 r f (Q88 3 (Q70 4 a) (Q70 4 b)) (Q96 (Q75 3 1 2 0 0 4 8 0 d e) (Q36 2 o1_0l 3 o1_1l) (Q22 o2) (Q20 o3) 8 o4)=
  (∃ g:List Tm,((Q51 91 [Q70 4 a] (.c (.fn (.func 104) [] [(false,[(Q123 0)])])) [Q7 1 [Q124 (FTs g)]])∧(Q58 74 5 r f 1 [Q49 3 8 1,Q49 4 9 1,Q49 5 10 1,Q5 8 (.fn (.func 104) [] [(false,[(Q123 11)])])] [Q28 0 3 (Q64 1 2 0 0 7 8 0 d e),Q71 1 5 o1_0l 6 o1_1l,Q43 2,Q43 3,Q43 4,Q69 5 o2,Q61 6 o3,Q73 7 8 o4,Q28 8 1 [Q9 0 3 0 0],Q28 9 1 [Q124 a],Q28 10 1 [Q124 b],Q28 11 1 [Q124 (FTs g)]] 12))):=by kernel_rfl
theorem v74_1an (a:Nat)(f:Int)(b:Nat)(c:Nat)(h:RW)(i:RW)(j:RW)(g:RW)(d:RW)(e:RW)(K:St→Prop):prepV 12 [5,6,7] [3,4,5,8] K ⟨[Q49 3 8 1,Q49 4 9 1,Q49 5 10 1,Q5 8 (.fn (.func 104) [] [(false,[(Q123 11)])])],[Q28 0 3 (Q64 1 2 0 0 7 8 0 a f),Q71 1 5 b 6 c,Q43 2,Q43 3,Q43 4,Q69 5 h,Q61 6 i,Q73 7 8 j,Q28 8 1 [Q9 0 3 0 0],Q28 9 1 [Q124 g],Q28 10 1 [Q124 d],Q28 11 1 [Q124 e]],12⟩=
  (K ⟨[Q49 3 8 1,Q49 4 9 1,Q49 5 10 1,Q5 8 (.fn (.func 104) [] [(false,[(Q123 11)])])],[Q28 0 3 (Q64 1 2 0 0 14 8 0 a f),Q71 1 12 b 13 c,Q43 2,Q43 3,Q43 4,Q43 5,Q43 6,Q43 7,Q28 8 1 [Q9 0 3 0 0],Q28 9 1 [Q124 g],Q28 10 1 [Q124 d],Q28 11 1 [Q124 e],Q69 12 h,Q61 13 i,Q73 14 8 j],15⟩):=by kernel_rfl
theorem v74_1ara (d:Nat)(h:Int)(e:Nat)(f:Nat)(b:RW)(a:RW)(g:RW)(j:RW)(l:RW)(i:RW)(k:Int)(m:Int)(n:List UInt8)(o:Int)(p:RW)(R:AHeap→Nat→Prop):vcR Tryz.prog sh 74 12 [5,6,7] 1 [(3,(Q85 8 1)),(4,(Q85 9 1)),(5,(Q85 10 1)),(8,(.c (.fn (.func 104) [] [(false,[(Q123 11)])])))] k (Q83 m n o p) [(0,(Q75 3 1 2 0 0 14 8 0 d h)),(1,(Q36 12 e 13 f)),(2, .gone),(3, .gone),(4, .gone),(5, .gone),(6, .gone),(7, .gone),(8,(Q7 1 [Q9 0 3 0 0])),(9,(Q7 1 [Q124 b])),(10,(Q7 1 [Q124 a])),(11,(Q7 1 [Q124 g])),(12,(Q22 j)),(13,(Q20 l)),(14,(.arz 8 i))] 15 R=
  (((FV.L 4 (Q4 4 b)=true)∧((0≤k)∧((k<(length b:Int))∧(((rE (getD b (toNat k) [])):List FV)=(getD b (toNat k) [])))))∧(((FV.L 4 (Q4 4 a)=true)∧((0≤k)∧((k<(length a:Int))∧(((rE (getD a (toNat k) [])):List FV)=(getD a (toNat k) [])))))∧((1≤1)∧((d≤(length i)∧z0u (d+1) 112)∧(R [(0,(Q75 3 1 2 0 0 14 8 0 (d+1) h)),(1,(Q36 12 e 13 f)),(2, .gone),(3, .gone),(4, .gone),(5, .gone),(6, .gone),(7, .gone),(8,(Q7 1 [Q9 0 3 0 0])),(9,(Q7 1 [Q124 b])),(10,(Q7 1 [Q124 a])),(11,(Q7 1 [Q124 g])),(12,(Q22 j)),(13,(Q20 l)),(14,(.arz 8 ((take d i)++ [[(Q1 (FV.I (getD (getD b (toNat k) []) 0 FV.N))),(.str (FV.S (getD (getD b (toNat k) []) 1 FV.N))),(Q1 (FV.I (getD (getD b (toNat k) []) 2 FV.N))),(getD (getD b (toNat k) []) 3 FV.N),(Q1 (FV.I (getD (getD a (toNat k) []) 0 FV.N))),(.str (FV.S (getD (getD a (toNat k) []) 1 FV.N))),(Q1 (FV.I (getD (getD a (toNat k) []) 2 FV.N))),(getD (getD a (toNat k) []) 3 FV.N)]])))] 15))))):=by kernel_rfl
theorem v74_1aza (a:Nat)(d:Int)(b:Nat)(c:Nat)(h:RW)(e:RW)(f:RW)(i:RW)(j:RW)(k:RW)(r:TV)(g:List AObj):vcA Tryz.prog sh lv74 74 5 (fun r0 Hs0=>TV.Le r0 r∧Hs0=g) (RPt Tryz.prog 74 5 r g) 1 ⟨[Q49 3 8 1,Q49 4 9 1,Q49 5 10 1,Q5 8 (.fn (.func 104) [] [(false,[(Q123 11)])])],[Q28 0 3 (Q64 1 2 0 0 14 8 0 a d),Q71 1 12 b 13 c,Q43 2,Q43 3,Q43 4,Q43 5,Q43 6,Q43 7,Q28 8 1 [Q9 0 3 0 0],Q28 9 1 [Q124 h],Q28 10 1 [Q124 e],Q28 11 1 [Q124 f],Q69 12 i,Q61 13 j,Q73 14 8 k],15⟩=
  (Q53 [] (Q112 (Q75 3 1 2 0 0 7 8 0 a d) 5 b 6 c i j 8 k) r g):=by kernel_rfl
def lv76:List (Nat×List Nat):=[]
theorem v76 (c:Int)(d:List UInt8)(e:Int)(f:RW)(a:Int)(g:List UInt8)(h:Int)(x_7 x_8:RW)(r:TV)(b:List AObj):VE lv76 76 0 r b [.agg (Q128 c (Q6 d) (Q2 e) f (Q2 a) (Q6 g) (Q2 h) x_7 x_8)] []=
  (Q63 ((a:Int)==(4:Int)) r b):=by kernel_rfl
def lv77:List (Nat×List Nat):=[(3,[0,4,7,9,10,41,42]),(1000001,[2,3,4])]
theorem v77 (f:Int)(g:List UInt8)(h:Int)(i:RW)(j:Int)(k:List UInt8)(l:Int)(x_7 x_8:RW)(m:Int)(n:List UInt8)(o:Int)(p:RW)(q:Int)(s:List UInt8)(t:Int)(y_7 y_8:RW)(c:Nat)(e:Int)(o1_0l o1_1l:Nat)(o2 o3 o4:RW)(r:TV)(d:List AObj):VE lv77 77 5 r d (Q88 3 (.agg (Q128 f (Q6 g) (Q2 h) i (Q2 j) (Q6 k) (Q2 l) x_7 x_8)) (.agg (Q128 m (Q6 n) (Q2 o) p (Q2 q) (Q6 s) (Q2 t) y_7 y_8))) (Q96 (Q75 3 1 2 0 0 4 8 0 c e) (Q36 2 o1_0l 3 o1_1l) (Q22 o2) (Q20 o3) 8 o4)=
  (∃ a:List Tm×Int×Nat×Int,((Q77 92 [Q87 3, .agg (Q128 f (Q6 g) (Q2 h) i (Q2 j) (Q6 k) (Q2 l) x_7 x_8)] (Q96 (Q75 3 1 2 0 0 4 8 0 c e) (Q36 2 o1_0l 3 o1_1l) (Q22 o2) (Q20 o3) 8 o4) [Q19 [Q124 (FTs a.1)],Q31 a.2.1] (Q96 (Q75 3 1 2 0 0 4 8 0 a.2.2.1 a.2.2.2) (Q36 2 o1_0l 3 o1_1l) (Q22 o2) (Q20 o3) 8 o4))∧(br ((a.2.1:Int) !=(0:Int)) (Q72 a.2.1 (Q112 (Q75 3 1 2 0 0 7 8 0 a.2.2.1 a.2.2.2) 5 o1_0l 6 o1_1l o2 o3 8 o4) r d) (∃ b:List Tm×Int×Nat×Int,((Q77 92 [Q87 3, .agg (Q128 m (Q6 n) (Q2 o) p (Q2 q) (Q6 s) (Q2 t) y_7 y_8)] (Q96 (Q75 3 1 2 0 0 4 8 0 a.2.2.1 a.2.2.2) (Q36 2 o1_0l 3 o1_1l) (Q22 o2) (Q20 o3) 8 o4) [Q19 [Q124 (FTs b.1)],Q31 b.2.1] (Q96 (Q75 3 1 2 0 0 4 8 0 b.2.2.1 b.2.2.2) (Q36 2 o1_0l 3 o1_1l) (Q22 o2) (Q20 o3) 8 o4))∧(br ((b.2.1:Int) !=(0:Int)) (Q72 b.2.1 (Q112 (Q75 3 1 2 0 0 7 8 0 b.2.2.1 b.2.2.2) 5 o1_0l 6 o1_1l o2 o3 8 o4) r d) ((FV.L 4 (Q4 4 (FTs a.1))=true)∧((FV.L 4 (Q4 4 (FTs b.1))=true)∧(br (((length (FTs a.1):Int):Int) !=(length (FTs b.1):Int)) (Q72 171 (Q112 (Q75 3 1 2 0 0 7 8 0 b.2.2.1 b.2.2.2) 5 o1_0l 6 o1_1l o2 o3 8 o4) r d) ((FV.L 4 (Q4 4 (FTs a.1))=true)∧((((length (FTs a.1):Int)=(length (FTs a.1):Int))∧((0≤(length (FTs a.1):Int))∧(((1:Nat)=1)∧(((0:Nat)<1)∧(((0:Nat)<1)∧(z0u (toNat (length (FTs a.1):Int)) 1))))))∧((FV.L 4 (Q4 4 (FTs a.1))=true)∧(Q58 77 5 r d 3 [Q49 0 0 3,Q49 4 8 9,Q62 7 4 (FTs a.1),Q62 9 4 (FTs b.1),Q97 10 9 1 0 (toNat (length (FTs a.1):Int)),Q18 41 (length (FTs a.1):Int),Q18 42 0] [Q28 0 3 (Q64 1 2 0 0 7 8 0 b.2.2.1 b.2.2.2),Q71 1 5 o1_0l 6 o1_1l,Q43 2,Q43 3,Q43 4,Q69 5 o2,Q61 6 o3,Q73 7 8 o4,Q28 8 9 (Q128 f (Q6 g) (Q2 h) i (Q2 j) (Q6 k) (Q2 l) x_7 x_8),Q61 9 (List.replicate (toNat (length (FTs a.1):Int)) ([(.bool false)]:List FV))] 10))))))))))))):=by kernel_rfl
theorem v77_3a (x7 x9:RW)(b:Nat)(x41 a:Int)(c:Nat)(d:Int)(h1_0l h1_1l:Nat)(h5 h6 h7:RW)(h:Int)(i:List UInt8)(j:Int)(k:RW)(l:Int)(m:List UInt8)(e:Int)(h8_7 h8_8 h9:RW)(r:TV)(g:List AObj):VQ lv77 77 5 r g 3 ⟨[Q49 0 0 3,Q49 4 8 9,Q62 7 4 x7,Q62 9 4 x9,Q97 10 9 1 0 b,Q18 41 x41,Q18 42 a],[Q28 0 3 (Q64 1 2 0 0 7 8 0 c d),Q71 1 5 h1_0l 6 h1_1l,Q43 2,Q43 3,Q43 4,Q69 5 h5,Q61 6 h6,Q73 7 8 h7,Q28 8 9 (Q128 h (Q6 i) (Q2 j) k (Q2 l) (Q6 m) (Q2 e) h8_7 h8_8),Q61 9 h9],10⟩=
  (br (decide ((a:Int)<x41)) (((FV.L 4 (Q4 4 x7)=true)∧((0≤a)∧((a<(length x7:Int))∧(((rE (getD x7 (toNat a) [])):List FV)=(getD x7 (toNat a) [])))))∧(((FV.L 4 (Q4 4 x9)=true)∧((0≤a)∧((a<(length x9:Int))∧(((rE (getD x9 (toNat a) [])):List FV)=(getD x9 (toNat a) [])))))∧(∃ n:Bool,((Q66 79 [(aE (getD x7 (toNat a) [])),(aE (getD x9 (toNat a) []))] n)∧((0≤a∧a<(b:Int))∧(((0+(toNat a))<(length h9)∧(length (getD h9 (0+(toNat a)) []))=1)∧(Q58 77 5 r g 3 [Q49 0 0 3,Q49 4 8 9,Q62 7 4 x7,Q62 9 4 x9,Q97 10 9 1 0 b,Q18 41 x41,Q18 42 (IntKind.wrap .i64 (a+1))] [Q28 0 3 (Q64 1 2 0 0 7 8 0 c d),Q71 1 5 h1_0l 6 h1_1l,Q43 2,Q43 3,Q43 4,Q69 5 h5,Q61 6 h6,Q73 7 8 h7,Q28 8 9 (Q128 h (Q6 i) (Q2 j) k (Q2 l) (Q6 m) (Q2 e) h8_7 h8_8),Q61 9 (List.set h9 (0+(toNat a)) [(.bool n)])] 10))))))) (((1:Nat)=1∧(0+b)≤(length h9))∧(∃ o:Bool,((Q66 93 [Q70 1 (take b (drop 0 h9)),Q24 false] o)∧((true=true)∧(br (!o) (Q72 0 (Q112 (Q75 3 1 2 0 0 7 8 0 c d) 5 h1_0l 6 h1_1l h5 h6 8 h7) r g) (((1:Nat)=1∧(0+b)≤(length h9))∧(∃ f:Int×Sto,((Q10 94 (Q88 2 (Q25 e) (Q70 1 (take b (drop 0 h9)))) (Q107 h1_0l h1_1l h5 h6) (Q25 f.1) (Q91 3 (length f.2.V) 4 (length f.2.T) (SR f.2.V) (IR f.2.T)))∧(Q72 f.1 (Q112 (Q75 3 1 2 0 0 7 8 0 c d) 5 (length f.2.V) 6 (length f.2.T) (SR f.2.V) (IR f.2.T) 8 h7) r g)))))))))):=by kernel_rfl
def lv78:List (Nat×List Nat):=[(1000001,[2,3,4])]
theorem v78 (e:Int)(f:List UInt8)(g:Int)(h:RW)(i:Int)(j:List UInt8)(k:Int)(x_7 x_8:RW)(m:Int)(n:List UInt8)(o:Int)(p:RW)(q:Int)(s:List UInt8)(t:Int)(y_7 y_8:RW)(b:Nat)(d:Int)(o1_0l o1_1l:Nat)(o2 o3 o4:RW)(r:TV)(l:List AObj):VE lv78 78 5 r l (Q88 3 (.agg (Q128 e (Q6 f) (Q2 g) h (Q2 i) (Q6 j) (Q2 k) x_7 x_8)) (.agg (Q128 m (Q6 n) (Q2 o) p (Q2 q) (Q6 s) (Q2 t) y_7 y_8))) (Q96 (Q75 3 1 2 0 0 4 8 0 b d) (Q36 2 o1_0l 3 o1_1l) (Q22 o2) (Q20 o3) 8 o4)=
  (∃ c:List Tm×Int×Nat×Int,((Q77 92 [Q87 3, .agg (Q128 e (Q6 f) (Q2 g) h (Q2 i) (Q6 j) (Q2 k) x_7 x_8)] (Q96 (Q75 3 1 2 0 0 4 8 0 b d) (Q36 2 o1_0l 3 o1_1l) (Q22 o2) (Q20 o3) 8 o4) [Q19 [Q124 (FTs c.1)],Q31 c.2.1] (Q96 (Q75 3 1 2 0 0 4 8 0 c.2.2.1 c.2.2.2) (Q36 2 o1_0l 3 o1_1l) (Q22 o2) (Q20 o3) 8 o4))∧(br ((c.2.1:Int) !=(0:Int)) (Q72 c.2.1 (Q112 (Q75 3 1 2 0 0 7 8 0 c.2.2.1 c.2.2.2) 5 o1_0l 6 o1_1l o2 o3 8 o4) r l) (∃ a:Int×Sto×Nat×RW×Int,((Q10 95 [Q87 3, .agg (Q128 e (Q6 f) (Q2 g) h (Q2 i) (Q6 j) (Q2 k) x_7 x_8),Q70 4 (FTs c.1),Q83 m n o p] (Q96 (Q75 3 1 2 0 0 4 8 0 c.2.2.1 c.2.2.2) (Q36 2 o1_0l 3 o1_1l) (Q22 o2) (Q20 o3) 8 o4) (Q25 a.1) (Q112 (Q75 3 1 2 0 0 7 8 0 a.2.2.1 a.2.2.2.2) 5 (length a.2.1.V) 6 (length a.2.1.T) (SR a.2.1.V) (IR a.2.1.T) 8 a.2.2.2.1))∧(Q72 a.1 (Q112 (Q75 3 1 2 0 0 7 8 0 a.2.2.1 a.2.2.2.2) 5 (length a.2.1.V) 6 (length a.2.1.T) (SR a.2.1.V) (IR a.2.1.T) 8 a.2.2.2.1) r l)))))):=by kernel_rfl
def lv79:List (Nat×List Nat):=[]
theorem v79 (b:Int)(d:List UInt8)(e:Int)(f:RW)(g:Int)(h:List UInt8)(i:Int)(j:RW)(r:TV)(a:List AObj):VE lv79 79 0 r a [Q83 b d e f,Q83 g h i j] []=
  (br ((b:Int)==g) (br ((d:List UInt8)==h) (br ((e:Int)==i) (∃ k:Bool,((Q66 96 [Q70 4 f,Q70 4 j, .c (.fn (.func 79) [] [])] k)∧(Q63 k r a))) (Q67 r a)) (Q67 r a)) (Q67 r a)):=by kernel_rfl
def lv60:List (Nat×List Nat):=[]
theorem v60 (c:Int)(d:List UInt8)(e:Int)(a:RW)(o0_0l o0_1l:Nat)(o1 o2:RW)(r:TV)(b:List AObj):VE lv60 60 3 r b [Q87 2,Q83 c d e a] (Q107 o0_0l o0_1l o1 o2)=
  (∃ f:Tm×Bool,((Q77 80 [Q87 2,Q83 c d e a] (Q107 o0_0l o0_1l o1 o2) (Q117 (cT f.1) f.2) (Q107 o0_0l o0_1l o1 o2))∧(br f.2 (Q53 (Q93 (Q45 (cT f.1)) (Q19 (Q116 true)) 0) (Q107 o0_0l o0_1l o1 o2) r b) (br ((c:Int) !=(6:Int)) (Q53 (Q93 (Q45 (Q21 c d e 4 a)) (Q19 (Q116 false)) 0) (Q107 o0_0l o0_1l o1 o2) r b) (((FV.L 4 (Q4 4 a)=true)∧((0≤(0:Int))∧(((0:Int)<(length a:Int))∧(((rE (getD a 0 [])):List FV)=(getD a 0 [])))))∧(∃ g:Tm×Bool,((Q77 80 [Q87 2,(aE (getD a 0 []))] (Q107 o0_0l o0_1l o1 o2) (Q117 (cT g.1) g.2) (Q107 o0_0l o0_1l o1 o2))∧(br g.2 ((FV.L 4 (Q4 4 a)=true)∧(((0≤(1:Int))∧(((1:Int)≤(length a:Int))∧((length a:Int)≤(length a:Int))))∧(∃ i:Tm,((Q54 15 [(aT g.1),Q70 4 (drop 1 (take (toNat (length a:Int)) a))] (aT i))∧(Q53 (Q93 (Q45 (cT i)) (Q19 (Q116 true)) 0) (Q107 o0_0l o0_1l o1 o2) r b))))) (((FV.L 4 (Q4 4 a)=true)∧((0≤(0:Int))∧(((0:Int)<(length a:Int))∧(((rE (getD a 0 [])):List FV)=(getD a 0 [])))))∧(br (((FV.I (getD (getD a 0 []) 0 FV.N)):Int) !=(5:Int)) (Q53 (Q93 (Q45 (Q21 c d e 4 a)) (Q19 (Q116 false)) 0) (Q107 o0_0l o0_1l o1 o2) r b) (((FV.L 4 (Q4 4 a)=true)∧((0≤(0:Int))∧(((0:Int)<(length a:Int))∧(((rE (getD a 0 [])):List FV)=(getD a 0 [])))))∧(((FV.L 4 (getD (getD a 0 []) 3 FV.N)=true)∧((0≤(0:Int))∧(((0:Int)<(((length (FV.ses (getD (getD a 0 []) 3 FV.N))):Nat):Int))∧(((rE (getD (FV.ses (getD (getD a 0 []) 3 FV.N)) 0 [])):List FV)=(getD (FV.ses (getD (getD a 0 []) 3 FV.N)) 0 [])))))∧(((FV.L 4 (Q4 4 a)=true)∧((0≤(1:Int))∧(((1:Int)<(length a:Int))∧(((rE (getD a 1 [])):List FV)=(getD a 1 [])))))∧(∃ h:Tm×Int,((Q54 81 [(aE (getD (FV.ses (getD (getD a 0 []) 3 FV.N)) 0 [])),(aE (getD a 1 []))] (.tup (Q129 (cT h.1) h.2)))∧((FV.L 4 (Q4 4 a)=true)∧(((0≤(2:Int))∧(((2:Int)≤(length a:Int))∧((length a:Int)≤(length a:Int))))∧(∃ j:Tm,((Q54 15 [(aT h.1),Q70 4 (drop 2 (take (toNat (length a:Int)) a))] (aT j))∧(Q53 (Q93 (Q45 (cT j)) (Q19 (Q116 true)) h.2) (Q107 o0_0l o0_1l o1 o2) r b)))))))))))))))))))):=by kernel_rfl
def lv82:List (Nat×List Nat):=[]
theorem v82 (a:Int)(b:List UInt8)(c:Int)(d:RW)(i:Int)(r:TV)(e:List AObj):VE lv82 82 0 r e (Q99 (Q83 a b c d) i) []=
  (∃ f:Int,((Q54 98 (Q99 (Q83 a b c d) i) (Q25 f))∧(Q63 (decide ((f:Int)>(0:Int))) r e))):=by kernel_rfl
def lv83:List (Nat×List Nat):=[]
theorem v83 (a:Int)(b:List UInt8)(c:Int)(d:RW)(a1 a2:Int)(r:TV)(e:List AObj):VE lv83 83 0 r e [Q83 a b c d,Q25 a1,Q25 a2] []=
  (∃ f:Tm,((Q10 101 [.agg [(.fn (.func 99) [] [(false,[(Q123 0)]),(false,[(Q123 1)])])],Q83 a b c d,Q25 0] (Q105 a1 (Q100 a2)) (aT f) (Q105 a1 (Q100 a2)))∧(RT (aT f) [] r e))):=by kernel_rfl
def lv65:List (Nat×List Nat):=[]
theorem v65 (c:Int)(r:TV)(a:List AObj):VE lv65 65 0 r a [.c (Q0 (.int .u8 c))] []=
  (∃ b:Bool,((Q66 63 [.c (Q0 (.int .u8 c))] b)∧(br b (Q63 true r a) (∃ d:Bool,((Q66 84 [.c (Q0 (.int .u8 c))] d)∧(br d (Q63 true r a) (∃ e:Bool,((Q66 85 [.c (Q0 (.int .u8 c))] e)∧(br e (Q63 true r a) (Q63 ((c:Int)==(39:Int)) r a)))))))))):=by kernel_rfl
def lv66:List (Nat×List Nat):=[]
theorem v66 (c:Int)(r:TV)(a:List AObj):VE lv66 66 0 r a [.c (Q0 (.int .u8 c))] []=
  (∃ b:Int,((Q54 86 (Q115 (.c (Q6 [43,45,42,47,60,62,61,38,124,94,126,64,35,36,63,58])) (Q0 (.int .u8 c))) (Q25 b))∧(Q63 (decide ((b:Int)≥(0:Int))) r a))):=by kernel_rfl
def lv87:List (Nat×List Nat):=[]
theorem v87 (s substr:List UInt8)(r:TV)(a:List AObj):VE lv87 87 0 r a (Q115 (.c (Q6 s)) (Q6 substr)) []=
  (∃ b:Int,((Q54 103 (Q115 (.c (Q6 s)) (Q6 substr)) (Q25 b))∧(Q72 b [] r a))):=by kernel_rfl
def lv50:List (Nat×List Nat):=[]
theorem v50 (a:Int)(b:List UInt8)(c:Int)(d:RW)(r:TV)(e:List AObj):VE lv50 50 0 r e [Q83 a b c d] []=
  (∃ f:Bool,((Q66 34 [Q83 a b c d] f)∧(Q63 (!f) r e))):=by kernel_rfl
def lv88:List (Nat×List Nat):=[]
theorem v88 (c:Int)(r:TV)(a:List AObj):VE lv88 88 0 r a [.c (Q0 (.int .u8 c))] []=
  (br (decide ((c:Int)≥(48:Int))) (Q63 (decide ((c:Int)≤(57:Int))) r a) (Q67 r a)):=by kernel_rfl
def lv89:List (Nat×List Nat):=[]
theorem v89 (d:Int)(e:List UInt8)(f:Int)(g:RW)(a:Int)(o0_0l o0_1l:Nat)(o1 o2:RW)(r:TV)(h:List AObj):VE lv89 89 3 r h (Q88 2 (Q83 d e f g) (Q25 a)) (Q107 o0_0l o0_1l o1 o2)=
  (∃ b:Tm×Int×Int,((Q77 27 [Q83 d e f g,Q25 a, .c (.fn (.func 42) [(false,[(Q122 0 2)])] [])] (Q107 o0_0l o0_1l o1 o2) (Q132 (cT b.1) b.2.1 b.2.2) (Q107 o0_0l o0_1l o1 o2))∧(Q53 (Q132 (cT b.1) b.2.1 b.2.2) (Q107 o0_0l o0_1l o1 o2) r h))):=by kernel_rfl
def lv90:List (Nat×List Nat):=[]
theorem v90 (b:Int)(e:List UInt8)(f:Int)(a:RW)(r:TV)(d:List AObj):VE lv90 90 0 r d [Q83 b e f a] []=
  (br ((b:Int) !=(6:Int)) (Q53 (Q79 (Q21 b e f 4 a) [Q37]) [] r d) (∃ h:Bool,((Q66 34 [Q83 b e f a] h)∧(br (!h) (Q53 (Q79 (Q21 b e f 4 a) [Q37]) [] r d) (((FV.L 4 (Q4 4 a)=true)∧((0≤(0:Int))∧(((0:Int)<(length a:Int))∧(((rE (getD a 0 [])):List FV)=(getD a 0 [])))))∧((FV.L 4 (Q4 4 a)=true)∧(((0≤(1:Int))∧(((1:Int)≤(length a:Int))∧((length a:Int)≤(length a:Int))))∧((∃ i:Bool,((Q54 43 [Q70 4 (drop 1 (take (toNat (length a:Int)) a))] (.c (Q0 (.sl i 4 []))))∧(Q53 (Q79 (cE (getD a 0 [])) [Q0 (.sl i 4 [])]) [] r d)))∨(∃ g:RW,((Q51 43 [Q70 4 (drop 1 (take (toNat (length a:Int)) a))] (.c (Q3 0 4 0 (length g))) [.arz 4 g])∧(Q53 (Q79 (cE (getD a 0 [])) [Q3 0 4 0 (length g)]) [.arz 4 g] r d))))))))))):=by kernel_rfl
def lv91:List (Nat×List Nat):=[]
theorem v91 (s:RW)(r:TV)(a:List AObj):VE lv91 91 0 r a [Q70 4 s] []=
  (RT (.c (.fn (.func 104) [] [(false,[(Q123 0)])])) [Q7 1 [Q124 s]] r a):=by kernel_rfl
def lv92:List (Nat×List Nat):=[]
theorem v92 (f:Int)(g:List UInt8)(h:Int)(i:RW)(j:Int)(k:List UInt8)(e:Int)(x_7 x_8:RW)(a:Nat)(b:Int)(o1_0l o1_1l:Nat)(o2 o3 o4:RW)(r:TV)(d:List AObj):VE lv92 92 5 r d [Q87 3, .agg (Q128 f (Q6 g) (Q2 h) i (Q2 j) (Q6 k) (Q2 e) x_7 x_8)] (Q96 (Q75 3 1 2 0 0 4 8 0 a b) (Q36 2 o1_0l 3 o1_1l) (Q22 o2) (Q20 o3) 8 o4)=
  (∃ c:List Tm×Int×Int,((Q77 105 [Q87 2,Q25 e,Q70 4 x_8,Q25 b] (Q107 o1_0l o1_1l o2 o3) (Q101 (Q19 [Q124 (FTs c.1)]) c.2.1 c.2.2) (Q107 o1_0l o1_1l o2 o3))∧(br ((c.2.2:Int)==(0:Int)) (Q53 [Q19 [Q124 (FTs c.1)],Q31 c.2.2] (Q96 (Q75 3 1 2 0 0 4 8 0 a c.2.1) (Q36 2 o1_0l 3 o1_1l) (Q22 o2) (Q20 o3) 8 o4) r d) (Q53 [Q19 [Q124 (FTs c.1)],Q31 c.2.2] (Q96 (Q75 3 1 2 0 0 4 8 0 a b) (Q36 2 o1_0l 3 o1_1l) (Q22 o2) (Q20 o3) 8 o4) r d)))):=by kernel_rfl
def lv93:List (Nat×List Nat):=[]
theorem v93 (s:RW)(v:Bool)(r:TV)(a:List AObj):VE lv93 93 0 r a [Q70 1 s,Q24 v] []=
  (∃ b:Int,((Q54 106 [Q70 1 s,Q24 v] (Q25 b))∧(Q63 (decide ((b:Int)≥(0:Int))) r a))):=by kernel_rfl
def lv94:List (Nat×List Nat):=[(1,[0,1,2,7,9,24,25,26]),(1000001,[1,2])]
theorem v94 (x:Int)(a:RW)(o0_0l o0_1l:Nat)(o1 o2:RW)(r:TV)(c:List AObj):VE lv94 94 3 r c (Q88 2 (Q25 x) (Q70 1 a)) (Q107 o0_0l o0_1l o1 o2)=
  (∃ b:Int×Bool×Tm×Bool,((Q77 25 (Q99 (Q87 2) x) (Q107 o0_0l o0_1l o1 o2) (Q117 (Q125 b.1 b.2.1 b.2.2.1.k b.2.2.1.s b.2.2.1.n (FTs b.2.2.1.l)) b.2.2.2) (Q107 o0_0l o0_1l o1 o2))∧(br (!b.2.2.2) (Q72 1 (Q91 3 o0_0l 4 o0_1l o1 o2) r c) (br b.2.1 (Q72 1 (Q91 3 o0_0l 4 o0_1l o1 o2) r c) ((FV.L 1 (Q4 1 a)=true)∧(Q58 94 3 r c 1 [Q49 0 0 2,Q18 1 x,Q62 2 1 a,Q49 7 5 6,Q120 9,Q62 24 1 a,Q18 25 (length a:Int),Q18 26 0] [Q71 0 3 o0_0l 4 o0_1l,Q43 1,Q43 2,Q69 3 o1,Q61 4 o2,Q28 5 6 (Q125 b.1 b.2.1 b.2.2.1.k b.2.2.1.s b.2.2.1.n (FTs b.2.2.1.l))] 6)))))):=by kernel_rfl
theorem v94_1a (k:Int)(x2 x24:RW)(x25 a:Int)(h0_0l h0_1l:Nat)(h3 h4:RW)(b:Int)(d:Bool)(e:Int)(f:List UInt8)(g:Int)(h:RW)(r:TV)(i:List AObj):VQ lv94 94 3 r i 1 ⟨[Q49 0 0 2,Q18 1 k,Q62 2 1 x2,Q49 7 5 6,Q120 9,Q62 24 1 x24,Q18 25 x25,Q18 26 a],[Q71 0 3 h0_0l 4 h0_1l,Q43 1,Q43 2,Q69 3 h3,Q61 4 h4,Q28 5 6 (Q125 b d e f g h)],6⟩=
  (br (decide ((a:Int)<x25)) (((FV.L 1 (Q4 1 x24)=true)∧((0≤a)∧((a<(length x24:Int))∧(([(.bool (FV.asB (getD (getD x24 (toNat a) []) 0 FV.N)))]:List FV)=(getD x24 (toNat a) [])))))∧(br (FV.asB (getD (getD x24 (toNat a) []) 0 FV.N)) ((FV.L 1 (Q4 1 x2)=true)∧(∃ l:Tm,((Q54 107 [Q25 (IntKind.wrap .i64 ((IntKind.wrap .i64 ((length x2:Int)-(1:Int)))-a))] (aT l))∧((1≤1)∧((z0u 1 56)∧(Q58 94 3 r i 1 [Q49 0 0 2,Q18 1 k,Q62 2 1 x2,Q49 7 5 6,Q97 9 6 4 0 1,Q62 24 1 x24,Q18 25 x25,Q18 26 (IntKind.wrap .i64 (a+1))] [Q71 0 3 h0_0l 4 h0_1l,Q43 1,Q43 2,Q69 3 h3,Q61 4 h4,Q28 5 6 (Q125 b d e f g h),Q73 6 4 [(FT4 l)]] 7)))))) (Q58 94 3 r i 1 [Q49 0 0 2,Q18 1 k,Q62 2 1 x2,Q49 7 5 6,Q120 9,Q62 24 1 x24,Q18 25 x25,Q18 26 (IntKind.wrap .i64 (a+1))] [Q71 0 3 h0_0l 4 h0_1l,Q43 1,Q43 2,Q69 3 h3,Q61 4 h4,Q28 5 6 (Q125 b d e f g h)] 6))) ((FV.L 1 (Q4 1 x2)=true)∧(∃ j:Tm×Sto,((Q10 108 [Q87 2,Q25 k,Q25 b,Q25 (length x2:Int), .c Q37] (Q107 h0_0l h0_1l h3 h4) (aT j.1) (Q91 3 (length j.2.V) 4 (length j.2.T) (SR j.2.V) (IR j.2.T)))∧(Q72 0 (Q91 3 (length j.2.V) 4 (length j.2.T) (SR j.2.V) (IR j.2.T)) r i))))):=by kernel_rfl
theorem v94_1b (l:Int)(k:RW)(b:Nat)(c:RW)(x25 a:Int)(h0_0l h0_1l:Nat)(h3 h4:RW)(d:Int)(e:Bool)(f:Int)(g:List UInt8)(h:Int)(h5_5 h6:RW)(r:TV)(i:List AObj):VQ lv94 94 3 r i 1 ⟨[Q49 0 0 2,Q18 1 l,Q62 2 1 k,Q49 7 5 6,Q97 9 6 4 0 b,Q62 24 1 c,Q18 25 x25,Q18 26 a],[Q71 0 3 h0_0l 4 h0_1l,Q43 1,Q43 2,Q69 3 h3,Q61 4 h4,Q28 5 6 (Q125 d e f g h h5_5),Q73 6 4 h6],7⟩=
  (br (decide ((a:Int)<x25)) (((FV.L 1 (Q4 1 c)=true)∧((0≤a)∧((a<(length c:Int))∧(([(.bool (FV.asB (getD (getD c (toNat a) []) 0 FV.N)))]:List FV)=(getD c (toNat a) [])))))∧(br (FV.asB (getD (getD c (toNat a) []) 0 FV.N)) ((FV.L 1 (Q4 1 k)=true)∧(∃ m:Tm,((Q54 107 [Q25 (IntKind.wrap .i64 ((IntKind.wrap .i64 ((length k:Int)-(1:Int)))-a))] (aT m))∧((1≤1)∧((b≤(length h6)∧z0u (b+1) 56)∧(Q58 94 3 r i 1 [Q49 0 0 2,Q18 1 l,Q62 2 1 k,Q49 7 5 6,Q97 9 6 4 0 (b+1),Q62 24 1 c,Q18 25 x25,Q18 26 (IntKind.wrap .i64 (a+1))] [Q71 0 3 h0_0l 4 h0_1l,Q43 1,Q43 2,Q69 3 h3,Q61 4 h4,Q28 5 6 (Q125 d e f g h h5_5),Q73 6 4 ((take b h6)++ [(FT4 m)])] 7)))))) (Q58 94 3 r i 1 [Q49 0 0 2,Q18 1 l,Q62 2 1 k,Q49 7 5 6,Q97 9 6 4 0 b,Q62 24 1 c,Q18 25 x25,Q18 26 (IntKind.wrap .i64 (a+1))] [Q71 0 3 h0_0l 4 h0_1l,Q43 1,Q43 2,Q69 3 h3,Q61 4 h4,Q28 5 6 (Q125 d e f g h h5_5),Q73 6 4 h6] 7))) ((FV.L 1 (Q4 1 k)=true)∧(((4:Nat)=4∧(0+b)≤(length h6))∧(∃ j:Tm×Sto,((Q10 108 [Q87 2,Q25 l,Q25 d,Q25 (length k:Int),Q70 4 (take b (drop 0 h6))] (Q107 h0_0l h0_1l h3 h4) (aT j.1) (Q91 3 (length j.2.V) 4 (length j.2.T) (SR j.2.V) (IR j.2.T)))∧(Q72 0 (Q91 3 (length j.2.V) 4 (length j.2.T) (SR j.2.V) (IR j.2.T)) r i)))))):=by kernel_rfl
def lv95:List (Nat×List Nat):=[(1000001,[2,3,4])]
theorem v95 (k:Int)(l:List UInt8)(m:Int)(n:RW)(o:Int)(p:List UInt8)(e:Int)(x_7 x_8 leaves:RW)(g:Int)(h:List UInt8)(i:Int)(j:RW)(b:Nat)(c:Int)(o1_0l o1_1l:Nat)(o2 o3 o4:RW)(r:TV)(f:List AObj):VE lv95 95 5 r f [Q87 3, .agg (Q128 k (Q6 l) (Q2 m) n (Q2 o) (Q6 p) (Q2 e) x_7 x_8),Q70 4 leaves,Q83 g h i j] (Q96 (Q75 3 1 2 0 0 4 8 0 b c) (Q36 2 o1_0l 3 o1_1l) (Q22 o2) (Q20 o3) 8 o4)=
  (∃ a:(Tm×Int×Int)×Sto,((Q77 109 [Q87 2,Q25 e,Q70 4 leaves,Q83 g h i j,Q25 c] (Q107 o1_0l o1_1l o2 o3) (Q132 (cT a.1.1) a.1.2.1 a.1.2.2) (Q91 3 (length a.2.V) 4 (length a.2.T) (SR a.2.V) (IR a.2.T)))∧(br ((a.1.2.2:Int) !=(0:Int)) (Q72 a.1.2.2 (Q112 (Q75 3 1 2 0 0 7 8 0 b c) 5 (length a.2.V) 6 (length a.2.T) (SR a.2.V) (IR a.2.T) 8 o4) r f) (∃ d:Int×Sto,((Q10 21 (Q88 2 (Q25 e) (aT a.1.1)) (Q107 (length a.2.V) (length a.2.T) (SR a.2.V) (IR a.2.T)) (Q25 d.1) (Q91 3 (length d.2.V) 4 (length d.2.T) (SR d.2.V) (IR d.2.T)))∧(Q72 d.1 (Q112 (Q75 3 1 2 0 0 7 8 0 b a.1.2.1) 5 (length d.2.V) 6 (length d.2.T) (SR d.2.V) (IR d.2.T) 8 o4) r f)))))):=by kernel_rfl
def lv96:List (Nat×List Nat):=[(1,[1,2,15,16,17])]
theorem v96_F79 (s1 s2:RW)(r:TV)(a:List AObj):VE lv96 96 0 r a [Q70 4 s1,Q70 4 s2, .c (.fn (.func 79) [] [])] []=
  ((FV.L 4 (Q4 4 s1)=true)∧((FV.L 4 (Q4 4 s2)=true)∧(br (((length s1:Int):Int) !=(length s2:Int)) (Q67 r a) ((FV.L 4 (Q4 4 s1)=true)∧(Q58 96 0 r a 1 [Q62 1 4 s2,Q5 2 (.fn (.func 79) [] []),Q62 15 4 s1,Q18 16 (length s1:Int),Q18 17 0] [] 0))))):=by kernel_rfl
theorem zgi (x1 x15:RW)(x16 a:Int)(r:TV)(b:List AObj):VQ lv96 96 0 r b 1 ⟨[Q62 1 4 x1,Q5 2 (.fn (.func 79) [] []),Q62 15 4 x15,Q18 16 x16,Q18 17 a],[],0⟩=
  (br (decide ((a:Int)<x16)) (((FV.L 4 (Q4 4 x15)=true)∧((0≤a)∧((a<(length x15:Int))∧(((rE (getD x15 (toNat a) [])):List FV)=(getD x15 (toNat a) [])))))∧(((FV.L 4 (Q4 4 x1)=true)∧((0≤a)∧((a<(length x1:Int))∧(((rE (getD x1 (toNat a) [])):List FV)=(getD x1 (toNat a) [])))))∧(∃ c:Bool,((Q66 79 [(aE (getD x15 (toNat a) [])),(aE (getD x1 (toNat a) []))] c)∧(br (!c) (Q67 r b) (Q58 96 0 r b 1 [Q62 1 4 x1,Q5 2 (.fn (.func 79) [] []),Q62 15 4 x15,Q18 16 x16,Q18 17 (IntKind.wrap .i64 (a+1))] [] 0)))))) (Q63 true r b)):=by kernel_rfl
def lv80:List (Nat×List Nat):=[]
theorem v80 (c:Int)(e:List UInt8)(d:Int)(f:RW)(o0_0l o0_1l:Nat)(o1 o2:RW)(r:TV)(b:List AObj):VE lv80 80 3 r b [Q87 2,Q83 c e d f] (Q107 o0_0l o0_1l o1 o2)=
  (∃ a:Int×Bool×Tm×Bool,((Q77 25 (Q99 (Q87 2) d) (Q107 o0_0l o0_1l o1 o2) (Q117 (Q125 a.1 a.2.1 a.2.2.1.k a.2.2.1.s a.2.2.1.n (FTs a.2.2.1.l)) a.2.2.2) (Q107 o0_0l o0_1l o1 o2))∧(br ((c:Int)==(4:Int)) (br a.2.2.2 (Q53 (Q117 (cT a.2.2.1) a.2.1) (Q107 o0_0l o0_1l o1 o2) r b) (Q53 (Q117 (cT a.2.2.1) false) (Q107 o0_0l o0_1l o1 o2) r b)) (Q53 (Q117 (cT a.2.2.1) false) (Q107 o0_0l o0_1l o1 o2) r b)))):=by kernel_rfl
def lv81:List (Nat×List Nat):=[]
theorem v81 (a:Int)(b:List UInt8)(c:Int)(d:RW)(e:Int)(f:List UInt8)(g:Int)(h:RW)(r:TV)(i:List AObj):VE lv81 81 0 r i [Q83 a b c d,Q83 e f g h] []=
  (∃ k:Bool,((Q66 34 [Q83 a b c d] k)∧(br (!k) (Q53 (Q129 (Q47 0 [] 0) 1) [] r i) (∃ l:Bool,((Q66 34 [Q83 e f g h] l)∧(br (!l) (Q53 (Q129 (Q47 0 [] 0) 1) [] r i) (∃ j:Tm×Int,((Q54 97 [Q83 a b c d,Q83 e f g h] (.tup (Q129 (cT j.1) j.2)))∧(Q53 (Q129 (cT j.1) j.2) [] r i))))))))):=by kernel_rfl
def lv98:List (Nat×List Nat):=[]
theorem v98 (a:Int)(b:List UInt8)(c:Int)(d:RW)(i:Int)(r:TV)(e:List AObj):VE lv98 98 0 r e (Q99 (Q83 a b c d) i) []=
  (∃ f:Bool,((Q66 34 [Q83 a b c d] f)∧(br (!f) (Q72 0 [] r e) (∃ g:Int,((Q54 111 (Q99 (Q83 a b c d) i) (Q25 g))∧(Q72 g [] r e)))))):=by kernel_rfl
def z8c:List (Nat×List Nat):=[(1,[2,3,4,6,7,8,9,30,31,32])]
theorem v101_F99 (a:Int)(b:List UInt8)(c:Int)(d:RW)(k o0_0 o1_0:Int)(r:TV)(e:List AObj):VE z8c 101 2 r e [.agg [(.fn (.func 99) [] [(false,[(Q123 0)]),(false,[(Q123 1)])])],Q83 a b c d,Q25 k] (Q105 o0_0 (Q100 o1_0))=
  (br ((a:Int) !=(5:Int)) (br ((a:Int) !=(6:Int)) (∃ h:Tm,((Q10 99 [Q83 a b c d,Q25 k,Q87 1,Q85 1 1] (Q105 o0_0 (Q100 o1_0)) (aT h) (Q105 o0_0 (Q100 o1_0)))∧(RT (aT h) (Q105 o0_0 (Q100 o1_0)) r e))) (∃ f:FV,(∃ i:Int,((Q54 69 [Q83 a b c d] (.tup [Q19 [Q0 f],Q31 i]))∧((FV.L 4 f=true)∧(Q58 101 2 r e 1 [Q18 2 k,Q49 3 2 1,Q98 4 3,Q98 6 4,Q5 7 (Q0 f),Q18 8 i,Q120 9,Q5 30 (Q0 f),Q18 31 (length (FV.ses f):Int),Q18 32 0] [Q118 0 1 o0_0,Q118 1 1 o1_0,Q28 2 1 [(.fn (.func 99) [] [(false,[(Q123 0)]),(false,[(Q123 1)])])],Q74 3 4 a b c 4 d,Q89 4 4 0 [] 0] 5)))))) (∃ g:FV,(∃ j:Int,((Q54 69 [Q83 a b c d] (.tup [Q19 [Q0 g],Q31 j]))∧((FV.L 4 g=true)∧(Q58 101 2 r e 1 [Q18 2 k,Q49 3 2 1,Q98 4 3,Q98 6 4,Q5 7 (Q0 g),Q18 8 j,Q120 9,Q5 30 (Q0 g),Q18 31 (length (FV.ses g):Int),Q18 32 0] [Q118 0 1 o0_0,Q118 1 1 o1_0,Q28 2 1 [(.fn (.func 99) [] [(false,[(Q123 0)]),(false,[(Q123 1)])])],Q74 3 4 a b c 4 d,Q89 4 4 0 [] 0] 5)))))):=by kernel_rfl
theorem zdo (k:Int)(m:FV)(l:Int)(c:FV)(x31 a h0_0 h1_0 b:Int)(d:List UInt8)(e:Int)(g:RW)(h:Int)(i:List UInt8)(j:Int)(r:TV)(f:List AObj):VQ z8c 101 2 r f 1 ⟨[Q18 2 k,Q49 3 2 1,Q98 4 3,Q98 6 4,Q5 7 (Q0 m),Q18 8 l,Q120 9,Q5 30 (Q0 c),Q18 31 x31,Q18 32 a],[Q118 0 1 h0_0,Q118 1 1 h1_0,Q28 2 1 [(.fn (.func 99) [] [(false,[(Q123 0)]),(false,[(Q123 1)])])],Q74 3 4 b d e 4 g,Q89 4 4 h i j],5⟩=
  (br (decide ((a:Int)<x31)) (((FV.L 4 c=true)∧((0≤a)∧((a<(length (FV.ses c):Int))∧(((rE (getD (FV.ses c) (toNat a) [])):List FV)=(getD (FV.ses c) (toNat a) [])))))∧(∃ n:Tm,((Q10 101 [.agg [(.fn (.func 99) [] [(false,[(Q123 0)]),(false,[(Q123 1)])])],(aE (getD (FV.ses c) (toNat a) [])),Q25 (IntKind.wrap .i64 (k+l))] (Q105 h0_0 (Q100 h1_0)) (aT n) (Q105 h0_0 (Q100 h1_0)))∧((1≤1)∧((z0u 1 56)∧(Q58 101 2 r f 1 [Q18 2 k,Q49 3 2 1,Q98 4 3,Q98 6 4,Q5 7 (Q0 m),Q18 8 l,Q97 9 5 4 0 1,Q5 30 (Q0 c),Q18 31 x31,Q18 32 (IntKind.wrap .i64 (a+1))] [Q118 0 1 h0_0,Q118 1 1 h1_0,Q28 2 1 [(.fn (.func 99) [] [(false,[(Q123 0)]),(false,[(Q123 1)])])],Q74 3 4 b d e 4 g,Q89 4 4 h i j,Q73 5 4 [(FT4 n)]] 6)))))) (br ((b:Int)==(6:Int)) ((FV.L 4 .N=true)∧(RT (.agg (Q47 b d e)) (Q105 h0_0 (Q100 h1_0)) r f)) (RT (.agg (Q47 b d e)) (Q105 h0_0 (Q100 h1_0)) r f))):=by kernel_rfl
theorem zf7 (n:Int)(m:FV)(o:Int)(a:Nat)(g:FV)(x31 f h0_0 h1_0 b:Int)(d:List UInt8)(e:Int)(i:RW)(j:Int)(k:List UInt8)(l:Int)(c:RW)(r:TV)(h:List AObj):VQ z8c 101 2 r h 1 ⟨[Q18 2 n,Q49 3 2 1,Q98 4 3,Q98 6 4,Q5 7 (Q0 m),Q18 8 o,Q97 9 5 4 0 a,Q5 30 (Q0 g),Q18 31 x31,Q18 32 f],[Q118 0 1 h0_0,Q118 1 1 h1_0,Q28 2 1 [(.fn (.func 99) [] [(false,[(Q123 0)]),(false,[(Q123 1)])])],Q74 3 4 b d e 4 i,Q89 4 4 j k l,Q73 5 4 c],6⟩=
  (br (decide ((f:Int)<x31)) (((FV.L 4 g=true)∧((0≤f)∧((f<(length (FV.ses g):Int))∧(((rE (getD (FV.ses g) (toNat f) [])):List FV)=(getD (FV.ses g) (toNat f) [])))))∧(∃ p:Tm,((Q10 101 [.agg [(.fn (.func 99) [] [(false,[(Q123 0)]),(false,[(Q123 1)])])],(aE (getD (FV.ses g) (toNat f) [])),Q25 (IntKind.wrap .i64 (n+o))] (Q105 h0_0 (Q100 h1_0)) (aT p) (Q105 h0_0 (Q100 h1_0)))∧((1≤1)∧((a≤(length c)∧z0u (a+1) 56)∧(Q58 101 2 r h 1 [Q18 2 n,Q49 3 2 1,Q98 4 3,Q98 6 4,Q5 7 (Q0 m),Q18 8 o,Q97 9 5 4 0 (a+1),Q5 30 (Q0 g),Q18 31 x31,Q18 32 (IntKind.wrap .i64 (f+1))] [Q118 0 1 h0_0,Q118 1 1 h1_0,Q28 2 1 [(.fn (.func 99) [] [(false,[(Q123 0)]),(false,[(Q123 1)])])],Q74 3 4 b d e 4 i,Q89 4 4 j k l,Q73 5 4 ((take a c)++ [(FT4 p)])] 6)))))) (br ((b:Int)==(6:Int)) (br (decide (((a:Int):Int)>(1:Int))) ((0≤(0:Int)∧(0:Int)<(a:Int))∧(((0<(length c))∧((([(Q1 (FV.I (getD (getD c 0 []) 0 FV.N)))]:List FV)=(take 1 (drop 0 (getD c 0 []))))∧((1:Nat)=1)))∧(br (((FV.I (getD (getD c 0 []) 0 FV.N)):Int)==(6:Int)) (((FV.L 4 m=true)∧((0≤(0:Int))∧(((0:Int)<(length (FV.ses m):Int))∧(((rE (getD (FV.ses m) 0 [])):List FV)=(getD (FV.ses m) 0 [])))))∧(br (((FV.I (getD (getD (FV.ses m) 0 []) 0 FV.N)):Int) !=(6:Int)) ((0≤(0:Int)∧(0:Int)<(a:Int))∧(((0<(length c))∧((((rE (getD c 0 [])):List FV)=(take 4 (drop 0 (getD c 0 []))))∧((4:Nat)=4)))∧(((0≤(1:Int))∧(((1:Int)≤(a:Int))∧((a:Int)≤(a:Int))))∧(((4:Nat)=4∧(1+((toNat (a:Int))-1))≤(length c))∧(∃ q:Tm,((Q54 15 [(aE (getD c 0 [])),Q70 4 (take ((toNat (a:Int))-1) (drop 1 c))] (aT q))∧(RT (aT q) (Q105 h0_0 (Q100 h1_0)) r h))))))) (((4:Nat)=4∧(0+a)≤(length c))∧(RT (Q83 b d e (take a (drop 0 c))) (Q105 h0_0 (Q100 h1_0)) r h)))) (((4:Nat)=4∧(0+a)≤(length c))∧(RT (Q83 b d e (take a (drop 0 c))) (Q105 h0_0 (Q100 h1_0)) r h))))) (((4:Nat)=4∧(0+a)≤(length c))∧(RT (Q83 b d e (take a (drop 0 c))) (Q105 h0_0 (Q100 h1_0)) r h))) (((4:Nat)=4∧(0+a)≤(length c))∧(RT (Q83 b d e (take a (drop 0 c))) (Q105 h0_0 (Q100 h1_0)) r h)))):=by kernel_rfl
def lv84:List (Nat×List Nat):=[]
theorem v84 (c:Int)(r:TV)(a:List AObj):VE lv84 84 0 r a [.c (Q0 (.int .u8 c))] []=
  (br (decide (((65:Int):Int)≤c)) (br (decide ((c:Int)≤(90:Int))) (Q63 true r a) (Q63 ((c:Int)==(95:Int)) r a)) (Q63 ((c:Int)==(95:Int)) r a)):=by kernel_rfl
def lv85:List (Nat×List Nat):=[]
theorem v85 (c:Int)(r:TV)(a:List AObj):VE lv85 85 0 r a [.c (Q0 (.int .u8 c))] []=
  (br (decide (((48:Int):Int)≤c)) (Q63 (decide ((c:Int)≤(57:Int))) r a) (Q67 r a)):=by kernel_rfl
def lv103:List (Nat×List Nat):=[(3,[0,1,5,6,7,8,9,10])]
theorem v103 (s a:List UInt8)(r:TV)(b:List AObj):VE lv103 103 0 r b (Q115 (.c (Q6 s)) (Q6 a)) []=
  (br (((length a:Int):Int)==(0:Int)) (Q72 0 [] r b) (br ((a:List UInt8)==s) (Q72 0 [] r b) (br (((length a:Int):Int)==(1:Int)) ((0≤(0:Int)∧(0:Int)<(length a:Int))∧(∃ d:Int,((Q54 102 (Q115 (.c (Q6 s)) (Q0 (.int .u8 ((UInt8.toNat (getD a 0 0):Nat):Int)))) (Q25 d))∧(Q72 d [] r b)))) (br (decide (((length a:Int):Int)≥(length s:Int))) (Q72 (-1:Int) [] r b) False)))):=by kernel_rfl
theorem v27_F42 (d:Int)(e:List UInt8)(f:Int)(g:RW)(b:Int)(o0_0l o0_1l:Nat)(o1 o2:RW)(r:TV)(a:List AObj):VE lv27 27 3 r a [Q83 d e f g,Q25 b, .c (.fn (.func 42) [(false,[(Q122 0 2)])] [])] (Q107 o0_0l o0_1l o1 o2)=
  (∃ i:Bool,((Q66 34 [Q83 d e f g] i)∧(br (!i) (Q53 (Q132 (Q47 0 [] 0) 0 1) (Q107 o0_0l o0_1l o1 o2) r a) (∃ h:Tm×Int×Int,((Q77 42 (Q88 2 (Q83 d e f g) (Q85 3 1)) [Q36 1 o0_0l 2 o0_1l,Q22 o1,Q20 o2,Q100 b] (Q129 (cT h.1) h.2.1) [Q36 1 o0_0l 2 o0_1l,Q22 o1,Q20 o2,Q100 h.2.2])∧(br ((h.2.1:Int) !=(0:Int)) (Q53 (Q132 (Q47 0 [] 0) 0 h.2.1) (Q107 o0_0l o0_1l o1 o2) r a) (Q53 (Q132 (cT h.1) h.2.2 0) (Q107 o0_0l o0_1l o1 o2) r a))))))):=by kernel_rfl
def zm0:List (Nat×List Nat):=[(1,[0,3,11,13,35,36,37])]
theorem v105 (x:Int)(l:RW)(c:Int)(o0_0l o0_1l:Nat)(o1 o2:RW)(r:TV)(b:List AObj):VE zm0 105 3 r b [Q87 2,Q25 x,Q70 4 l,Q25 c] (Q107 o0_0l o0_1l o1 o2)=
  (∃ a:Int×Bool×Tm×Bool,((Q77 25 (Q99 (Q87 2) x) (Q107 o0_0l o0_1l o1 o2) (Q117 (Q125 a.1 a.2.1 a.2.2.1.k a.2.2.1.s a.2.2.1.n (FTs a.2.2.1.l)) a.2.2.2) (Q107 o0_0l o0_1l o1 o2))∧(br (!a.2.2.2) (Q53 (Q101 (Q19 [Q37]) 0 1) (Q107 o0_0l o0_1l o1 o2) r b) (∃ d:Bool,((Q66 49 (Q133 4 l (.fn (.func 117) [] [])) d)∧(br d (Q53 (Q101 (Q19 [Q37]) 0 1) (Q107 o0_0l o0_1l o1 o2) r b) ((FV.L 4 (Q4 4 l)=true)∧(Q58 105 3 r b 1 [Q49 0 0 2,Q18 3 c,Q49 11 3 6,Q120 13,Q62 35 4 l,Q18 36 (length l:Int),Q18 37 0] [Q71 0 1 o0_0l 2 o0_1l,Q69 1 o1,Q61 2 o2,Q28 3 6 (Q125 a.1 a.2.1 a.2.2.1.k a.2.2.1.s a.2.2.1.n (FTs a.2.2.1.l))] 4)))))))):=by kernel_rfl
theorem zts (o:Int)(d:RW)(x36 b:Int)(h0_0l h0_1l:Nat)(h1 h2:RW)(e:Int)(g:Bool)(h:Int)(i:List UInt8)(j:Int)(l:RW)(r:TV)(a:List AObj):VQ zm0 105 3 r a 1 ⟨[Q49 0 0 2,Q18 3 o,Q49 11 3 6,Q120 13,Q62 35 4 d,Q18 36 x36,Q18 37 b],[Q71 0 1 h0_0l 2 h0_1l,Q69 1 h1,Q61 2 h2,Q28 3 6 (Q125 e g h i j l)],4⟩=
  (br (decide ((b:Int)<x36)) (((FV.L 4 (Q4 4 d)=true)∧((0≤b)∧((b<(length d:Int))∧(((rE (getD d (toNat b) [])):List FV)=(getD d (toNat b) [])))))∧(∃ m:Tm×Int×Int,((Q77 11 (Q88 2 (aE (getD d (toNat b) [])) (Q25 o)) (Q107 h0_0l h0_1l h1 h2) (Q132 (cT m.1) m.2.1 m.2.2) (Q107 h0_0l h0_1l h1 h2))∧(br ((m.2.2:Int) !=(0:Int)) (Q53 (Q101 (Q19 [Q37]) 0 m.2.2) (Q107 h0_0l h0_1l h1 h2) r a) (∃ f:Tm×Bool,((Q54 118 [(aT m.1)] (.tup (Q117 (cT f.1) f.2)))∧(br ((f.1.k:Int)==(1:Int)) (∃ p:Bool,((Q10 49 (Q115 (.c Q37) (.fn (.func 119) [] [(false,[(Q122 0 4)])])) [Q7 4 (cT f.1)] (Q24 p) [Q7 4 (cT f.1)])∧(br (!f.2) (Q53 (Q101 (Q19 [Q37]) 0 171) (Q107 h0_0l h0_1l h1 h2) r a) (br (decide ((f.1.n:Int)≤e)) (Q53 (Q101 (Q19 [Q37]) 0 171) (Q107 h0_0l h0_1l h1 h2) r a) (br p (Q53 (Q101 (Q19 [Q37]) 0 171) (Q107 h0_0l h0_1l h1 h2) r a) ((1≤1)∧((z0u 1 56)∧(Q58 105 3 r a 1 [Q49 0 0 2,Q18 3 m.2.1,Q49 11 3 6,Q97 13 4 4 0 1,Q62 35 4 d,Q18 36 x36,Q18 37 (IntKind.wrap .i64 (b+1))] [Q71 0 1 h0_0l 2 h0_1l,Q69 1 h1,Q61 2 h2,Q28 3 6 (Q125 e g h i j l),Q73 4 4 [(FT4 f.1)]] 5)))))))) (∃ q:Bool,((Q10 49 (Q115 (.c Q37) (.fn (.func 119) [] [(false,[(Q122 0 4)])])) [Q7 4 (cT f.1)] (Q24 q) [Q7 4 (cT f.1)])∧(br (!f.2) (Q53 (Q101 (Q19 [Q37]) 0 171) (Q107 h0_0l h0_1l h1 h2) r a) (br q (Q53 (Q101 (Q19 [Q37]) 0 171) (Q107 h0_0l h0_1l h1 h2) r a) ((1≤1)∧((z0u 1 56)∧(Q58 105 3 r a 1 [Q49 0 0 2,Q18 3 m.2.1,Q49 11 3 6,Q97 13 4 4 0 1,Q62 35 4 d,Q18 36 x36,Q18 37 (IntKind.wrap .i64 (b+1))] [Q71 0 1 h0_0l 2 h0_1l,Q69 1 h1,Q61 2 h2,Q28 3 6 (Q125 e g h i j l),Q73 4 4 [(FT4 f.1)]] 5)))))))))))))) (Q53 (Q101 (Q19 [Q37]) o 0) (Q107 h0_0l h0_1l h1 h2) r a)):=by kernel_rfl
theorem zxv (o:Int)(a:Nat)(e:RW)(x36 d:Int)(h0_0l h0_1l:Nat)(h1 h2:RW)(f:Int)(h:Bool)(i:Int)(j:List UInt8)(l:Int)(h3_5 h4:RW)(r:TV)(b:List AObj):VQ zm0 105 3 r b 1 ⟨[Q49 0 0 2,Q18 3 o,Q49 11 3 6,Q97 13 4 4 0 a,Q62 35 4 e,Q18 36 x36,Q18 37 d],[Q71 0 1 h0_0l 2 h0_1l,Q69 1 h1,Q61 2 h2,Q28 3 6 (Q125 f h i j l h3_5),Q73 4 4 h4],5⟩=
  (br (decide ((d:Int)<x36)) (((FV.L 4 (Q4 4 e)=true)∧((0≤d)∧((d<(length e:Int))∧(((rE (getD e (toNat d) [])):List FV)=(getD e (toNat d) [])))))∧(∃ m:Tm×Int×Int,((Q77 11 (Q88 2 (aE (getD e (toNat d) [])) (Q25 o)) (Q107 h0_0l h0_1l h1 h2) (Q132 (cT m.1) m.2.1 m.2.2) (Q107 h0_0l h0_1l h1 h2))∧(br ((m.2.2:Int) !=(0:Int)) (Q53 (Q101 (Q19 [Q37]) 0 m.2.2) (Q107 h0_0l h0_1l h1 h2) r b) (∃ g:Tm×Bool,((Q54 118 [(aT m.1)] (.tup (Q117 (cT g.1) g.2)))∧(br ((g.1.k:Int)==(1:Int)) (∃ p:Bool,((Q10 49 (Q115 (.c (Q3 0 4 0 a)) (.fn (.func 119) [] [(false,[(Q122 1 4)])])) [.arz 4 h4,Q7 4 (cT g.1)] (Q24 p) [.arz 4 h4,Q7 4 (cT g.1)])∧(br (!g.2) (Q53 (Q101 (Q19 [Q37]) 0 171) (Q107 h0_0l h0_1l h1 h2) r b) (br (decide ((g.1.n:Int)≤f)) (Q53 (Q101 (Q19 [Q37]) 0 171) (Q107 h0_0l h0_1l h1 h2) r b) (br p (Q53 (Q101 (Q19 [Q37]) 0 171) (Q107 h0_0l h0_1l h1 h2) r b) ((1≤1)∧((a≤(length h4)∧z0u (a+1) 56)∧(Q58 105 3 r b 1 [Q49 0 0 2,Q18 3 m.2.1,Q49 11 3 6,Q97 13 4 4 0 (a+1),Q62 35 4 e,Q18 36 x36,Q18 37 (IntKind.wrap .i64 (d+1))] [Q71 0 1 h0_0l 2 h0_1l,Q69 1 h1,Q61 2 h2,Q28 3 6 (Q125 f h i j l h3_5),Q73 4 4 ((take a h4)++ [(FT4 g.1)])] 5)))))))) (∃ q:Bool,((Q10 49 (Q115 (.c (Q3 0 4 0 a)) (.fn (.func 119) [] [(false,[(Q122 1 4)])])) [.arz 4 h4,Q7 4 (cT g.1)] (Q24 q) [.arz 4 h4,Q7 4 (cT g.1)])∧(br (!g.2) (Q53 (Q101 (Q19 [Q37]) 0 171) (Q107 h0_0l h0_1l h1 h2) r b) (br q (Q53 (Q101 (Q19 [Q37]) 0 171) (Q107 h0_0l h0_1l h1 h2) r b) ((1≤1)∧((a≤(length h4)∧z0u (a+1) 56)∧(Q58 105 3 r b 1 [Q49 0 0 2,Q18 3 m.2.1,Q49 11 3 6,Q97 13 4 4 0 (a+1),Q62 35 4 e,Q18 36 x36,Q18 37 (IntKind.wrap .i64 (d+1))] [Q71 0 1 h0_0l 2 h0_1l,Q69 1 h1,Q61 2 h2,Q28 3 6 (Q125 f h i j l h3_5),Q73 4 4 ((take a h4)++ [(FT4 g.1)])] 5)))))))))))))) (((4:Nat)=4∧(0+a)≤(length h4))∧(Q53 (Q101 (Q19 [Q124 (take a (drop 0 h4))]) o 0) (Q107 h0_0l h0_1l h1 h2) r b))):=by kernel_rfl
def zu3:List (Nat×List Nat):=[(1,[0,1,7,8])]
theorem v106 (s:RW)(v:Bool)(r:TV)(a:List AObj):VE zu3 106 0 r a [Q70 1 s,Q24 v] []=
  ((FV.L 1 (Q4 1 s)=true)∧(Q58 106 0 r a 1 (Q134 (Q62 0 1 s) 1 (Q11 v) 7 (length s:Int) 8 0) [] 0)):=by kernel_rfl
theorem zvt (c:RW)(d:Bool)(x7 b:Int)(r:TV)(a:List AObj):VQ zu3 106 0 r a 1 ⟨Q134 (Q62 0 1 c) 1 (Q11 d) 7 x7 8 b,[],0⟩=
  (br (decide ((b:Int)<x7)) (((FV.L 1 (Q4 1 c)=true)∧((0≤b)∧((b<(length c:Int))∧(([(.bool (FV.asB (getD (getD c (toNat b) []) 0 FV.N)))]:List FV)=(getD c (toNat b) [])))))∧(br ((d:Bool)==(FV.asB (getD (getD c (toNat b) []) 0 FV.N))) (Q72 b [] r a) (Q58 106 0 r a 1 (Q134 (Q62 0 1 c) 1 (Q11 d) 7 x7 8 (IntKind.wrap .i64 (b+1))) [] 0))) (Q72 (-1:Int) [] r a)):=by kernel_rfl
def lv107:List (Nat×List Nat):=[]
theorem v107 (n:Int)(r:TV)(a:List AObj):VE lv107 107 0 r a [Q25 n] []=
  (RT (.agg (Q47 3 [] n)) [] r a):=by kernel_rfl
def lv108:List (Nat×List Nat):=[(1000001,[1,2])]
theorem v108 (x level lams:Int)(e:RW)(o0_0l o0_1l:Nat)(o1 o2:RW)(r:TV)(c:List AObj):VE lv108 108 3 r c [Q87 2,Q25 x,Q25 level,Q25 lams,Q70 4 e] (Q107 o0_0l o0_1l o1 o2)=
  (∃ a:Int×Sto,((Q10 14 (Q99 (Q87 2) level) (Q107 o0_0l o0_1l o1 o2) (Q25 a.1) (Q91 3 (length a.2.V) 4 (length a.2.T) (SR a.2.V) (IR a.2.T)))∧(∃ d:Tm,((Q54 121 [Q25 a.1] (aT d))∧(∃ f:Tm,((Q54 15 [(aT d),Q70 4 e] (aT f))∧(∃ g:Tm,((Q54 17 [Q25 lams,(aT f)] (aT g))∧(∃ b:Int×Sto,((Q10 21 (Q88 2 (Q25 x) (aT g)) (Q107 (length a.2.V) (length a.2.T) (SR a.2.V) (IR a.2.T)) (Q25 b.1) (Q91 3 (length b.2.V) 4 (length b.2.T) (SR b.2.V) (IR b.2.T)))∧(RT (aT d) (Q91 3 (length b.2.V) 4 (length b.2.T) (SR b.2.V) (IR b.2.T)) r c))))))))))):=by kernel_rfl
def lv109:List (Nat×List Nat):=[(1000001,[1,2])]
theorem v109 (x:Int)(l:RW)(e:Int)(f:List UInt8)(g:Int)(h:RW)(d:Int)(o0_0l o0_1l:Nat)(o1 o2:RW)(r:TV)(b:List AObj):VE lv109 109 3 r b [Q87 2,Q25 x,Q70 4 l,Q83 e f g h,Q25 d] (Q107 o0_0l o0_1l o1 o2)=
  (∃ c:Int×Bool×Tm×Bool,((Q77 25 (Q99 (Q87 2) x) (Q107 o0_0l o0_1l o1 o2) (Q117 (Q125 c.1 c.2.1 c.2.2.1.k c.2.2.1.s c.2.2.1.n (FTs c.2.2.1.l)) c.2.2.2) (Q107 o0_0l o0_1l o1 o2))∧(br (!c.2.2.2) (Q53 (Q132 (Q47 0 [] 0) 0 1) (Q91 3 o0_0l 4 o0_1l o1 o2) r b) (br c.2.1 (Q53 (Q132 (Q47 0 [] 0) 0 1) (Q91 3 o0_0l 4 o0_1l o1 o2) r b) (∃ i:Bool,((Q66 117 [Q83 e f g h] i)∧(br i (Q53 (Q132 (Q47 0 [] 0) 0 1) (Q91 3 o0_0l 4 o0_1l o1 o2) r b) (∃ j:Bool,((Q66 49 (Q133 4 l (.fn (.func 122) [] [])) j)∧(br j (Q53 (Q132 (Q47 0 [] 0) 0 1) (Q91 3 o0_0l 4 o0_1l o1 o2) r b) (∃ a:Tm×Sto×Int×Int×List Tm×Int×Int,((Q10 124 (Q88 6 (Q83 e f g h) (Q25 0)) (Q130 6 1 2 0 0 x c.1 4 l d 0 2 o0_0l 3 o0_1l o1 o2) (aT a.1) (Q92 (Q90 6 1 2 0 0 a.2.2.1 a.2.2.2.1 4 (FTs a.2.2.2.2.1) a.2.2.2.2.2.1 a.2.2.2.2.2.2) (Q36 4 (length a.2.1.V) 5 (length a.2.1.T)) .gone .gone (SR a.2.1.V) (Q20 (IR a.2.1.T))))∧(br ((a.2.2.2.2.2.2:Int) !=(0:Int)) (Q53 (Q132 (Q47 0 [] 0) 0 a.2.2.2.2.2.2) (Q91 3 (length a.2.1.V) 4 (length a.2.1.T) (SR a.2.1.V) (IR a.2.1.T)) r b) ((FV.L 4 (Q4 4 l)=true)∧(∃ m:Tm,((Q54 17 [Q25 (length l:Int),(aT a.1)] (aT m))∧(Q53 (Q132 (cT m) a.2.2.2.2.2.1 0) (Q91 3 (length a.2.1.V) 4 (length a.2.1.T) (SR a.2.1.V) (IR a.2.1.T)) r b))))))))))))))))):=by kernel_rfl
def lv97:List (Nat×List Nat):=[]
theorem v97 (a:Int)(b:List UInt8)(c:Int)(d:RW)(e:Int)(f:List UInt8)(g:Int)(h:RW)(r:TV)(i:List AObj):VE lv97 97 0 r i [Q83 a b c d,Q83 e f g h] []=
  (∃ j:Int,((Q54 110 [Q83 a b c d] (Q25 j))∧(∃ k:Int,((Q54 111 (Q99 (Q83 a b c d) 0) (Q25 k))∧(∃ l:Int,((Q54 110 [Q83 e f g h] (Q25 l))∧(br (decide (((IntKind.wrap .i64 (j+(IntKind.wrap .i64 (k*l)))):Int)>(4096:Int))) (Q53 (Q129 (Q47 0 [] 0) 80) [] r i) (∃ m:Tm,((Q54 112 [Q83 a b c d,Q25 0,Q83 e f g h] (aT m))∧(Q53 (Q129 (cT m) 0) [] r i)))))))))):=by kernel_rfl
def zy8:List (Nat×List Nat):=[(3,[1,5,21,22,23])]
theorem v111 (c:Int)(e:List UInt8)(d:Int)(a:RW)(i:Int)(r:TV)(b:List AObj):VE zy8 111 0 r b (Q99 (Q83 c e d a) i) []=
  (br ((c:Int)==(3:Int)) (br ((d:Int)==i) (Q72 1 [] r b) ((FV.L 4 (Q4 4 a)=true)∧(Q58 111 0 r b 3 [Q18 1 i,Q18 5 0,Q62 21 4 a,Q18 22 (length a:Int),Q18 23 0] [] 0))) (br ((c:Int)==(5:Int)) ((FV.L 4 (Q4 4 a)=true)∧(Q58 111 0 r b 3 [Q18 1 (IntKind.wrap .i64 (i+1)),Q18 5 0,Q62 21 4 a,Q18 22 (length a:Int),Q18 23 0] [] 0)) ((FV.L 4 (Q4 4 a)=true)∧(Q58 111 0 r b 3 [Q18 1 i,Q18 5 0,Q62 21 4 a,Q18 22 (length a:Int),Q18 23 0] [] 0)))):=by kernel_rfl
theorem zxk (x1 x5:Int)(b:RW)(x22 a:Int)(r:TV)(c:List AObj):VQ zy8 111 0 r c 3 ⟨[Q18 1 x1,Q18 5 x5,Q62 21 4 b,Q18 22 x22,Q18 23 a],[],0⟩=
  (br (decide ((a:Int)<x22)) (((FV.L 4 (Q4 4 b)=true)∧((0≤a)∧((a<(length b:Int))∧(((rE (getD b (toNat a) [])):List FV)=(getD b (toNat a) [])))))∧(∃ d:Int,((Q54 111 (Q99 (aE (getD b (toNat a) [])) x1) (Q25 d))∧(Q58 111 0 r c 3 [Q18 1 x1,Q18 5 (IntKind.wrap .i64 (x5+d)),Q62 21 4 b,Q18 22 x22,Q18 23 (IntKind.wrap .i64 (a+1))] [] 0)))) (Q72 x5 [] r c)):=by kernel_rfl
def lv99:List (Nat×List Nat):=[]
theorem v99 (a:Int)(c:List UInt8)(b:Int)(d:RW)(k o0_0 o1_0:Int)(r:TV)(e:List AObj):VE lv99 99 2 r e [Q83 a c b d,Q25 k,Q87 1,Q85 1 1] (Q105 o0_0 (Q100 o1_0))=
  (br ((a:Int)==(3:Int)) (br (decide ((b:Int)≥(IntKind.wrap .i64 (k+o0_0)))) (∃ f:Tm,((Q54 100 (Q99 (Q83 a c b d) o1_0) (aT f))∧(RT (aT f) (Q105 o0_0 (Q100 o1_0)) r e))) (RT (Q83 a c b d) (Q105 o0_0 (Q100 o1_0)) r e)) (RT (Q83 a c b d) (Q105 o0_0 (Q100 o1_0)) r e)):=by kernel_rfl
theorem v49_F117 (s:RW)(r:TV)(a:List AObj):VE lv49 49 0 r a (Q133 4 s (.fn (.func 117) [] [])) []=
  (∃ b:Int,((Q54 68 (Q133 4 s (.fn (.func 117) [] [])) (Q25 b))∧(Q63 (decide ((b:Int)≥(0:Int))) r a))):=by kernel_rfl
def lv118:List (Nat×List Nat):=[]
theorem v118 (b:Int)(c:List UInt8)(d:Int)(e:RW)(r:TV)(a:List AObj):VE lv118 118 0 r a [Q83 b c d e] []=
  (∃ g:Bool,((Q66 34 [Q83 b c d e] g)∧(br (!g) (Q53 (Q117 (Q47 0 [] 0) false) [] r a) (∃ f:Tm,((Q54 44 [Q83 b c d e] (aT f))∧(br ((f.k:Int)==(3:Int)) (Q53 (Q117 (cT f) true) [] r a) (br ((f.k:Int)==(1:Int)) (Q53 (Q117 (cT f) true) [] r a) (Q53 (Q117 (Q47 0 [] 0) false) [] r a)))))))):=by kernel_rfl
theorem v49_F119 (s:RW)(a:Int)(b:List UInt8)(c:Int)(d:RW)(r:TV)(e:List AObj):VE lv49 49 1 r e (Q133 4 s (.fn (.func 119) [] [(false,[(Q122 0 4)])])) [Q119 4 a b c 4 d]=
  (∃ f:Int,((Q10 68 (Q133 4 s (.fn (.func 119) [] [(false,[(Q122 0 4)])])) [Q119 4 a b c 4 d] (Q25 f) [Q119 4 a b c 4 d])∧(Q40 (decide ((f:Int)≥(0:Int))) [Q119 4 a b c 4 d] r e))):=by kernel_rfl
theorem zn2 (h:Nat)(g:RW)(a:Int)(b:List UInt8)(d:Int)(e:RW)(r:TV)(f:List AObj):VE lv49 49 2 r f (Q115 (.c (Q3 0 4 0 h)) (.fn (.func 119) [] [(false,[(Q122 1 4)])])) [.arz 4 g,Q119 4 a b d 4 e]=
  (∃ i:Int,((Q10 68 (Q115 (.c (Q3 0 4 0 h)) (.fn (.func 119) [] [(false,[(Q122 1 4)])])) [.arz 4 g,Q119 4 a b d 4 e] (Q25 i) [.arz 4 g,Q119 4 a b d 4 e])∧(Q40 (decide ((i:Int)≥(0:Int))) [.arz 4 g,Q119 4 a b d 4 e] r f))):=by kernel_rfl
def lv121:List (Nat×List Nat):=[]
theorem v121 (x:Int)(r:TV)(a:List AObj):VE lv121 121 0 r a [Q25 x] []=
  (RT (.agg (Q47 4 [] x)) [] r a):=by kernel_rfl
def lv117:List (Nat×List Nat):=[]
theorem v117 (a:Int)(b:List UInt8)(c:Int)(d:RW)(r:TV)(e:List AObj):VE lv117 117 0 r e [Q83 a b c d] []=
  (∃ f:Bool,((Q66 34 [Q83 a b c d] f)∧(Q63 (!f) r e))):=by kernel_rfl
theorem v49_F122 (s:RW)(r:TV)(a:List AObj):VE lv49 49 0 r a (Q133 4 s (.fn (.func 122) [] [])) []=
  (∃ b:Int,((Q54 68 (Q133 4 s (.fn (.func 122) [] [])) (Q25 b))∧(Q63 (decide ((b:Int)≥(0:Int))) r a))):=by kernel_rfl
def zfr:List (Nat×List Nat):=[(3,[0,2,6,9,10,102,103,104]),(1000001,[2,3])]
theorem v124 (B:Int)(C:List UInt8)(D:Int)(E:RW)(k o0_1 o0_2:Int)(b:RW)(q a:Int)(o1_0l o1_1l:Nat)(o2 o3:RW)(r:TV)(e:List AObj):VE zfr 124 4 r e (Q88 6 (Q83 B C D E) (Q25 k)) (Q130 6 1 2 0 0 o0_1 o0_2 4 b q a 2 o1_0l 3 o1_1l o2 o3)=
  (br ((a:Int) !=(0:Int)) (RT (.agg (Q47 0 [] 0)) (Q92 (Q90 6 1 2 0 0 o0_1 o0_2 4 b q a) (Q36 4 o1_0l 5 o1_1l) .gone .gone o2 (Q20 o3)) r e) (br (decide ((q:Int)≤(0:Int))) (∃ v:Int×Int×List Tm×Int×Int,((Q10 127 (Q99 (Q87 6) 80) (Q130 6 1 2 0 0 o0_1 o0_2 4 b q a 2 o1_0l 3 o1_1l o2 o3) (Q83 0 [] 0 []) (Q130 6 1 2 0 0 v.1 v.2.1 4 (FTs v.2.2.1) v.2.2.2.1 v.2.2.2.2 2 o1_0l 3 o1_1l o2 o3))∧(RT (Q83 0 [] 0 []) (Q92 (Q90 6 1 2 0 0 v.1 v.2.1 4 (FTs v.2.2.1) v.2.2.2.1 v.2.2.2.2) (Q36 4 o1_0l 5 o1_1l) .gone .gone o2 (Q20 o3)) r e))) (∃ h:Tm×Int×Int,((Q77 89 (Q88 2 (Q83 B C D E) (Q25 (IntKind.wrap .i64 (q-1)))) (Q107 o1_0l o1_1l o2 o3) (Q132 (cT h.1) h.2.1 h.2.2) (Q107 o1_0l o1_1l o2 o3))∧(br ((h.2.2:Int) !=(0:Int)) (∃ w:Int×Int×List Tm×Int×Int,((Q10 127 (Q99 (Q87 6) h.2.2) (Q130 6 1 2 0 0 o0_1 o0_2 4 b q a 2 o1_0l 3 o1_1l o2 o3) (Q83 0 [] 0 []) (Q130 6 1 2 0 0 w.1 w.2.1 4 (FTs w.2.2.1) w.2.2.2.1 w.2.2.2.2 2 o1_0l 3 o1_1l o2 o3))∧(RT (Q83 0 [] 0 []) (Q92 (Q90 6 1 2 0 0 w.1 w.2.1 4 (FTs w.2.2.1) w.2.2.2.1 w.2.2.2.2) (Q36 4 o1_0l 5 o1_1l) .gone .gone o2 (Q20 o3)) r e))) ((∃ u:Tm,((Q54 90 [(aT h.1)] (.tup (Q79 (cT u) [Q37])))∧(br ((u.k:Int)==(5:Int)) (((FV.L 4 (Q4 4 (FTs u.l))=true)∧((0≤(0:Int))∧(((0:Int)<(length (FTs u.l):Int))∧(((rE (getD (FTs u.l) 0 [])):List FV)=(getD (FTs u.l) 0 [])))))∧(∃ s:Tm×Sto×Int×Int×List Tm×Int×Int,((Q10 124 (Q88 6 (aE (getD (FTs u.l) 0 [])) (Q25 (IntKind.wrap .i64 (k+1)))) (Q130 6 1 2 0 0 o0_1 o0_2 4 b h.2.1 a 2 o1_0l 3 o1_1l o2 o3) (aT s.1) (Q92 (Q90 6 1 2 0 0 s.2.2.1 s.2.2.2.1 4 (FTs s.2.2.2.2.1) s.2.2.2.2.2.1 s.2.2.2.2.2.2) (Q36 4 (length s.2.1.V) 5 (length s.2.1.T)) .gone .gone (SR s.2.1.V) (Q20 (IR s.2.1.T))))∧(∃ H:Tm,((Q54 17 [Q25 1,(aT s.1)] (aT H))∧(RT (aT H) (Q92 (Q90 6 1 2 0 0 s.2.2.1 s.2.2.2.1 4 (FTs s.2.2.2.2.1) s.2.2.2.2.2.1 s.2.2.2.2.2.2) (Q36 4 (length s.2.1.V) 5 (length s.2.1.T)) .gone .gone (SR s.2.1.V) (Q20 (IR s.2.1.T))) r e)))))) (br ((u.k:Int)==(4:Int)) (br ((u.n:Int)==o0_1) (∃ x:Int×Int×List Tm×Int×Int,((Q10 127 (Q99 (Q87 6) 170) (Q130 6 1 2 0 0 o0_1 o0_2 4 b h.2.1 a 2 o1_0l 3 o1_1l o2 o3) (Q83 0 [] 0 []) (Q130 6 1 2 0 0 x.1 x.2.1 4 (FTs x.2.2.1) x.2.2.2.1 x.2.2.2.2 2 o1_0l 3 o1_1l o2 o3))∧(RT (Q83 0 [] 0 []) (Q92 (Q90 6 1 2 0 0 x.1 x.2.1 4 (FTs x.2.2.1) x.2.2.2.1 x.2.2.2.2) (Q36 4 o1_0l 5 o1_1l) .gone .gone o2 (Q20 o3)) r e))) (∃ t:Tm×Sto×Int×Int×List Tm×Int×Int,((Q10 128 [Q87 6,Q25 u.n, .c Q37,Q25 k] (Q130 6 1 2 0 0 o0_1 o0_2 4 b h.2.1 a 2 o1_0l 3 o1_1l o2 o3) (aT t.1) (Q92 (Q90 6 1 2 0 0 t.2.2.1 t.2.2.2.1 4 (FTs t.2.2.2.2.1) t.2.2.2.2.2.1 t.2.2.2.2.2.2) (Q36 4 (length t.2.1.V) 5 (length t.2.1.T)) .gone .gone (SR t.2.1.V) (Q20 (IR t.2.1.T))))∧(RT (aT t.1) (Q92 (Q90 6 1 2 0 0 t.2.2.1 t.2.2.2.1 4 (FTs t.2.2.2.2.1) t.2.2.2.2.2.1 t.2.2.2.2.2.2) (Q36 4 (length t.2.1.V) 5 (length t.2.1.T)) .gone .gone (SR t.2.1.V) (Q20 (IR t.2.1.T))) r e)))) (br ((u.k:Int)==(3:Int)) (∃ G:Tm×Bool,((Q77 129 (Q88 6 (aT u) (Q25 k)) (Q130 6 1 2 0 0 o0_1 o0_2 4 b h.2.1 a 2 o1_0l 3 o1_1l o2 o3) (Q117 (cT G.1) G.2) (Q130 6 1 2 0 0 o0_1 o0_2 4 b h.2.1 a 2 o1_0l 3 o1_1l o2 o3))∧(br (!G.2) (∃ i:Int×Int×List Tm×Int×Int,((Q10 127 (Q99 (Q87 6) 170) (Q130 6 1 2 0 0 o0_1 o0_2 4 b h.2.1 a 2 o1_0l 3 o1_1l o2 o3) (Q83 0 [] 0 []) (Q130 6 1 2 0 0 i.1 i.2.1 4 (FTs i.2.2.1) i.2.2.2.1 i.2.2.2.2 2 o1_0l 3 o1_1l o2 o3))∧(RT (Q83 0 [] 0 []) (Q92 (Q90 6 1 2 0 0 i.1 i.2.1 4 (FTs i.2.2.1) i.2.2.2.1 i.2.2.2.2) (Q36 4 o1_0l 5 o1_1l) .gone .gone o2 (Q20 o3)) r e))) ((FV.L 4 .N=true)∧(Q58 124 4 r e 3 [Q49 0 0 6,Q18 2 k,Q98 6 6,Q98 9 7,Q120 10,Q120 102,Q18 103 0,Q18 104 0] [Q28 0 6 (Q65 1 2 0 0 o0_1 o0_2 4 b h.2.1 a),Q71 1 4 o1_0l 5 o1_1l,Q43 2,Q43 3,Q69 4 o2,Q61 5 o3,Q89 6 4 0 [] 0,Q28 7 4 (cT G.1)] 8))))) (br ((u.k:Int)==(1:Int)) (∃ y:Tm×Bool,((Q77 129 (Q88 6 (aT u) (Q25 k)) (Q130 6 1 2 0 0 o0_1 o0_2 4 b h.2.1 a 2 o1_0l 3 o1_1l o2 o3) (Q117 (cT y.1) y.2) (Q130 6 1 2 0 0 o0_1 o0_2 4 b h.2.1 a 2 o1_0l 3 o1_1l o2 o3))∧(br (!y.2) (∃ j:Int×Int×List Tm×Int×Int,((Q10 127 (Q99 (Q87 6) 170) (Q130 6 1 2 0 0 o0_1 o0_2 4 b h.2.1 a 2 o1_0l 3 o1_1l o2 o3) (Q83 0 [] 0 []) (Q130 6 1 2 0 0 j.1 j.2.1 4 (FTs j.2.2.1) j.2.2.2.1 j.2.2.2.2 2 o1_0l 3 o1_1l o2 o3))∧(RT (Q83 0 [] 0 []) (Q92 (Q90 6 1 2 0 0 j.1 j.2.1 4 (FTs j.2.2.1) j.2.2.2.1 j.2.2.2.2) (Q36 4 o1_0l 5 o1_1l) .gone .gone o2 (Q20 o3)) r e))) ((FV.L 4 .N=true)∧(Q58 124 4 r e 3 [Q49 0 0 6,Q18 2 k,Q98 6 6,Q98 9 7,Q120 10,Q120 102,Q18 103 0,Q18 104 0] [Q28 0 6 (Q65 1 2 0 0 o0_1 o0_2 4 b h.2.1 a),Q71 1 4 o1_0l 5 o1_1l,Q43 2,Q43 3,Q69 4 o2,Q61 5 o3,Q89 6 4 0 [] 0,Q28 7 4 (cT y.1)] 8))))) ((FV.L 4 .N=true)∧(Q58 124 4 r e 3 [Q49 0 0 6,Q18 2 k,Q98 6 6,Q98 9 7,Q120 10,Q120 102,Q18 103 0,Q18 104 0] [Q28 0 6 (Q65 1 2 0 0 o0_1 o0_2 4 b h.2.1 a),Q71 1 4 o1_0l 5 o1_1l,Q43 2,Q43 3,Q69 4 o2,Q61 5 o3,Q89 6 4 0 [] 0,Q28 7 4 (cT u)] 8))))))))∨(∃ d:Tm×List Tm,((Q51 90 [(aT h.1)] (.tup (Q79 (cT d.1) [Q3 0 4 0 (length d.2)])) [.arz 4 (FTs d.2)])∧(br ((d.1.k:Int)==(5:Int)) (((FV.L 4 (Q4 4 (FTs d.1.l))=true)∧((0≤(0:Int))∧(((0:Int)<(length (FTs d.1.l):Int))∧(((rE (getD (FTs d.1.l) 0 [])):List FV)=(getD (FTs d.1.l) 0 [])))))∧(∃ f:Tm×Sto×Int×Int×List Tm×Int×Int,((Q10 124 (Q88 6 (aE (getD (FTs d.1.l) 0 [])) (Q25 (IntKind.wrap .i64 (k+1)))) (Q130 6 1 2 0 0 o0_1 o0_2 4 b h.2.1 a 2 o1_0l 3 o1_1l o2 o3) (aT f.1) (Q92 (Q90 6 1 2 0 0 f.2.2.1 f.2.2.2.1 4 (FTs f.2.2.2.2.1) f.2.2.2.2.2.1 f.2.2.2.2.2.2) (Q36 4 (length f.2.1.V) 5 (length f.2.1.T)) .gone .gone (SR f.2.1.V) (Q20 (IR f.2.1.T))))∧(∃ F:Tm,((Q54 17 [Q25 1,(aT f.1)] (aT F))∧(RT (aT F) (Q92 (Q90 6 1 2 0 0 f.2.2.1 f.2.2.2.1 4 (FTs f.2.2.2.2.1) f.2.2.2.2.2.1 f.2.2.2.2.2.2) (Q36 4 (length f.2.1.V) 5 (length f.2.1.T)) .gone .gone (SR f.2.1.V) (Q20 (IR f.2.1.T))) r e)))))) (br ((d.1.k:Int)==(4:Int)) (br ((d.1.n:Int)==o0_1) (∃ m:Int×Int×List Tm×Int×Int,((Q10 127 (Q99 (Q87 6) 170) (Q130 6 1 2 0 0 o0_1 o0_2 4 b h.2.1 a 2 o1_0l 3 o1_1l o2 o3) (Q83 0 [] 0 []) (Q130 6 1 2 0 0 m.1 m.2.1 4 (FTs m.2.2.1) m.2.2.2.1 m.2.2.2.2 2 o1_0l 3 o1_1l o2 o3))∧(RT (Q83 0 [] 0 []) (Q92 (Q90 6 1 2 0 0 m.1 m.2.1 4 (FTs m.2.2.1) m.2.2.2.1 m.2.2.2.2) (Q36 4 o1_0l 5 o1_1l) .gone .gone o2 (Q20 o3)) r e))) (((4:Nat)=4∧(0+(length d.2))≤(length (FTs d.2)))∧(∃ g:Tm×Sto×Int×Int×List Tm×Int×Int,((Q10 128 [Q87 6,Q25 d.1.n,Q70 4 (take (length d.2) (drop 0 (FTs d.2))),Q25 k] (Q130 6 1 2 0 0 o0_1 o0_2 4 b h.2.1 a 2 o1_0l 3 o1_1l o2 o3) (aT g.1) (Q92 (Q90 6 1 2 0 0 g.2.2.1 g.2.2.2.1 4 (FTs g.2.2.2.2.1) g.2.2.2.2.2.1 g.2.2.2.2.2.2) (Q36 4 (length g.2.1.V) 5 (length g.2.1.T)) .gone .gone (SR g.2.1.V) (Q20 (IR g.2.1.T))))∧(RT (aT g.1) (Q92 (Q90 6 1 2 0 0 g.2.2.1 g.2.2.2.1 4 (FTs g.2.2.2.2.1) g.2.2.2.2.2.1 g.2.2.2.2.2.2) (Q36 4 (length g.2.1.V) 5 (length g.2.1.T)) .gone .gone (SR g.2.1.V) (Q20 (IR g.2.1.T))) r e))))) (br ((d.1.k:Int)==(3:Int)) (∃ z:Tm×Bool,((Q77 129 (Q88 6 (aT d.1) (Q25 k)) (Q130 6 1 2 0 0 o0_1 o0_2 4 b h.2.1 a 2 o1_0l 3 o1_1l o2 o3) (Q117 (cT z.1) z.2) (Q130 6 1 2 0 0 o0_1 o0_2 4 b h.2.1 a 2 o1_0l 3 o1_1l o2 o3))∧(br (!z.2) (∃ o:Int×Int×List Tm×Int×Int,((Q10 127 (Q99 (Q87 6) 170) (Q130 6 1 2 0 0 o0_1 o0_2 4 b h.2.1 a 2 o1_0l 3 o1_1l o2 o3) (Q83 0 [] 0 []) (Q130 6 1 2 0 0 o.1 o.2.1 4 (FTs o.2.2.1) o.2.2.2.1 o.2.2.2.2 2 o1_0l 3 o1_1l o2 o3))∧(RT (Q83 0 [] 0 []) (Q92 (Q90 6 1 2 0 0 o.1 o.2.1 4 (FTs o.2.2.1) o.2.2.2.1 o.2.2.2.2) (Q36 4 o1_0l 5 o1_1l) .gone .gone o2 (Q20 o3)) r e))) (Q58 124 4 r e 3 [Q49 0 0 6,Q18 2 k,Q98 6 6,Q98 9 7,Q97 10 8 4 0 (length d.2),Q97 102 8 4 0 (length d.2),Q18 103 (((length d.2):Nat):Int),Q18 104 0] [Q28 0 6 (Q65 1 2 0 0 o0_1 o0_2 4 b h.2.1 a),Q71 1 4 o1_0l 5 o1_1l,Q43 2,Q43 3,Q69 4 o2,Q61 5 o3,Q89 6 4 0 [] 0,Q28 7 4 (cT z.1),Q73 8 4 (FTs d.2)] 9)))) (br ((d.1.k:Int)==(1:Int)) (∃ A:Tm×Bool,((Q77 129 (Q88 6 (aT d.1) (Q25 k)) (Q130 6 1 2 0 0 o0_1 o0_2 4 b h.2.1 a 2 o1_0l 3 o1_1l o2 o3) (Q117 (cT A.1) A.2) (Q130 6 1 2 0 0 o0_1 o0_2 4 b h.2.1 a 2 o1_0l 3 o1_1l o2 o3))∧(br (!A.2) (∃ p:Int×Int×List Tm×Int×Int,((Q10 127 (Q99 (Q87 6) 170) (Q130 6 1 2 0 0 o0_1 o0_2 4 b h.2.1 a 2 o1_0l 3 o1_1l o2 o3) (Q83 0 [] 0 []) (Q130 6 1 2 0 0 p.1 p.2.1 4 (FTs p.2.2.1) p.2.2.2.1 p.2.2.2.2 2 o1_0l 3 o1_1l o2 o3))∧(RT (Q83 0 [] 0 []) (Q92 (Q90 6 1 2 0 0 p.1 p.2.1 4 (FTs p.2.2.1) p.2.2.2.1 p.2.2.2.2) (Q36 4 o1_0l 5 o1_1l) .gone .gone o2 (Q20 o3)) r e))) (Q58 124 4 r e 3 [Q49 0 0 6,Q18 2 k,Q98 6 6,Q98 9 7,Q97 10 8 4 0 (length d.2),Q97 102 8 4 0 (length d.2),Q18 103 (((length d.2):Nat):Int),Q18 104 0] [Q28 0 6 (Q65 1 2 0 0 o0_1 o0_2 4 b h.2.1 a),Q71 1 4 o1_0l 5 o1_1l,Q43 2,Q43 3,Q69 4 o2,Q61 5 o3,Q89 6 4 0 [] 0,Q28 7 4 (cT A.1),Q73 8 4 (FTs d.2)] 9)))) (Q58 124 4 r e 3 [Q49 0 0 6,Q18 2 k,Q98 6 6,Q98 9 7,Q97 10 8 4 0 (length d.2),Q97 102 8 4 0 (length d.2),Q18 103 (((length d.2):Nat):Int),Q18 104 0] [Q28 0 6 (Q65 1 2 0 0 o0_1 o0_2 4 b h.2.1 a),Q71 1 4 o1_0l 5 o1_1l,Q43 2,Q43 3,Q69 4 o2,Q61 5 o3,Q89 6 4 0 [] 0,Q28 7 4 (cT d.1),Q73 8 4 (FTs d.2)] 9))))))))))))):=by kernel_rfl
theorem v124_3a (x2 x103 a h0_1 h0_2:Int)(b:RW)(h0_4 h0_5:Int)(h1_0l h1_1l:Nat)(h4 h5:RW)(g:Int)(h:List UInt8)(h6_2 h7_0:Int)(d:List UInt8)(e:Int)(f:RW)(r:TV)(i:List AObj):VQ zfr 124 4 r i 3 ⟨[Q49 0 0 6,Q18 2 x2,Q98 6 6,Q98 9 7,Q120 10,Q120 102,Q18 103 x103,Q18 104 a],[Q28 0 6 (Q65 1 2 0 0 h0_1 h0_2 4 b h0_4 h0_5),Q71 1 4 h1_0l 5 h1_1l,Q43 2,Q43 3,Q69 4 h4,Q61 5 h5,Q89 6 4 g h h6_2,Q74 7 4 h7_0 d e 4 f],8⟩=
  (br (decide ((a:Int)<x103)) (((FV.L 4 .N=true)∧((0≤a)∧((a<((0:Nat):Int))∧(((rE (getD [] (toNat a) [])):List FV)=(getD [] (toNat a) [])))))∧(∃ c:Tm×Sto×Int×Int×List Tm×Int×Int,((Q10 124 (Q88 6 (aE (getD [] (toNat a) [])) (Q25 x2)) (Q130 6 1 2 0 0 h0_1 h0_2 4 b h0_4 h0_5 2 h1_0l 3 h1_1l h4 h5) (aT c.1) (Q92 (Q90 6 1 2 0 0 c.2.2.1 c.2.2.2.1 4 (FTs c.2.2.2.2.1) c.2.2.2.2.2.1 c.2.2.2.2.2.2) (Q36 4 (length c.2.1.V) 5 (length c.2.1.T)) .gone .gone (SR c.2.1.V) (Q20 (IR c.2.1.T))))∧(((FV.L 4 .N=true)∧((0≤a)∧((a<((0:Nat):Int))∧(((rE (getD [] (toNat a) [])):List FV)=(getD [] (toNat a) [])))))∧False)))) (∃ j:Tm,((Q54 15 (Q115 (Q83 h7_0 d e f) Q37) (aT j))∧(RT (aT j) (Q92 (Q90 6 1 2 0 0 h0_1 h0_2 4 b h0_4 h0_5) (Q36 4 h1_0l 5 h1_1l) .gone .gone h4 (Q20 h5)) r i)))):=by kernel_rfl
theorem zt1 (k:Int)(c d:Nat)(x103 a h0_1 h0_2:Int)(e:RW)(h0_4 h0_5:Int)(h1_0l h1_1l:Nat)(h4 h5:RW)(h:Int)(i:List UInt8)(h6_2 h7_0:Int)(f:List UInt8)(g:Int)(h7_3 h8:RW)(r:TV)(j:List AObj):VQ zfr 124 4 r j 3 ⟨[Q49 0 0 6,Q18 2 k,Q98 6 6,Q98 9 7,Q97 10 8 4 0 c,Q97 102 8 4 0 d,Q18 103 x103,Q18 104 a],[Q28 0 6 (Q65 1 2 0 0 h0_1 h0_2 4 e h0_4 h0_5),Q71 1 4 h1_0l 5 h1_1l,Q43 2,Q43 3,Q69 4 h4,Q61 5 h5,Q89 6 4 h i h6_2,Q74 7 4 h7_0 f g 4 h7_3,Q73 8 4 h8],9⟩=
  (br (decide ((a:Int)<x103)) ((0≤a∧a<(d:Int))∧((((0+(toNat a))<(length h8))∧((((rE (getD h8 (0+(toNat a)) [])):List FV)=(take 4 (drop 0 (getD h8 (0+(toNat a)) []))))∧((4:Nat)=4)))∧(∃ b:Tm×Sto×Int×Int×List Tm×Int×Int,((Q10 124 (Q88 6 (aE (getD h8 (0+(toNat a)) [])) (Q25 k)) (Q130 6 1 2 0 0 h0_1 h0_2 4 e h0_4 h0_5 2 h1_0l 3 h1_1l h4 h5) (aT b.1) (Q92 (Q90 6 1 2 0 0 b.2.2.1 b.2.2.2.1 4 (FTs b.2.2.2.2.1) b.2.2.2.2.2.1 b.2.2.2.2.2.2) (Q36 4 (length b.2.1.V) 5 (length b.2.1.T)) .gone .gone (SR b.2.1.V) (Q20 (IR b.2.1.T))))∧((0≤a∧a<(c:Int))∧(((0+(toNat a))<(length h8)∧(length (getD h8 (0+(toNat a)) []))=4)∧(Q58 124 4 r j 3 [Q49 0 0 6,Q18 2 k,Q98 6 6,Q98 9 7,Q97 10 8 4 0 c,Q97 102 8 4 0 d,Q18 103 x103,Q18 104 (IntKind.wrap .i64 (a+1))] [Q28 0 6 (Q65 1 2 0 0 b.2.2.1 b.2.2.2.1 4 (FTs b.2.2.2.2.1) b.2.2.2.2.2.1 b.2.2.2.2.2.2),Q71 1 4 (length b.2.1.V) 5 (length b.2.1.T),Q43 2,Q43 3,Q69 4 (SR b.2.1.V),Q61 5 (IR b.2.1.T),Q89 6 4 h i h6_2,Q74 7 4 h7_0 f g 4 h7_3,Q73 8 4 (List.set h8 (0+(toNat a)) (FT4 b.1))] 9))))))) (((4:Nat)=4∧(0+c)≤(length h8))∧(∃ l:Tm,((Q54 15 [Q83 h7_0 f g h7_3,Q70 4 (take c (drop 0 h8))] (aT l))∧(RT (aT l) (Q92 (Q90 6 1 2 0 0 h0_1 h0_2 4 e h0_4 h0_5) (Q36 4 h1_0l 5 h1_1l) .gone .gone h4 (Q20 h5)) r j))))):=by kernel_rfl
def zxr:List (Nat×List Nat):=[(1,[3,13,14,15])]
theorem v110 (a:Int)(b:List UInt8)(c:Int)(d:RW)(r:TV)(e:List AObj):VE zxr 110 0 r e [Q83 a b c d] []=
  (∃ f:FV,(∃ g:Int,((Q54 69 [Q83 a b c d] (.tup [Q19 [Q0 f],Q31 g]))∧((FV.L 4 f=true)∧(Q58 110 0 r e 1 (Q134 (Q18 3 1) 13 (Q0 f) 14 (length (FV.ses f):Int) 15 0) [] 0))))):=by kernel_rfl
theorem zw (d:Int)(b:FV)(x14 a:Int)(r:TV)(c:List AObj):VQ zxr 110 0 r c 1 ⟨Q134 (Q18 3 d) 13 (Q0 b) 14 x14 15 a,[],0⟩=
  (br (decide ((a:Int)<x14)) (((FV.L 4 b=true)∧((0≤a)∧((a<(length (FV.ses b):Int))∧(((rE (getD (FV.ses b) (toNat a) [])):List FV)=(getD (FV.ses b) (toNat a) [])))))∧(∃ e:Int,((Q54 110 [(aE (getD (FV.ses b) (toNat a) []))] (Q25 e))∧(Q58 110 0 r c 1 (Q134 (Q18 3 (IntKind.wrap .i64 (d+e))) 13 (Q0 b) 14 x14 15 (IntKind.wrap .i64 (a+1))) [] 0)))) (Q72 d [] r c)):=by kernel_rfl
def lv112:List (Nat×List Nat):=[]
theorem v112 (d:Int)(e:List UInt8)(f:Int)(g:RW)(i s_0:Int)(a:List UInt8)(b:Int)(c:RW)(r:TV)(h:List AObj):VE lv112 112 0 r h [Q83 d e f g,Q25 i,Q83 s_0 a b c] []=
  (∃ j:Tm,((Q10 101 [.agg [(.fn (.func 125) [] [(false,[(Q123 0)]),(false,[(Q122 1 4)])])],Q83 d e f g,Q25 0] (Q105 i (Q119 4 s_0 a b 4 c)) (aT j) (Q105 i (Q119 4 s_0 a b 4 c)))∧(RT (aT j) [] r h))):=by kernel_rfl
def lv100:List (Nat×List Nat):=[]
theorem v100 (a:Int)(b:List UInt8)(c:Int)(d:RW)(f:Int)(r:TV)(e:List AObj):VE lv100 100 0 r e (Q99 (Q83 a b c d) f) []=
  (RT (Q83 a b (IntKind.wrap .i64 (c+f)) d) [] r e):=by kernel_rfl
theorem v68_F117 (s:RW)(r:TV)(a:List AObj):VE lv68 68 0 r a (Q133 4 s (.fn (.func 117) [] [])) []=
  ((FV.L 4 (Q4 4 s)=true)∧(Q58 68 0 r a 1 (Q134 (Q62 0 4 s) 1 (.fn (.func 117) [] []) 7 (length s:Int) 8 0) [] 0)):=by kernel_rfl
theorem zdn (c:RW)(x7 b:Int)(r:TV)(a:List AObj):VQ lv68 68 0 r a 1 ⟨Q134 (Q62 0 4 c) 1 (.fn (.func 117) [] []) 7 x7 8 b,[],0⟩=
  (br (decide ((b:Int)<x7)) (((FV.L 4 (Q4 4 c)=true)∧((0≤b)∧((b<(length c:Int))∧(((rE (getD c (toNat b) [])):List FV)=(getD c (toNat b) [])))))∧(∃ d:Bool,((Q66 117 [(aE (getD c (toNat b) []))] d)∧(br d (Q72 b [] r a) (Q58 68 0 r a 1 (Q134 (Q62 0 4 c) 1 (.fn (.func 117) [] []) 7 x7 8 (IntKind.wrap .i64 (b+1))) [] 0))))) (Q72 (-1:Int) [] r a)):=by kernel_rfl
theorem v68_F119 (s:RW)(a:Int)(b:List UInt8)(c:Int)(d:RW)(r:TV)(e:List AObj):VE lv68 68 1 r e (Q133 4 s (.fn (.func 119) [] [(false,[(Q122 0 4)])])) [Q119 4 a b c 4 d]=
  ((FV.L 4 (Q4 4 s)=true)∧(Q58 68 1 r e 1 (Q134 (Q62 0 4 s) 1 (.fn (.func 119) [] [(false,[(Q122 0 4)])]) 7 (length s:Int) 8 0) [Q74 0 4 a b c 4 d] 1)):=by kernel_rfl
theorem zdd (f:RW)(x7 e h0_0:Int)(a:List UInt8)(b:Int)(c:RW)(r:TV)(d:List AObj):VQ lv68 68 1 r d 1 ⟨Q134 (Q62 0 4 f) 1 (.fn (.func 119) [] [(false,[(Q122 0 4)])]) 7 x7 8 e,[Q74 0 4 h0_0 a b 4 c],1⟩=
  (br (decide ((e:Int)<x7)) (((FV.L 4 (Q4 4 f)=true)∧((0≤e)∧((e<(length f:Int))∧(((rE (getD f (toNat e) [])):List FV)=(getD f (toNat e) [])))))∧(∃ g:Bool,((Q10 119 [(aE (getD f (toNat e) [])),Q87 4] [Q119 4 h0_0 a b 4 c] (Q24 g) [Q119 4 h0_0 a b 4 c])∧(br g (Q72 e [Q119 4 h0_0 a b 4 c] r d) (Q58 68 1 r d 1 (Q134 (Q62 0 4 f) 1 (.fn (.func 119) [] [(false,[(Q122 0 4)])]) 7 x7 8 (IntKind.wrap .i64 (e+1))) [Q74 0 4 h0_0 a b 4 c] 1))))) (Q72 (-1:Int) [Q119 4 h0_0 a b 4 c] r d)):=by kernel_rfl
theorem zof (g:Nat)(h:RW)(a:Int)(b:List UInt8)(d:Int)(e:RW)(r:TV)(f:List AObj):VE lv68 68 2 r f (Q115 (.c (Q3 0 4 0 g)) (.fn (.func 119) [] [(false,[(Q122 1 4)])])) [.arz 4 h,Q119 4 a b d 4 e]=
  (Q58 68 2 r f 1 (Q134 (Q97 0 0 4 0 g) 1 (.fn (.func 119) [] [(false,[(Q122 1 4)])]) 7 (g:Int) 8 0) [Q73 0 4 h,Q74 1 4 a b d 4 e] 2):=by kernel_rfl
theorem z8o (h:Nat)(x7 e:Int)(g:RW)(a:Int)(b:List UInt8)(c:Int)(d:RW)(r:TV)(f:List AObj):VQ lv68 68 2 r f 1 ⟨Q134 (Q97 0 0 4 0 h) 1 (.fn (.func 119) [] [(false,[(Q122 1 4)])]) 7 x7 8 e,[Q73 0 4 g,Q74 1 4 a b c 4 d],2⟩=
  (br (decide ((e:Int)<x7)) ((0≤e∧e<(h:Int))∧((((0+(toNat e))<(length g))∧((((rE (getD g (0+(toNat e)) [])):List FV)=(take 4 (drop 0 (getD g (0+(toNat e)) []))))∧((4:Nat)=4)))∧(∃ i:Bool,((Q10 119 [(aE (getD g (0+(toNat e)) [])),Q87 4] [Q119 4 a b c 4 d] (Q24 i) [Q119 4 a b c 4 d])∧(br i (Q72 e [.arz 4 g,Q119 4 a b c 4 d] r f) (Q58 68 2 r f 1 (Q134 (Q97 0 0 4 0 h) 1 (.fn (.func 119) [] [(false,[(Q122 1 4)])]) 7 x7 8 (IntKind.wrap .i64 (e+1))) [Q73 0 4 g,Q74 1 4 a b c 4 d] 2)))))) (Q72 (-1:Int) [.arz 4 g,Q119 4 a b c 4 d] r f)):=by kernel_rfl
theorem v68_F122 (s:RW)(r:TV)(a:List AObj):VE lv68 68 0 r a (Q133 4 s (.fn (.func 122) [] [])) []=
  ((FV.L 4 (Q4 4 s)=true)∧(Q58 68 0 r a 1 (Q134 (Q62 0 4 s) 1 (.fn (.func 122) [] []) 7 (length s:Int) 8 0) [] 0)):=by kernel_rfl
theorem zej (c:RW)(x7 b:Int)(r:TV)(a:List AObj):VQ lv68 68 0 r a 1 ⟨Q134 (Q62 0 4 c) 1 (.fn (.func 122) [] []) 7 x7 8 b,[],0⟩=
  (br (decide ((b:Int)<x7)) (((FV.L 4 (Q4 4 c)=true)∧((0≤b)∧((b<(length c:Int))∧(((rE (getD c (toNat b) [])):List FV)=(getD c (toNat b) [])))))∧(∃ d:Bool,((Q66 122 [(aE (getD c (toNat b) []))] d)∧(br d (Q72 b [] r a) (Q58 68 0 r a 1 (Q134 (Q62 0 4 c) 1 (.fn (.func 122) [] []) 7 x7 8 (IntKind.wrap .i64 (b+1))) [] 0))))) (Q72 (-1:Int) [] r a)):=by kernel_rfl
def lv127:List (Nat×List Nat):=[]
theorem v127 (e o0_1 o0_2:Int)(a:RW)(o0_4 b:Int)(o1_0l o1_1l:Nat)(o2 o3:RW)(r:TV)(c:List AObj):VE lv127 127 4 r c (Q99 (Q87 6) e) (Q130 6 1 2 0 0 o0_1 o0_2 4 a o0_4 b 2 o1_0l 3 o1_1l o2 o3)=
  (br ((b:Int)==(0:Int)) (RT (.agg (Q47 0 [] 0)) (Q130 6 1 2 0 0 o0_1 o0_2 4 a o0_4 e 2 o1_0l 3 o1_1l o2 o3) r c) (RT (.agg (Q47 0 [] 0)) (Q130 6 1 2 0 0 o0_1 o0_2 4 a o0_4 b 2 o1_0l 3 o1_1l o2 o3) r c)):=by kernel_rfl
def z9h:List (Nat×List Nat):=[(1,[0,1,3,8,9,12,14,15,55,56,57]),(5,[0,1,3,8,9,12,14,15,105,106,107]),(1000001,[2,3])]
theorem v128 (y:Int)(l:RW)(k o0_1 o0_2:Int)(b:RW)(o0_4 o0_5:Int)(o1_0l o1_1l:Nat)(o2 o3:RW)(r:TV)(e:List AObj):VE z9h 128 4 r e [Q87 6,Q25 y,Q70 4 l,Q25 k] (Q130 6 1 2 0 0 o0_1 o0_2 4 b o0_4 o0_5 2 o1_0l 3 o1_1l o2 o3)=
  (∃ c:List Tm×Int×Int,((Q77 105 [Q87 2,Q25 y,Q70 4 l,Q25 o0_4] (Q107 o1_0l o1_1l o2 o3) (Q101 (Q19 [Q124 (FTs c.1)]) c.2.1 c.2.2) (Q107 o1_0l o1_1l o2 o3))∧(br ((c.2.2:Int) !=(0:Int)) (∃ d:Int×Int×List Tm×Int×Int,((Q10 127 (Q99 (Q87 6) c.2.2) (Q130 6 1 2 0 0 o0_1 o0_2 4 b o0_4 o0_5 2 o1_0l 3 o1_1l o2 o3) (Q83 0 [] 0 []) (Q130 6 1 2 0 0 d.1 d.2.1 4 (FTs d.2.2.1) d.2.2.2.1 d.2.2.2.2 2 o1_0l 3 o1_1l o2 o3))∧(RT (Q83 0 [] 0 []) (Q92 (Q90 6 1 2 0 0 d.1 d.2.1 4 (FTs d.2.2.1) d.2.2.2.1 d.2.2.2.2) (Q36 4 o1_0l 5 o1_1l) .gone .gone o2 (Q20 o3)) r e))) (∃ a:Int×Bool×Tm×Bool,((Q77 25 (Q99 (Q87 2) y) (Q107 o1_0l o1_1l o2 o3) (Q117 (Q125 a.1 a.2.1 a.2.2.1.k a.2.2.1.s a.2.2.1.n (FTs a.2.2.1.l)) a.2.2.2) (Q107 o1_0l o1_1l o2 o3))∧((FV.L 4 (Q4 4 (FTs c.1))=true)∧(Q58 128 4 r e 1 [Q49 0 0 6,Q18 1 y,Q18 3 k,Q98 8 6,Q62 9 4 (FTs c.1),Q49 12 7 6,Q120 14,Q120 15,Q62 55 4 (FTs c.1),Q18 56 (length (FTs c.1):Int),Q18 57 0] [Q28 0 6 (Q65 1 2 0 0 o0_1 o0_2 4 b c.2.1 o0_5),Q71 1 4 o1_0l 5 o1_1l,Q43 2,Q43 3,Q69 4 o2,Q61 5 o3,Q89 6 4 0 [] 0,Q28 7 6 (Q125 a.1 a.2.1 a.2.2.1.k a.2.2.1.s a.2.2.1.n (FTs a.2.2.1.l))] 8))))))):=by kernel_rfl
theorem zxa (x1 x3:Int)(x9 x55:RW)(x56 b h0_1 h0_2:Int)(a:RW)(h0_4 h0_5:Int)(h1_0l h1_1l:Nat)(h4 h5:RW)(d:Int)(e:List UInt8)(h6_2 c:Int)(f:Bool)(g:Int)(h:List UInt8)(i:Int)(j:RW)(r:TV)(k:List AObj):VQ z9h 128 4 r k 1 ⟨[Q49 0 0 6,Q18 1 x1,Q18 3 x3,Q98 8 6,Q62 9 4 x9,Q49 12 7 6,Q120 14,Q120 15,Q62 55 4 x55,Q18 56 x56,Q18 57 b],[Q28 0 6 (Q65 1 2 0 0 h0_1 h0_2 4 a h0_4 h0_5),Q71 1 4 h1_0l 5 h1_1l,Q43 2,Q43 3,Q69 4 h4,Q61 5 h5,Q89 6 4 d e h6_2,Q28 7 6 (Q125 c f g h i j)],8⟩=
  (br (decide ((b:Int)<x56)) (((FV.L 4 (Q4 4 x55)=true)∧((0≤b)∧((b<(length x55:Int))∧(((rE (getD x55 (toNat b) [])):List FV)=(getD x55 (toNat b) [])))))∧(∃ l:Tm×Bool,((Q77 129 (Q88 6 (aE (getD x55 (toNat b) [])) (Q25 x3)) (Q130 6 1 2 0 0 h0_1 h0_2 4 a h0_4 h0_5 2 h1_0l 3 h1_1l h4 h5) (Q117 (cT l.1) l.2) (Q130 6 1 2 0 0 h0_1 h0_2 4 a h0_4 h0_5 2 h1_0l 3 h1_1l h4 h5))∧(br l.2 ((FV.L 4 (Q4 4 x9)=true)∧(∃ m:Tm,((Q54 107 [Q25 (IntKind.wrap .i64 ((IntKind.wrap .i64 ((length x9:Int)-(1:Int)))-b))] (aT m))∧((1≤1)∧((z0u 1 56)∧((1≤1)∧((z0u 1 56)∧(Q58 128 4 r k 1 [Q49 0 0 6,Q18 1 x1,Q18 3 x3,Q98 8 6,Q62 9 4 x9,Q49 12 7 6,Q97 14 8 4 0 1,Q97 15 9 4 0 1,Q62 55 4 x55,Q18 56 x56,Q18 57 (IntKind.wrap .i64 (b+1))] [Q28 0 6 (Q65 1 2 0 0 h0_1 h0_2 4 a h0_4 h0_5),Q71 1 4 h1_0l 5 h1_1l,Q43 2,Q43 3,Q69 4 h4,Q61 5 h5,Q89 6 4 d e h6_2,Q28 7 6 (Q125 c f g h i j),Q73 8 4 [(FT4 m)],Q73 9 4 [(FT4 l.1)]] 10)))))))) (Q58 128 4 r k 1 [Q49 0 0 6,Q18 1 x1,Q18 3 x3,Q98 8 6,Q62 9 4 x9,Q49 12 7 6,Q120 14,Q120 15,Q62 55 4 x55,Q18 56 x56,Q18 57 (IntKind.wrap .i64 (b+1))] [Q28 0 6 (Q65 1 2 0 0 h0_1 h0_2 4 a h0_4 h0_5),Q71 1 4 h1_0l 5 h1_1l,Q43 2,Q43 3,Q69 4 h4,Q61 5 h5,Q89 6 4 d e h6_2,Q28 7 6 (Q125 c f g h i j)] 8))))) ((FV.L 4 .N=true)∧((FV.L 4 (Q4 4 x9)=true)∧(br (((0:Int):Int)==(length x9:Int)) (br (decide ((c:Int)≤h0_2)) (∃ n:Tm,((Q54 121 [Q25 x1] (aT n))∧(∃ o:Tm,((Q54 15 (Q115 (aT n) Q37) (aT o))∧(RT (aT o) (Q92 (Q90 6 1 2 0 0 h0_1 h0_2 4 a h0_4 h0_5) (Q36 4 h1_0l 5 h1_1l) .gone .gone h4 (Q20 h5)) r k))))) ((FV.L 4 (Q4 4 a)=true)∧(Q58 128 4 r k 5 [Q49 0 0 6,Q18 1 x1,Q18 3 x3,Q98 8 6,Q62 9 4 x9,Q49 12 7 6,Q120 14,Q120 15,Q62 105 4 a,Q18 106 (length a:Int),Q18 107 0] [Q28 0 6 (Q65 1 2 0 0 h0_1 h0_2 4 a h0_4 h0_5),Q71 1 4 h1_0l 5 h1_1l,Q43 2,Q43 3,Q69 4 h4,Q61 5 h5,Q89 6 4 d e h6_2,Q28 7 6 (Q125 c f g h i j)] 8))) ((FV.L 4 (Q4 4 a)=true)∧(Q58 128 4 r k 5 [Q49 0 0 6,Q18 1 x1,Q18 3 x3,Q98 8 6,Q62 9 4 x9,Q49 12 7 6,Q120 14,Q120 15,Q62 105 4 a,Q18 106 (length a:Int),Q18 107 0] [Q28 0 6 (Q65 1 2 0 0 h0_1 h0_2 4 a h0_4 h0_5),Q71 1 4 h1_0l 5 h1_1l,Q43 2,Q43 3,Q69 4 h4,Q61 5 h5,Q89 6 4 d e h6_2,Q28 7 6 (Q125 c f g h i j)] 8)))))):=by kernel_rfl
theorem zu (x1 x3:Int)(m:RW)(b x15l:Nat)(e:RW)(x56 c h0_1 h0_2:Int)(a:RW)(h0_4 h0_5:Int)(h1_0l h1_1l:Nat)(h4 h5:RW)(f:Int)(g:List UInt8)(h6_2 d:Int)(h:Bool)(i:Int)(j:List UInt8)(k:Int)(h7_5 h8 h9:RW)(r:TV)(l:List AObj):VQ z9h 128 4 r l 1 ⟨[Q49 0 0 6,Q18 1 x1,Q18 3 x3,Q98 8 6,Q62 9 4 m,Q49 12 7 6,Q97 14 8 4 0 b,Q97 15 9 4 0 x15l,Q62 55 4 e,Q18 56 x56,Q18 57 c],[Q28 0 6 (Q65 1 2 0 0 h0_1 h0_2 4 a h0_4 h0_5),Q71 1 4 h1_0l 5 h1_1l,Q43 2,Q43 3,Q69 4 h4,Q61 5 h5,Q89 6 4 f g h6_2,Q28 7 6 (Q125 d h i j k h7_5),Q73 8 4 h8,Q73 9 4 h9],10⟩=
  (br (decide ((c:Int)<x56)) (((FV.L 4 (Q4 4 e)=true)∧((0≤c)∧((c<(length e:Int))∧(((rE (getD e (toNat c) [])):List FV)=(getD e (toNat c) [])))))∧(∃ n:Tm×Bool,((Q77 129 (Q88 6 (aE (getD e (toNat c) [])) (Q25 x3)) (Q130 6 1 2 0 0 h0_1 h0_2 4 a h0_4 h0_5 2 h1_0l 3 h1_1l h4 h5) (Q117 (cT n.1) n.2) (Q130 6 1 2 0 0 h0_1 h0_2 4 a h0_4 h0_5 2 h1_0l 3 h1_1l h4 h5))∧(br n.2 ((FV.L 4 (Q4 4 m)=true)∧(∃ o:Tm,((Q54 107 [Q25 (IntKind.wrap .i64 ((IntKind.wrap .i64 ((length m:Int)-(1:Int)))-c))] (aT o))∧((1≤1)∧((b≤(length h8)∧z0u (b+1) 56)∧((1≤1)∧((x15l≤(length h9)∧z0u (x15l+1) 56)∧(Q58 128 4 r l 1 [Q49 0 0 6,Q18 1 x1,Q18 3 x3,Q98 8 6,Q62 9 4 m,Q49 12 7 6,Q97 14 8 4 0 (b+1),Q97 15 9 4 0 (x15l+1),Q62 55 4 e,Q18 56 x56,Q18 57 (IntKind.wrap .i64 (c+1))] [Q28 0 6 (Q65 1 2 0 0 h0_1 h0_2 4 a h0_4 h0_5),Q71 1 4 h1_0l 5 h1_1l,Q43 2,Q43 3,Q69 4 h4,Q61 5 h5,Q89 6 4 f g h6_2,Q28 7 6 (Q125 d h i j k h7_5),Q73 8 4 ((take b h8)++ [(FT4 o)]),Q73 9 4 ((take x15l h9)++ [(FT4 n.1)])] 10)))))))) (Q58 128 4 r l 1 [Q49 0 0 6,Q18 1 x1,Q18 3 x3,Q98 8 6,Q62 9 4 m,Q49 12 7 6,Q97 14 8 4 0 b,Q97 15 9 4 0 x15l,Q62 55 4 e,Q18 56 x56,Q18 57 (IntKind.wrap .i64 (c+1))] [Q28 0 6 (Q65 1 2 0 0 h0_1 h0_2 4 a h0_4 h0_5),Q71 1 4 h1_0l 5 h1_1l,Q43 2,Q43 3,Q69 4 h4,Q61 5 h5,Q89 6 4 f g h6_2,Q28 7 6 (Q125 d h i j k h7_5),Q73 8 4 h8,Q73 9 4 h9] 10))))) ((FV.L 4 (Q4 4 m)=true)∧(br (((b:Int):Int)==(length m:Int)) (br (decide ((d:Int)≤h0_2)) (∃ p:Tm,((Q54 121 [Q25 x1] (aT p))∧(((4:Nat)=4∧(0+x15l)≤(length h9))∧(∃ q:Tm,((Q54 15 [(aT p),Q70 4 (take x15l (drop 0 h9))] (aT q))∧(RT (aT q) (Q92 (Q90 6 1 2 0 0 h0_1 h0_2 4 a h0_4 h0_5) (Q36 4 h1_0l 5 h1_1l) .gone .gone h4 (Q20 h5)) r l)))))) ((FV.L 4 (Q4 4 a)=true)∧(Q58 128 4 r l 5 [Q49 0 0 6,Q18 1 x1,Q18 3 x3,Q98 8 6,Q62 9 4 m,Q49 12 7 6,Q97 14 8 4 0 b,Q97 15 9 4 0 x15l,Q62 105 4 a,Q18 106 (length a:Int),Q18 107 0] [Q28 0 6 (Q65 1 2 0 0 h0_1 h0_2 4 a h0_4 h0_5),Q71 1 4 h1_0l 5 h1_1l,Q43 2,Q43 3,Q69 4 h4,Q61 5 h5,Q89 6 4 f g h6_2,Q28 7 6 (Q125 d h i j k h7_5),Q73 8 4 h8,Q73 9 4 h9] 10))) ((FV.L 4 (Q4 4 a)=true)∧(Q58 128 4 r l 5 [Q49 0 0 6,Q18 1 x1,Q18 3 x3,Q98 8 6,Q62 9 4 m,Q49 12 7 6,Q97 14 8 4 0 b,Q97 15 9 4 0 x15l,Q62 105 4 a,Q18 106 (length a:Int),Q18 107 0] [Q28 0 6 (Q65 1 2 0 0 h0_1 h0_2 4 a h0_4 h0_5),Q71 1 4 h1_0l 5 h1_1l,Q43 2,Q43 3,Q69 4 h4,Q61 5 h5,Q89 6 4 f g h6_2,Q28 7 6 (Q125 d h i j k h7_5),Q73 8 4 h8,Q73 9 4 h9] 10))))):=by kernel_rfl
theorem zun (x1 x3:Int)(x9 x105:RW)(x106 a h0_1 h0_2:Int)(b:RW)(h0_4 h0_5:Int)(h1_0l h1_1l:Nat)(h4 h5:RW)(e:Int)(f:List UInt8)(h6_2 d:Int)(g:Bool)(h:Int)(i:List UInt8)(j:Int)(k:RW)(r:TV)(l:List AObj):VQ z9h 128 4 r l 5 ⟨[Q49 0 0 6,Q18 1 x1,Q18 3 x3,Q98 8 6,Q62 9 4 x9,Q49 12 7 6,Q120 14,Q120 15,Q62 105 4 x105,Q18 106 x106,Q18 107 a],[Q28 0 6 (Q65 1 2 0 0 h0_1 h0_2 4 b h0_4 h0_5),Q71 1 4 h1_0l 5 h1_1l,Q43 2,Q43 3,Q69 4 h4,Q61 5 h5,Q89 6 4 e f h6_2,Q28 7 6 (Q125 d g h i j k)],8⟩=
  (br (decide ((a:Int)<x106)) (((FV.L 4 (Q4 4 x105)=true)∧((0≤a)∧((a<(length x105:Int))∧(((rE (getD x105 (toNat a) [])):List FV)=(getD x105 (toNat a) [])))))∧(br (decide ((d:Int)>h0_2)) (br (((FV.I (getD (getD x105 (toNat a) []) 0 FV.N)):Int)==(1:Int)) (br (decide (((FV.I (getD (getD x105 (toNat a) []) 2 FV.N)):Int)≤d)) ((1≤1)∧((z0u 1 56)∧((FV.L 4 (Q4 4 b)=true)∧(∃ n:Tm,((Q54 107 [Q25 (IntKind.wrap .i64 ((IntKind.wrap .i64 ((IntKind.wrap .i64 (x3+(length b:Int)))-(1:Int)))-a))] (aT n))∧((1≤1)∧((z0u 1 56)∧(Q58 128 4 r l 5 [Q49 0 0 6,Q18 1 x1,Q18 3 x3,Q98 8 6,Q62 9 4 x9,Q49 12 7 6,Q97 14 8 4 0 1,Q97 15 9 4 0 1,Q62 105 4 x105,Q18 106 x106,Q18 107 (IntKind.wrap .i64 (a+1))] [Q28 0 6 (Q65 1 2 0 0 h0_1 h0_2 4 b h0_4 h0_5),Q71 1 4 h1_0l 5 h1_1l,Q43 2,Q43 3,Q69 4 h4,Q61 5 h5,Q89 6 4 e f h6_2,Q28 7 6 (Q125 d g h i j k),Q73 8 4 [(rE (getD x105 (toNat a) []))],Q73 9 4 [(FT4 n)]] 10)))))))) (Q58 128 4 r l 5 [Q49 0 0 6,Q18 1 x1,Q18 3 x3,Q98 8 6,Q62 9 4 x9,Q49 12 7 6,Q120 14,Q120 15,Q62 105 4 x105,Q18 106 x106,Q18 107 (IntKind.wrap .i64 (a+1))] [Q28 0 6 (Q65 1 2 0 0 h0_1 h0_2 4 b h0_4 h0_5),Q71 1 4 h1_0l 5 h1_1l,Q43 2,Q43 3,Q69 4 h4,Q61 5 h5,Q89 6 4 e f h6_2,Q28 7 6 (Q125 d g h i j k)] 8)) (Q58 128 4 r l 5 [Q49 0 0 6,Q18 1 x1,Q18 3 x3,Q98 8 6,Q62 9 4 x9,Q49 12 7 6,Q120 14,Q120 15,Q62 105 4 x105,Q18 106 x106,Q18 107 (IntKind.wrap .i64 (a+1))] [Q28 0 6 (Q65 1 2 0 0 h0_1 h0_2 4 b h0_4 h0_5),Q71 1 4 h1_0l 5 h1_1l,Q43 2,Q43 3,Q69 4 h4,Q61 5 h5,Q89 6 4 e f h6_2,Q28 7 6 (Q125 d g h i j k)] 8)) (Q58 128 4 r l 5 [Q49 0 0 6,Q18 1 x1,Q18 3 x3,Q98 8 6,Q62 9 4 x9,Q49 12 7 6,Q120 14,Q120 15,Q62 105 4 x105,Q18 106 x106,Q18 107 (IntKind.wrap .i64 (a+1))] [Q28 0 6 (Q65 1 2 0 0 h0_1 h0_2 4 b h0_4 h0_5),Q71 1 4 h1_0l 5 h1_1l,Q43 2,Q43 3,Q69 4 h4,Q61 5 h5,Q89 6 4 e f h6_2,Q28 7 6 (Q125 d g h i j k)] 8))) ((FV.L 4 (Q4 4 x9)=true)∧(∃ m:Tm×Sto,((Q10 108 [Q87 2,Q25 x1,Q25 (z0d [h0_2,d]),Q25 (length x9:Int), .c Q37] (Q107 h1_0l h1_1l h4 h5) (aT m.1) (Q91 3 (length m.2.V) 4 (length m.2.T) (SR m.2.V) (IR m.2.T)))∧(∃ o:Tm,((Q54 15 (Q115 (aT m.1) Q37) (aT o))∧(RT (aT o) (Q92 (Q90 6 1 2 0 0 h0_1 h0_2 4 b h0_4 h0_5) (Q36 4 (length m.2.V) 5 (length m.2.T)) .gone .gone (SR m.2.V) (Q20 (IR m.2.T))) r l))))))):=by kernel_rfl
theorem zui (x1 x3:Int)(m:RW)(x14l x15l:Nat)(b:RW)(x106 a h0_1 h0_2:Int)(c:RW)(h0_4 h0_5:Int)(h1_0l h1_1l:Nat)(h4 h5:RW)(e:Int)(f:List UInt8)(h6_2 d:Int)(g:Bool)(h:Int)(i:List UInt8)(j:Int)(h7_5 h8 h9:RW)(r:TV)(k:List AObj):VQ z9h 128 4 r k 5 ⟨[Q49 0 0 6,Q18 1 x1,Q18 3 x3,Q98 8 6,Q62 9 4 m,Q49 12 7 6,Q97 14 8 4 0 x14l,Q97 15 9 4 0 x15l,Q62 105 4 b,Q18 106 x106,Q18 107 a],[Q28 0 6 (Q65 1 2 0 0 h0_1 h0_2 4 c h0_4 h0_5),Q71 1 4 h1_0l 5 h1_1l,Q43 2,Q43 3,Q69 4 h4,Q61 5 h5,Q89 6 4 e f h6_2,Q28 7 6 (Q125 d g h i j h7_5),Q73 8 4 h8,Q73 9 4 h9],10⟩=
  (br (decide ((a:Int)<x106)) (((FV.L 4 (Q4 4 b)=true)∧((0≤a)∧((a<(length b:Int))∧(((rE (getD b (toNat a) [])):List FV)=(getD b (toNat a) [])))))∧(br (decide ((d:Int)>h0_2)) (br (((FV.I (getD (getD b (toNat a) []) 0 FV.N)):Int)==(1:Int)) (br (decide (((FV.I (getD (getD b (toNat a) []) 2 FV.N)):Int)≤d)) ((1≤1)∧((x14l≤(length h8)∧z0u (x14l+1) 56)∧((FV.L 4 (Q4 4 c)=true)∧(∃ n:Tm,((Q54 107 [Q25 (IntKind.wrap .i64 ((IntKind.wrap .i64 ((IntKind.wrap .i64 (x3+(length c:Int)))-(1:Int)))-a))] (aT n))∧((1≤1)∧((x15l≤(length h9)∧z0u (x15l+1) 56)∧(Q58 128 4 r k 5 [Q49 0 0 6,Q18 1 x1,Q18 3 x3,Q98 8 6,Q62 9 4 m,Q49 12 7 6,Q97 14 8 4 0 (x14l+1),Q97 15 9 4 0 (x15l+1),Q62 105 4 b,Q18 106 x106,Q18 107 (IntKind.wrap .i64 (a+1))] [Q28 0 6 (Q65 1 2 0 0 h0_1 h0_2 4 c h0_4 h0_5),Q71 1 4 h1_0l 5 h1_1l,Q43 2,Q43 3,Q69 4 h4,Q61 5 h5,Q89 6 4 e f h6_2,Q28 7 6 (Q125 d g h i j h7_5),Q73 8 4 ((take x14l h8)++ [(rE (getD b (toNat a) []))]),Q73 9 4 ((take x15l h9)++ [(FT4 n)])] 10)))))))) (Q58 128 4 r k 5 [Q49 0 0 6,Q18 1 x1,Q18 3 x3,Q98 8 6,Q62 9 4 m,Q49 12 7 6,Q97 14 8 4 0 x14l,Q97 15 9 4 0 x15l,Q62 105 4 b,Q18 106 x106,Q18 107 (IntKind.wrap .i64 (a+1))] [Q28 0 6 (Q65 1 2 0 0 h0_1 h0_2 4 c h0_4 h0_5),Q71 1 4 h1_0l 5 h1_1l,Q43 2,Q43 3,Q69 4 h4,Q61 5 h5,Q89 6 4 e f h6_2,Q28 7 6 (Q125 d g h i j h7_5),Q73 8 4 h8,Q73 9 4 h9] 10)) (Q58 128 4 r k 5 [Q49 0 0 6,Q18 1 x1,Q18 3 x3,Q98 8 6,Q62 9 4 m,Q49 12 7 6,Q97 14 8 4 0 x14l,Q97 15 9 4 0 x15l,Q62 105 4 b,Q18 106 x106,Q18 107 (IntKind.wrap .i64 (a+1))] [Q28 0 6 (Q65 1 2 0 0 h0_1 h0_2 4 c h0_4 h0_5),Q71 1 4 h1_0l 5 h1_1l,Q43 2,Q43 3,Q69 4 h4,Q61 5 h5,Q89 6 4 e f h6_2,Q28 7 6 (Q125 d g h i j h7_5),Q73 8 4 h8,Q73 9 4 h9] 10)) (Q58 128 4 r k 5 [Q49 0 0 6,Q18 1 x1,Q18 3 x3,Q98 8 6,Q62 9 4 m,Q49 12 7 6,Q97 14 8 4 0 x14l,Q97 15 9 4 0 x15l,Q62 105 4 b,Q18 106 x106,Q18 107 (IntKind.wrap .i64 (a+1))] [Q28 0 6 (Q65 1 2 0 0 h0_1 h0_2 4 c h0_4 h0_5),Q71 1 4 h1_0l 5 h1_1l,Q43 2,Q43 3,Q69 4 h4,Q61 5 h5,Q89 6 4 e f h6_2,Q28 7 6 (Q125 d g h i j h7_5),Q73 8 4 h8,Q73 9 4 h9] 10))) ((FV.L 4 (Q4 4 m)=true)∧(((4:Nat)=4∧(0+x14l)≤(length h8))∧(∃ l:Tm×Sto,((Q10 108 [Q87 2,Q25 x1,Q25 (z0d [h0_2,d]),Q25 (length m:Int),Q70 4 (take x14l (drop 0 h8))] (Q107 h1_0l h1_1l h4 h5) (aT l.1) (Q91 3 (length l.2.V) 4 (length l.2.T) (SR l.2.V) (IR l.2.T)))∧(((4:Nat)=4∧(0+x15l)≤(length h9))∧(∃ o:Tm,((Q54 15 [(aT l.1),Q70 4 (take x15l (drop 0 h9))] (aT o))∧(RT (aT o) (Q92 (Q90 6 1 2 0 0 h0_1 h0_2 4 c h0_4 h0_5) (Q36 4 (length l.2.V) 5 (length l.2.T)) .gone .gone (SR l.2.V) (Q20 (IR l.2.T))) r k))))))))):=by kernel_rfl
def lv129:List (Nat×List Nat):=[]
theorem v129 (b:Int)(d:List UInt8)(c:Int)(e:RW)(k o0_1 o0_2:Int)(a:RW)(o0_4 o0_5:Int)(o1_0l o1_1l:Nat)(o2 o3:RW)(r:TV)(f:List AObj):VE lv129 129 4 r f (Q88 6 (Q83 b d c e) (Q25 k)) (Q130 6 1 2 0 0 o0_1 o0_2 4 a o0_4 o0_5 2 o1_0l 3 o1_1l o2 o3)=
  (br ((b:Int)==(3:Int)) (br (decide ((c:Int)<k)) (Q53 (Q117 (Q21 b d c 4 e) true) (Q130 6 1 2 0 0 o0_1 o0_2 4 a o0_4 o0_5 2 o1_0l 3 o1_1l o2 o3) r f) (br ((b:Int)==(3:Int)) (∃ g:Int,((Q10 68 (Q133 4 a (.fn (.func 130) [] [(false,[(Q122 0 4)])])) [Q119 4 b d (IntKind.wrap .i64 (c-k)) 4 e] (Q25 g) [Q119 4 b d (IntKind.wrap .i64 (c-k)) 4 e])∧(br (decide ((g:Int)≥(0:Int))) ((FV.L 4 (Q4 4 a)=true)∧(∃ l:Tm,((Q54 107 [Q25 (IntKind.wrap .i64 ((IntKind.wrap .i64 ((IntKind.wrap .i64 (k+(length a:Int)))-(1:Int)))-g))] (aT l))∧(Q53 (Q117 (cT l) true) (Q130 6 1 2 0 0 o0_1 o0_2 4 a o0_4 o0_5 2 o1_0l 3 o1_1l o2 o3) r f)))) (br ((b:Int)==(1:Int)) (Q53 (Q117 (Q21 b d c 4 e) (decide ((c:Int)≤o0_2))) (Q130 6 1 2 0 0 o0_1 o0_2 4 a o0_4 o0_5 2 o1_0l 3 o1_1l o2 o3) r f) (Q53 (Q117 (Q21 b d c 4 e) false) (Q130 6 1 2 0 0 o0_1 o0_2 4 a o0_4 o0_5 2 o1_0l 3 o1_1l o2 o3) r f))))) (∃ h:Int,((Q10 68 (Q133 4 a (.fn (.func 130) [] [(false,[(Q122 0 4)])])) [Q119 4 b d c 4 e] (Q25 h) [Q119 4 b d c 4 e])∧(br (decide ((h:Int)≥(0:Int))) ((FV.L 4 (Q4 4 a)=true)∧(∃ m:Tm,((Q54 107 [Q25 (IntKind.wrap .i64 ((IntKind.wrap .i64 ((IntKind.wrap .i64 (k+(length a:Int)))-(1:Int)))-h))] (aT m))∧(Q53 (Q117 (cT m) true) (Q130 6 1 2 0 0 o0_1 o0_2 4 a o0_4 o0_5 2 o1_0l 3 o1_1l o2 o3) r f)))) (br ((b:Int)==(1:Int)) (Q53 (Q117 (Q21 b d c 4 e) (decide ((c:Int)≤o0_2))) (Q130 6 1 2 0 0 o0_1 o0_2 4 a o0_4 o0_5 2 o1_0l 3 o1_1l o2 o3) r f) (Q53 (Q117 (Q21 b d c 4 e) false) (Q130 6 1 2 0 0 o0_1 o0_2 4 a o0_4 o0_5 2 o1_0l 3 o1_1l o2 o3) r f))))))) (br ((b:Int)==(3:Int)) (∃ i:Int,((Q10 68 (Q133 4 a (.fn (.func 130) [] [(false,[(Q122 0 4)])])) [Q119 4 b d (IntKind.wrap .i64 (c-k)) 4 e] (Q25 i) [Q119 4 b d (IntKind.wrap .i64 (c-k)) 4 e])∧(br (decide ((i:Int)≥(0:Int))) ((FV.L 4 (Q4 4 a)=true)∧(∃ n:Tm,((Q54 107 [Q25 (IntKind.wrap .i64 ((IntKind.wrap .i64 ((IntKind.wrap .i64 (k+(length a:Int)))-(1:Int)))-i))] (aT n))∧(Q53 (Q117 (cT n) true) (Q130 6 1 2 0 0 o0_1 o0_2 4 a o0_4 o0_5 2 o1_0l 3 o1_1l o2 o3) r f)))) (br ((b:Int)==(1:Int)) (Q53 (Q117 (Q21 b d c 4 e) (decide ((c:Int)≤o0_2))) (Q130 6 1 2 0 0 o0_1 o0_2 4 a o0_4 o0_5 2 o1_0l 3 o1_1l o2 o3) r f) (Q53 (Q117 (Q21 b d c 4 e) false) (Q130 6 1 2 0 0 o0_1 o0_2 4 a o0_4 o0_5 2 o1_0l 3 o1_1l o2 o3) r f))))) (∃ j:Int,((Q10 68 (Q133 4 a (.fn (.func 130) [] [(false,[(Q122 0 4)])])) [Q119 4 b d c 4 e] (Q25 j) [Q119 4 b d c 4 e])∧(br (decide ((j:Int)≥(0:Int))) ((FV.L 4 (Q4 4 a)=true)∧(∃ o:Tm,((Q54 107 [Q25 (IntKind.wrap .i64 ((IntKind.wrap .i64 ((IntKind.wrap .i64 (k+(length a:Int)))-(1:Int)))-j))] (aT o))∧(Q53 (Q117 (cT o) true) (Q130 6 1 2 0 0 o0_1 o0_2 4 a o0_4 o0_5 2 o1_0l 3 o1_1l o2 o3) r f)))) (br ((b:Int)==(1:Int)) (Q53 (Q117 (Q21 b d c 4 e) (decide ((c:Int)≤o0_2))) (Q130 6 1 2 0 0 o0_1 o0_2 4 a o0_4 o0_5 2 o1_0l 3 o1_1l o2 o3) r f) (Q53 (Q117 (Q21 b d c 4 e) false) (Q130 6 1 2 0 0 o0_1 o0_2 4 a o0_4 o0_5 2 o1_0l 3 o1_1l o2 o3) r f))))))):=by kernel_rfl
theorem ztt (d:Int)(e:List UInt8)(f:Int)(g:RW)(k o0_0 o1_0:Int)(a:List UInt8)(b:Int)(c:RW)(r:TV)(h:List AObj):VE z8c 101 2 r h [.agg [(.fn (.func 125) [] [(false,[(Q123 0)]),(false,[(Q122 1 4)])])],Q83 d e f g,Q25 k] (Q105 o0_0 (Q119 4 o1_0 a b 4 c))=
  (br ((d:Int) !=(5:Int)) (br ((d:Int) !=(6:Int)) (∃ l:Tm,((Q10 125 [Q83 d e f g,Q25 k,Q87 1,Q85 1 4] (Q105 o0_0 (Q119 4 o1_0 a b 4 c)) (aT l) (Q105 o0_0 (Q119 4 o1_0 a b 4 c)))∧(RT (aT l) (Q105 o0_0 (Q119 4 o1_0 a b 4 c)) r h))) (∃ i:FV,(∃ m:Int,((Q54 69 [Q83 d e f g] (.tup [Q19 [Q0 i],Q31 m]))∧((FV.L 4 i=true)∧(Q58 101 2 r h 1 [Q18 2 k,Q49 3 2 1,Q98 4 3,Q98 6 4,Q5 7 (Q0 i),Q18 8 m,Q120 9,Q5 30 (Q0 i),Q18 31 (length (FV.ses i):Int),Q18 32 0] [Q118 0 1 o0_0,Q74 1 4 o1_0 a b 4 c,Q28 2 1 [(.fn (.func 125) [] [(false,[(Q123 0)]),(false,[(Q122 1 4)])])],Q74 3 4 d e f 4 g,Q89 4 4 0 [] 0] 5)))))) (∃ j:FV,(∃ n:Int,((Q54 69 [Q83 d e f g] (.tup [Q19 [Q0 j],Q31 n]))∧((FV.L 4 j=true)∧(Q58 101 2 r h 1 [Q18 2 k,Q49 3 2 1,Q98 4 3,Q98 6 4,Q5 7 (Q0 j),Q18 8 n,Q120 9,Q5 30 (Q0 j),Q18 31 (length (FV.ses j):Int),Q18 32 0] [Q118 0 1 o0_0,Q74 1 4 o1_0 a b 4 c,Q28 2 1 [(.fn (.func 125) [] [(false,[(Q123 0)]),(false,[(Q122 1 4)])])],Q74 3 4 d e f 4 g,Q89 4 4 0 [] 0] 5)))))):=by kernel_rfl
theorem zbv (n:Int)(p:FV)(o:Int)(f:FV)(x31 e h0_0 h1_0:Int)(a:List UInt8)(b:Int)(c:RW)(d:Int)(g:List UInt8)(h:Int)(j:RW)(k:Int)(l:List UInt8)(m:Int)(r:TV)(i:List AObj):VQ z8c 101 2 r i 1 ⟨[Q18 2 n,Q49 3 2 1,Q98 4 3,Q98 6 4,Q5 7 (Q0 p),Q18 8 o,Q120 9,Q5 30 (Q0 f),Q18 31 x31,Q18 32 e],[Q118 0 1 h0_0,Q74 1 4 h1_0 a b 4 c,Q28 2 1 [(.fn (.func 125) [] [(false,[(Q123 0)]),(false,[(Q122 1 4)])])],Q74 3 4 d g h 4 j,Q89 4 4 k l m],5⟩=
  (br (decide ((e:Int)<x31)) (((FV.L 4 f=true)∧((0≤e)∧((e<(length (FV.ses f):Int))∧(((rE (getD (FV.ses f) (toNat e) [])):List FV)=(getD (FV.ses f) (toNat e) [])))))∧(∃ q:Tm,((Q10 101 [.agg [(.fn (.func 125) [] [(false,[(Q123 0)]),(false,[(Q122 1 4)])])],(aE (getD (FV.ses f) (toNat e) [])),Q25 (IntKind.wrap .i64 (n+o))] (Q105 h0_0 (Q119 4 h1_0 a b 4 c)) (aT q) (Q105 h0_0 (Q119 4 h1_0 a b 4 c)))∧((1≤1)∧((z0u 1 56)∧(Q58 101 2 r i 1 [Q18 2 n,Q49 3 2 1,Q98 4 3,Q98 6 4,Q5 7 (Q0 p),Q18 8 o,Q97 9 5 4 0 1,Q5 30 (Q0 f),Q18 31 x31,Q18 32 (IntKind.wrap .i64 (e+1))] [Q118 0 1 h0_0,Q74 1 4 h1_0 a b 4 c,Q28 2 1 [(.fn (.func 125) [] [(false,[(Q123 0)]),(false,[(Q122 1 4)])])],Q74 3 4 d g h 4 j,Q89 4 4 k l m,Q73 5 4 [(FT4 q)]] 6)))))) (br ((d:Int)==(6:Int)) ((FV.L 4 .N=true)∧(RT (.agg (Q47 d g h)) (Q105 h0_0 (Q119 4 h1_0 a b 4 c)) r i)) (RT (.agg (Q47 d g h)) (Q105 h0_0 (Q119 4 h1_0 a b 4 c)) r i))):=by kernel_rfl
theorem zbs (q:Int)(p:FV)(s:Int)(a:Nat)(j:FV)(x31 i h0_0 h1_0:Int)(b:List UInt8)(c:Int)(d:RW)(e:Int)(g:List UInt8)(h:Int)(l:RW)(m:Int)(n:List UInt8)(o:Int)(f:RW)(r:TV)(k:List AObj):VQ z8c 101 2 r k 1 ⟨[Q18 2 q,Q49 3 2 1,Q98 4 3,Q98 6 4,Q5 7 (Q0 p),Q18 8 s,Q97 9 5 4 0 a,Q5 30 (Q0 j),Q18 31 x31,Q18 32 i],[Q118 0 1 h0_0,Q74 1 4 h1_0 b c 4 d,Q28 2 1 [(.fn (.func 125) [] [(false,[(Q123 0)]),(false,[(Q122 1 4)])])],Q74 3 4 e g h 4 l,Q89 4 4 m n o,Q73 5 4 f],6⟩=
  (br (decide ((i:Int)<x31)) (((FV.L 4 j=true)∧((0≤i)∧((i<(length (FV.ses j):Int))∧(((rE (getD (FV.ses j) (toNat i) [])):List FV)=(getD (FV.ses j) (toNat i) [])))))∧(∃ t:Tm,((Q10 101 [.agg [(.fn (.func 125) [] [(false,[(Q123 0)]),(false,[(Q122 1 4)])])],(aE (getD (FV.ses j) (toNat i) [])),Q25 (IntKind.wrap .i64 (q+s))] (Q105 h0_0 (Q119 4 h1_0 b c 4 d)) (aT t) (Q105 h0_0 (Q119 4 h1_0 b c 4 d)))∧((1≤1)∧((a≤(length f)∧z0u (a+1) 56)∧(Q58 101 2 r k 1 [Q18 2 q,Q49 3 2 1,Q98 4 3,Q98 6 4,Q5 7 (Q0 p),Q18 8 s,Q97 9 5 4 0 (a+1),Q5 30 (Q0 j),Q18 31 x31,Q18 32 (IntKind.wrap .i64 (i+1))] [Q118 0 1 h0_0,Q74 1 4 h1_0 b c 4 d,Q28 2 1 [(.fn (.func 125) [] [(false,[(Q123 0)]),(false,[(Q122 1 4)])])],Q74 3 4 e g h 4 l,Q89 4 4 m n o,Q73 5 4 ((take a f)++ [(FT4 t)])] 6)))))) (br ((e:Int)==(6:Int)) (br (decide (((a:Int):Int)>(1:Int))) ((0≤(0:Int)∧(0:Int)<(a:Int))∧(((0<(length f))∧((([(Q1 (FV.I (getD (getD f 0 []) 0 FV.N)))]:List FV)=(take 1 (drop 0 (getD f 0 []))))∧((1:Nat)=1)))∧(br (((FV.I (getD (getD f 0 []) 0 FV.N)):Int)==(6:Int)) (((FV.L 4 p=true)∧((0≤(0:Int))∧(((0:Int)<(length (FV.ses p):Int))∧(((rE (getD (FV.ses p) 0 [])):List FV)=(getD (FV.ses p) 0 [])))))∧(br (((FV.I (getD (getD (FV.ses p) 0 []) 0 FV.N)):Int) !=(6:Int)) ((0≤(0:Int)∧(0:Int)<(a:Int))∧(((0<(length f))∧((((rE (getD f 0 [])):List FV)=(take 4 (drop 0 (getD f 0 []))))∧((4:Nat)=4)))∧(((0≤(1:Int))∧(((1:Int)≤(a:Int))∧((a:Int)≤(a:Int))))∧(((4:Nat)=4∧(1+((toNat (a:Int))-1))≤(length f))∧(∃ u:Tm,((Q54 15 [(aE (getD f 0 [])),Q70 4 (take ((toNat (a:Int))-1) (drop 1 f))] (aT u))∧(RT (aT u) (Q105 h0_0 (Q119 4 h1_0 b c 4 d)) r k))))))) (((4:Nat)=4∧(0+a)≤(length f))∧(RT (Q83 e g h (take a (drop 0 f))) (Q105 h0_0 (Q119 4 h1_0 b c 4 d)) r k)))) (((4:Nat)=4∧(0+a)≤(length f))∧(RT (Q83 e g h (take a (drop 0 f))) (Q105 h0_0 (Q119 4 h1_0 b c 4 d)) r k))))) (((4:Nat)=4∧(0+a)≤(length f))∧(RT (Q83 e g h (take a (drop 0 f))) (Q105 h0_0 (Q119 4 h1_0 b c 4 d)) r k))) (((4:Nat)=4∧(0+a)≤(length f))∧(RT (Q83 e g h (take a (drop 0 f))) (Q105 h0_0 (Q119 4 h1_0 b c 4 d)) r k)))):=by kernel_rfl
def lv119:List (Nat×List Nat):=[]
theorem v119 (e:Int)(f:List UInt8)(g:Int)(h:RW)(a:Int)(b:List UInt8)(c:Int)(d:RW)(r:TV)(i:List AObj):VE lv119 119 1 r i [Q83 e f g h,Q87 4] [Q119 4 a b c 4 d]=
  (∃ j:Bool,((Q66 120 [Q83 e f g h,Q83 a b c d] j)∧(Q40 j [Q119 4 a b c 4 d] r i))):=by kernel_rfl
def lv122:List (Nat×List Nat):=[]
theorem v122 (a:Int)(b:List UInt8)(c:Int)(d:RW)(r:TV)(e:List AObj):VE lv122 122 0 r e [Q83 a b c d] []=
  (∃ f:Bool,((Q66 123 [Q83 a b c d] f)∧(Q63 (!f) r e))):=by kernel_rfl
theorem v68_F130 (s:RW)(a:Int)(b:List UInt8)(c:Int)(d:RW)(r:TV)(e:List AObj):VE lv68 68 1 r e (Q133 4 s (.fn (.func 130) [] [(false,[(Q122 0 4)])])) [Q119 4 a b c 4 d]=
  ((FV.L 4 (Q4 4 s)=true)∧(Q58 68 1 r e 1 (Q134 (Q62 0 4 s) 1 (.fn (.func 130) [] [(false,[(Q122 0 4)])]) 7 (length s:Int) 8 0) [Q74 0 4 a b c 4 d] 1)):=by kernel_rfl
theorem zec (f:RW)(x7 e h0_0:Int)(a:List UInt8)(b:Int)(c:RW)(r:TV)(d:List AObj):VQ lv68 68 1 r d 1 ⟨Q134 (Q62 0 4 f) 1 (.fn (.func 130) [] [(false,[(Q122 0 4)])]) 7 x7 8 e,[Q74 0 4 h0_0 a b 4 c],1⟩=
  (br (decide ((e:Int)<x7)) (((FV.L 4 (Q4 4 f)=true)∧((0≤e)∧((e<(length f:Int))∧(((rE (getD f (toNat e) [])):List FV)=(getD f (toNat e) [])))))∧(∃ g:Bool,((Q10 130 [(aE (getD f (toNat e) [])),Q87 4] [Q119 4 h0_0 a b 4 c] (Q24 g) [Q119 4 h0_0 a b 4 c])∧(br g (Q72 e [Q119 4 h0_0 a b 4 c] r d) (Q58 68 1 r d 1 (Q134 (Q62 0 4 f) 1 (.fn (.func 130) [] [(false,[(Q122 0 4)])]) 7 x7 8 (IntKind.wrap .i64 (e+1))) [Q74 0 4 h0_0 a b 4 c] 1))))) (Q72 (-1:Int) [Q119 4 h0_0 a b 4 c] r d)):=by kernel_rfl
def lv125:List (Nat×List Nat):=[]
theorem v125 (e:Int)(g:List UInt8)(d:Int)(h:RW)(k o0_0 o1_0:Int)(a:List UInt8)(b:Int)(c:RW)(r:TV)(f:List AObj):VE lv125 125 2 r f [Q83 e g d h,Q25 k,Q87 1,Q85 1 4] (Q105 o0_0 (Q119 4 o1_0 a b 4 c))=
  (br ((e:Int) !=(3:Int)) (RT (Q83 e g d h) (Q105 o0_0 (Q119 4 o1_0 a b 4 c)) r f) (br (decide ((d:Int)<(IntKind.wrap .i64 (k+o0_0)))) (RT (Q83 e g d h) (Q105 o0_0 (Q119 4 o1_0 a b 4 c)) r f) (br ((d:Int)==(IntKind.wrap .i64 (k+o0_0))) (∃ i:Tm,((Q54 83 [Q83 o1_0 a b c,Q25 0,Q25 k] (aT i))∧(RT (aT i) (Q105 o0_0 (Q119 4 o1_0 a b 4 c)) r f))) (∃ j:Tm,((Q54 100 (Q99 (Q83 e g d h) (-1:Int)) (aT j))∧(RT (aT j) (Q105 o0_0 (Q119 4 o1_0 a b 4 c)) r f)))))):=by kernel_rfl
def lv120:List (Nat×List Nat):=[]
theorem v120 (b:Int)(f:List UInt8)(c:Int)(g:RW)(d:Int)(h:List UInt8)(e:Int)(i:RW)(r:TV)(a:List AObj):VE lv120 120 0 r a [Q83 b f c g,Q83 d h e i] []=
  (br ((b:Int)==d) (Q63 ((c:Int)==e) r a) (Q67 r a)):=by kernel_rfl
def lv123:List (Nat×List Nat):=[]
theorem v123 (a:Int)(c:List UInt8)(d:Int)(e:RW)(r:TV)(b:List AObj):VE lv123 123 0 r b [Q83 a c d e] []=
  (∃ f:Bool,((Q66 34 [Q83 a c d e] f)∧(br f (br ((a:Int)==(3:Int)) (Q63 true r b) (Q63 ((a:Int)==(1:Int)) r b)) (Q67 r b)))):=by kernel_rfl
def lv130:List (Nat×List Nat):=[]
theorem v130 (e:Int)(f:List UInt8)(g:Int)(h:RW)(a:Int)(b:List UInt8)(c:Int)(d:RW)(r:TV)(i:List AObj):VE lv130 130 1 r i [Q83 e f g h,Q87 4] [Q119 4 a b c 4 d]=
  (∃ j:Bool,((Q66 120 [Q83 e f g h,Q83 a b c d] j)∧(Q40 j [Q119 4 a b c 4 d] r i))):=by kernel_rfl
end Go.AM

set_option maxRecDepth 100000
open Go Go.Proofs

set_option maxRecDepth 100000
open Go Go.Proofs

set_option maxRecDepth 100000
open Go Go.Proofs
namespace Go.AM
def z8i (c:Int):Bool:=decide (97≤c)&&decide (c≤122)
def z9y (c:Int):Bool:=decide (65≤c)&&decide (c≤90)||c==95
def zcz (c:Int):Bool:=decide (48≤c)&&decide (c≤57)
def z1s (c:Int):Bool:=z8i c||z9y c||zcz c||c==39
def zio:List UInt8:=[43,45,42,47,60,62,61,38,124,94,126,64,35,36,63,58]
def z9b (c:Int):Bool:=decide (Lib.indexByte zio c.toNat.toUInt8≥0)
theorem zto (c:Int):AC Tryz.prog 63 [c8 c] [] (cb (z8i c)) []:=by
 refine AC.vc hP sh lv63 (Nat.le_refl _) (by simp) (by simp) (Eq.mpr (v63 ..) ?_);refine z00 (fun h=>z07 ?_) (fun h=>z07 ?_)<;>simp_all [z8i]<;>omega
theorem c_great (c:Int):AC Tryz.prog 84 [c8 c] [] (cb (z9y c)) []:=by
 refine AC.vc hP sh lv84 (Nat.le_refl _) (by simp) (by simp) (Eq.mpr (v84 ..) ?_);refine z00 (fun h=>z00 (fun h=>z07 ?_) (fun h=>z07 ?_)) (fun h=>z07 ?_)<;>simp_all [z9y]<;>omega
theorem c_digit (c:Int):AC Tryz.prog 85 [c8 c] [] (cb (zcz c)) []:=by
 refine AC.vc hP sh lv85 (Nat.le_refl _) (by simp) (by simp) (Eq.mpr (v85 ..) ?_);refine z00 (fun h=>z07 ?_) (fun h=>z07 ?_)<;>simp_all [zcz]<;>omega
theorem c_inside (c:Int):AC Tryz.prog 65 [c8 c] [] (cb (z1s c)) []:=by
 refine AC.vc hP sh lv65 (Nat.le_refl _) (by simp) (by simp) (Eq.mpr (v65 ..) ?_);refine ⟨_,zto c,z00 (fun h=>z07 ?_) (fun h=>⟨_,c_great c,z00 (fun h=>z07 ?_) (fun h=>⟨_,c_digit c,z00 (fun h=>z07 ?_) (fun h=>z07 ?_)⟩)⟩)⟩<;>simp_all [z1s]
theorem zla (s:List UInt8)(c:Int):AC Tryz.prog 102 [cs s,c8 c] [] (ci (Lib.indexByte s c.toNat.toUInt8)) []:=
 AC.str_u8 (by kernel_rfl) fun w=>Tryz.stringslite_IndexByte ⟨s.toArray⟩ c w
theorem znq (s:List UInt8)(c:Int):AC Tryz.prog 86 [cs s,c8 c] [] (ci (Lib.indexByte s c.toNat.toUInt8)) []:=
 AC.str_u8 (by kernel_rfl) fun w=>Tryz.strings_IndexByte ⟨s.toArray⟩ c w
theorem c_sign (c:Int):AC Tryz.prog 66 [c8 c] [] (cb (z9b c)) []:=by
 refine AC.vc hP sh lv66 (Nat.le_refl _) (by simp) (by simp) (Eq.mpr (v66 ..) ?_);exact ⟨_,znq _ c,z07 rfl⟩
def runN (p:Int→Bool):List UInt8→Nat
 | []=>0
 | c::s=>if p (c.toNat:Int) then runN p s+1 else 0
theorem zw0 (p:Int→Bool):∀ s:List UInt8,runN p s≤s.length
 | []=>Nat.le_refl _
 | c::s=>by have:=zw0 p s;simp only [runN,List.length_cons];split<;>omega
theorem zeq (a:List UInt8)(c:UInt8)(b:List UInt8):List.getD (a++c::b) (Int.toNat (a.length:Int)) 0=c:=by simp [List.getD]
theorem zc:∀ (b a:List UInt8),(a++b).length≤B→RPt Tryz.prog 64 0 (ci ((a.length:Int)+runN z1s b)) [] 1 ⟨[(0,cs (a++b)),(1, .c (.fn (.func 65) [] [])),(7,ci (((a++b).length:Nat):Int)),(8,ci a.length)],[],0⟩
 | [],a,hl=>by
  refine RPt.vc hP sh lv64 (Eq.mpr (zg4 ..) ?_);exact z00 (fun h=>absurd h (by simp)) (fun _=>z3n (by simp [runN]))
 | c::b,a,hl=>by
  refine RPt.vc hP sh lv64 (Eq.mpr (zg4 ..) ?_);have hl':=hl;simp only [List.length_append,List.length_cons,B] at hl';refine z00 (fun _=>⟨⟨by omega,by simp;omega⟩,z1s (c.toNat:Int), ?_,z00 (fun h=>z3n ?_) (fun h=> ?_)⟩) (fun h=>absurd h (by simp;omega))
  · rw [zeq];exact c_inside _
  · simp_all [runN]
  · have:=zc b (a++ [c]) (by simpa using hl);rw [w64 (by omega) (by omega)];simp only [List.append_assoc,List.cons_append,List.nil_append,List.length_append,List.length_cons,List.length_nil,Int.natCast_add,Int.natCast_one,Int.natCast_zero,Int.zero_add] at this;simp only [Bool.not_eq_false'] at h;simp only [runN,h,if_true,List.length_append,List.length_cons,Int.natCast_add,Int.natCast_one];rw [show (a.length:Int)+((runN z1s b:Nat)+1:Int)=(a.length:Int)+1+(runN z1s b:Nat) by omega];exact this
theorem zkt (s:List UInt8)(h:s.length≤B):AC Tryz.prog 64 [cs s, .c (.fn (.func 65) [] [])] [] (ci (runN z1s s)) []:=by
 refine AC.vc hP sh lv64 (Nat.le_refl _) (by simp) (by simp) (Eq.mpr (v64_F65 ..) ?_);have:=zc s [] (by simpa using h);simpa using this
theorem zgm:∀ (b a:List UInt8),(a++b).length≤B→RPt Tryz.prog 64 0 (ci ((a.length:Int)+runN z9b b)) [] 1 ⟨[(0,cs (a++b)),(1, .c (.fn (.func 66) [] [])),(7,ci (((a++b).length:Nat):Int)),(8,ci a.length)],[],0⟩
 | [],a,hl=>by
  refine RPt.vc hP sh lv64 (Eq.mpr (zgk ..) ?_);exact z00 (fun h=>absurd h (by simp)) (fun _=>z3n (by simp [runN]))
 | c::b,a,hl=>by
  refine RPt.vc hP sh lv64 (Eq.mpr (zgk ..) ?_);have hl':=hl;simp only [List.length_append,List.length_cons,B] at hl';refine z00 (fun _=>⟨⟨by omega,by simp;omega⟩,z9b (c.toNat:Int), ?_,z00 (fun h=>z3n ?_) (fun h=> ?_)⟩) (fun h=>absurd h (by simp;omega))
  · rw [zeq];exact c_sign _
  · simp_all [runN]
  · have:=zgm b (a++ [c]) (by simpa using hl);rw [w64 (by omega) (by omega)];simp only [List.append_assoc,List.cons_append,List.nil_append,List.length_append,List.length_cons,List.length_nil,Int.natCast_add,Int.natCast_one,Int.natCast_zero,Int.zero_add] at this;simp only [Bool.not_eq_false'] at h;simp only [runN,h,if_true,List.length_append,List.length_cons,Int.natCast_add,Int.natCast_one];rw [show (a.length:Int)+((runN z9b b:Nat)+1:Int)=(a.length:Int)+1+(runN z9b b:Nat) by omega];exact this
theorem zro (s:List UInt8)(h:s.length≤B):AC Tryz.prog 64 [cs s, .c (.fn (.func 66) [] [])] [] (ci (runN z9b s)) []:=by
 refine AC.vc hP sh lv64 (Nat.le_refl _) (by simp) (by simp) (Eq.mpr (v64_F66 ..) ?_);have:=zgm s [] (by simpa using h);simpa using this
theorem z9p (p:Int→Bool):∀ s:List UInt8,(((runN p s:Nat):Int)==((s.length:Nat):Int))=s.all fun c=>p (c.toNat:Int)
 | []=>rfl
 | c::s=>by
  have ih:=z9p p s;have:=zw0 p s;simp only [runN,List.all_cons,List.length_cons];cases h:p (c.toNat:Int) with
  | true=>rw [←ih];simp only [if_true,Bool.true_and];rw [Bool.eq_iff_iff];simp<;>omega
  | false=>simp;omega
def zcx (s:List UInt8):Bool:= !(s==[])&&decide ((s.length:Int)≤32)
theorem c_fits (s:List UInt8):AC Tryz.prog 62 [cs s] [] (cb (zcx s)) []:=by
 refine AC.vc hP sh lv62 (Nat.le_refl _) (by simp) (by simp) (Eq.mpr (v62 ..) ?_);refine z00 (fun h=>z07 ?_) (fun h=>z07 ?_)<;>simp_all [zcx]
def z8n (s:List UInt8):Bool:=zcx s&&z8i ((s.getD 0 0).toNat:Int)&&s.all fun c=>z1s (c.toNat:Int)
theorem znj {s:List UInt8}(h:zcx s=true):0<s.length∧s.length≤32:=by
 simp only [zcx,Bool.and_eq_true,Bool.not_eq_true',decide_eq_true_eq] at h;refine ⟨?_,by omega⟩;cases s with
 | nil=>simp at h
 | cons c s=>simp
theorem c_isname (s:List UInt8):AC Tryz.prog 47 [cs s] [] (cb (z8n s)) []:=by
 refine AC.vc hP sh lv47 (Nat.le_refl _) (by simp) (by simp) (Eq.mpr (v47 ..) ?_);refine ⟨_,c_fits s,z00 (fun h=>⟨⟨by omega,by have:=znj h;omega⟩,_,zto _,z00 (fun h2=>⟨_,zkt s (by have:=znj h;simp only [B];omega),z07 ?_⟩) (fun h2=>z07 ?_)⟩) (fun h=>z07 ?_)⟩
 · rw [z9p];simp only [z8n,h,h2,Bool.true_and]
 · simp only [z8n,h,h2,Bool.and_false,Bool.false_and]
 · simp only [z8n,h,Bool.false_and]
def zns:List UInt8:=[44,59,33]
theorem zmh (s:List UInt8)(c:UInt8)(hs:s.length≤B):AC Tryz.prog 67 [cs s,cs [c]] [] (cb (decide (Lib.indexByte s c≥0))) []:=by
 have hb:(c.toNat:Int).toNat.toUInt8=c:=by simp
 have h1:AC Tryz.prog 103 [cs s,cs [c]] [] (ci (if [c]==s then 0 else Lib.indexByte s c)) []:=by
  refine AC.vc hP sh lv103 (Nat.le_refl _) (by simp) (by simp) (Eq.mpr (v103 ..) ?_);refine z00 (fun h=>absurd h (by simp)) (fun _=>z00 (fun h=>z3n (by simp [h])) (fun h=>z00 (fun _=>⟨⟨by omega,by simp⟩,_,zla s _,z3n ?_⟩) (fun h2=>absurd h2 (by simp))));rw [h];simp
 have h2:AC Tryz.prog 87 [cs s,cs [c]] [] (ci (if [c]==s then 0 else Lib.indexByte s c)) []:=by
  refine AC.vc hP sh lv87 (Nat.le_refl _) (by simp) (by simp) (Eq.mpr (v87 ..) ?_);exact ⟨_,h1,z3n rfl⟩
 refine AC.vc hP sh lv67 (Nat.le_refl _) (by simp) (by simp) (Eq.mpr (v67 ..) ?_);refine ⟨_,h2,z07 ?_⟩;by_cases e:[c]=s
 · subst e;simp [Lib.indexByte]
 · have:([c]==s)=false:=by simpa using e
   rw [this];simp
def zfg (s:List UInt8):Bool:=zcx s&&((s.all fun c=>z9b (c.toNat:Int))||((s.length:Int)==1&&decide (Lib.indexByte zns (s.getD 0 0)≥0)))
theorem c_issym (s:List UInt8):AC Tryz.prog 48 [cs s] [] (cb (zfg s)) []:=by
 refine AC.vc hP sh lv48 (Nat.le_refl _) (by simp) (by simp) (Eq.mpr (v48 ..) ?_);refine ⟨_,c_fits s,z00 (fun h=>⟨_,zro s (by have:=znj h;simp only [B];omega),z00 (fun h2=>z07 ?_) (fun h2=>z00 (fun h3=> ?_) (fun h3=>z07 ?_))⟩) (fun h=>z07 ?_)⟩
 · rw [z9p] at h2;simp only [zfg,h,h2,Bool.true_and,Bool.true_or]
 · rw [z9p] at h2
   match s,h3 with
   | [c],h3=>
    refine ⟨_,zmh zns c (by simp [zns,B]),z07 ?_⟩;simp only [zfg,h,h2,h3,Bool.true_and,Bool.false_or,List.getD_cons_zero]
   | [],h3=>simp at h3
   | _::_::_,h3=>simp at h3;omega
 · rw [z9p] at h2;simp only [zfg,h,h2,h3,Bool.false_and,Bool.false_or,Bool.and_false]
 · simp only [zfg,h,Bool.false_and]
end Go.AM
