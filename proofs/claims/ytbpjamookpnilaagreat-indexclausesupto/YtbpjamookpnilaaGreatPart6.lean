/- Laws, part 6. No conditions. -/
import Derived.Test.YtbpjamookpnilaaGreatPart5
import Derived.Test.YtbpjamookpnilaaGreatRows
set_option linter.all false
set_option maxRecDepth 100000
open Go Go.Proofs
open Go.IntKind (wrap)
open List (getD take drop)
open Int (toNat)
namespace Go.AM
section
variable {β:Type}
def oN (n:Nat)(K:Nat->β):β:=match n with
 |0=>K 0
 |k+1=>K<|k+1
def oI (n:Int)(K:Int->β):β:=match n with
 |.ofNat k=>oN k λk=>K<|.ofNat k
 |.negSucc k=>oN k λk=>K<|.negSucc k
def oL {α:Type}(f:α->(α->β)->β):List α->(List α->β)->β
 |[],K=>K []
 |x::l,K=>f x λx=>oL f l λl=>K<|x::l
def o1 {α:Type}(x:α)(K:α->β):β:=K x
def oB (b:Bool)(K:Bool->β):β:=match b with
 |true=>K true
 |false=>K false
def oF (x:FV)(K:FV->β):β:=match x with
 |.int k n=>oI n λn=>K<|.int k n
 |.bool b=>oB b λb=>K<|.bool b
 |.str l=>oL o1 l λl=>K<|.str l
 |.sl nn n es=>oB nn λnn=>oN n λn=>oL (oL o1) es λes=>K<|.sl nn n es
 |.pt cs=>oL o1 cs λcs=>K<|.pt cs
 |.mp es=>oL o1 es λes=>K<|.mp es
 |.z0 nn=>oB nn λnn=>K<|.z0 nn
 |.N=>K .N
 |.cst v=>K<|.cst v
def oA (x:AV)(K:AV->β):β:=match x with
 |.fz x=>oF x λx=>K<|.fz x
 |.ep o n i j=>oN o λo=>oN n λn=>oN i λi=>oN j λj=>K<|.ep o n i j
 |.osl o n i j=>oN o λo=>oN n λn=>oN i λi=>oN j λj=>K<|.osl o n i j
 |.mp o=>oN o λo=>K<|.mp o
 |.bld t o=>oN t λt=>oN o λo=>K<|.bld t o
 |.osb o e n=>oN o λo=>oN e λe=>oN n λn=>K<|.osb o e n
 |.any=>K .any
def oP {α γ:Type}(f:α->(α->β)->β)(g:γ->(γ->β)->β)(p:α×γ)(K:α×γ->β):β:=match p with
 |(a,b)=>f a λa=>g b λb=>K (a,b)
def oW (x:WV)(K:WV->β):β:=match x with
 |.a x=>oA x λx=>K<|.a x
 |.fn f a b=>oL (oP oB<|oL oA) a λa=>oL (oP oB<|oL oA) b λb=>K<|.fn f a b
def oT (x:TV)(K:TV->β):β:=match x with
 |.any=>K .any
 |.c x=>oW x λx=>K<|.c x
 |.agg cs=>oL oW cs λcs=>K<|.agg cs
 |.tup vs=>oL (oP oB<|oL oW) vs λvs=>K<|.tup vs
def oO (x:AObj)(K:AObj->β):β:=match x with
 |.gone=>K .gone
 |.arr n es=>oN n λn=>oL (oL oW) es λes=>K<|.arr n es
 |.arz n fs=>oN n λn=>oL (oL oF) fs λfs=>K<|.arz n fs
 |.mapo es=>oL (oP (oP oB<|oL oF)<|oP oB<|oL oW) es λes=>K<|.mapo es
 |.mapz es=>oL (oP (oP oB<|oL oF)<|oP oB<|oL oF) es λes=>K<|.mapz es
def jH {α:Type}(f:α->(α->β)->β):Prop:=∀x K,f x K=K x
theorem yZ:jH (oN (β:=β)):=λx K=>by cases x<;>rfl
theorem opens_I:jH (oI (β:=β)):=λx K=>by cases x<;>(simp only[oI];rw[yZ])
theorem JR {α:Type}:jH (o1 (α:=α) (β:=β)):=λ_ _=>rfl
theorem vF:jH (oB (β:=β)):=λx K=>by cases x<;>rfl
theorem yg {α:Type}{f:α->(α->β)->β}(h:jH f):jH (oL f):=λl=>by
 induction l with
 |nil=>exact λ_=>rfl
 |cons x l ih=>intro K;simp only[oL];rw[h,ih]
theorem vH {α d:Type}{f:α->(α->β)->β}{g:d->(d->β)->β}(e:jH f)(h:jH g):jH (oP f g):=λp K=>by obtain⟨a,b⟩:=p;simp only[oP];rw[e,h]
theorem YD:jH (oF (β:=β)):=λx K=>by
 cases x<;>simp only[oF]
 .rw[opens_I]
 .rw[vF]
 .rw[yg JR]
 .rw[vF,yZ,yg<|yg JR]
 .rw[vF]
 .rw[yg JR]
 .rw[yg JR]
theorem fH:jH (oA (β:=β)):=λx K=>by
 cases x<;>simp only[oA]
 .rw[YD]
 .rw[yZ,yZ,yZ,yZ]
 .rw[yZ,yZ,yZ,yZ]
 .rw[yZ]
 .rw[yZ,yZ]
 .rw[yZ,yZ,yZ]
theorem Xm:jH (oW (β:=β)):=λx K=>by
 cases x<;>simp only[oW]
 .rw[fH]
 .rw[yg<|vH vF<|yg fH,yg<|vH vF<|yg fH]
theorem YX:jH (oT (β:=β)):=λx K=>by
 cases x<;>simp only[oT]
 .rw[Xm]
 .rw[yg Xm]
 .rw[yg<|vH vF<|yg Xm]
theorem fc:jH (oO (β:=β)):=λx K=>by
 cases x<;>simp only[oO]
 .rw[yZ,yg<|yg Xm]
 .rw[yZ,yg<|yg YD]
 .rw[yg<|vH (vH vF<|yg YD)<|vH vF<|yg Xm]
 .rw[yg<|vH (vH vF<|yg YD)<|vH vF<|yg YD]
end
abbrev RunF:=FuncId->List TV->List AObj->Option (TV×List AObj)
def JA (P:Program)(run:RunF):Prop:=∀f args Hs r Hs',run f args Hs=some (r,Hs')->AC P f args Hs r Hs'
def sJ:AV->AV->Bool
 |.fz (.int k n),.fz (.int k' n')=>(decide (k=k')&&decide (n=n'))
 |.ep a b c d,.ep a' b' c' d'=>Nat.beq a a'&&Nat.beq b b'&&Nat.beq c c'&&Nat.beq d d'
 |_,_=>false
def a8:List WV->List WV->Bool
 |[],[]=>true
 |.a x::l,.a y::r=>sJ x y&&a8 l r
 |_,_=>false
def sameO:AObj->AObj->Bool
 |.arr n [e],.arr n' [e']=>Nat.beq n n'&&a8 e e'
 |_,_=>false
theorem oM {x y:AV}(h:sJ x y=true):x=y:=by
 unfold sJ at h;split at h
 .grind
 .simp_all
 .cases h
theorem JV:∀ {x y:List WV},a8 x y=true->x=y
 |[],[],_=>rfl
 |.a x::l,.a y::r,h=>by simp only[a8,tF] at h;rw[oM h.1,JV h.2]
 |[],_::_,h=>by cases h
 |.a _::_,[],h=>by cases h
 |.fn _ _ _::_,[],h=>by cases h
 |.fn _ _ _::_,.a _::_,h=>by cases h
 |.fn _ _ _::_,.fn _ _ _::_,h=>by cases h
 |.a _::_,.fn _ _ _::_,h=>by cases h
theorem sameO_eq {x y:AObj}(h:sameO x y=true):x=y:=by
 unfold sameO at h;split at h
 .simp only[tF] at h;rw[AJ h.1,JV h.2]
 .cases h
def keptX (u:AHeap)(h:Nat->AObj)(ids:List Nat):List Nat:=ids.filter λi=>match y4 u i with|some y=>sameO y (h i)|none=>false
def aa (run:RunF)(f:FuncId)(args:List TV)(h:Nat->AObj)(fr:Nat):Option (TV×AHeap×List Nat):=
 match Km h 400 (args.flatMap TV.ids) [] with
 |ids=>match jd ids&&ids.all (λo=>Jr (h o)&&(h o).inn ids)&&args.all (TV.inn ids)&&ids.all (λo=>Nat.blt o fr) with
  |true=>match run f (args.map<|TV.ren<|inv ids) (ids.map λo=>(h o).ren<|inv ids) with
   |some (r,Hs')=>match Nat.ble Hs'.length (ids.length+32) with
    |true=>match keptX (yC (sub ids fr) ids Hs') h ids with
     |F=>some (r.ren<|sub ids fr,(yC (sub ids fr) ids Hs'++xO (sub ids fr) fr (Hs'.drop ids.length)).filter λp=> !F.contains p.1,ids)
    |false=>none
   |none=>none
  |false=>none
theorem JW {P:Program}{g:RunF}(F:JA P g){f:FuncId}{args:List TV}{h:Nat->AObj}{fr:Nat}{r:TV}{u:AHeap}{rd:List Nat}(d:aa g f args h fr=some (r,u,rd)):
  CallK P f args h fr λr' G o=>r'=r/\G=u/\o=rd:=by
 unfold aa at d;generalize Km h 400 (args.flatMap TV.ids) []=b at d;simp only at d;split at d
 .rename_i x;simp only[tF] at x;obtain⟨⟨⟨C,E⟩,D⟩,p⟩:=x;have p:∀i∈b,i<fr:=λi m=>A9<|A7.1 p i m;have z:=YB (fr:=fr) D;have w:=uQ (fr:=fr) E;split at d
  .rename_i r0 Hs' e;split at d
   .rename_i j;simp only[tL,Am] at d;refine⟨b,[],_,_,_,_,F _ _ _ _ _ e,⟨xJ C,p⟩,A9 j,w.1,?_,z.2,w.2,.inl rfl,keptX (yC (sub b fr) b Hs') h b,λi m=>?_,zd⟩
    .rw[yK,z.1];exact vL
    .have v:=(S3.1 m).2;split at v;next y A=>rw[A,sameO_eq v]
     .cases v
   .cases d
  .cases d
 .cases d
def callX (run:RunF)(mode:FuncId->Nat)(f:FuncId)(args:List TV)(h:Nat->AObj)(fr:Nat):Option (TV×AHeap×List Nat):=
 match Nat.ble (mode f) 1 with
 |true=>aa run f args h fr
 |false=>match args.flatMap (Yi h) with
  |L=>match aa run f (args.map<|TV.lend L) (over (L.map λp=>(p.1,AObj.gone)) h) fr with
   |some (r,u,rd)=>some (r,u++L.map λp=>(p.1,AObj.gone),rd++L.map Prod.fst)
   |none=>none
theorem callX_ok {P:Program}{d:RunF}{g:FuncId->Nat}(m:JA P d){f:FuncId}{args:List TV}{h:Nat->AObj}{fr:Nat}{r:TV}{u:AHeap}{rd:List Nat}(b:callX d g f args h fr=some (r,u,rd)):
  CallE P f args h fr λr' w i=>r'=r/\w=u/\i=rd:=by
 unfold callX at b;split at b
 .refine⟨[],(λp v=>by cases v),?_⟩;rw[yK];have e:over (([]:Lent).map λp=>(p.1,AObj.gone)) h=h:=by funext o;rfl
  exact(JW m b).imp λr u rd j=>zd
 .refine⟨args.flatMap<|Yi h,jZ.ok,?_⟩;simp only at b;split at b
  .rename_i y z x j;refine(JW m j).imp λr u rd j=>?_;grind
  .cases b
section
variable (P:Program) (run:RunF) (mode:FuncId->Nat)
def stepX (fr:Nat)(o:Oper)(e:Env)(h:AHeap)(tr:wq):Option (Env×AHeap×wq):=
 match goCall o.op with
 |some c=>match calleeOf (ev e) c with
  |some (f,args)=>match callX run mode f args (hook h) fr with
   |some (r,u,rd)=>oT r λr=>some (putE o.dst r e,u++h,(rd,u.map Prod.fst)::tr)
   |none=>none
  |none=>none
 |none=>match aopS P o fr (ev e) (hook h) with
  |some r=>oT r.val λv=>some (putE o.dst v e,r.upd++h,(r.rd,r.upd.map Prod.fst)::tr)
  |none=>none
def lexX (ops:Array Oper)(nx:Nat):List Oper->Nat->Env->AHeap->wq->Option (Env×AHeap×wq)
 |[],_,e,h,tr=>some (e,h,tr)
 |o::rest,i,e,h,tr=>match want ops o (look e) with
  |none=>none
  |some w=>match (match w with|true=>stepX P run mode (nx+32*i) o e h tr|false=>some (putE o.dst (.tup []) e,h,([],[])::tr)) with
   |some (e,h,tr)=>lexX ops nx rest (i+1) e h tr
   |none=>none
variable {P run mode}
theorem Wz (A:JA P run){p:Array Oper}{nx:Nat}:∀ {l:List Oper} {i:Nat} {e:Env} {h:AHeap} {m:wq} {y:Env} {x:AHeap} {g:wq},
  lexX P run mode p nx l i e h m=some (y,x,g)->lex P p nx l i e h m λe h m=>e=y/\h=x/\m=g
 |[],_,_,_,_,_,_,_,d=>by simp only[lexX,tL,Am] at d;exact d
 |o::rest,i,e,h,m,y,x,g,d=>by
  unfold lexX at d;unfold lex K0;split at d
  .cases d
  .rename_i w E;rw[E];simp only;split at d
   .rename_i H F D b;have ih:=Wz A d;cases w with
    |false=>grind
    |true=>
     simp only at b;rw[tG rfl];unfold stepX at b;unfold pO;cases z:goCall o.op with
     |some c=>
      rw[z] at b;simp only at b ⊢;split at b
      .rename_i f args v;rw[v];split at b
       .rename_i r u rd j;rw[YX] at b;refine(callX_ok A j).imp λr' G C J=>?_;grind
       .cases b
      .cases b
     |none=>
      rw[z] at b;simp only at b ⊢;split at b
      .rename_i r I;rw[YX] at b;grind
      .cases b
   .cases d
end
def sC (m:Nat)(U live:List Nat)(s:St):Option St:=
 match ZB m U (hook s.heap) (live.flatMap λt=>(look s.env t).ids) with
 |rest=>match okU m U rest&&(keep m U++rest).all (λo=>(hook s.heap o).inn<|keep m U++rest)&&live.all (λt=>(look s.env t).inn<|keep m U++rest) with
  |true=>oL (oP oN oT) (live.map λt=>(t,(look s.env t).ren<|invU m rest)) λenv=>oL oO (qz m U rest<|hook s.heap) λobs=>some ⟨env,yO 0 obs,m+rest.length⟩
  |false=>none
theorem J9 {m:Nat}{U live:List Nat}{s b:St}(h:sC m U live s=some b):Sle m s b:=by
 have f:qv m [(0,live),(1000001,U)] (λ_ d=>d=b) 0 s:=by
  unfold sC at h;unfold qv;simp only[y4,tZ,lvU,show¬((0:Nat)=1000001) by decide,A6];simp only at h ⊢;split at h
  .rename_i e
   try rw[e]
   rw[yg<|vH yZ YX,yg fc,tL] at h;exact h
  .cases h
 obtain⟨d,i,g⟩:=jM f;grind
def ry (m:Nat)(s:St):List Nat:=(List.range m).filter λo=> !Jr (hook s.heap o)
section
variable (P:Program) (run:RunF) (mode:FuncId->Nat) (bks:FuncId->Option (TypeId×TypeId)) (n m lf:Nat)
def regX (ops:Array Oper)(d:Bool)(s:St):Option St:=
 match dstB ops n with
 |true=>match lexX P run mode ops s.nx ops.toList 0 s.env s.heap [] with
  |some (e,h,tr)=>match !d||JN ops tr with
   |true=>some ⟨e,h,s.nx+32*ops.size⟩
   |false=>none
  |none=>none
 |false=>none
def loopX (F:St->Option (AExit×St)):Nat->St->Option (AExit×St)
 |0,_=>none
 |k+1,s=>match sC m (ry m s) (List.range n) s with
  |some s=>match F s with
   |some (.normal,s)=>loopX F k s
   |r=>r
  |none=>none
def asgX:Code->St->Option St
 |.region _ ops false,s=>match vD ops with
  |true=>regX P run mode n ops false s
  |false=>none
 |.seq a b,s=>match asgX a s with
  |some s=>asgX b s
  |none=>none
 |_,_=>none
def p7:TV->TV->Bool
 |.c (.a (.osl a b c d)),.c (.a (.osl a' b' c' d'))=>Nat.beq a a'&&Nat.beq b b'&&Nat.beq c c'&&Nat.beq d d'
 |.c (.a (.fz .N)),.c (.a (.fz .N))=>true
 |_,_=>false
def boxX (dS:TyD)(oc:Nat)(h:AHeap):TV:=match wS dS (λo=>flat<|hook h o) (.c<|.a<|.ep oc 1 0 0) with
 |some (v,_)=>v
 |none=>.any
def elX (dS dE:TyD)(xs:TV)(k:Nat)(h:AHeap):Option (TV×TV):=match xm P dS xs (iV k) with
 |some y=>match wS dE (λo=>flat<|hook h o) y with
  |some (v,_)=>some (y,v)
  |none=>none
 |none=>none
def goX (dS dE:TyD)(xs:TV)(oc p1 p2:Nat)(env:Env)(m0:Nat)(FA:St->Option St)(FB:St->Option (AExit×St)):Nat->AHeap->Nat->Option (AHeap×Nat)
 |0,h,nx=>some (h,nx)
 |k+1,h,nx=>match elX P dS dE xs k h with
  |some (_,v)=>match FA ⟨(p2,v)::(p1,iV k)::env,h,nx⟩ with
   |some s=>match FB s with
    |some (.normal,s)=>match sC m0 (ry m0 s) [] s with
     |some s=>match p7 (boxX dS oc s.heap) xs&&Nat.ble m0 s.nx with
      |true=>goX dS dE xs oc p1 p2 env m0 FA FB k s.heap s.nx
      |false=>none
     |none=>none
    |_=>none
   |none=>none
  |none=>none
def rngOf:TV->Option (FuncId×Nat)
 |.c (.fn (.func bk) [] [(false,[.ep oc 1 0 0])])=>some (bk,oc)
 |_=>none
def rngX (g:Operand)(ps:List Nat)(FA:St->Option St)(FB:St->Option (AExit×St))(pb:Bool)(s:St):Option (AExit×St):=
 match rngOf (ev s.env g),ps with
 |some (bk,oc),[p1,p2]=>match bks bk with
  |some (S,E)=>match tyOf P S,tyOf P E with
   |some dS,some dE=>match boxX dS oc s.heap with
    |xs=>match XD xs with
     |some (N,_)=>match pb&&(match dS.kind with|.slice e=>Nat.beq e E|_=>false)&&p7 (boxX dS oc s.heap) xs&&Nat.blt p1 n&&Nat.blt p2 n&&s.env.all (λp=>p.2.lt s.nx)&&Nat.blt oc s.nx&&Nat.blt N 9223372036854775808&&Nat.ble m s.nx with
      |true=>match goX P dS dE xs oc p1 p2 s.env s.nx FA FB N s.heap s.nx with
       |some (h,nx)=>some (.normal,⟨s.env,h,nx⟩)
       |none=>none
      |false=>none
     |none=>none
   |_,_=>none
  |none=>none
 |_,_=>none
def xY:Code->St->Option (AExit×St)
 |.skip,s=>some (.normal,s)
 |.ret,s=>some (.ret,s)
 |.exit i,s=>some (.exit i,s)
 |.seq a b,s=>match xY a s with
  |some (.normal,s)=>xY b s
  |r=>r
 |.cond x a b,s=>match ev s.env x with
  |.c (.a (.fz (.bool t)))=>match t with
   |true=>xY a s
   |false=>xY b s
  |_=>none
 |.block i c,s=>match xY c s with
  |some (.exit j,s)=>match Nat.beq j i with
   |true=>some (.normal,s)
   |false=>some (.exit j,s)
  |r=>r
 |.region _ ops d,s=>match regX P run mode n ops d s with
  |some s=>some (.normal,s)
  |none=>none
 |.loop c,s=>loopX n m (xY c) lf s
 |.scope c,s=>xY c s
 |.label _,s=>some (.normal,s)
 |.rangeFunc g ps A b,s=>match sC m (ry m s) (List.range n) s with
  |some s=>rngX P bks n m g ps.toList (asgX P run mode n A) (xY b) (wB b) s
  |none=>none
 |_,_=>none
variable {P run mode bks n m lf}
theorem Awp.le {c:Code}{Q:AExit->St->Prop}{s b:St}(d:Sle m s b)(h:Awp P n m c Q b):Awp P n m c Q s:=Awp.weak d h
theorem aA {c:Code}{F:St->Option (AExit×St)}(i:∀s e f,F s=some (e,f)->Awp P n m c (λb d=>b=e/\d=f) s):∀ {k:Nat} {s:St} {e:AExit} {f:St},
  loopX n m F k s=some (e,f)->Alwp P n m c (λb d=>b=e/\d=f) s
 |0,_,_,_,h=>by cases h
 |k+1,s,e,f,h=>by
  unfold loopX at h;split at h
  .rename_i d hs1;refine Alwp.weak (J9 hs1)<|Alwp.unroll ?_;split at h;next p o=>refine(i _ _ _ o).mono λb d g=>?_;obtain⟨rfl,rfl⟩:=g;exact aA i h
   .rename_i j;refine(i _ _ _ h).mono λb d g=>?_;obtain⟨rfl,rfl⟩:=g;cases b with
    |normal=>exact absurd h<|j _
    |_=>exact⟨rfl,rfl⟩
  .cases h
theorem regX_ok (x:P.follows .mixedOrders=true)(w:JA P run){i:Nat}{b:Array Oper}{d:Bool}{s g:St}(f:vD b=true)(h:regX P run mode n b d s=some g):AwpR P n m (.region i b d) (λj r=>j=.normal/\r=g) s:=by
 unfold regX at h;split at h
 .rename_i hd;refine AwpR.region x hd f ?_;split at h
  .rename_i A z u o;split at h
   .rename_i v;rw[tL] at h;subst h;refine kV ?_<|Wz w o;rintro j y p ⟨rfl,rfl,rfl⟩;refine⟨λe=>?_,rfl,rfl⟩;subst e;exact zp v
   .cases h
  .cases h
 .cases h
theorem fo (f:JA P run):∀ {A:Code} {s d:St},asgX P run mode n A s=some d->AsgS P n A s λo=>o=d
 |.seq a b,s,d,h=>by
  unfold asgX at h;split at h;next o m=>exact AsgS.seq (fo f m) λx e=>by subst e;exact fo f h
  .cases h
 |.region i g false,s,d,h=>by
  unfold asgX at h;split at h
  .rename_i j;unfold regX at h;split at h
   .rename_i hd;split at h
    .rename_i w v u p;split at h
     .rw[tL] at h;subst h;refine AsgS.region j hd<|kV ?_<|Wz f p;rintro y m r ⟨rfl,rfl,rfl⟩;rfl
     .cases h
    .cases h
   .cases h
  .cases h
 |.region i g true,s,d,h=>by cases h
 |.skip,_,_,h=>by cases h
 |.ret,_,_,h=>by cases h
 |.exit _,_,_,h=>by cases h
 |.cond ..,_,_,h=>by cases h
 |.block ..,_,_,h=>by cases h
 |.loop _,_,_,h=>by cases h
 |.rangeFunc ..,_,_,h=>by cases h
 |.scope _,_,_,h=>by cases h
 |.label _,_,_,h=>by cases h
 |.goto _,_,_,h=>by cases h
 |.refuse _,_,_,h=>by cases h
theorem vr (p:P.follows .mixedOrders=true)(o:JA P run):∀ {c:Code} {s:St} {e:AExit} {g:St},wB c=true->xY P run mode bks n m lf c s=some (e,g)->∀ {m0:Nat},AwpR P n m0 c (λv y=>v=e/\y=g) s
 |.skip,s,e,g,_,h,_=>by simp only[xY,tL,Am] at h;exact AwpR.skip ⟨h.1,h.2⟩
 |.ret,s,e,g,_,h,_=>by simp only[xY,tL,Am] at h;exact AwpR.ret ⟨h.1,h.2⟩
 |.exit i,s,e,g,_,h,_=>by simp only[xY,tL,Am] at h;exact AwpR.exit ⟨h.1,h.2⟩
 |.seq a b,s,e,g,f,h,_=>by
  simp only[wB,tF] at f;unfold xY at h;refine AwpR.seq ?_;split at h;next y w=>refine(vr p o f.1 w).mono λv A u=>?_;obtain⟨rfl,rfl⟩:=u;exact vr p o f.2 h
  .rename_i r;refine(vr p o f.1 h).mono λv A u=>?_;obtain⟨rfl,rfl⟩:=u;cases v with
   |normal=>exact absurd h<|r _
   |_=>exact⟨rfl,rfl⟩
 |.cond x a b,s,e,g,f,h,_=>by
  simp only[wB,tF] at f;unfold xY at h;split at h
  .rename_i t C;cases t with
   |true=>exact AwpR.cond C (λ_=>vr p o f.1 h) (λe=>by cases e)
   |false=>exact AwpR.cond C (λe=>by cases e) λ_=>vr p o f.2 h
  .cases h
 |.block i c,s,e,g,f,h,_=>by
  simp only[wB,tF] at f;unfold xY at h;refine AwpR.block ?_;split at h
  .rename_i j y w;refine(vr p o f.2 w).mono λv A u=>?_;obtain⟨rfl,rfl⟩:=u;simp only[yi];split at h;next z=>rw[tG<|AJ z];simp only[tL,Am] at h;exact⟨h.1,h.2⟩
   next z=>rw[tD<|Nat.ne_of_beq_eq_false z];simp only[tL,Am] at h;exact⟨h.1,h.2⟩
  .rename_i r;refine(vr p o f.2 h).mono λv A u=>?_;obtain⟨rfl,rfl⟩:=u;cases v with
   |exit j=>exact absurd h<|r _ _
   |_=>exact⟨rfl,rfl⟩
 |.region i D d,s,e,g,f,h,_=>by
  unfold xY at h;split at h;next y w=>simp only[tL,Am] at h;obtain⟨rfl,rfl⟩:=h;exact regX_ok p o f w
  .cases h
 |.loop _,_,_,_,f,_,_=>by cases f
 |.rangeFunc ..,_,_,_,f,_,_=>by cases f
 |.scope _,_,_,_,f,_,_=>by cases f
 |.label _,_,_,_,f,_,_=>by cases f
 |.goto _,_,_,_,f,_,_=>by cases f
 |.refuse _,_,_,_,f,_,_=>by cases f
theorem np {x y:TV}(h:p7 x y=true):x=y:=by
 unfold p7 at h;split at h
 .simp only[tF] at h;rw[AJ h.1.1.1,AJ h.1.1.2,AJ h.1.2,AJ h.2]
 .rfl
 .cases h
theorem s8 {d:TyD}{oc:Nat}{h:AHeap}{xs:TV}(b:boxX d oc h=xs)(f:xs ≠ .any):∃rd,wS d (λo=>flat<|hook h o) (.c<|.a<|.ep oc 1 0 0)=some (xs,rd):=by
 unfold boxX at b;split at b;next v rd e=>exact⟨rd,by rw[e,b]⟩
 .exact absurd b.symm f
theorem rngX_ok {g:Operand} {L:Array Nat} {A b:Code} {FA:St->Option St} {FB:St->Option (AExit×St)} {s C:St} {e:AExit} (X:∀f S E,bks f=some (S,E)->IsBk P f S E)
  (hA:∀s C,FA s=some C->AsgS P n A s λI=>I=C) (hB:wB b=true->∀s e C,FB s=some (e,C)->∀ {m0:Nat},AwpR P n m0 b (λG I=>G=e/\I=C) s)
  (h:rngX P bks n m g L.toList FA FB (wB b) s=some (e,C)):Awp P n m (.rangeFunc g L A b) (λG I=>G=e/\I=C) s:=by
 unfold rngX at h;split at h
 .rename_i bk oc p1 p2 D w;have w:L= #[p1,p2]:=by cases L;simp at w;rw[w]
  subst w;have D:ev s.env g=.c (.fn (.func bk) [] [(false,[.ep oc 1 0 0])]):=by
   unfold rngOf at D;split at D;next G=>simp only[tL,Am] at D;rw[G,D.1,D.2]
   .cases D
  split at h
  .rename_i S E M;split at h
   .rename_i J U hS hE;dsimp only at h;generalize V:boxX J oc s.heap=xs at h;split at h
    .rename_i N rdn u;split at h
     .rename_i hb;simp only[tF] at hb;obtain⟨⟨⟨⟨⟨⟨⟨⟨b1,O⟩,b3⟩,b4⟩,b5⟩,b6⟩,b7⟩,b8⟩,b9⟩:=hb;have Z:J.kind=.slice E:=by
       split at O;next G he=>rw[he,AJ O]
       .cases O
      have K:xs ≠ .any:=λe=>by rw[e] at u;cases u
      split at h
      .rename_i hf nf T;simp only[tL,Am] at h;obtain⟨rfl,rfl⟩:=h;obtain⟨env,h0,z⟩:=s;dsimp only at*
       refine bX (α:=Nat×AHeap×Nat) (H:=λx=>x.2.1) (nx:=λx=>x.2.2) (idx:=λx=>x.1) (m0:=z) (xs:=xs) (N:=N) (x0:=(N,h0,z))
        (y:=λx=>match elX P J U xs (x.1-1) x.2.1 with|some (y,_)=>y|none=>.any) (v:=λx=>match elX P J U xs (x.1-1) x.2.1 with|some (_,v)=>v|none=>.any)
        (Inv:=λx=>(z<=x.2.2/\boxX J oc x.2.1=xs)/\goX P J U xs oc p1 p2 env z FA FB x.1 x.2.1 x.2.2=some (hf,nf))
        (X _ _ _ M) hS Z hE (A9 b9) (λp hp=>A7.1 b6 p hp) D (A9 b7) (λx r=>r.1.1) (λx r=>s8 r.1.2 K) u (A9 b8)
        (λx k r o=>?_) (A9 b4) (A9 b5) (λx k r o=>?_) ⟨⟨tJ _,V⟩,T⟩ rfl (λx r o=>?_)
       .obtain⟨i,hh,nn⟩:=x;dsimp only at r o ⊢;subst o;have j:=r.2;unfold goX at j;rw[ED];split at j
        .rename_i y v d
         try rw[d]
         unfold elX at d;split at d
         .rename_i y1 hy;split at d;next v1 rd hv=>simp only[tL,Am] at d;exact⟨rd,by rw[hy,d.1],by rw[<-d.1,hv,d.2]⟩
          .cases d
         .cases d
        .cases j
       .obtain⟨i,hh,nn⟩:=x;dsimp only at r o ⊢;subst o;have j:=r.2;unfold goX at j;rw[ED];split at j
        .rename_i y v d
         try rw[d]
         try dsimp only
         split at j
         .rename_i I hs1;refine(hA _ _ hs1).mono λs2 e=>?_;subst e;split at j
          .rename_i s3 Y;refine(hB b1 _ _ _ Y).mono λG s4 Z=>?_;obtain⟨rfl,rfl⟩:=Z;split at j
           .rename_i s5 W;split at j;next F=>simp only[tF] at F;exact⟨rfl,(k,s5.heap,s5.nx),⟨⟨⟨A9 F.2,np F.1⟩,j⟩,rfl⟩,(J9 W).noEnv⟩
            .cases j
           .cases j
          .cases j
         .cases j
        .cases j
       .obtain⟨i,hh,nn⟩:=x;dsimp only at r o ⊢;subst o;have j:=r.2;simp only[goX,tL,Am] at j;rw[j.1,j.2];exact⟨rfl,rfl⟩
      .cases h
     .cases h
    .cases h
   .cases h
  .cases h
 .cases h
theorem wz (v:P.follows .mixedOrders=true)(u:JA P run)(o:∀f S E,bks f=some (S,E)->IsBk P f S E):∀ {c:Code} {s:St} {e:AExit} {p:St},xY P run mode bks n m lf c s=some (e,p)->Awp P n m c (λw C=>w=e/\C=p) s
 |.skip,s,e,p,h=>by simp only[xY,tL,Am] at h;exact Awp.skip ⟨h.1,h.2⟩
 |.ret,s,e,p,h=>by simp only[xY,tL,Am] at h;exact Awp.ret ⟨h.1,h.2⟩
 |.exit i,s,e,p,h=>by simp only[xY,tL,Am] at h;exact Awp.exit ⟨h.1,h.2⟩
 |.seq a b,s,e,p,h=>by
  unfold xY at h;refine Awp.seq ?_;split at h;next C r=>refine(wz v u o r).mono λw G z=>?_;obtain⟨rfl,rfl⟩:=z;exact wz v u o h
  .rename_i y;refine(wz v u o h).mono λw G z=>?_;obtain⟨rfl,rfl⟩:=z;cases w with
   |normal=>exact absurd h<|y _
   |_=>exact⟨rfl,rfl⟩
 |.cond x a b,s,e,p,h=>by
  unfold xY at h;split at h
  .rename_i t H;cases t with
   |true=>exact Awp.cond H (λ_=>wz v u o h) (λe=>by cases e)
   |false=>exact Awp.cond H (λe=>by cases e) λ_=>wz v u o h
  .cases h
 |.block i c,s,e,p,h=>by
  unfold xY at h;refine Awp.block ?_;split at h
  .rename_i j C r;refine(wz v u o r).mono λw G z=>?_;obtain⟨rfl,rfl⟩:=z;simp only[yi];split at h;next D=>rw[tG<|AJ D];simp only[tL,Am] at h;exact⟨h.1,h.2⟩
   next D=>rw[tD<|Nat.ne_of_beq_eq_false D];simp only[tL,Am] at h;exact⟨h.1,h.2⟩
  .rename_i y;refine(wz v u o h).mono λw G z=>?_;obtain⟨rfl,rfl⟩:=z;cases w with
   |exit j=>exact absurd h<|y _ _
   |_=>exact⟨rfl,rfl⟩
 |.region i N d,s,e,p,h=>by
  unfold xY at h;split at h
  .rename_i C r;simp only[tL,Am] at h;obtain⟨rfl,rfl⟩:=h;unfold regX at r;split at r
   .rename_i hd;refine Awp.region v hd ?_;split at r
    .rename_i U T M I;split at r
     .rename_i D;rw[tL] at r;subst r;refine kV ?_<|Wz u I;rintro w r K ⟨rfl,rfl,rfl⟩;refine⟨λF=>?_,rfl,rfl⟩;subst F;exact zp D
     .cases r
    .cases r
   .cases r
  .cases h
 |.loop c,s,e,p,h=>by unfold xY at h;exact Alwp.loop<|aA (λs e p J=>wz v u o J) h
 |.rangeFunc g O A b,s,e,p,h=>by
  unfold xY at h;split at h;next C hs1=>exact Awp.le (J9 hs1)<|rngX_ok o (λ_ _=>fo u) (λL _ _ _=>vr v u L) h
  .cases h
 |.scope c,s,e,p,h=>by unfold xY at h;exact Awp.scope<|wz v u o h
 |.label _,s,e,p,h=>by simp only[xY,tL,Am] at h;exact Awp.label ⟨h.1,h.2⟩
 |.goto _,_,_,_,h=>by cases h
 |.refuse _,_,_,_,h=>by cases h
end
def lentR (fz:Bool)(h:Nat->AObj)(rs:List TV):Lent:=match fz with|true=>rs.flatMap (Yi h)|false=> []
theorem lentR_ok {b:Bool}{h:Nat->AObj}{d:List TV}:LentOK h (lentR b h d):=by
 cases b with
 |true=>exact jZ
 |false=>exact λp e=>nomatch e
def retX (P:Program)(fz:Bool)(rl:List ResultVar)(m:Nat)(U:List Nat)(s:St):Option (TV×List AObj):=
 match gY P s rl with
 |none=>none
 |some rs=>match lentR fz (hook s.heap) rs with
  |E=>match U++(E.map Prod.fst).filter (λo=>Nat.blt o m) with
   |U=>match ZB m U (hook s.heap) ((rs.map<|TV.lend E).flatMap TV.ids) with
    |rest=>match okU m U rest&&(keep m U++rest).all (λo=>(hook s.heap o).inn<|keep m U++rest)&&(rs.map<|TV.lend E).all (TV.inn<|keep m U++rest)&&E.all (λp=> !(keep m U++rest).contains p.1) with
     |true=>match d8 ((rs.map<|TV.lend E).map<|TV.ren<|invU m rest) with
      |some r0=>oT r0 λr0=>oL oO (qz m U rest<|hook s.heap) λHs=>some (r0,Hs)
      |none=>none
     |false=>none
theorem ti {P:Program}{g:Bool}{f:List ResultVar}{m:Nat}{U:List Nat}{s:St}{r:TV}{Hs':List AObj}(h:retX P g f m U s=some (r,Hs')):iP P f m r Hs' s:=by
 unfold retX at h;split at h
 .cases h
 .rename_i j d;dsimp only at h;split at h
  .rename_i e;simp only[tF] at e;obtain⟨⟨⟨i,o⟩,u⟩,w⟩:=e;split at h
   .rename_i r0 b;rw[YX,yg fc] at h;obtain⟨rfl,rfl⟩:=h;refine J8 (E:=lentR g (hook s.heap) j) d rfl lentR_ok.ok i o u (λp x v=>?_) b (.refl _);grind
   .cases h
  .cases h
def runX (P:Program)(mode:FuncId->Nat)(bks:FuncId->Option (TypeId×TypeId))(O:RunF)(lf:Nat):Nat->RunF
 |0,_,_,_=>none
 |k+1,f,args,Hs=>match O f args Hs with
  |some x=>some x
  |none=>match P.funcs[f]? with
   |some fn=>match fn.body with
    |some c=>match xF P f&&Nat.ble args.length fn.ntmps&&Hs.all Jr with
     |true=>oL oT args λargs=>oL oO Hs λHs=>match xY P (runX P mode bks O lf k) mode bks fn.ntmps Hs.length lf c ⟨qI 0 args,yO 0 Hs,Hs.length⟩ with
      |some (.exit _,_)=>none
      |some (_,s)=>match retX P (Nat.ble 1 (mode f)&&Nat.ble (mode f) 2) fn.results.toList Hs.length (ry Hs.length s) s with
       |some (r,Hs')=>match Nat.ble Hs.length Hs'.length&&(Hs'.drop Hs.length).all Jr with
        |true=>some (r,Hs')
        |false=>none
       |none=>none
      |none=>none
     |false=>none
    |none=>none
   |none=>none
theorem sr {P:Program}{b:FuncId->Nat}{d:FuncId->Option (TypeId×TypeId)}{O:RunF}{u:Nat}(z:JA P O)(y:P.follows .mixedOrders=true)(p:∀f S E,d f=some (S,E)->IsBk P f S E):∀k,JA P (runX P b d O u k)
 |0=>λf args Hs r Hs' h=>by cases h
 |k+1=>λf args Hs r Hs' h=>by
  unfold runX at h;split at h;next x o=>rw[h] at o;exact z _ _ _ _ _ o
  split at h
  .rename_i fn D;split at h
   .rename_i c F;split at h
    .rename_i v;simp only[tF] at v;rw[yg YX,yg fc] at h
     have key:∀ {e:AExit} {s:St},xY P (runX P b d O u k) b d fn.ntmps Hs.length u c ⟨qI 0 args,yO 0 Hs,Hs.length⟩=some (e,s)->(∀i,e ≠ .exit i)->(match retX P (Nat.ble 1 (b f)&&Nat.ble (b f) 2) fn.results.toList Hs.length (ry Hs.length s) s with
       |some (r,Hs')=>match Nat.ble Hs.length Hs'.length&&(Hs'.drop Hs.length).all Jr with
        |true=>some (r,Hs')
        |false=>none
       |none=>none)=some (r,Hs')->AC P f args Hs r Hs':=by
      intro e s m C h;split at h
      .rename_i J Hs1 g;split at h
       .rename_i j;simp only[tF] at j;simp only[tL,Am] at h;obtain⟨rfl,rfl⟩:=h;refine AC.intro D F rfl rfl v.1.1 (A9 v.1.2) (A9 j.1) (λx o=>Ym<|A7.1 v.2 x o) (λx o=>Ym<|A7.1 j.2 x o) ?_;refine(wz y (sr z y p k) p m).mono λH I G=>?_;obtain⟨rfl,rfl⟩:=G;cases H with
        |exit i=>exact absurd rfl (C i)
        |normal=>exact ti g
        |ret=>exact ti g
       .cases h
      .cases h
     cases m:xY P (runX P b d O u k) b d fn.ntmps Hs.length u c ⟨qI 0 args,yO 0 Hs,Hs.length⟩ with
     |none=>rw[m] at h;cases h
     |some q=>
      obtain⟨e,s⟩:=q;rw[m] at h;cases e with
      |exit i=>cases h
      |normal=>exact key m (λi w=>by cases w) h
      |ret=>exact key m (λi w=>by cases w) h
    .cases h
   .cases h
  .cases h
theorem runX_AC {P:Program}(d:P.follows .mixedOrders=true)(b:FuncId->Nat)(e k:Nat){f:FuncId}{args:List TV}{Hs:List AObj}{r:TV}{Hs':List AObj}(h:runX P b (λ_=>none) (λ_ _ _=>none) e k f args Hs=some (r,Hs')):AC P f args Hs r Hs':=sr (λ_ _ _ _ _ h=>by cases h) d (λ_ _ _ h=>by cases h) k _ _ _ _ _ h
theorem nB:AC tB 4 [] [] (cb true) []:=runX_AC hP (λf=>bif List.contains [98,54,68] f then 0 else 1) 200 60 zg
theorem qj (vs:List Int){u:Tm}{d:Int}(h:¬((u.k==3)=true/\d<=u.n)):zE vs u d=u:=tD h
theorem Zk (lf:Tm->Int->Tm)(d:Int)(x:Tm):∀a:List Tm,zF lf (a++[x]) d=zF lf a d++[zG lf x d]
 |[]=>rfl
 |t::a=>by rw[AE,zF,zF,Zk lf d x a];rfl
theorem w7 (lf:Tm->Int->Tm)(d:Int):∀a:List Tm,(zF lf a d).length=a.length
 |[]=>rfl
 |t::a=>by rw[zF,tC,tC,w7 lf d a]
theorem qy (l:List Tm)(x:Tm):FTs l++[FT4 x]=FTs (l++[x]):=by rw[yf,yf,E4];cases x;rfl
theorem kU (vs:List Int)(t:Tm)(d:Int):(zG (zE vs) t d).sz<=t.sz:=by
 have:=Xc (b:=λ_ _=>1) (zE vs) (λu d _ h6=>yX vs u d h6) (λu d h5 h6=>by
  unfold zE;split
  .split
   .rw[XB u];show 1+0<=1+_;omega
   .rw[XB u];show 1+0<=1+_;omega
  .exact tJ _) t d
 rw[XK,XK] at this;exact this
abbrev rowV (v:Int):List FV:=[.int .i64 4,.str [],.int .i64 v,.N]
def ZG (vs:List Int):List (List FV):=vs.map rowV
theorem qD (vs:List Int):(ZG vs).length=vs.length:=by simp[ZG]
abbrev oH0 (vs:List Int):List AObj:=[]
abbrev oHp0 (vs:List Int)(t:Tm):AHeap:=(oH0 vs).zipIdx.map (λp=>(p.2,p.1))++[(0,.arr 4 [cT t]),(1,.arr 4 [[qi 0,qf<|.str [],qi 0,qf .N]])]
abbrev oEv0 (vs:List Int)(k:Int)(w:WV)(i:Int):Env:=[(1,aL<|byV vs),(2,ci k),(3,.c<|.a<|.ep 0 4 0 0),(6,.c<|.a<|.ep 1 4 0 0),(8,.c w),(9,ci i)]
theorem bH (vs:List Int)(t:Tm)(hv:validB t=true)(hz:t.sz<=1000000)(h56:t.k=5\/t.k=6)(k:Int)(hk0:0<=k)(hk1:k<=100000000)(hih:∀u∈t.l,AC tB 14 [aT u,aL<|byV vs,ci<|k+if (t.k==5)=true then 1 else 0] (oH0 vs) (aT<|zG (zE vs) u<|k+if (t.k==5)=true then 1 else 0)<|oH0 vs):
  ∀(b a:List Tm),t.l=a++b->a≠[]->RPt tB 14 0 (aT<|zG (zE vs) t k) (oH0 vs) 1 ⟨oEv0 vs k (.a<|.osl 2 4 0 a.length) a.length,oHp0 vs t++[(2,.arz 4<|FTs<|zF (zE vs) a<|k+if (t.k==5)=true then 1 else 0)],3⟩
 |[],a,hx,hne=>by
  have ha:t.l=a:=by rw[hx,tY]
  have hlen:(FTs<|zF (zE vs) a<|k+if (t.k==5)=true then 1 else 0).length=a.length:=by rw[zq,w7]
  have hlz:=Tm.szs_length t.l;have htz:=t.sz_eq;rw[ha] at hlz;refine rpv (v14_1b ..) ?_;refine⟨rfl,br_f (by rw[zq,ha];simp) ?_⟩;obtain⟨kd,s,n,l⟩:=t;have ha:l=a:=ha;subst ha;rcases h56 with h5|h6
  .have h5:kd=5:=h5;subst h5;rw[cM] at hv;simp only[tF,Al] at hv;obtain⟨⟨⟨rfl,rfl⟩,_⟩,_⟩:=hv;refine br_f rfl ⟨⟨rfl,by rw[hlen];omega⟩,?_,rfl⟩;rw[A3,tN<|by rw[hlen];exact tJ _,y5 _ (λu d _ h6=>yX vs u d h6) 5 [] 0 l k rfl];exact .refl _
  .have h6:kd=6:=h6;subst h6;obtain⟨x,y,r,rfl,hx6,_⟩:=okB6 (zB _ hv) rfl;rw[gO] at hv;simp only[tF,Al] at hv;obtain⟨⟨⟨⟨rfl,_⟩,_⟩,rfl⟩,_⟩:=hv;have e0:(k+if ((Tm.mk 6 [] 0<|x::y::r).k==5)=true then 1 else 0)=k:=Ef k;rw[e0] at hlen ⊢;have w6:¬(zG (zE vs) x k).k=6:=λe=>hx6<|Yv _ (λu d _ h6=>yX vs u d h6) x k e;have hxl:(zG (zE vs) x k).l.length<=B:=by have h1:=kU vs x k;have h2:=Tm.szs_length (zG (zE vs) x k).l;have h3:=(zG (zE vs) x k).sz_eq;simp only[Tm.sz,Tm.szs] at hz;simp only[B];omega
   simp only[B] at hxl;have hz':1+Tm.szs (x::y::r)<=1000000:=hz;simp only[tC] at hlz hlen;have c:=J4 (zG (zE vs) x k) (zF (zE vs) (y::r) k) (by rw[w7,tC];omega);refine br_t rfl ⟨⟨za,by simp only[tC];omega⟩,⟨by rw[hlen];omega,(yD _).trans (u4 _).symm,rfl⟩,⟨za,by simp only[tC];omega,za⟩,⟨rfl,by rw[hlen];simp only[tC];omega⟩,zJ (zG (zE vs) x k)<|zF (zE vs) (y::r) k,?_,?_,rfl⟩
   .have e:take (toNat (((x::y::r).length:Nat):Int)-1) (drop 1<|FTs<|zF (zE vs) (x::y::r) k)=FTs (zF (zE vs) (y::r) k):=by rw[show drop 1 (FTs<|zF (zE vs) (x::y::r) k)=FTs (zF (zE vs) (y::r) k) from rfl,tN];rw[zq,w7];simp only[tC];omega
    rw[e,show aE (getD (FTs<|zF (zE vs) (x::y::r) k) 0 [])=aT (zG (zE vs) x k) from yT _];exact c
   .rw[y5 _ (λu d _ h6=>yX vs u d h6) 6 [] 0 (x::y::r) k rfl];show TV.Le (aT (if ((zG (zE vs) x k).k==6)=true/\(zG (zE vs) x k).l≠[] then .mk 6 [] 0 ((zG (zE vs) x k).l++zF (zE vs) (y::r) k) else .mk 6 [] 0<|zG (zE vs) x k::zF (zE vs) (y::r) k)) _;rw[tD λe=>w6<|zp e.1];show TV.Le _<|aT<|.mk 6 [] 0<|zF (zE vs) (x::y::r)<|k+0;rw[Ef];exact .refl _
 |u::b,a,hx,hne=>by
  have ih:=bH vs t hv hz h56 k hk0 hk1 hih b (a++[u]) (by rw[hx];simp) zb;rw[nx,tE,Zk,<-qy] at ih;have hlen:(FTs<|zF (zE vs) a<|k+if (t.k==5)=true then 1 else 0).length=a.length:=by rw[zq,w7]
  have hlt:a.length<t.l.length:=by rw[hx];simp
  have hlz:=Tm.szs_length t.l;have htz:=t.sz_eq;have hu:=hih u (by rw[hx];simp);have em:rE (getD (FTs t.l) (toNat (a.length:Int)) [])=getD (FTs t.l) (toNat (a.length:Int)) []:=by rw[hx];exact xr a u b
  have ea:aE (getD (FTs t.l) (toNat (a.length:Int)) [])=aT u:=by rw[hx];exact xN a u b
  refine rpv (v14_1b ..) ?_;rw[ea,w64 (x:=(a.length:Int)+1) za za,w64 (x:=k+1) za za];refine⟨rfl,br_t (by rw[zq];exact zp hlt)<|zu (λq=>?_) λq=>?_⟩
  .rw[show(k+if (t.k==5)=true then 1 else 0)=k+1 by rw[tG q]] at ih hu hlen ⊢;refine⟨⟨rfl,za,by rw[zq];omega,em⟩,_,hu,tJ _,⟨by rw[hlen];exact tJ _,by unfold zI;omega⟩,?_⟩;rw[tN<|by rw[hlen];exact tJ _];exact ih
  .rw[show(k+if (t.k==5)=true then 1 else 0)=k by rw[tD<|by rw[q];simp];exact Ef k] at ih hu hlen ⊢;refine⟨⟨rfl,za,by rw[zq];omega,em⟩,_,hu,tJ _,⟨by rw[hlen];exact tJ _,by unfold zI;omega⟩,?_⟩;rw[tN<|by rw[hlen];exact tJ _];exact ih
theorem c_ropen0 (vs:List Int)(hR:VR vs)(hne:0=0->vs=[]):∀t:Tm,validB t=true->t.sz<=1000000->bd 1000000000000 t->∀k:Int,0<=k->k+t.sz<=100000000->AC tB 14 [aT t,aL<|byV vs,ci k] (oH0 vs) (aT<|zG (zE vs) t k) (oH0 vs):=by
 refine Tm.ind λt ih hv hz hb k h0 h1=>?_;have htz:=t.sz_eq;have hbk:=bd_l hb;have hvl:=hR.1;have hsl:(FTs<|byV vs).length=vs.length:=by rw[zq];simp[byV]
 by_cases h56:t.k=5\/t.k=6
 .have hih:∀u∈t.l,AC tB 14 [aT u,aL<|byV vs,ci<|k+if (t.k==5)=true then 1 else 0] (oH0 vs) (aT<|zG (zE vs) u<|k+if (t.k==5)=true then 1 else 0) (oH0 vs):=λu hu=>by
   have hv':validB u=true:=by obtain⟨kd,s,n,l⟩:=t;exact zX hv h56 u hu
   have:=Tm.szs_mem hu;exact ih u hu hv' za (yN hbk hu) _ (by split<;>omega) (by split<;>omega)
  have hl:=bH vs t hv hz h56 k h0 za hih;have hlne:∃u b,t.l=u::b:=by
   obtain⟨kd,s,n,l⟩:=t;rcases h56 with h5|h6
   .obtain⟨x,rfl,_⟩:=okB5 (zB _ hv) h5;exact⟨x,[],rfl⟩
   .obtain⟨x,y,r,rfl,_⟩:=okB6 (zB _ hv) h6;exact⟨x,_,rfl⟩
  obtain⟨u,b,el⟩:=hlne;have l1:=hl b [u] el zb;rw[show FTs (zF (zE vs) [u]<|k+if (t.k==5)=true then 1 else 0)=[FT4<|zG (zE vs) u<|k+if (t.k==5)=true then 1 else 0] from(qy [] _).symm] at l1;have hu:=hih u (by rw[el];simp);have em:rE (getD (FTs t.l) (toNat (0:Int)) [])=getD (FTs t.l) (toNat (0:Int)) []:=by rw[el];exact yD u
  have ea:aE (getD (FTs t.l) (toNat (0:Int)) [])=aT u:=by rw[el];exact yT u
  have start:RPt tB 14 0 (aT<|zG (zE vs) t k) (oH0 vs) 1 ⟨oEv0 vs k (qf .N) 0,oHp0 vs t,2⟩:=by
   refine rpv (v14_1a ..) ?_;rw[ea,w64 (x:=(0:Int)+1) za za,w64 (x:=k+1) za za];refine⟨rfl,br_t (by rw[zq,el];exact AD<|by simp only[tC];omega)<|zu (λq=>?_) λq=>?_⟩
   .rw[show(k+if (t.k==5)=true then 1 else 0)=k+1 by rw[tG q]] at l1 hu;exact⟨⟨rfl,za,by rw[zq,el];simp only[tC];omega,em⟩,_,hu,tJ _,zc,l1⟩
   .rw[show(k+if (t.k==5)=true then 1 else 0)=k by rw[tD<|by rw[q];simp];exact Ef k] at l1 hu;exact⟨⟨rfl,za,by rw[zq,el];simp only[tC];omega,em⟩,_,hu,tJ _,zc,l1⟩
  have q3:((t.k:Int)==3)=false:=by rcases h56 with e|e<;>rw[e]<;>rfl
  refine acv (v14 t.k t.s t.n (FTs t.l) ..) ?_;rcases h56 with h5|h6
  .first
   |exact br_f q3 (br_f (by rw[h5];rfl) start)
   |exact⟨rfl,br_f q3 (br_f (by rw[h5];rfl) start)⟩
  .first
   |exact br_f q3 (br_t (by rw[h6];rfl) (br_f (by rw[h6];rfl) start))
   |exact⟨rfl,br_f q3 (br_t (by rw[h6];rfl) (br_f (by rw[h6];rfl) start))⟩
 .obtain⟨kd,s,n,l⟩:=t;have n5:¬kd=5:=λe=>h56<|.inl e;have n6:¬kd=6:=λe=>h56<|.inr e;rw[yq _ kd s n l k<|by simp[n5,n6]];by_cases h3:kd=3
  .subst h3;obtain⟨hn0,hn1,rfl,rfl⟩:=kC.1 hv;have q3:(((3:Int))==3)=true:=rfl;by_cases hk:k<=n
   .rw[ZY vs hk];by_cases hl:n<k+(vs.length:Int)
    .rw[tG hl];have hi0:(0:Int)<=(vs.length:Int)-1-(n-k):=za;have hi1:(vs.length:Int)-1-(n-k)<vs.length:=za;obtain⟨i,hi⟩:∃i:Nat,(vs.length:Int)-1-(n-k)=i:=⟨((vs.length:Int)-1-(n-k)).toNat,za⟩;have hi2:i<vs.length:=za;have eg:getD (ZG vs) i []=rowV vs[i]:=by simp[ZG,getD,hi2]
     have c:=(ai (vN4 vs[i]) 0 k (by show 1<=B;simp only[B];omega) (YE _ _) za (by simp only[M61];omega) za<|by simp only[M61];omega).args (args:=[.agg [qi 4,qf<|.str [],qf<|.int .i64 vs[i],qf .N],ci 0,ci k]) ⟨leT zO,.refl _,.refl _,trivial⟩;have ev:vs.getD (toNat (i:Int)) 0=vs[i]:=by rw[(za:toNat (i:Int)=i)];simp[getD,hi2]
     refine acv (v14 3 [] n (FTs []) ..) ?_
     first
     |exact absurd (hne rfl) (by intro e;rw[e] at hi2;simp at hi2)
     |(rw[w64 (x:=k+(vs.length:Int)) za za,w64 (x:=(vs.length:Int)-1) za za,w64 (x:=n-k) za za,hi,w64 (x:=(i:Int)) za za,(za:0+toNat (i:Int)=i),eg,ev];exact br_t q3 (br_t (AD hk) (br_t (AD hl) ⟨⟨za,za⟩,⟨by rw[qD];omega,rfl,rfl⟩,_,c,.refl _,rfl⟩)))
    .rw[tD hl];refine acv (v14 3 [] n (FTs []) ..) ?_
     first
     |(rw[w64 (x:=k+(vs.length:Int)) za za,w64 (x:=n-(vs.length:Int)) za za];exact br_t q3 (br_t (AD hk) (br_f (AF hl) ⟨leT zO,rfl⟩)))
     |(rw[hsl,w64 (x:=k+(vs.length:Int)) za za,w64 (x:=n-(vs.length:Int)) za za];exact⟨rfl,br_t q3 (br_t (AD hk) (br_f (AF hl) ⟨leT zO,rfl⟩))⟩)
   .rw[qj vs λq=>hk q.2];refine acv (v14 3 [] n (FTs []) ..) ?_
    first
    |exact br_t q3 (br_f (AF hk) (br_t rfl (br_t rfl rrl)))
    |exact⟨rfl,br_t q3 (br_f (AF hk) (br_t rfl (br_t rfl rrl)))⟩
  .rw[qj vs λq=>h3<|by simpa[Tm.k] using q.1];refine acv (v14 kd s n (FTs l) ..) ?_
   first
   |exact br_f (zp h3) (br_t (zp n5) (br_t (zp n6) rrl))
   |exact⟨rfl,br_f (zp h3) (br_t (zp n5) (br_t (zp n6) rrl))⟩
abbrev oH1 (vs:List Int):List AObj:=[.arz 4<|ZG vs]
abbrev oHp1 (vs:List Int)(t:Tm):AHeap:=(oH1 vs).zipIdx.map (λp=>(p.2,p.1))++[(1,.arr 4 [cT t]),(2,.arr 4 [[qi 0,qf<|.str [],qi 0,qf .N]])]
abbrev oEv1 (vs:List Int)(k:Int)(w:WV)(i:Int):Env:=[(1,.c<|.a<|.osl 0 4 0 vs.length),(2,ci k),(3,.c<|.a<|.ep 1 4 0 0),(6,.c<|.a<|.ep 2 4 0 0),(8,.c w),(9,ci i)]
theorem pq (vs:List Int)(t:Tm)(hv:validB t=true)(hz:t.sz<=1000000)(h56:t.k=5\/t.k=6)(k:Int)(hk0:0<=k)(hk1:k<=100000000)(hih:∀u∈t.l,AC tB 14 [aT u,.c<|.a<|.osl 0 4 0 vs.length,ci<|k+if (t.k==5)=true then 1 else 0] (oH1 vs) (aT<|zG (zE vs) u<|k+if (t.k==5)=true then 1 else 0)<|oH1 vs):
  ∀(b a:List Tm),t.l=a++b->a≠[]->RPt tB 14 1 (aT<|zG (zE vs) t k) (oH1 vs) 1 ⟨oEv1 vs k (.a<|.osl 3 4 0 a.length) a.length,oHp1 vs t++[(3,.arz 4<|FTs<|zF (zE vs) a<|k+if (t.k==5)=true then 1 else 0)],4⟩
 |[],a,hx,hne=>by
  have ha:t.l=a:=by rw[hx,tY]
  have hlen:(FTs<|zF (zE vs) a<|k+if (t.k==5)=true then 1 else 0).length=a.length:=by rw[zq,w7]
  have hlz:=Tm.szs_length t.l;have htz:=t.sz_eq;rw[ha] at hlz;refine rpv (KK ..) ?_;refine⟨rfl,br_f (by rw[zq,ha];simp) ?_⟩;obtain⟨kd,s,n,l⟩:=t;have ha:l=a:=ha;subst ha;rcases h56 with h5|h6
  .have h5:kd=5:=h5;subst h5;rw[cM] at hv;simp only[tF,Al] at hv;obtain⟨⟨⟨rfl,rfl⟩,_⟩,_⟩:=hv;refine br_f rfl ⟨⟨rfl,by rw[hlen];omega⟩,?_,rfl⟩;rw[A3,tN<|by rw[hlen];exact tJ _,y5 _ (λu d _ h6=>yX vs u d h6) 5 [] 0 l k rfl];exact .refl _
  .have h6:kd=6:=h6;subst h6;obtain⟨x,y,r,rfl,hx6,_⟩:=okB6 (zB _ hv) rfl;rw[gO] at hv;simp only[tF,Al] at hv;obtain⟨⟨⟨⟨rfl,_⟩,_⟩,rfl⟩,_⟩:=hv;have e0:(k+if ((Tm.mk 6 [] 0<|x::y::r).k==5)=true then 1 else 0)=k:=Ef k;rw[e0] at hlen ⊢;have w6:¬(zG (zE vs) x k).k=6:=λe=>hx6<|Yv _ (λu d _ h6=>yX vs u d h6) x k e;have hxl:(zG (zE vs) x k).l.length<=B:=by have h1:=kU vs x k;have h2:=Tm.szs_length (zG (zE vs) x k).l;have h3:=(zG (zE vs) x k).sz_eq;simp only[Tm.sz,Tm.szs] at hz;simp only[B];omega
   simp only[B] at hxl;have hz':1+Tm.szs (x::y::r)<=1000000:=hz;simp only[tC] at hlz hlen;have c:=J4 (zG (zE vs) x k) (zF (zE vs) (y::r) k) (by rw[w7,tC];omega);refine br_t rfl ⟨⟨za,by simp only[tC];omega⟩,⟨by rw[hlen];omega,(yD _).trans (u4 _).symm,rfl⟩,⟨za,by simp only[tC];omega,za⟩,⟨rfl,by rw[hlen];simp only[tC];omega⟩,zJ (zG (zE vs) x k)<|zF (zE vs) (y::r) k,?_,?_,rfl⟩
   .have e:take (toNat (((x::y::r).length:Nat):Int)-1) (drop 1<|FTs<|zF (zE vs) (x::y::r) k)=FTs (zF (zE vs) (y::r) k):=by rw[show drop 1 (FTs<|zF (zE vs) (x::y::r) k)=FTs (zF (zE vs) (y::r) k) from rfl,tN];rw[zq,w7];simp only[tC];omega
    rw[e,show aE (getD (FTs<|zF (zE vs) (x::y::r) k) 0 [])=aT (zG (zE vs) x k) from yT _];exact c
   .rw[y5 _ (λu d _ h6=>yX vs u d h6) 6 [] 0 (x::y::r) k rfl];show TV.Le (aT (if ((zG (zE vs) x k).k==6)=true/\(zG (zE vs) x k).l≠[] then .mk 6 [] 0 ((zG (zE vs) x k).l++zF (zE vs) (y::r) k) else .mk 6 [] 0<|zG (zE vs) x k::zF (zE vs) (y::r) k)) _;rw[tD λe=>w6<|zp e.1];show TV.Le _<|aT<|.mk 6 [] 0<|zF (zE vs) (x::y::r)<|k+0;rw[Ef];exact .refl _
 |u::b,a,hx,hne=>by
  have ih:=pq vs t hv hz h56 k hk0 hk1 hih b (a++[u]) (by rw[hx];simp) zb;rw[nx,tE,Zk,<-qy] at ih;have hlen:(FTs<|zF (zE vs) a<|k+if (t.k==5)=true then 1 else 0).length=a.length:=by rw[zq,w7]
  have hlt:a.length<t.l.length:=by rw[hx];simp
  have hlz:=Tm.szs_length t.l;have htz:=t.sz_eq;have hu:=hih u (by rw[hx];simp);have em:rE (getD (FTs t.l) (toNat (a.length:Int)) [])=getD (FTs t.l) (toNat (a.length:Int)) []:=by rw[hx];exact xr a u b
  have ea:aE (getD (FTs t.l) (toNat (a.length:Int)) [])=aT u:=by rw[hx];exact xN a u b
  refine rpv (KK ..) ?_;rw[ea,w64 (x:=(a.length:Int)+1) za za,w64 (x:=k+1) za za];refine⟨rfl,br_t (by rw[zq];exact zp hlt)<|zu (λq=>?_) λq=>?_⟩
  .rw[show(k+if (t.k==5)=true then 1 else 0)=k+1 by rw[tG q]] at ih hu hlen ⊢;refine⟨⟨rfl,za,by rw[zq];omega,em⟩,_,hu,tJ _,⟨by rw[hlen];exact tJ _,by unfold zI;omega⟩,?_⟩;rw[tN<|by rw[hlen];exact tJ _];exact ih
  .rw[show(k+if (t.k==5)=true then 1 else 0)=k by rw[tD<|by rw[q];simp];exact Ef k] at ih hu hlen ⊢;refine⟨⟨rfl,za,by rw[zq];omega,em⟩,_,hu,tJ _,⟨by rw[hlen];exact tJ _,by unfold zI;omega⟩,?_⟩;rw[tN<|by rw[hlen];exact tJ _];exact ih
theorem c_ropen1 (vs:List Int)(hR:VR vs)(hne:1=0->vs=[]):∀t:Tm,validB t=true->t.sz<=1000000->bd 1000000000000 t->∀k:Int,0<=k->k+t.sz<=100000000->AC tB 14 [aT t,.c<|.a<|.osl 0 4 0 vs.length,ci k] (oH1 vs) (aT<|zG (zE vs) t k) (oH1 vs):=by
 refine Tm.ind λt ih hv hz hb k h0 h1=>?_;have htz:=t.sz_eq;have hbk:=bd_l hb;have hvl:=hR.1;have hsl:(FTs<|byV vs).length=vs.length:=by rw[zq];simp[byV]
 by_cases h56:t.k=5\/t.k=6
 .have hih:∀u∈t.l,AC tB 14 [aT u,.c<|.a<|.osl 0 4 0 vs.length,ci<|k+if (t.k==5)=true then 1 else 0] (oH1 vs) (aT<|zG (zE vs) u<|k+if (t.k==5)=true then 1 else 0) (oH1 vs):=λu hu=>by
   have hv':validB u=true:=by obtain⟨kd,s,n,l⟩:=t;exact zX hv h56 u hu
   have:=Tm.szs_mem hu;exact ih u hu hv' za (yN hbk hu) _ (by split<;>omega) (by split<;>omega)
  have hl:=pq vs t hv hz h56 k h0 za hih;have hlne:∃u b,t.l=u::b:=by
   obtain⟨kd,s,n,l⟩:=t;rcases h56 with h5|h6
   .obtain⟨x,rfl,_⟩:=okB5 (zB _ hv) h5;exact⟨x,[],rfl⟩
   .obtain⟨x,y,r,rfl,_⟩:=okB6 (zB _ hv) h6;exact⟨x,_,rfl⟩
  obtain⟨u,b,el⟩:=hlne;have l1:=hl b [u] el zb;rw[show FTs (zF (zE vs) [u]<|k+if (t.k==5)=true then 1 else 0)=[FT4<|zG (zE vs) u<|k+if (t.k==5)=true then 1 else 0] from(qy [] _).symm] at l1;have hu:=hih u (by rw[el];simp);have em:rE (getD (FTs t.l) (toNat (0:Int)) [])=getD (FTs t.l) (toNat (0:Int)) []:=by rw[el];exact yD u
  have ea:aE (getD (FTs t.l) (toNat (0:Int)) [])=aT u:=by rw[el];exact yT u
  have start:RPt tB 14 1 (aT<|zG (zE vs) t k) (oH1 vs) 1 ⟨oEv1 vs k (qf .N) 0,oHp1 vs t,3⟩:=by
   refine rpv (sL ..) ?_;rw[ea,w64 (x:=(0:Int)+1) za za,w64 (x:=k+1) za za];refine⟨rfl,br_t (by rw[zq,el];exact AD<|by simp only[tC];omega)<|zu (λq=>?_) λq=>?_⟩
   .rw[show(k+if (t.k==5)=true then 1 else 0)=k+1 by rw[tG q]] at l1 hu;exact⟨⟨rfl,za,by rw[zq,el];simp only[tC];omega,em⟩,_,hu,tJ _,zc,l1⟩
   .rw[show(k+if (t.k==5)=true then 1 else 0)=k by rw[tD<|by rw[q];simp];exact Ef k] at l1 hu;exact⟨⟨rfl,za,by rw[zq,el];simp only[tC];omega,em⟩,_,hu,tJ _,zc,l1⟩
  have q3:((t.k:Int)==3)=false:=by rcases h56 with e|e<;>rw[e]<;>rfl
  refine acv (KR t.k t.s t.n (FTs t.l) ..) ?_;rcases h56 with h5|h6
  .first
   |exact br_f q3 (br_f (by rw[h5];rfl) start)
   |exact⟨rfl,br_f q3 (br_f (by rw[h5];rfl) start)⟩
  .first
   |exact br_f q3 (br_t (by rw[h6];rfl) (br_f (by rw[h6];rfl) start))
   |exact⟨rfl,br_f q3 (br_t (by rw[h6];rfl) (br_f (by rw[h6];rfl) start))⟩
 .obtain⟨kd,s,n,l⟩:=t;have n5:¬kd=5:=λe=>h56<|.inl e;have n6:¬kd=6:=λe=>h56<|.inr e;rw[yq _ kd s n l k<|by simp[n5,n6]];by_cases h3:kd=3
  .subst h3;obtain⟨hn0,hn1,rfl,rfl⟩:=kC.1 hv;have q3:(((3:Int))==3)=true:=rfl;by_cases hk:k<=n
   .rw[ZY vs hk];by_cases hl:n<k+(vs.length:Int)
    .rw[tG hl];have hi0:(0:Int)<=(vs.length:Int)-1-(n-k):=za;have hi1:(vs.length:Int)-1-(n-k)<vs.length:=za;obtain⟨i,hi⟩:∃i:Nat,(vs.length:Int)-1-(n-k)=i:=⟨((vs.length:Int)-1-(n-k)).toNat,za⟩;have hi2:i<vs.length:=za;have eg:getD (ZG vs) i []=rowV vs[i]:=by simp[ZG,getD,hi2]
     have c:=(ai (vN4 vs[i]) 0 k (by show 1<=B;simp only[B];omega) (YE _ _) za (by simp only[M61];omega) za<|by simp only[M61];omega).args (args:=[.agg [qi 4,qf<|.str [],qf<|.int .i64 vs[i],qf .N],ci 0,ci k]) ⟨leT zO,.refl _,.refl _,trivial⟩;have ev:vs.getD (toNat (i:Int)) 0=vs[i]:=by rw[(za:toNat (i:Int)=i)];simp[getD,hi2]
     refine acv (KR 3 [] n (FTs []) ..) ?_
     first
     |exact absurd (hne rfl) (by intro e;rw[e] at hi2;simp at hi2)
     |(rw[w64 (x:=k+(vs.length:Int)) za za,w64 (x:=(vs.length:Int)-1) za za,w64 (x:=n-k) za za,hi,w64 (x:=(i:Int)) za za,(za:0+toNat (i:Int)=i),eg,ev];exact br_t q3 (br_t (AD hk) (br_t (AD hl) ⟨⟨za,za⟩,⟨by rw[qD];omega,rfl,rfl⟩,_,c,.refl _,rfl⟩)))
    .rw[tD hl];refine acv (KR 3 [] n (FTs []) ..) ?_
     first
     |(rw[w64 (x:=k+(vs.length:Int)) za za,w64 (x:=n-(vs.length:Int)) za za];exact br_t q3 (br_t (AD hk) (br_f (AF hl) ⟨leT zO,rfl⟩)))
     |(rw[hsl,w64 (x:=k+(vs.length:Int)) za za,w64 (x:=n-(vs.length:Int)) za za];exact⟨rfl,br_t q3 (br_t (AD hk) (br_f (AF hl) ⟨leT zO,rfl⟩))⟩)
   .rw[qj vs λq=>hk q.2];refine acv (KR 3 [] n (FTs []) ..) ?_
    first
    |exact br_t q3 (br_f (AF hk) (br_t rfl (br_t rfl rrl)))
    |exact⟨rfl,br_t q3 (br_f (AF hk) (br_t rfl (br_t rfl rrl)))⟩
  .rw[qj vs λq=>h3<|by simpa[Tm.k] using q.1];refine acv (KR kd s n (FTs l) ..) ?_
   first
   |exact br_f (zp h3) (br_t (zp n5) (br_t (zp n6) rrl))
   |exact⟨rfl,br_f (zp h3) (br_t (zp n5) (br_t (zp n6) rrl))⟩
abbrev oPs:List Cd->List AObj
 |[]=> []
 |c::l=> [.arz 6<|FCs<|c::l]
abbrev wPs:List Cd->TV
 |[]=>.c<|.a<|.fz .N
 |c::l=>.c<|.a<|.osl 0 6 0 (c::l).length
abbrev oxPs (l:List Cd):AHeap:=numO 0<|oPs l
def nxPs:List Cd->Nat
 |[]=>0
 |_::_=>1
abbrev stPg (L:List Cl)(i:Int)(out:List Cd):St:=⟨[(4,wPs out),(9,aCls L),(10,ci (((CLs L).length:Nat):Int)),(11,ci i)],oxPs out,nxPs out⟩
abbrev tPg (l:List Cd)(e:Int):TV:=.tup [(false,[qf<|.sl false 6<|FCs l]),(false,[qi e])]
theorem gv (l:List Cd)(x:Cd):FCs l++[[.str x.nm,.int .i64 x.ar,.int .i64 x.fr,.int .i64 x.vs,.int .i64 x.sl,.sl false 8<|FIs x.ins]]=FCs (l++[x]):=by rw[jo,jo,E4];show _=List.map FC l++[FC x];rw[iG x]
theorem lePg0 (e:Int):TV.Le (.tup [(false,[qf .N]),(false,[qi e])]) (tPg [] e):=
 jL ⟨lw1<|.a _ _<|.fz _ _<|.N 6,lwR _,trivial⟩
def PgX (l:List Cd)(L:List Cl):Prop:=l=L.map (λc=>(xD c).1)/\∀c∈L,(xD c).2=0
theorem l_prog (L:List Cl)(hL:L.length<=20)(h:∀c∈L,TSW c.2.1/\TSW c.2.2):∀(b a:List Cl) (out:List Cd),L=a++b->PgX out a->
  ∃l e,RPt tB 8 0 (tPg l e) [] 1 (stPg L a.length out)/\(e=0->PgX l L)
 |[],a,out,hab,ho=>by
  have hge:¬(a.length:Int)<(((CLs L).length:Nat):Int):=by rw[zW,hab];simp
  refine⟨out,0,?_,λ_=>by rw[hab,tY];exact ho⟩
  match out with
  |[]=>exact rpv (v8_1a ..)<|bF hge ⟨lePg0 0,rfl⟩
  |x::l=>refine rpv (v8_1b ..)<|bF hge ⟨⟨rfl,by rw[yB];omega⟩,?_⟩;rw[A3,tN<|by rw[yB];exact tJ _];exact rrl
 |c::b,a,out,hab,ho=>by
  have hlen:a.length<=20:=by rw[hab] at hL;simp at hL;omega
  have hlt:(a.length:Int)<(((CLs L).length:Nat):Int):=by rw[zW,hab];simp;omega
  have hc:=h c (by rw[hab];simp);have g1:=rT c hc.1 hc.2;have em:=ZC a c b;rw[<-hab] at em;have el:FV.L 9 (.sl false 9<|CLs L)=true/\((0:Int)<=(a.length:Int)/\((a.length:Int)<(((CLs L).length:Nat):Int)/\True)):=⟨rfl,za,hlt,trivial⟩;cases he:decide ((xD c).2=0) with
  |false=>
   have he:(xD c).2≠0:=tP he;refine⟨[],(xD c).2,?_,λh=>absurd h he⟩
   match out with
   |[]=>refine rpv (v8_1a ..) ?_;rw[em];exact bT hlt ⟨⟨rfl,za,hlt,rfl⟩,_,g1,zu (λ_=>⟨lePg0 _,rfl⟩) λw=>absurd (zp w) he⟩
   |x::l=>refine rpv (v8_1b ..) ?_;rw[em];exact bT hlt ⟨⟨rfl,za,hlt,rfl⟩,_,g1,zu (λ_=>⟨lePg0 _,rfl⟩) λw=>absurd (zp w) he⟩
  |true=>
   have he:(xD c).2=0:=hU he;have hol:out.length=a.length:=by rw[ho.1,Ax]
   obtain⟨l,e,hr,hok⟩:=l_prog L hL h b (a++[c]) (out++[(xD c).1]) (by rw[hab];simp) ⟨by rw[ho.1,E4];rfl,λd hd=>by
    rcases A0.1 hd with hd|hd
    .exact ho.2 d hd
    .rw[AO.1 hd];exact he⟩
   refine⟨l,e,?_,hok⟩;have e1:((a++[c]).length:Int)=wrap .i64 ((a.length:Int)+1):=by rw[w64 za za];simp
   rw[e1] at hr
   match out,hr with
   |[],hr=>refine rpv (v8_1a ..) ?_;rw[em];exact zu (λ_=>⟨⟨rfl,za,hlt,rfl⟩,_,g1,zu (λw=>by rw[he] at w;cases w) λ_=>⟨tJ _,zc,by have:=gv [] (xD c).1;rw[FCs,E0] at this;rw[this];exact hr⟩⟩) λw=>absurd hlt<|tP w
   |x::l2,hr=>refine rpv (v8_1b ..) ?_;rw[em];refine bT hlt ⟨⟨rfl,za,hlt,rfl⟩,_,g1,zu (λw=>by rw[he] at w;cases w) λ_=>⟨tJ _,⟨by rw[yB];exact tJ _,by simp at hol ⊢;unfold zI;omega⟩,?_⟩⟩;rw[tN<|by rw[yB];exact tJ _,gv<|x::l2];have e2:(x::l2).length+1=(x::(l2++[(xD c).1])).length:=zb;rw[e2];exact hr
theorem c_pprog (L:List Cl)(hL:L.length<=20)(h:∀c∈L,TSW c.2.1/\TSW c.2.2):∃l e,AC tB 8 [aCls L] [] (tPg l e) []/\(e=0->PgX l L):=by obtain⟨l,e,hr,ho⟩:=l_prog L hL h L [] [] rfl ⟨rfl,λc hc=>nomatch hc⟩;exact⟨l,e,acv (v8 ..) ⟨rfl,hr⟩,ho⟩
theorem wt_szM:∀t:Tm,wt t<=4*t.sz:=by
 refine Tm.ind λt ih=>?_;obtain⟨k,s,n,l⟩:=t
 have e:∀l2:List Tm,(∀u∈l2,u∈l)->mss wb l2<=4*Tm.szs l2:=λl2=>by
  induction l2 with
  |nil=>intro _;exact tJ _
  |cons x l2 b=>intro h;have d:=ih x<|h x tM;have g:=b λy f=>h y<|tK _ f;rw[Tm.szs,mss];unfold wt at d;omega
 have:=e l λ_ h=>h;unfold wt;rw[Tm.sz,ms];have h:wb k s<=4:=by unfold wb;split<;>omega
 omega
theorem cY {c:Cl}(h1:TSW c.2.1)(h2:TSW c.2.2)(he:(xD c).2=0):(xD c).1=Zi N0 c/\OKc N0 c 0/\zC (Zi N0 c)/\(zr c.2.1).1.k=0:=by
 have hr:(uS N0 [c] ZP 0&&vC (Zi N0 c))=true:=by
  cases q:(uS N0 [c] ZP 0&&vC (Zi N0 c)) with
  |true=>rfl
  |false=>unfold xD at he;rw[mo q] at he;cases he
 have e:(xD c).1=Zi N0 c:=by unfold xD YW;rw[hr];rfl
 rw[tF] at hr;obtain⟨t1,t2⟩:=ts_of h1 h2 hr.1;obtain⟨hk,hb⟩:=ah t1 t2 hr.1;exact⟨e,hk,(lY t1 t2 hk).1,((ip _ _).1 hb).2.2.2.1.1⟩
def stL (l:List Int):Sto:=⟨l.map λv=>⟨xH [v,0],false,noT⟩,[]⟩
theorem ir (l:List Int):OKS (stL l)/\WF (stL l)/\OKT (stL l):=by
 refine⟨λi b d=>?_,λi b _=>?_,λi b=>nomatch b⟩
 .obtain⟨w,_,rfl⟩:=Ay.1 b;cases d
 .obtain⟨w,_,rfl⟩:=Ay.1 b;rfl
abbrev zS (n:Nat):Sto:=stL<|List.replicate n 0
theorem dM (n:Nat):freshS (zS n) 0=zS (n+1):=by unfold zS;rw[List.replicate_succ'];simp[freshS,stL]
theorem W5 (n:Nat):(zS n).V.length=n/\(zS n).T.length=0:=by simp[zS,stL]
theorem sA (a b:Key):xZ a b=xZ b a:=by obtain⟨a1,a2,a3,a4,a5⟩:=a;obtain⟨b1,b2,b3,b4,b5⟩:=b;unfold xZ;cases a1<;>cases b1<;>simp[Bool.beq_comm,BEq.comm]
theorem i6 {nm:List UInt8}{ar:Int}{k:Key}:∀(l:List Cd) (i:Int) (j:Nat) (c:Cd),l[j]?=some c->c.nm=nm->c.ar=ar->xZ (firstK c) k=true->i+j∈selL nm ar k l i
 |d::l,i,0,c,h,h1,h2,h3=>by
  injection h with h
  subst h;rw[selL,tG<|by rw[h1,h2,h3];simp];simp
 |d::l,i,j+1,c,h,h1,h2,h3=>by
  have:=i6 l (i+1) j c h h1 h2 h3;rw[show i+((j+1:Nat):Int)=i+1+(j:Int) by omega,selL];split
  .exact tK _ this
  .exact this
theorem fe {t:Tm}{F:Nat}(hv:validB t=true)(hz:t.sz<=100)(hb:bd 2000000000000 t)(hF:F<=2000):okP F t:=
 ⟨hv,zB _ hv,by simp only[SZ];omega,yQ (by simp only[M61,SZ];omega) _ hb,za⟩
section
variable (L:List Cl) (hL:L.length<=8) (t:Tm) (n:Nat) (hn:n<=20)
abbrev ie4:TV:=.c<|.a<|.ep 0 4 0 0
abbrev ix1 (i:Int):St:=⟨[(0,aCls L),(2,ci n),(4,ie4),(7,cb true),(11,ci i)],[(0,.arr 4 [cT t])],1⟩
abbrev ixE (i:Int)(w:FV):Env:=[(0,aCls L),(2,ci n),(4,ie4),(7,cb true),(14,.c<|qf w),(16,ci i)]
abbrev ix5 (qs:List Cd)(i:Int):St:=⟨ixE L n i<|.sl false 6<|FCs qs,[(0,.arr 4 [cT t])],1⟩
abbrev ixH (f:Tm)(s:Sto):AHeap:=[(0,.arr 4 [cT t]),(1,.arr 4 [cT f]),(2,sto2 3 4 s),(3,.arz 6<|SR s.V),(4,.arz 1<|IR s.T)]
abbrev ixA (args:List Tm):Env:=[(17,.c<|.a<|.ep 1 4 0 0),(18,aL args),(19,.c<|.a<|.ep 2 2 0 0)]
abbrev ix9 (qs:List Cd)(i:Int)(f:Tm)(args:List Tm)(s:Sto)(k:Int):St:=⟨ixE L n i (.sl false 6<|FCs qs)++(ixA args++[(20,ci k)]),ixH t f s,5⟩
abbrev ix13a (qs:List Cd)(i:Int)(f:Tm)(args:List Tm)(s:Sto)(k:Int):St:=⟨ixE L n i (.sl false 6<|FCs qs)++(ixA args++[(21,.c<|qf .N),(22,ci k)]),ixH t f s,5⟩
abbrev ix13b (qs:List Cd)(i:Int)(f:Tm)(args:List Tm)(s:Sto)(vs:List Int)(k:Nat):St:=⟨ixE L n i (.sl false 6<|FCs qs)++(ixA args++[(21,.c<|.a<|.osl 5 4 0 k),(22,ci (k:Int))]),ixH t f s++[(5,.arz 4<|ZG vs)],6⟩
abbrev ix17 (qs:List Cd)(i:Int)(m:List Int)(x:Bool)(j:Int):St:=⟨ixE L n i (.sl false 6<|FCs qs)++[(28,aIs m),(29,cb x),(30,ci j)],[(0,.arr 4 [cT t])],1⟩
theorem l_in (qs:List Cd)(i:Nat)(m:List Int)(hm:m.length<=300)(next:RPt tB 3 0 (cb true) [] 5<|ix5 L t n qs<|wrap .i64<|(i:Int)+1):∀(b a:List Int) (x:Bool),m=a++b->(x=true\/(i:Int)∈b)->RPt tB 3 0 (cb true) [] 17 (ix17 L t n qs i m x a.length)
 |[],a,x,hab,hx=>by
  have hx:x=true:=by rcases hx with h|h;exact h;cases h
  subst hx;obtain⟨tk,ts,tn,tl⟩:=t;refine rpv (v3_17a ..) ?_;exact⟨rfl,bF (by rw[hab];simp[IR]) <| bN next⟩
 |y::b,a,x,hab,hx=>by
  have hlt:(a.length:Int)<(((IR m).length:Nat):Int):=by rw[hab];simp[IR];omega
  have em:getD (IR m) (toNat (a.length:Int)) []=[.int .i64 y]:=by rw[hab];simp[IR,getD]
  have hl:a.length<=300:=by rw[hab] at hm;simp at hm;omega
  have ih:=λx hx=>l_in qs i m hm next b (a++[y]) x (by rw[hab];simp) hx;rw[show((a++[y]).length:Int)=wrap .i64 ((a.length:Int)+1) by rw[w64 za za];simp] at ih;obtain⟨tk,ts,tn,tl⟩:=t;refine rpv (v3_17a ..) ?_;rw[em];refine⟨rfl,bT hlt<|zu (λh=>ih true<|.inl rfl) λh=>⟨⟨rfl,za,hlt,rfl⟩,ih (y==(i:Int)) ?_⟩⟩;rcases hx with hx|hx
  .rw[hx] at h;cases h
  .rcases A1.1 hx with hx|hx
   .left;rw[hx];simp
   .exact .inr hx
theorem l_tail (qs:List Cd) (hcs:qs.length<=300) (hz:∀d∈qs,zC d) (i:Nat) (f a0:Tm) (ar:List Tm) (S vs:List Int) (hl:S.length=vs.length) (va0:validB a0=true) (d:Cd) (hd:qs[i]?=some d) (hnm:d.nm=f.s) (har:d.ar=((a0::ar).length:Int)) (hfk:firstK d=keyOf (openG S a0))
  (N:Nat) (hN:N<=100) (vt:validB t=true) (zt:t.sz<=100) (bt:bd 2000000000000 t) (vo:validB (openG vs a0)=true) (zo:(openG vs a0).sz<=100) (bo:bd 2000000000000<|openG vs a0) (he:(zZ (zS N) 50 t).2.2=0) (next:RPt tB 3 0 (cb true) [] 5<|ix5 L t n qs<|wrap .i64<|(i:Int)+1):
  ∃z4:(Int×Int)×Sto,AC tB 13 [aS 0,aT t,aT<|openG vs a0,ci 100] (oS<|zS N) (aE2 z4.1) (oS' z4.2)/\(z4.1.2≠170->∃m:List Int,AC tB 15 [aCs qs,cs f.s,ci (((FTs<|a0::ar).length:Nat):Int),aK<|keyOf (zZ (zS N) 50 t).1] [] (aIs m) []/\RPt tB 3 0 (cb true) [] 17 (ix17 L t n qs i m false 0)):=by
 have so:=ir<|List.replicate N 0;have sl:=W5 N;have zz:∀p∈ [(t,openG vs a0)],p.1.sz<=B/\p.2.sz<=B:=λp hp=>by rw[AO.1 hp];simp only[B];omega
 have hc:=c_unify (zS N) t (openG vs a0) 100 (c_uallU (C:=N+100) za za zb so.2.1 so.2.2 zz (λ_=>⟨so.1,by rw[sl.1];exact tJ _,by rw[sl.2];omega,za,λp hp=>by rw[AO.1 hp];exact⟨fe vt zt bt zc,fe vo zo bo zc⟩,zb⟩));refine⟨_,hc,λhu=>?_⟩;have hh:=kG so.1 (f:=50) (t:=t) za (λ_=>(fe vt zt bt zc).2) he;have hm:xZ (firstK d) (keyOf (zZ (zS N) 50 t).1)=true:=by
  cases q:xZ (firstK d) (keyOf (zZ (zS N) 50 t).1) with
  |true=>rfl
  |false=>
   have ka:=(mR q).1;rw[hfk] at ka q;have ke:=key_open hl va0 ka;rw[<-ke,sA] at q;have:=failsH (s:=zS N) (a:=t) (b:=openG vs a0) (x:=(zZ (zS N) 50 t).1) (g:=(zZ (zS N) 50 t).2.1) vt vo hh.1 (by rw[<-he]) hh.2.2.1 q;rw[this] at hu;exact absurd rfl hu
 refine⟨selL f.s ((a0::ar).length:Int) (keyOf (zZ (zS N) 50 t).1) qs 0,?_,?_⟩
 .rw[zq];exact c_isel qs hcs hz _ _ _
 .have mem:=i6 (nm:=f.s) (ar:=((a0::ar).length:Int)) qs 0 i d hd hnm har hm;rw[Int.zero_add] at mem;exact l_in L t n qs i _ (AX (pj ..) hcs) next _ [] false rfl (.inr mem)
structure IxC (a:List Cl)(c:Cl)(b:List Cl)(qs:List Cd)(f a0:Tm)(ar:List Tm):Prop where
 hab:L=a++c::b
 hl:L.length<=8
 hcs:qs.length<=300
 hz:∀d∈qs,zC d
 v0:0<=c.1
 v1:c.1<=20
 tg:TG 4000000 a0
 z0:a0.sz<=100
 d:∃d,qs[a.length]?=some d/\d.nm=f.s/\d.ar=((a0::ar).length:Int)/\firstK d=keyOf (openG (slotsF c.1.toNat 0) a0)
 vt:validB t=true
 zt:t.sz<=100
 bt:bd 2000000000000 t
 nx0:RPt tB 3 0 (cb true) [] 5<|ix5 L t n qs<|wrap .i64<|(a.length:Int)+1
include hn
theorem l_13b {a b:List Cl}{c:Cl}{qs:List Cd}{f a0:Tm}{ar:List Tm}(h:IxC L t n a c b qs f a0 ar):∀m k:Nat,k+m=c.1.toNat->1<=k->RPt tB 3 0 (cb true) [] 13 (ix13b L t n qs a.length f (a0::ar) (zS<|n+k) (slotsF k n) k)
 |0,k,hk,h1=>by
  have v0:=h.v0;have v1:=h.v1;have hk2:(k:Int)=c.1:=za;have em:getD (CLs L) (toNat (a.length:Int)) []=FL c:=by rw[h.hab];exact ZC a c b
  have hlt:(a.length:Int)<(((CLs L).length:Nat):Int):=by rw[zW,h.hab];simp;omega
  have hR:VR (slotsF k n):=kX za za za;obtain⟨go,_⟩:=TG.open zc (slotsF k n) hR.2 a0 h.tg;have zo:=kU (slotsF k n) a0 0;have ho:=c_ropen1 (slotsF k n) hR (λe=>by cases e) a0 h.tg.1 h.tg.2.1 (yQ zc _ h.tg.2.2) 0 (tU 0) (by have:=h.z0;omega);rw[show(slotsF k (n:Int)).length=k from xy ..] at ho;have so:=ir<|List.replicate (n+k) 0;have hh:=JQ (zS<|n+k) so.1 50 t za (by have:=h.zt;simp only[B];omega) (λ_=>(fe h.vt h.zt h.bt zc).2);have hb:=c_kof (zZ (zS<|n+k) 50 t).1<|dq so.1 za λ_=>(fe h.vt h.zt h.bt zc).2;obtain⟨d,hd,hnm,har,hfk⟩:=h.d;have tl:=l_tail L t n qs h.hcs h.hz a.length f a0 ar (slotsF c.1.toNat 0) (slotsF k n) (by rw[xy,xy];omega) h.tg.1 d hd hnm har hfk (n+k) za h.vt h.zt h.bt go.1 (AX zo h.z0)<|yQ zc _ go.2.2;have nx:=h.nx0;have e0:aE (getD (FTs<|a0::ar) 0 [])=aT a0:=yT a0;have r0:(rE (getD (FTs<|a0::ar) 0 []):List FV)=getD (FTs<|a0::ar) 0 []:=yD a0;have l0:(0:Int)<(((FTs<|a0::ar).length:Nat):Int):=by rw[zq];simp only[tC];omega
  generalize keyOf (zZ (zS<|n+k) 50 t).1=K at*;generalize zZ (zS<|n+k) 50 t=z at*;obtain⟨tk,ts,tn,tl'⟩:=t;obtain⟨fk,fs,fn,fl⟩:=f;refine rpv (v3_13b ..) ?_;rw[em,e0];refine⟨⟨rfl,za,hlt,rfl⟩,bF (by show¬(k:Int)<c.1;omega) ⟨z,hh,zu (λ_=>zD rfl) λq=>?_⟩⟩;obtain⟨z4,hu,rest⟩:=tl (zp q) nx;refine⟨⟨rfl,za,l0,r0⟩,openG (slotsF k n) a0,ho,z4,hu,zu (λ_=>nx) λq=>?_⟩;obtain⟨m,hsel,hin⟩:=rest (zp q);exact⟨rfl,K.any,K.k,K.nm,K.n,K.ar,hb,m,hsel,hin⟩
 |m+1,k,hk,h1=>by
  have v0:=h.v0;have v1:=h.v1;have em:getD (CLs L) (toNat (a.length:Int)) []=FL c:=by rw[h.hab];exact ZC a c b
  have hlt:(a.length:Int)<(((CLs L).length:Nat):Int):=by rw[zW,h.hab];simp;omega
  have next:=l_13b h m (k+1) za za;have hs:=Y5 (zS<|n+k) 0 (by rw[(W5 _).1];omega);rw[dM,(W5 _).1] at hs;unfold ix13b at next;rw[qM,show((k+1:Nat):Int)=wrap .i64 ((k:Int)+1) by rw[w64 za za];omega] at next
  have er:take k (ZG<|slotsF k (n:Int))++[rowV ((n+k:Nat):Int)]=ZG (slotsF k (n:Int)++[(n:Int)+k]):=by rw[tN<|by rw[qD,xy];exact tJ _,ZG,ZG,E4,show((n+k:Nat):Int)=(n:Int)+k by omega];rfl
  obtain⟨tk,ts,tn,tl'⟩:=t;obtain⟨fk,fs,fn,fl⟩:=f;refine rpv (v3_13b ..) ?_;rw[em];refine⟨⟨rfl,za,hlt,rfl⟩,bT (show(k:Int)<c.1 by omega) ⟨(((n+k:Nat):Int),zS<|n+k+1),hs,tJ _,⟨by rw[qD,xy];exact tJ _,by unfold zI;omega⟩,?_⟩⟩;rw[er];exact next
theorem l_13a {a b:List Cl}{c:Cl}{qs:List Cd}{f a0:Tm}{ar:List Tm}(h:IxC L t n a c b qs f a0 ar):RPt tB 3 0 (cb true) [] 13 (ix13a L t n qs a.length f (a0::ar) (zS n) 0):=by
 have v0:=h.v0;have v1:=h.v1;have em:getD (CLs L) (toNat (a.length:Int)) []=FL c:=by rw[h.hab];exact ZC a c b
 have hlt:(a.length:Int)<(((CLs L).length:Nat):Int):=by rw[zW,h.hab];simp;omega
 by_cases hc:0<c.1
 .have next:=l_13b L t n hn h (c.1.toNat-1) 1 za za;have hs:=Y5 (zS n) 0 (by rw[(W5 _).1];omega);rw[dM,(W5 _).1] at hs;obtain⟨tk,ts,tn,tl'⟩:=t;obtain⟨fk,fs,fn,fl⟩:=f;refine rpv (v3_13a ..) ?_;rw[em];exact⟨⟨rfl,za,hlt,rfl⟩,bT (show(0:Int)<c.1 from hc) ⟨((n:Int),zS<|n+1),hs,tJ _,by unfold zI;omega,next⟩⟩
 .have hR:VR []:=⟨zb,λv hv=>nomatch hv⟩;obtain⟨go,_⟩:=TG.open zc [] hR.2 a0 h.tg;have zo:=kU [] a0 0;have ho:=(c_ropen0 [] hR (λ_=>rfl) a0 h.tg.1 h.tg.2.1 (yQ zc _ h.tg.2.2) 0 (tU 0)<|by have:=h.z0;omega).args (args:=[aT a0,.c<|qf .N,ci 0]) ⟨.refl _,.c _ _<|.a _ _<|.fz _ _ zO,.refl _,trivial⟩;have so:=ir<|List.replicate n 0;have hh:=JQ (zS n) so.1 50 t za (by have:=h.zt;simp only[B];omega) (λ_=>(fe h.vt h.zt h.bt zc).2);have hb:=c_kof (zZ (zS n) 50 t).1<|dq so.1 za λ_=>(fe h.vt h.zt h.bt zc).2;obtain⟨d,hd,hnm,har,hfk⟩:=h.d;have tl:=l_tail L t n qs h.hcs h.hz a.length f a0 ar (slotsF c.1.toNat 0) [] (by rw[xy];simp;omega) h.tg.1 d hd hnm har hfk n za h.vt h.zt h.bt go.1 (AX zo h.z0)<|yQ zc _ go.2.2;have nx:=h.nx0;have e0:aE (getD (FTs<|a0::ar) 0 [])=aT a0:=yT a0;have r0:(rE (getD (FTs<|a0::ar) 0 []):List FV)=getD (FTs<|a0::ar) 0 []:=yD a0;have l0:(0:Int)<(((FTs<|a0::ar).length:Nat):Int):=by rw[zq];simp only[tC];omega
  generalize keyOf (zZ (zS n) 50 t).1=K at*;generalize zZ (zS n) 50 t=z at*;obtain⟨tk,ts,tn,tl'⟩:=t;obtain⟨fk,fs,fn,fl⟩:=f;refine rpv (v3_13a ..) ?_;rw[em,e0];refine⟨⟨rfl,za,hlt,rfl⟩,bF (by show¬(0:Int)<c.1;exact hc) ⟨z,hh,zu (λ_=>zD rfl) λq=>?_⟩⟩;obtain⟨z4,hu,rest⟩:=tl (zp q) nx;refine⟨⟨rfl,za,l0,r0⟩,openG [] a0,ho,z4,hu,zu (λ_=>nx) λq=>?_⟩;obtain⟨m,hsel,hin⟩:=rest (zp q);exact⟨rfl,K.any,K.k,K.nm,K.n,K.ar,hb,m,hsel,hin⟩
theorem l_9 {a b:List Cl}{c:Cl}{qs:List Cd}{f a0:Tm}{ar:List Tm}(h:IxC L t n a c b qs f a0 ar):∀m k:Nat,k+m=n->RPt tB 3 0 (cb true) [] 9 (ix9 L t n qs a.length f (a0::ar) (zS k) k)
 |0,k,hk=>by have hk:k=n:=za;subst hk;have next:=l_13a L t k hn h;obtain⟨tk,ts,tn,tl'⟩:=t;obtain⟨fk,fs,fn,fl⟩:=f;exact rpv (v3_9a ..)<|bF za next
 |m+1,k,hk=>by have next:=l_9 h m (k+1) za;have hs:=Y5 (zS k) 0 (by rw[(W5 _).1];omega);rw[dM] at hs;rw[show((k+1:Nat):Int)=wrap .i64 ((k:Int)+1) by rw[w64 za za];omega] at next;obtain⟨tk,ts,tn,tl'⟩:=t;obtain⟨fk,fs,fn,fl⟩:=f;exact rpv (v3_9a ..)<|bT (show(k:Int)<n by omega) ⟨(_,zS<|k+1),hs,next⟩
theorem l_5 (hL:L.length<=8)(hw:∀c∈L,(TSW c.2.1/\TSW c.2.2)/\c.2.1.sz<=100/\c.1<=20)(qs:List Cd)(hP':PgX qs L)(vt:validB t=true)(zt:t.sz<=100)(bt:bd 2000000000000 t):∀b a:List Cl,L=a++b->RPt tB 3 0 (cb true) [] 5 (ix5 L t n qs a.length)
 |[],a,hab=>by
  have hge:¬(a.length:Int)<(((CLs L).length:Nat):Int):=by rw[zW,hab];simp
  obtain⟨tk,ts,tn,tl'⟩:=t;exact rpv (v3_5a ..) ⟨rfl,bF hge <| zD rfl⟩
 |c::b,a,hab=>by
  have hmem:c∈L:=by rw[hab];simp
  have hlen:a.length<=8:=by rw[hab] at hL;simp at hL;omega
  have hlt:(a.length:Int)<(((CLs L).length:Nat):Int):=by rw[zW,hab];simp;omega
  have em:getD (CLs L) (toNat (a.length:Int)) []=FL c:=by rw[hab];exact ZC a c b
  have next:=l_5 hL hw qs hP' vt zt bt b (a++[c]) (by rw[hab];simp);rw[show((a++[c]).length:Int)=wrap .i64 ((a.length:Int)+1) by rw[w64 za za];simp] at next;obtain⟨⟨w1,w2⟩,hz,hv⟩:=hw c hmem;obtain⟨e1,hk,_,k0⟩:=cY w1 w2<|hP'.2 c hmem
  have hvH:validB c.2.1=true:=hk.2.2.1.1;have hs:=sm c.2.1 λ_=>hvH;have hd:qs[a.length]?=some (Zi N0 c):=by rw[hP'.1,hab,tV,Ei<|tJ _];simp[e1]
  have hzc:∀d∈qs,zC d:=λd hd=>by rw[hP'.1] at hd;obtain⟨c',hc',rfl⟩:=Ay.1 hd;obtain⟨⟨w1,w2⟩,_⟩:=hw c' hc';obtain⟨e,_,z,_⟩:=cY w1 w2<|hP'.2 c' hc';rw[e];exact z
  have hS:VR (slotsF c.1.toNat 0):=kX (tU 0) (by have:=hk.1;omega) (by have:=hk.1;omega);have go:=(TG.open zc _ hS.2 c.2.1 hk.2.2.1).1
  have key:∀a0 ar,(zr c.2.1).2=a0::ar->IxC L t n a c b qs (zr c.2.1).1 a0 ar:=λa0 ar e=>by
   have hm:a0∈(zr c.2.1).2:=by rw[e];exact tM
   have sp:=op_split (slotsF c.1.toNat 0) hvH go.1;rw[e] at sp;have n1:(Zi N0 c).nm=(zr c.2.1).1.s:=by show(zr<|openG (slotsF c.1.toNat 0) c.2.1).1.s=_;rw[n7 hvH go.1 k0]
   have n2:(Zi N0 c).ar=((a0::ar).length:Int):=by show((zr<|openG (slotsF c.1.toNat 0) c.2.1).2.length:Int)=_;rw[sp,tC,Ax,tC]
   have l8:qs.length<=300:=by rw[hP'.1,Ax];omega
   have z0:a0.sz<=100:=by have:=jN hm;omega
   exact⟨hab,hL,l8,hzc,hk.1.1,hv,TG.arg (hk.2.2.1.mono zc) hm,z0,⟨Zi N0 c,hd,n1,n2,l9 sp⟩,vt,zt,bt,next⟩
  obtain⟨tk,ts,tn,tl'⟩:=t;refine rpv (v3_5a ..) ?_;rw[em];refine⟨rfl,bT hlt ⟨⟨rfl,za,hlt,rfl⟩,zr c.2.1,hs,rfl,zu (λ_=>next) λq=>?_⟩⟩
  match e:(zr c.2.1).2 with
  |[]=>rw[e] at q;simp[FTs] at q
  |a0::ar=>exact⟨(),c_snew,l_9 L _ n hn (key a0 ar e) n 0 za⟩
theorem l_1 (hL:L.length<=8)(hb:∀c∈L,c.2.1.bk<=2097152/\c.2.2.bk<=2097152)(vt:validB t=true)(zt:t.sz<=100)(bt:bd 2000000000000 t):∀b a:List Cl,L=a++b->(∀c∈a,(TSW c.2.1/\TSW c.2.2)/\c.2.1.sz<=100/\c.1<=20)->RPt tB 3 0 (cb true) [] 1 (ix1 L t n a.length)
 |[],a,hab,hw=>by
  have hge:¬(a.length:Int)<(((CLs L).length:Nat):Int):=by rw[zW,hab];simp
  rw[tY] at hab;rw[<-hab] at hw;obtain⟨l,e,hp,hx⟩:=c_pprog L za λc hc=>(hw c hc).1;have next:=λh=>l_5 L t n hn hL hw l (hx h) vt zt bt L [] rfl;obtain⟨tk,ts,tn,tl'⟩:=t;refine rpv (v3_1a ..) ?_;exact⟨rfl,bF hge ⟨_,e,hp,zu (λ_=>zD rfl) λq=>next (zp q)⟩⟩
 |c::b,a,hab,hw=>by
  have hmem:c∈L:=by rw[hab];simp
  have hlen:a.length<=8:=by rw[hab] at hL;simp at hL;omega
  have hlt:(a.length:Int)<(((CLs L).length:Nat):Int):=by rw[zW,hab];simp;omega
  have em:getD (CLs L) (toNat (a.length:Int)) []=FL c:=by rw[hab];exact ZC a c b
  have b1:=(hb c hmem).1;have b2:=(hb c hmem).2;have k1:=fE c.2.1 (by have:=Tm.sz_bk c.2.1;simp only[B];omega) 60 za za;have k2:=fE c.2.2 (by have:=Tm.sz_bk c.2.2;simp only[B];omega) 60 za za;have next:=λh=>l_1 hL hb vt zt bt b (a++[c]) (by rw[hab];simp) h;rw[show((a++[c]).length:Int)=wrap .i64 ((a.length:Int)+1) by rw[w64 za za];simp] at next;have el:FV.L 9 (.sl false 9<|CLs L)=true/\((0:Int)<=(a.length:Int)/\((a.length:Int)<(((CLs L).length:Nat):Int)/\(FL c:List FV)=FL c)):=⟨rfl,za,hlt,rfl⟩;obtain⟨tk,ts,tn,tl'⟩:=t;refine rpv (v3_1a ..) ?_;rw[em];refine⟨rfl,bT hlt ⟨el,_,k1,el,_,k2,zu (λ_=>zD rfl) λq1=>zu (λ_=>zD rfl) λq2=>⟨el,zu (λ_=>zD rfl) λq3=>next λd hd=>?_⟩⟩⟩;rcases A0.1 hd with hd|hd
  .exact hw d hd
  .rw[AO.1 hd];have z1:=WP q1;have z2:=WP q2;have t1:=wt_szM c.2.1;have t2:=wt_szM c.2.2;have q3:¬c.1>20:=tP q3;exact⟨⟨⟨za,by simp only[N0];omega⟩,za,by simp only[N0];omega⟩,za,za⟩
end
theorem XJ (L:List Cl)(hb:∀c∈L,c.2.1.bk<=2097152/\c.2.2.bk<=2097152)(t:Tm)(ht:t.bk<=2097152)(vars:Int):AC tB 3 [aCls L,aT t,ci vars] [] (cb true) []:=by have zt:=Tm.sz_bk t;have c0:=nB;have c1:=fE t (by simp only[B];omega) 40 za za;have c2:=c_near 1000 za za t (by simp only[B];omega);have c3:=yz t (by simp only[B];omega);have go:=λ(h1:jy t 40=false) (h2:near 1000 t=true) (h3:validB t=true) (hL:L.length<=8) (h0:0<=vars) (h20:vars<=20)=>l_1 L t vars.toNat za hL hb h3 (by have:=WP h1;omega) (yQ za _<|tq t h2) L [] rfl (λc hc=>nomatch hc);generalize jy t 40=x1 at*;generalize near 1000 t=x2 at*;generalize validB t=x3 at*;obtain⟨tk,ts,tn,tl'⟩:=t;refine acv (v3 ..) ?_;refine⟨_,c0,bN ⟨_,c1,_,c2,_,c3,rfl,zu (λ_=>zD rfl) λq1=>zu (λ_=>zD rfl) λq2=>zu (λ_=>zD rfl) λq3=>zu (λ_=>zD rfl) λq4=>zu (λ_=>zD rfl) λq5=>zu (λ_=>zD rfl) λq6=>?_⟩⟩;have q5:¬vars<0:=tP q5;have q6:¬vars>20:=tP q6;have:=go q2 (zp q3) (zp q4) (by have:=tP q1;rw[zW] at this;omega) za za;unfold ix1 at this;rw[show((vars.toNat:Nat):Int)=vars by omega] at this;exact this
open Go.ChangeShapes Go.WideShapes Go.ChangeAt Go.RowKit
section
variable {H:Type} {enc:TypeId×Value->H} {P:Program} {w:World}
theorem open_cls {b:DataW H->Nat} {bs:List (DataW H)->Nat} (hb:Bulk b bs) {T Tt S:TypeId} {g0 g1 g2 g3 f0 f1 f2:Field} (hT:TmTy P Tt g0 g1 g2 g3) (hV:ClTy P T Tt f0 f1 f2) (hS:P.underlying S=some (.slice T)) {r:Reach} {base:Nat} {v:Value} {d:DataW H} {ps:List MemPlace}
  (hv:Value.okWide P w r base S v) (hd:DataW.Trod enc P w 0 (λ_=>true) true S v d ps):∃l:List Cl,TRep w kA β0 (aCls l) v/\∀c∈l,c.2.1.bk<=b d/\c.2.2.bk<=b d/\okI c.2.1/\okI c.2.2:=by
 obtain⟨l,h1,h2⟩:=sg (n:=9) (F:=λv:ClI=>FL v.c) (sz:=λv=>v.2.1.1.bk+v.2.2.1.bk+1) hb (λ_=>rfl) hV.cT za (λ_=>Nat.succ_le_succ<|AT _) (λk=>rd_cl hb hT hV k) hS hv hd;refine⟨l.map ClI.c,by rw[aCls,CLs,EU];exact h1,λc hc=>?_⟩;obtain⟨v,hv,rfl⟩:=Ay.1 hc;have h3:v.2.1.1.bk+v.2.2.1.bk+1<=_:=Kp (sz:=λv:ClI=>v.2.1.1.bk+v.2.2.1.bk+1) hv;exact⟨by show v.2.1.1.bk<=_;omega,by show v.2.2.1.bk<=_;omega,v.2.1.2,v.2.2.2⟩
end
end Go.AM
namespace Go.Proofs.YtbpjamookpnilaaGreat.base
open Go.ChangeShapes Go.WideShapes Go.ChangeAt Go.RowKit Go.AM
theorem one_le {H:Type}(d:DataW H):1<=Rows.uptoBulk d:=by
 cases d with
 |lit l=>cases l<;>simp[Rows.uptoBulk]
 |_=>simp[Rows.uptoBulk]
theorem bulk {H:Type}:Bulk (H:=H) Rows.uptoBulk Rows.uptoBulkAll:=
 ⟨rfl,λ_ _=>rfl,one_le,λes b=>by simp only[Rows.uptoBulk];omega,λl=>by simp[Rows.uptoBulk],λl=>by simp[Rows.uptoBulk]⟩
theorem own:ownKnob tB.godebug=none:=zg
theorem laidOut:laidOutB tB=true:=zg
theorem tmTy:∃f0 e d b:Field,TmTy tB 26 f0 e d b:=
 ⟨_,_,_,_,Tryz.underlying26,Tryz.underlying23,Tryz.underlying9,Tryz.underlying3,Tryz.underlying24,rfl,rfl,rfl,rfl,zg,zg,zg,zg,zg⟩
theorem rec3:tB.readableRec 3=true:=zg
theorem lt3:3<tB.types.size:=hU zg
theorem rec22:tB.readableRec 22=true:=zg
theorem lt22:22<tB.types.size:=hU zg
theorem rec26:tB.readableRec 26=true:=zg
theorem lt26:26<tB.types.size:=hU zg
theorem noGl (g:Nat)(h:tB.globalNamed "internal/strconv.uint64pow10" =some g):False:=by
 rw[(zg:tB.globalNamed "internal/strconv.uint64pow10" =none)] at h;cases h
theorem mF {n:Int}(h:(Lit.int .i64 n).wf=true): -9223372036854775808<=n/\n<=9223372036854775807:=by simp only[Lit.wf,IntKind.min,IntKind.max,IntKind.signed,IntKind.bits,tF,Ak,tZ] at h;omega
theorem upto {H:Type}{l:List (DataW H)}(b:Rows.uptoSmall H l=true):Rows.uptoBulkAll l<=1048576:=hU b
end Go.Proofs.YtbpjamookpnilaaGreat.base
