/- Laws, part 4. No conditions. -/
import Derived.Test.YtbpjamookpnilaaGreatPart3
import Derived.Lib.Builder
import Derived.Lib.AppendStr
import Derived.Lib.UnsafeStr
import Derived.Lib.Walk
import Derived.Lib.MakeNoZero
import Derived.Laws.Externs
set_option linter.all false
set_option maxRecDepth 100000
open Go Go.Proofs
open Go.IntKind (wrap)
open List (getD take drop)
open Int (toNat)
namespace Go.AM
def hd (l:List Tm):Tm:=l.headD default
def vR (t:Tm):Bool:=t.k==6&&(hd t.l).k==5
mutual
def okB:Tm->Bool
 |.mk k s n l=>(if (k==6)=true then decide (2<=l.length)&&(hd l).k !=6&&(s==[]&&n==0) else if (k==5)=true then decide (l.length=1)&&(s==[]&&n==0) else decide (l.length=0))&&okL l
def okL:List Tm->Bool
 |[]=>true
 |t::l=>okB t&&okL l
end
theorem vK:∀ {l:List Tm} {t:Tm},okL l=true->t∈l->okB t=true
 |x::l,t,h,hm=>by
  simp only[okL,tF] at h;rcases A1.1 hm with rfl|hm
  .exact h.1
  .exact vK h.2 hm
theorem ri:∀ {l:List Tm},(∀t∈l,okB t=true)->okL l=true
 |[],_=>rfl
 |t::l,h=>by simp only[okL,h t tM,ri (l:=l) λu b=>h u<|tK _ b,E7]
theorem okB6 {k n:Int}{s:List UInt8}{l:List Tm}(h:okB (.mk k s n l)=true)(b:k=6):∃x y r,l=x::y::r/\x.k≠6/\okL l=true:=by
 subst b;simp only[okB,tF] at h
 match l,h with
 |[],h=>simp at h
 |[x],h=>simp at h
 |x::y::r,h=>exact⟨x,y,r,rfl,by have:=h.1;simp[hd] at this;exact this.1,h.2⟩
theorem okB5 {k n:Int}{s:List UInt8}{l:List Tm}(h:okB (.mk k s n l)=true)(b:k=5):∃x,l=[x]/\okB x=true:=by
 subst b;simp only[okB,tF] at h
 match l,h with
 |[],h=>simp at h
 |[x],h=>exact⟨x,rfl,by have:=h.2;simpa[okL] using this⟩
 |x::y::r,h=>simp at h
theorem okB0 {k n:Int}{s:List UInt8}{l:List Tm}(h:okB (.mk k s n l)=true)(b:k≠5)(d:k≠6):l=[]:=by simp only[okB,tF] at h;have:=h.1;rw[tD<|zp d,tD<|zp b] at this;exact tS (zp this)
theorem okB_sn {k n:Int}{s:List UInt8}{l:List Tm}(h:okB (.mk k s n l)=true)(b:k=5\/k=6):s=[]/\n=0:=by
 simp only[okB,tF] at h;have h:=h.1;rcases b with rfl|rfl
 .simp at h;exact h.2
 .simp at h;exact h.2
theorem KA {t:Tm}(h:okB t=true):okL t.l=true:=by obtain⟨k,s,n,l⟩:=t;simp only[okB,tF] at h;exact h.2
mutual
theorem zB:∀t:Tm,validB t=true->okB t=true
 |.mk k s n l,h=>by
  rw[okB];have hl:=gr l;rw[validB] at h;split at h
  .rename_i e;have e:k=0:=zp e;subst e;rw[lenI] at h;have:l=[]:=by simp at h;exact h.2
   subst this;rfl
  split at h
  .rename_i e;have e:k=1:=zp e;subst e;rw[lenI] at h;have:l=[]:=by simp at h;exact h.1.2
   subst this;rfl
  split at h
  .rename_i e;have e:k=2:=zp e;subst e;rw[lenI] at h;have:l=[]:=by simp at h;exact h.1.2
   subst this;rfl
  split at h
  .rename_i e;have e:k=3:=zp e;subst e;rw[lenI] at h;have:l=[]:=by simp at h;exact h.1.2
   subst this;rfl
  split at h
  .rename_i e;have e:k=4:=zp e;subst e;rw[lenI] at h;have:l=[]:=by simp at h;exact h.1.2
   subst this;rfl
  split at h
  .rename_i e;have e:k=5:=zp e;subst e;rw[lenI] at h;simp only[tF,Al] at h;have h1:l.length=1:=by have:=h.1.2;omega
   rw[hl h.2];simp[h1,h.1.1.1,h.1.1.2]
  split at h
  .rename_i e;have e:k=6:=zp e;subst e;rw[lenI] at h;simp only[tF,Ak,Al] at h;have h1:2<=l.length:=by have:=h.1.1.1.2;omega
   have h2:((hd l).k !=6)=true:=h.1.1.2;rw[hl h.2,h2];simp[h1,h.1.1.1.1,h.1.2]
  .cases h
theorem gr:∀l:List Tm,yV l=true->okL l=true
 |[],_=>rfl
 |t::l,h=>by simp only[yV,tF] at h;simp only[okL,zB t h.1,gr l h.2,E7]
end
theorem ok_ne {t:Tm}(h:okB t=true):t.k=6->t.l≠[]:=by obtain⟨k,s,n,l⟩:=t;intro b;obtain⟨x,y,r,e,_⟩:=okB6 h b;show l≠[];rw[e];simp
abbrev zT:List WV:=[qi 0,qf<|.str [],qi 0,qf .N]
theorem kR (k:Int)(s:List UInt8)(n:Int)(l:List Tm)(a:Tm)(r:List Tm):zJ (.mk k s n l) (a::r)=if (k==6)=true/\l≠[] then .mk 6 [] 0 (l++a::r) else .mk 6 [] 0 (.mk k s n l::a::r):=rfl
theorem J4 (f:Tm)(args:List Tm)(h:f.l.length+args.length<2199023255551):AC tB 32 [aT f,aL args] [] (aT<|zJ f args) []:=by
 obtain⟨k,s,n,l⟩:=f;simp only[Tm.l] at h;refine acv (v32 k s n (FTs l) (FTs args) _ _) ?_
 match args,h with
 |[],h=>exact⟨rfl,zu (λ_=>uw<|.refl _) λh1=>absurd h1<|by simp[FTs]⟩
 |a::r,h=>
  have e0:List.isEmpty (FTs<|a::r)=false:=rfl
  have one:∀(h2:¬((k==6)=true/\l≠[])),(1<=1/\zI 1 56/\(FV.L 4 (.sl false 4<|FTs<|a::r)=true/\((1<=1/\zI (1+(FTs<|a::r).length) 56)/\(((4:Nat)=4/\(0+(1+(FTs<|a::r).length))<=(([[.int .i64 k,.str s,.int .i64 n,.sl false 4<|FTs l]]:List<|List FV)++FTs (a::r)).length)/\
    (TV.Le (.agg [qi 6,qf<|.str [],qi 0,qf<|.sl false 4<|take (1+(FTs<|a::r).length)<|drop 0<|[[.int .i64 k,.str s,.int .i64 n,.sl false 4<|FTs l]]++FTs (a::r)]) (aT<|zJ (.mk k s n l)<|a::r)/\([]:List AObj)=[]))))):=λh2=>by
   refine⟨tJ _,by unfold zI;omega,rfl,⟨tJ _,?_⟩,⟨rfl,zj⟩,?_,rfl⟩
   .rw[zq];exact wT za
   .rw[nc,kR,tD h2];exact leT<|leSl (l:=.mk k s n l::a::r)
  refine⟨rfl,zu (λh1=>absurd h1<|by simp[FTs];omega) λ_=>zu (λh2=>⟨rfl,zu (λh3=>⟨rfl,zu (λh4=>?_) λh4=>?_⟩) λh3=>one ?_⟩) λh2=>one ?_⟩
  .rw[lenI] at h3;have h3:=hU h3
   match l,h3,h4 with
   |[],h3,_=>simp at h3
   |x::l,_,h4=>cases h4
  .have hl:l≠[]:=by rintro rfl;cases h4
   refine⟨?_,rfl,⟨tJ _,?_⟩,⟨rfl,?_⟩,?_,rfl⟩
   .rw[zq];exact wT za
   .rw[zq,zq];exact wT za
   .rw[tN<|tJ _,tE];omega
   .rw[take_app,<-yh,kR,tG ⟨h2,hl⟩];exact leT leSl
  .rintro ⟨_,hl⟩;rw[lenI] at h3;have h3:=tP h3;exact hl<|tS za
  .rintro ⟨h2',_⟩;have h2:(k==6)=false:=h2;have h2':(k==6)=true:=h2';rw[h2] at h2';cases h2'
theorem tj (t:Tm)(o:List Tm)(ho:o.length<=B)(ht:o.length=t.l.length)(hl:(hd o).l.length<=B):AC tB 80 [aT t,aL o] [] (aT<|xx t o) []:=by
 obtain⟨k,s,n,l⟩:=t;simp only[Tm.l] at ht;refine acv (v80 k s n (FTs l) (FTs o) _ _) ?_;have no:¬((k==6)=true/\1<o.length/\((o.headD default).k==6)=true/\((l.headD default).k !=6)=true)->xx (.mk k s n l) o=.mk k s n o:=λh=>tD h;rw[lenI];refine zu (λh1=>⟨rfl,zu (λh2=>?_) λh2=>?_⟩) λh1=>?_
 .have h2':=hU h2
  match o,l,ht,ho,hl,h2' with
  |x::y::r,[],ht,_,_,_=>simp at ht
  |x::y::r,u::l,ht,ho,hl,_=>
   have hx:aE (getD (FTs<|x::y::r) 0 [])=aT x:=yT x;have hx0:FV.I (getD (getD (FTs<|x::y::r) 0 []) 0 FV.N)=x.k:=by cases x;rfl
   have hu0:FV.I (getD (getD (FTs<|u::l) 0 []) 0 FV.N)=u.k:=by cases u;rfl
   have el:∀(z:Tm) (w:List Tm),FV.L 4 (.sl false 4<|FTs<|z::w)=true/\((0:Int)<=0/\((0:Int)<(((z::w).length:Nat):Int)/\(rE (getD (FTs<|z::w) 0 []):List FV)=getD (FTs<|z::w) 0 [])):=λz w=>⟨rfl,tU _,by simp only[tC];omega,yD z⟩;rw[hx0,hu0,hx];simp only[tC,B,hd,EI] at ho hl;refine⟨el x<|y::r,zu (λh3=>⟨by rw[lenI];exact el u l,zu (λh4=>⟨el x<|y::r,rfl,⟨za,zj,tU _⟩,?_⟩) λh4=>pB (no ?_).symm⟩) λh3=>pB (no ?_).symm⟩
   .have ha:=J4 x (y::r) (by simp only[tC];omega);have e:drop 1 (take (toNat ((x::y::r).length:Int))<|FTs<|x::y::r)=FTs (y::r):=by rw[ko,tN<|by rw[zq];exact tJ _];rfl
    rw[e];refine⟨_,ha,pB ?_⟩;rw[xx,tG ⟨h1,zb,h3,h4⟩];rfl
   .rintro ⟨_,_,_,h⟩;have h4:(u.k !=6)=false:=h4;rw[show(List.headD (u::l) default)=u from rfl,h4] at h;cases h
   .rintro ⟨_,_,h,_⟩;have h3:(x.k==6)=false:=h3;rw[show(List.headD (x::y::r) default)=x from rfl,h3] at h;cases h
 .exact pB (no λh=>absurd (tP h2)<|by have:=h.2.1;omega).symm
 .exact pB (no (λh=>by have h0:=h.1;have h1:(k==6)=false:=h1;rw[h1] at h0;cases h0)).symm
theorem l_rshb (x1 x2 k kd:Int)(s:List UInt8)(n:Int)(hk0:0<=k)(hk1:k<=M61)(e:Int)(he:e=k+(if (kd==5)=true then 1 else 0)):∀(b a acc:List Tm),acc.length=a.length->(∀u∈b,AC tB 53 [aT u,ci x1,ci x2,ci e] [] (aT<|zG (ye x1 x2) u e) [])->(a++b).length<=B->(hd<|acc++zF (ye x1 x2) b e).l.length<=B->
  RPt tB 53 0 (aT<|xx (.mk kd s n<|a++b)<|acc++zF (ye x1 x2) b e) [] 1 ⟨[(1,ci x1),(2,ci x2),(3,ci k),(4,.c<|.a<|.ep 0 4 0 0),(8,.c<|.a<|.ep 1 4 0 0),(10,.c<|.a<|.osl 2 4 0 acc.length),(11,ci a.length)],[(0,.arr 4 [fzs<|FT<|.mk kd s n<|a++b]),  (1,.arr 4 [zT]),(2,.arz 4<|FTs acc)],3⟩
 |[],a,acc,hlen,_,hl,hh=>by simp only[zF,tY] at hh hl ⊢;have hw:=tj (.mk kd s n a) acc za hlen hh;refine rpv (v53_1b ..) ?_;refine⟨rfl,bF (by rw[zq];omega) ⟨⟨rfl,by rw[zq];omega⟩,_,hw.args ⟨.refl _,?_,trivial⟩,uw<|.refl _⟩⟩;rw[show take acc.length (drop 0<|FTs acc)=FTs acc by rw[A3,tN<|by rw[zq];omega]];exact le_c leSl
 |t::b,a,acc,hlen,ih,hl,hh=>by
  have hl':=hl;simp only[tE,tC,B] at hl';have h1:=ih t tM;have h2:=l_rshb x1 x2 k kd s n hk0 hk1 e he b (a++[t]) (acc++[zG (ye x1 x2) t e]) (by simp[hlen]) (λu hu=>ih u<|tK _ hu) (by rw[ap];exact hl) (by rw[ap];exact hh);have h3:=ltI' a t b;have hu:=bY (.mk kd s n<|a++t::b) k hk0 (by simp only[M61] at hk1;omega);rw[ap,ap,nx] at h2;rw[zF];refine rpv (v53_1b ..) ?_;rw[xN,w64 (x:=(a.length:Int)+1) za za];refine⟨rfl,bT h3 ⟨⟨rfl,za,h3,xr ..⟩,_,hu,zG (ye x1 x2) t e,?_,tJ _,⟨by rw[zq];omega,wT za⟩,?_⟩⟩
  .rw[show k+Tm.by (.mk kd s n<|a++t::b)=e from he.symm];exact h1
  .have e5:take acc.length (FTs acc)++[FT4<|zG (ye x1 x2) t e]=FTs (acc++[zG (ye x1 x2) t e]):=by rw[tN<|by rw[zq];omega,wN,yh];rfl
   rw[e5];rw[tE] at h2;exact h2
theorem l_rsha (x1 x2 k kd:Int)(s:List UInt8)(n:Int)(hk0:0<=k)(hk1:k<=M61)(e:Int)(he:e=k+(if (kd==5)=true then 1 else 0))(b:List Tm)(ih:∀u∈b,AC tB 53 [aT u,ci x1,ci x2,ci e] [] (aT<|zG (ye x1 x2) u e) [])(hl:b.length<=B)(hh:(hd<|zF (ye x1 x2) b e).l.length<=B):
  RPt tB 53 0 (aT<|xx (.mk kd s n b)<|zF (ye x1 x2) b e) [] 1 ⟨[(1,ci x1),(2,ci x2),(3,ci k),(4,.c<|.a<|.ep 0 4 0 0),(8,.c<|.a<|.ep 1 4 0 0),(10,.c<|qf .N),(11,ci 0)],[(0,.arr 4 [fzs<|FT<|.mk kd s n b]),  (1,.arr 4 [zT])],2⟩:=by
 refine rpv (v53_1a ..) ?_
 match b,ih,hl,hh with
 |[],ih,hl,hh=>
  have hw:=tj (.mk kd s n []) [] zb rfl hh;exact⟨rfl,bF (by rw[zq];simp) ⟨_,hw.args ⟨.refl _,le_c zO,trivial⟩,uw<|.refl _⟩⟩
 |t::b,ih,hl,hh=>
  have hl':=hl;simp only[tC,B] at hl';have h1:=ih t tM;have h2:=l_rshb x1 x2 k kd s n hk0 hk1 e he b [t] [zG (ye x1 x2) t e] rfl (λu hu=>ih u<|tK _ hu) hl hh;have h3:=ltI' [] t b;have hu:=bY (.mk kd s n<|t::b) k hk0 (by simp only[M61] at hk1;omega);rw[show aE (getD (FTs<|t::b) (toNat 0) [])=aT t from yT t,w64 za za];refine⟨rfl,bT h3 ⟨⟨rfl,za,h3,yD t⟩,_,hu,zG (ye x1 x2) t e,?_,tJ _,wT za,?_⟩⟩
  .rw[show k+Tm.by (.mk kd s n<|t::b)=e from he.symm];exact h1
  .rw[wN];exact h2
theorem c_rshift (fr by_:Int)(hf0:0<=fr)(hf1:fr<=M61)(hb0:0-1<=by_)(hb1:by_<=M61):∀(t:Tm) (k:Int),t.sz<=B->bd M61 t->0<=k->k+t.sz<=M61->AC tB 53 [aT t,ci fr,ci by_,ci k] [] (aT<|shT fr by_ t k) []:=by
 refine Tm.ind λt ih k hs hb h0 h1=>?_;have hlen:=Tm.szs_length t.l;have hi:=c_rinner t;have hsz:=jW fr by_;obtain⟨kd,s,n,l⟩:=t;simp only[Tm.sz,Tm.l,M61,B] at hs hlen h1 hf1 hb1;have hin:Tm.inner (.mk kd s n l)=(kd==5||kd==6):=rfl;have leaf:(kd==5||kd==6)=false->shT fr by_ (.mk kd s n l) k=ye fr by_ (.mk kd s n l) k:=λh=>yq _ kd s n l k h;refine acv (v53 kd s n (FTs l) fr by_ k _ _) ?_;rw[w64 (x:=k+fr) za za]
 have go:kd≠3->(kd==5||kd==6)=true->RPt tB 53 0 (aT<|shT fr by_ (.mk kd s n l) k) [] 1 ⟨[(1,ci fr),(2,ci by_),(3,ci k),(4,.c<|.a<|.ep 0 4 0 0),(8,.c<|.a<|.ep 1 4 0 0),(10,.c<|qf .N),(11,ci 0)],[(0,.arr 4 [fzs<|FT<|.mk kd s n l]),(1,.arr 4 [zT])],2⟩:=λ_ h=>by
  rw[shT,zG,tG h];have hk5:(0:Int)<=(if (kd==5)=true then 1 else 0)/\(if (kd==5)=true then(1:Int) else 0)<=1:=by split<;>omega
  refine l_rsha fr by_ k kd s n h0 (by simp only[M61];omega) _ rfl l (λu hu=>?_) (by simp only[B];omega) ?_
  .have:=Tm.szs_mem hu;exact ih u hu _ (by simp only[B];omega) (yN hb.2 hu) za (by simp only[M61];omega)
  .match l,hs with
   |[],_=>simp[zF,hd];exact AT _
   |u::r,hs=>
    simp only[Tm.szs] at hs;have h2:=hsz u<|k+if (kd==5)=true then 1 else 0
    have h3:=Tm.szs_length (shT fr by_ u<|k+if (kd==5)=true then 1 else 0).l;have h4:=(shT fr by_ u<|k+if (kd==5)=true then 1 else 0).sz_eq;show(shT fr by_ u<|k+if (kd==5)=true then 1 else 0).l.length<=B;simp only[B];omega
 refine zu (λe3=>zu (λh2=>?_) λh2=>⟨_,hi,zu (λh3=>?_) λh3=>?_⟩) λe3=>⟨_,hi,zu (λh3=>?_) λh3=>?_⟩
 .have e:kd=3:=zp e3;have:=hb.1 e;have h2:=hU h2;rw[w64 (by simp only[M61] at this;omega)<|by simp only[M61] at this;omega];rw[leaf<|by subst e;rfl,ye,tG ⟨e3,h2⟩];exact uw<|.refl _
 .rw[leaf<|by rw[<-hin];exact zp h3,ye,tD λq=>absurd q.2<|tP h2];exact uw<|.refl _
 .rw[hin] at h3;have e:kd=3:=zp e3;subst e;cases h3
 .rw[leaf<|by rw[<-hin];exact zp h3,ye,tD (λq=>by have q1:=q.1;have e3:(kd==3)=false:=e3;rw[show Tm.k (.mk kd s n l)=kd from rfl,e3] at q1;cases q1)];exact uw<|.refl _
 .exact go (λe=>by subst e;cases e3) (by rw[<-hin];exact zp h3)
theorem ai (t:Tm)(fr by_:Int)(hs:t.sz<=B)(hb:bd M61 t)(hf0:0<=fr)(hf1:fr<=M61)(hb0:0-1<=by_)(hb1:by_<=M61):AC tB 31 [aT t,ci fr,ci by_] [] (aT<|shT fr by_ t 0) []:=by have h:=c_rshift fr by_ hf0 hf1 hb0 hb1 t 0 hs hb (tU _) (by simp only[M61,B] at*;omega);obtain⟨k,s,n,l⟩:=t;refine acv (v31 k s n (FTs l) fr by_ _ _) ?_;exact⟨_,h,uw<|.refl _⟩
mutual
theorem nd_sz:∀t:Tm,nd t=t.sz
 |.mk _ _ _ l=>by simp only[nd,Tm.sz,s6 l]
theorem s6:∀l:List Tm,nds l=Tm.szs l
 |[]=>rfl
 |t::l=>by simp only[nds,Tm.szs,nd_sz t,s6 l]
end
mutual
theorem fR:∀t:Tm,okB t=true->wr t=t.sz
 |.mk k s n l,h=>by
  have hl:=cC l<|KA h;by_cases h6:k=6
  .subst h6;simp[wr,Tm.sz,hl]
  .by_cases h5:k=5
   .subst h5;simp[wr,Tm.sz,hl]
   .have:l=[]:=okB0 h h5 h6;subst this;simp[wr,Tm.sz,jm,Tm.szs]
theorem cC:∀l:List Tm,okL l=true->jm l=Tm.szs l
 |[],_=>rfl
 |t::l,h=>by simp only[okL,tF] at h;simp only[jm,Tm.szs,fR t h.1,cC l h.2]
end
def SZ:Nat:=130000000
theorem fA {body arg:Tm}(f:okB body=true)(g:okB arg=true)(j:vT body arg=true)(d:arg.sz<=SZ):body.sz+nd body*arg.sz<=B/\body.sz+occF body 0*arg.sz<=4096:=by
 have e:((wr body:Int)+(occF body 0:Int)*(wr arg:Int)<=4096):=by have:(!decide ((wr body:Int)+(occF body 0:Int)*(wr arg:Int)>4096))=true:=j;simp only[AA,decide_eq_false_iff_not] at this;omega
 rw[fR body f,fR arg g,nd_sz] at*;have b:body.sz+occF body 0*arg.sz<=4096:=by
  have:((body.sz+occF body 0*arg.sz:Nat):Int)<=4096:=by rw[ER,Int.natCast_mul];exact e
  omega
 have i:body.sz<=4096:=za;have h:=Nat.mul_le_mul i d;simp only[SZ] at h;exact⟨by simp only[B];omega,b⟩
theorem zm_le {body arg:Tm}(d:body.sz<=1073741824)(b:arg.sz<=1073741824):0<=(occF body 0:Int)*(wr arg:Int)/\(occF body 0:Int)*(wr arg:Int)<=1152921504606846976:=by have:=Nat.mul_le_mul (AX (iw body 0) d)<|AX (ZU arg) b;exact⟨Int.mul_nonneg za za,za⟩
theorem c_bcontr (body arg:Tm)(ob:okB body=true)(oa:okB arg=true)(hb:body.sz<=SZ)(ha:arg.sz<=SZ)(db:bd M61 body)(da:bd M61 arg):AC tB 101 [aT body,aT arg] [] (aTE (conF body arg)<|conE body arg) []:=by
 simp only[SZ] at hb ha;have h1:=c_size body (by simp only[B];omega);have h2:=bS body (by simp only[B];omega) 0 za za;have h3:=c_size arg (by simp only[B];omega);have h4:=λhr=>dB body arg 0 (by simp only[B];omega) (fA ob oa hr<|by simp only[SZ];omega).1 db da za (by simp only[M61];omega);have z1:=ZU body;have z2:=zm_le (body:=body) (arg:=arg) za za;have cF:∀b,vT body arg=b->conF body arg=(if b=true then suT 0 arg body 0 else noT)/\conE body arg=(if b=true then 0 else 80):=λb h=>by unfold conF conE;rw[h];exact⟨rfl,rfl⟩
 have hf:vT body arg= !decide ((wr body:Int)+(occF body 0:Int)*(wr arg:Int)>4096):=rfl;obtain⟨k,s,n,l⟩:=body;obtain⟨k',s',n',l'⟩:=arg;refine acv (v101 k s n (FTs l) k' s' n' (FTs l') _ _) ?_;refine⟨_,h1,_,h2,_,h3,?_⟩;rw[w64 (x:=(occF (.mk k s n l) 0:Int)*(wr (.mk k' s' n' l'):Int)) za za,w64 za za];refine zu (λh=>?_) λh=>?_
 .obtain⟨e1,e2⟩:=cF false (by rw[hf,h];rfl);rw[e1,e2];exact⟨leTE zO,rfl⟩
 .obtain⟨e1,e2⟩:=cF true (by rw[hf,h];rfl);rw[e1,e2];exact⟨_,h4<|by rw[hf,h];rfl,.refl _,rfl⟩
theorem dU (body arg:Tm)(hb:body.sz<=SZ)(ha:arg.sz<=SZ)(db:bd M61 body)(da:bd M61 arg):AC tB 72 [aT body,aT arg] [] (if (validB body&&validB arg)=true then aTE (conF body arg) (conE body arg) else aTE noT 1) []:=by
 have h1:=yz body (by simp only[SZ,B] at*;omega);have h2:=yz arg (by simp only[SZ,B] at*;omega);have h3:=λob oa=>c_bcontr body arg (zB body ob) (zB arg oa) hb ha db da;obtain⟨k,s,n,l⟩:=body;obtain⟨k',s',n',l'⟩:=arg;refine acv (v72 k s n (FTs l) k' s' n' (FTs l') _ _) ?_;refine⟨_,h1,zu (λh=>?_) λh=>⟨_,h2,zu (λh'=>?_) λh'=>?_⟩⟩
 .rw[tD<|by rw[show validB (.mk k s n l)=false by simpa using h];simp];exact⟨leTE zO,rfl⟩
 .rw[tD<|by rw[show validB (.mk k' s' n' l')=false by simpa using h'];simp];exact⟨leTE zO,rfl⟩
 .have e1:validB (.mk k s n l)=true:=zp h;have e2:validB (.mk k' s' n' l')=true:=zp h';rw[tG<|by rw[e1,e2];rfl];exact⟨(_,_),h3 e1 e2,.refl _,rfl⟩
theorem X3 {t:Tm}(p:okB t=true)(f:vR t=true):∃s n g o body arg rest,t=.mk 6 s n (.mk 5 g o [body]::arg::rest)/\okB body=true/\okB arg=true/\okL rest=true:=by obtain⟨k,s,n,l⟩:=t;simp only[vR,Tm.k,Tm.l,tF,Al] at f;obtain⟨rfl,e⟩:=f;obtain⟨x,y,r,rfl,_,d⟩:=okB6 p rfl;simp only[okL,tF] at d;obtain⟨h,j,m,l'⟩:=x;have e:h=5:=e;subst e;obtain⟨b,rfl,i⟩:=okB5 d.1 rfl;exact⟨s,n,j,m,b,y,r,rfl,i,d.2.1,d.2.2⟩
mutual
def wR:Tm->Tm×Int
 |.mk k s n l=>if vR (.mk k s n l)=true then(if vT (hd (hd l).l) (hd l.tail)=true then(zJ (suT 0 (hd l.tail) (hd (hd l).l) 0)<|l.drop 2,1) else(noT,2)) else if (vW l).2=0 then(.mk k s n l,0) else if (vW l).2=1 then(.mk k [] 0 (vW l).1,1) else(noT,2)
def vW:List Tm->List Tm×Int
 |[]=>([],0)
 |t::l=>if (wR t).2=0 then(t::(vW l).1,(vW l).2) else((wR t).1::l,(wR t).2)
end
theorem pI {t:Tm}(f:okB t=true)(d:t.k≠5)(b:t.k≠6):wR t=(t,0):=by obtain⟨k,s,n,l⟩:=t;have:l=[]:=okB0 f d b;subst this;rw[wR,tD<|by simp only[vR,Tm.k,tF,Al];exact λe=>b e.1];rfl
theorem stepF_hd {k n:Int}{s:List UInt8}{x:Tm}{l:List Tm}(h:okB (.mk k s n<|x::l)=true)(g:vR (.mk k s n<|x::l)=false)(d:k=6):wR x=(x,0):=by
 obtain⟨y,z,r,e,i,b⟩:=okB6 h d;injection e with f j
 subst f;subst d;simp only[okL,tF] at b;refine pI b.1 (λe=>?_) i;have:vR (.mk 6 s n<|x::l)=true:=by simp only[vR,Tm.k,Tm.l,hd,EI,tF,Al];exact⟨trivial,e⟩
 rw[g] at this;cases this
abbrev aSt (u:Tm)(n:Int):TV:=.tup [(true,cT u),(false,[qf<|.bool<|n !=0]),(false,[qi (if n=2 then 80 else 0)])]
theorem el0 (x:Tm)(l:List Tm):FV.L 4 (.sl false 4<|FTs<|x::l)=true/\((0:Int)<=0/\((0:Int)<(((FTs<|x::l).length:Nat):Int)/\(rE (getD (FTs<|x::l) 0 []):List FV)=getD (FTs<|x::l) 0 [])):=⟨rfl,tU _,by rw[lenI];simp only[tC];omega,yD x⟩
theorem el1 (x y:Tm)(l:List Tm):FV.L 4 (.sl false 4<|FTs<|x::y::l)=true/\((0:Int)<=1/\((1:Int)<(((FTs<|x::y::l).length:Nat):Int)/\(rE (getD (FTs<|x::y::l) 1 []):List FV)=getD (FTs<|x::y::l) 1 [])):=⟨rfl,za,by rw[lenI];simp only[tC];omega,yD y⟩
theorem tv (a:List Tm)(t:Tm)(b:List Tm)(u:Tm):List.set (FTs<|a++t::b) (0+toNat (a.length:Int)) (FT4 u)=FTs (a++u::b):=by rw[A4,ko,wN,FTs_set];congr 1;simp
theorem leTB {k n:Int}{b:Bool}{s:List UInt8}{x:FV}{l:List Tm}(h:FV.Le x<|.sl false 4<|FTs l):TV.Le (.tup [(true,[qi k,qf<|.str s,qi n,qf x]),(false,[qf<|.bool b])]) (.tup [(true,cT<|.mk k s n l),(false,[qf<|.bool b])]):=by
 refine .tup _ _ rfl λi p q f g=>?_
 match i,f,g with
 |0,f,g=>
  simp only[AI,tL] at f g;subst f;subst g;refine⟨rfl,rfl,λj x y e d=>?_⟩
  match j,e,d with
  |0,e,d=>simp at e d;subst e;subst d;exact .refl _
  |1,e,d=>simp at e d;subst e;subst d;exact .refl _
  |2,e,d=>simp at e d;subst e;subst d;exact .refl _
  |3,e,d=>simp at e d;subst e;subst d;exact .a _ _<|.fz _ _ h
  |j+4,e,_=>simp at e
 |1,f,g=>simp only[AI,EB,tL] at f g;subst f;subst g;exact⟨rfl,rfl,λj x y e d=>by rw[e] at d;injection d with d;subst d;exact .refl _⟩
 |i+2,f,_=>simp at f
theorem not_t {b:Bool}(h:(!b)=true):b=false:=by cases b<;>simp_all
theorem lc {b:Bool}(h:(!b)=false):b=true:=by cases b<;>simp_all
theorem vk {f:Tm}{args:List Tm}(g:okB f=true)(d:okL args=true):okB (zJ f args)=true:=by
 match args,d with
 |[],_=>exact g
 |a::r,d=>
  obtain⟨k,s,n,l⟩:=f;rw[kR];split
  .rename_i h;have m:k=6:=zp h.1;obtain⟨x,y,r',rfl,i,j⟩:=okB6 g m
   have b:okL ((x::y::r')++a::r)=true:=ri λt ht=>by
    rcases A0.1 ht with ht|ht
    .exact vK j ht
    .exact vK d ht
   have o:(x.k !=6)=true:=zp i;rw[okB,b];simp[hd,i]
  .rename_i h;have i:k≠6:=λe=>h ⟨zp e,ok_ne g e⟩;have b:okL (.mk k s n l::a::r)=true:=by simp only[okL,tF] at d ⊢;exact⟨g,d⟩
   rw[okB,b];simp[hd,Tm.k,i]
theorem withF_ok {k n:Int}{s:List UInt8}{l o:List Tm}(h:okB (.mk k s n l)=true)(g:k=5\/k=6)(d:okL o=true)(b:o.length=l.length):okB (xx (.mk k s n l) o)=true:=by
 obtain⟨rfl,rfl⟩:=okB_sn h g;unfold xx;split
 .rename_i f
  match o,d,f with
  |[],_,f=>simp at f
  |x::r,d,f=>simp only[okL,tF] at d;exact vk d.1 d.2
 .rename_i f;show okB (.mk k [] 0 o)=true;rcases g with rfl|rfl
  .obtain⟨x,rfl,_⟩:=okB5 h rfl;rw[okB,d];simp only[tC,tR] at b;simp[b]
  .obtain⟨x,y,r,rfl,j,_⟩:=okB6 h rfl;have i:¬(hd o).k=6:=λe=>f ⟨rfl,by rw[b];simp,by simpa[hd] using e,show(x.k !=6)=true by simpa using j⟩;rw[okB,d];simp only[tC] at b;simp[b,i]
mutual
theorem WW (lf:Tm->Int->Tm)(h:∀u d,okB u=true->u.k≠5->u.k≠6->okB (lf u d)=true):∀(t:Tm) (d:Int),okB t=true->okB (zG lf t d)=true
 |.mk k s n l,d,ho=>by
  rw[zG];split;next hk=>exact withF_ok ho (zp hk) (pg lf h l _<|KA ho)<|vq ..
  next hk=>exact h _ _ ho (λe=>hk<|by simp[show k=5 from e]) (λe=>hk<|by simp[show k=6 from e])
theorem pg (lf:Tm->Int->Tm)(h:∀u d,okB u=true->u.k≠5->u.k≠6->okB (lf u d)=true):∀(l:List Tm) (d:Int),okL l=true->okL (zF lf l d)=true
 |[],_,_=>rfl
 |t::l,d,ho=>by simp only[okL,tF] at ho;simp only[zF,okL,WW lf h t d ho.1,pg lf h l d ho.2,E7]
end
theorem cJ {k n m:Int}{s:List UInt8}{l:List Tm}(h:okB (.mk k s n l)=true)(b:k≠5)(d:k≠6):okB (.mk k s m l)=true:=by have:l=[]:=okB0 h b d;subst this;simp[okB,b,d,okL]
theorem ad {fr by_:Int}{t:Tm}(d:Int)(h:okB t=true):okB (shT fr by_ t d)=true:=by
 refine WW _ (λu d b e f=>?_) t d h;unfold ye;split
 .obtain⟨k,s,n,l⟩:=u;exact cJ b e f
 .exact b
theorem suT_ok {i:Int}{s t:Tm}(d:Int)(e:okB s=true)(h:okB t=true):okB (suT i s t d)=true:=by
 refine WW _ (λu d b f g=>?_) t d h;unfold xe;split
 .split
  .exact b
  .split
   .exact ad _ e
   .obtain⟨k,s,n,l⟩:=u;exact cJ b f g
 .exact b
mutual
theorem ii (i:Int)(s:Tm):∀(t:Tm) (d:Int),(suT i s t d).sz<=t.sz+occF t (d+i)*s.sz
 |.mk k s' n l,d=>by
  rw[suT,zG];split
  .rename_i hk;have h1:=cq i s l<|d+if (k==5)=true then 1 else 0
   have h2:=bi (.mk k s' n l)<|zF (xe i s) l<|d+if (k==5)=true then 1 else 0
   have h3:occF (.mk k s' n l) (d+i)=occL l (d+(if (k==5)=true then 1 else 0)+i):=by
    rw[occF,tD (by rintro ⟨e,_⟩;have:k=3:=zp e
                   subst this;simp at hk)]
    congr 1;omega
   rw[h3];simp only[Tm.sz];omega
  .unfold xe;rw[occF];split
   .rename_i h3;split
    .omega
    .split;next h4=>have h5:=jW 0 d s 0;rw[tG ⟨h3,h4⟩];omega
     .simp only[Tm.sz,Tm.l];omega
   .omega
theorem cq (i:Int)(s:Tm):∀(l:List Tm) (d:Int),Tm.szs (zF (xe i s) l d)<=Tm.szs l+occL l (d+i)*s.sz
 |[],_=>by simp[zF,Tm.szs]
 |t::l,d=>by have h1:=ii i s t d;have h2:=cq i s l d;have h1:(zG (xe i s) t d).sz<=t.sz+occF t (d+i)*s.sz:=h1;simp only[zF,Tm.szs,occL,AG];omega
end
theorem K9 {k n:Int}{s:List UInt8}{l:List Tm}(h:vR (.mk k s n l)=false):wR (.mk k s n l)=(if (vW l).2=0 then(.mk k s n l,0) else if (vW l).2=1 then(.mk k [] 0 (vW l).1,1) else(noT,2)):=by rw[wR,tD<|by rw[h];simp]
mutual
theorem X0 (M:Int)(hM:0<=M):∀t:Tm,okB t=true->t.sz<=SZ->bd M t->(wR t).2=1->okB (wR t).1=true/\(wR t).1.sz<=t.sz+42000/\bd (M+SZ) (wR t).1
 |.mk k s n l,ho,hs,hb,h1=>by
  by_cases q:vR (.mk k s n l)=true
  .obtain⟨s',n',s1,n1,body,arg,rest,e,ob,oa,orr⟩:=X3 ho q;injection e with e1 e2 e3 e4
   subst e1;subst e2;subst e3;subst e4;have hF:wR (.mk 6 s n<|.mk 5 s1 n1 [body]::arg::rest)=if vT body arg=true then(zJ (suT 0 arg body 0) rest,1) else(noT,2):=by rw[wR,tG q];rfl
   rw[hF] at h1 ⊢;by_cases hr:vT body arg=true
   .simp only[Tm.sz,Tm.szs] at hs;have h2:=(fA ob oa hr za).2;have h3:=ii 0 arg body 0;have h4:=xS (suT 0 arg body 0) rest;rw[Int.zero_add] at h3;rw[tG hr];refine⟨vk (suT_ok 0 oa ob) orr,by simp only[Tm.sz,Tm.szs];omega,xB ?_ ?_⟩
    .exact suT_bd (M:=M+SZ) (M':=M) (D:=SZ) arg body 0 (yQ za _ hb.2.1.2.1) hb.2.2.1 (tU _) (tU _) za (tU _) za
    .exact jh λu hu=>yQ za _<|yN hb.2.2.2 hu
   .rw[tD hr] at h1;cases h1
  .have q:vR (.mk k s n l)=false:=zp q;have hl:=KA ho;rw[K9 q] at h1 ⊢;split at h1
   .cases h1
   split at h1
   .rename_i h0 h2;rw[tD h0,tG h2];simp only[Tm.sz] at hs;obtain⟨g1,g2,g3,g4,g5⟩:=KU M hM l hl za hb.2 h2;have hk:k=5\/k=6:=by
     by_cases k5:k=5
     .exact .inl k5
     .by_cases k6:k=6
      .exact .inr k6
      .have:l=[]:=okB0 ho k5 k6;subst this;exact absurd rfl h0
    refine⟨?_,by simp only[Tm.sz];omega,⟨λe=>za,g4⟩⟩;rcases hk with rfl|rfl
    .obtain⟨x,rfl,_⟩:=okB5 ho rfl;rw[okB,g1];simp only[tC,tR] at g2;simp[g2]
    .obtain⟨x,y,r,rfl,h6,_⟩:=okB6 ho rfl;have hx:=stepF_hd ho q rfl;rw[okB,g1];simp only[tC] at g2;have:(hd (vW<|x::y::r).1).k≠6:=by rw[vW,tG<|by rw[hx]];exact h6
     simp[g2,this]
   .cases h1
theorem KU (M:Int)(hM:0<=M):∀l:List Tm,okL l=true->Tm.szs l<=SZ->bds M l->(vW l).2=1->okL (vW l).1=true/\(vW l).1.length=l.length/\Tm.szs (vW l).1<=Tm.szs l+42000/\bds (M+SZ) (vW l).1/\True
 |[],_,_,_,h=>by cases h
 |t::l,ho,hs,hb,h=>by
  simp only[okL,tF] at ho;simp only[Tm.szs] at hs;rw[vW] at h ⊢;split at h;next h0=>rw[tG h0];obtain⟨g1,g2,g3,g4,_⟩:=KU M hM l ho.2 za hb.2 h;exact⟨by simp only[okL,ho.1,g1,E7],by simp[g2],by simp only[Tm.szs];omega,⟨yQ za _ hb.1,g4⟩,trivial⟩
  next h0=>rw[tD h0];obtain⟨g1,g2,g3⟩:=X0 M hM t ho.1 za hb.1 h;exact⟨by simp only[okL,ho.2,g1,E7],rfl,by simp only[Tm.szs];omega,⟨g3,jh λu hu=>yQ za _<|yN hb.2 hu⟩,trivial⟩
end
def Fit (F:Nat)(t:Tm):Prop:=okB t=true/\t.sz+42000*F<=SZ/\bd (M61-SZ-SZ*F) t/\F<=5000
theorem Fit.next {F:Nat}{t:Tm}(h:Fit (F+1) t)(d:(wR t).2=1):Fit F (wR t).1:=by obtain⟨e,g,b,f⟩:=h;have:=X0 (M61-SZ-SZ*((F+1:Nat):Int)) (by simp only[M61,SZ];omega) t e za b d;refine⟨this.1,by have:=this.2.1;omega,yQ ?_ _ this.2.2,za⟩;simp only[SZ];omega
theorem Fit.mono {F G:Nat}{t:Tm}(h:Fit F t)(b:G<=F):Fit G t:=⟨h.1,by have:=h.2.1;have:=Nat.mul_le_mul_left 42000 b;omega,yQ (by simp only[SZ];omega) _ h.2.2.1,by have:=h.2.2.2;omega⟩
theorem Fit.kid {F:Nat}{t u:Tm}(h:Fit F t)(b:u∈t.l):Fit F u:=by have d:=Tm.szs_mem b;have e:=t.sz_eq;refine⟨vK (KA h.1) b,by have:=h.2.1;omega,?_,h.2.2.2⟩;obtain⟨k,s,n,l⟩:=t;exact yN h.2.2.1.2 b
theorem Fit.sz {F:Nat}{t:Tm}(h:Fit F t):t.sz<=SZ:=by have:=h.2.1;omega
theorem Fit.bd {F:Nat}{t:Tm}(h:Fit F t):bd M61 t:=yQ (by simp only[SZ];omega) _ h.2.2.1
theorem Fit.ok {F:Nat}{t:Tm}(h:Fit F t):okB t=true:=h.1
theorem cV (s b:List UInt8)(n d:Int)(body arg:Tm)(rest:List Tm):vR (.mk 6 s n<|.mk 5 b d [body]::arg::rest)=true:=rfl
mutual
theorem nw:∀(t:Tm) (m:Int),0<=qX t m->(t.sz:Int)<=m-qX t m
 |.mk _ s _ l,m,h=>by simp only[qX] at h ⊢;have:=pl l (m-1) h;simp only[Tm.sz];omega
theorem pl:∀(l:List Tm) (m:Int),0<=qP l m->(Tm.szs l:Int)<=m-qP l m
 |[],m,h=>by simp[qP,Tm.szs]
 |t::l,m,h=>by
  simp only[qP] at h ⊢;split at h;next h0=>rw[tG h0];have h1:=pl l _ h;have h3:=(Ja l<|qX t m).1;have h2:=nw t m za;simp only[Tm.szs];omega
  next h0=>exact absurd h h0
end
theorem WP {t:Tm}{m:Int}(h:jy t m=false):(t.sz:Int)<=m:=by have h:=tP h;have:=nw t m za;omega
theorem args1 {a:List FV}{x:Tm}(e:LeR a<|FT x):TV.Le (.c<|qf<|.sl false 4 [a]) (aL [x]):=le_c (au rfl λi r t b d=>by
 match i,b,d with
 |0,b,d=>simp only[AI,tL] at b d;subst b;subst d;exact e
 |i+1,b,_=>simp at b)
mutual
def lvB:Tm->Bool
 |.mk k s n l=>if (k==5||k==6)=true then lvL l else validB<|.mk k s n l
def lvL:List Tm->Bool
 |[]=>true
 |t::l=>lvB t&&lvL l
end
theorem jz:∀ {l:List Tm} {t:Tm},lvL l=true->t∈l->lvB t=true
 |x::l,t,h,hm=>by
  simp only[lvL,tF] at h;rcases A1.1 hm with rfl|hm
  .exact h.1
  .exact jz h.2 hm
theorem aj:∀ {l:List Tm},(∀t∈l,lvB t=true)->lvL l=true
 |[],_=>rfl
 |t::l,h=>by simp only[lvL,h t tM,aj (l:=l) λu b=>h u<|tK _ b,E7]
theorem wd {k n:Int}{s:List UInt8}{l:List Tm}(b:k=5\/k=6):lvB (.mk k s n l)=lvL l:=by rw[lvB,tG<|by rcases b with rfl|rfl<;>rfl]
theorem jp {k n:Int}{s:List UInt8}{l:List Tm}(d:k≠5)(b:k≠6):lvB (.mk k s n l)=validB (.mk k s n l):=by rw[lvB,tD<|by simp[d,b]]
theorem cM {s:List UInt8}{n:Int}{l:List Tm}:validB (.mk 5 s n l)=(n==0&&s==[]&&decide (l.length=1)&&yV l):=by
 rw[validB,lenI];simp only[show((5:Int)==0)=false from rfl,show((5:Int)==1)=false from rfl,show((5:Int)==2)=false from rfl,show((5:Int)==3)=false from rfl,show((5:Int)==4)=false from rfl,tX,A6,show((5:Int)==5)=true from rfl,tZ];congr 2;by_cases h:l.length=1
 .rw[h];rfl
 .rw[AF h];simp;omega
theorem gO {s:List UInt8}{n:Int}{l:List Tm}:validB (.mk 6 s n l)=(n==0&&decide (2<=l.length)&&((hd l).k !=6)&&s==[]&&yV l):=by
 rw[validB,lenI];simp only[show((6:Int)==0)=false from rfl,show((6:Int)==1)=false from rfl,show((6:Int)==2)=false from rfl,show((6:Int)==3)=false from rfl,show((6:Int)==4)=false from rfl,show((6:Int)==5)=false from rfl,tX,A6,show((6:Int)==6)=true from rfl,tZ];congr 4;by_cases h:2<=l.length
 .rw[AD h,AD za]
 .rw[AF h,AF za]
mutual
theorem xc:∀t:Tm,validB t=(okB t&&lvB t)
 |.mk k s n l=>by
  by_cases h5:k=5
  .subst h5;rw[cM,wd<|.inl rfl,qV l,okB];cases okL l<;>cases lvL l<;>simp[Bool.and_comm,Sb,Bool.and_left_comm]
  .by_cases h6:k=6
   .subst h6;rw[gO,wd<|.inr rfl,qV l,okB];cases okL l<;>cases lvL l<;>simp[Bool.and_comm,Sb,Bool.and_left_comm]
   .rw[jp h5 h6];cases hv:validB (.mk k s n l) with
    |false=>simp
    |true=>rw[zB _ hv];rfl
theorem qV:∀l:List Tm,yV l=(okL l&&lvL l)
 |[]=>rfl
 |t::l=>by rw[yV,okL,lvL,xc t,qV l];cases okB t<;>cases lvB t<;>simp
end
theorem xM {t:Tm}(h:validB t=true):lvB t=true:=by rw[xc] at h;simp at h;exact h.2
theorem vg {f:Tm}{args:List Tm}(d:lvB f=true)(b:lvL args=true):lvB (zJ f args)=true:=by
 match args,b with
 |[],_=>exact d
 |a::r,b=>
  obtain⟨k,s,n,l⟩:=f;rw[kR];split
  .rename_i h;have e:k=6:=zp h.1;rw[wd<|.inr e] at d;rw[wd<|.inr rfl]
   exact aj λt ht=>by
    rcases A0.1 ht with ht|ht
    .exact jz d ht
    .exact jz b ht
  .rw[wd<|.inr rfl];simp only[lvL,tF] at b ⊢;exact⟨d,b⟩
theorem withF_lv {t:Tm}{o:List Tm}(e:t.k=5\/t.k=6)(b:lvL o=true):lvB (xx t o)=true:=by
 obtain⟨k,s,n,l⟩:=t;unfold xx;split
 .rename_i d
  match o,b,d with
  |[],_,d=>exact absurd d.2.1 zb
  |x::r,b,d=>simp only[lvL,tF] at b;exact vg b.1 b.2
 .exact(wd e).trans b
mutual
theorem ZW (lf:Tm->Int->Tm)(Q:Tm->Int->Prop)(hq:∀k s n l d,Q (.mk k s n l) d->∀u∈l,Q u<|d+if (k==5)=true then 1 else 0)(h:∀u d,lvB u=true->Q u d->u.k≠5->u.k≠6->lvB (lf u d)=true):∀(t:Tm) (d:Int),lvB t=true->Q t d->lvB (zG lf t d)=true
 |.mk k s n l,d,ho,hQ=>by
  rw[zG];split
  .rename_i hk;have hk:k=5\/k=6:=zp hk;rw[wd hk] at ho;exact withF_lv hk<|pd lf Q hq h l _ ho<|hq k s n l d hQ
  next hk=>exact h _ _ ho hQ (λe=>hk<|by simp[show k=5 from e]) (λe=>hk<|by simp[show k=6 from e])
theorem pd (lf:Tm->Int->Tm)(Q:Tm->Int->Prop)(hq:∀k s n l d,Q (.mk k s n l) d->∀u∈l,Q u<|d+if (k==5)=true then 1 else 0)(h:∀u d,lvB u=true->Q u d->u.k≠5->u.k≠6->lvB (lf u d)=true):∀(l:List Tm) (d:Int),lvL l=true->(∀u∈l,Q u d)->lvL (zF lf l d)=true
 |[],_,_,_=>rfl
 |t::l,d,ho,hQ=>by simp only[lvL,tF] at ho;simp only[zF,lvL,ZW lf Q hq h t d ho.1<|hQ t tM,pd lf Q hq h l d ho.2 λu hu=>hQ u<|tK _ hu,E7]
end
theorem kC {s:List UInt8}{n:Int}{l:List Tm}:validB (.mk 3 s n l)=true↔0<=n/\n<=4611686018427387904/\s=[]/\l=[]:=by
 rw[validB,lenI];simp only[show((3:Int)==0)=false from rfl,show((3:Int)==1)=false from rfl,show((3:Int)==2)=false from rfl,tX,A6,show((3:Int)==3)=true from rfl,tZ];simp only[tF,Ak,Al];constructor
 .rintro ⟨⟨⟨⟨d,b⟩,e⟩,f⟩,_⟩;exact⟨d,b,e,tS za⟩
 .rintro ⟨d,b,rfl,rfl⟩;exact⟨⟨⟨⟨d,b⟩,rfl⟩,rfl⟩,rfl⟩
theorem nS {by_ M D:Int}(j:0<=by_)(m:M+by_<=4611686018427387904)(t:Tm)(d fr:Int)(g:bd M t)(h:lvB t=true)(_:d<=D):lvB (shT fr by_ t d)=true:=by
 refine ZW _ (λu _=>bd M u) (λk s n l d f u b=>yN f.2 b) (λu d b f p o=>?_) t d h g;unfold ye;split
 .rename_i e;obtain⟨k,s,n,l⟩:=u;have i:k=3:=by have e:=e.1;have e:(k==3)=true:=e;exact zp e
  subst i;rw[jp zc zc,kC] at b;have g:=f.1 rfl;show lvB (.mk 3 s (n+by_) l)=true;rw[jp zc zc,kC];exact⟨za,za,b.2.2.1,b.2.2.2⟩
 .exact b
theorem suT_lv {i M:Int}{s t:Tm}{D:Int}(E:0<=i)(x:M+D<=4611686018427387904)(h:bd M s)(w:lvB s=true)(p:lvB t=true)(d:Int)(r:0<=d)(hD:d+t.sz<=D):lvB (suT i s t d)=true:=by
 refine ZW _ (λu d=>0<=d/\d+u.sz<=D) (λk s n l d f u b=>?_) (λu d b f z y=>?_) t d p ⟨r,hD⟩
 .have:=Tm.szs_mem b;simp only[Tm.sz] at f;constructor
  .have:=f.1;split<;>omega
  .have:=f.2;split<;>omega
 .unfold xe;split
  .rename_i g;split
   .exact b
   .rename_i j;split
    .have:=f.2;exact nS f.1 (D:=0) za s 0 0 h w<|tU _
    .rename_i m;obtain⟨k,o,n,l⟩:=u;have v:k=3:=by have g:(k==3)=true:=g;exact zp g
     subst v;rw[jp zc zc,kC] at b;have A:¬n<d+i:=j;have C:n≠d+i:=λe=>m (by rw[show Tm.n (.mk 3 o n l)=n from rfl,e];simp);show lvB (.mk 3 o (n-1) l)=true;rw[jp zc zc,kC];have:=f.1;exact⟨za,za,b.2.2.1,b.2.2.2⟩
  .exact b
mutual
theorem cB (M:Int)(hM:M+SZ<=4611686018427387904):∀t:Tm,okB t=true->t.sz<=SZ->bd M t->lvB t=true->(wR t).2=1->lvB (wR t).1=true
 |.mk k s n l,ho,hs,hb,hl,h1=>by
  by_cases q:vR (.mk k s n l)=true
  .obtain⟨s',n',s1,n1,body,arg,rest,e,ob,oa,orr⟩:=X3 ho q;injection e with e1 e2 e3 e4
   subst e1;subst e2;subst e3;subst e4;have hF:wR (.mk 6 s n<|.mk 5 s1 n1 [body]::arg::rest)=if vT body arg=true then(zJ (suT 0 arg body 0) rest,1) else(noT,2):=by rw[wR,tG q];rfl
   rw[hF] at h1 ⊢;by_cases hr:vT body arg=true
   .rw[tG hr];rw[wd<|.inr rfl] at hl;simp only[lvL,tF] at hl;have hb0:lvB body=true:=by have:=hl.1;rw[wd<|.inl rfl] at this;simpa[lvL] using this
    simp only[Tm.sz,Tm.szs] at hs;exact vg (suT_lv (M:=M) (D:=SZ) (tU _) hM hb.2.2.1 hl.2.1 hb0 0 (tU _) za) hl.2.2
   .rw[tD hr] at h1;cases h1
  .have q:vR (.mk k s n l)=false:=zp q;rw[K9 q] at h1 ⊢;split at h1
   .cases h1
   split at h1
   .rename_i h0 h2;rw[tD h0,tG h2];simp only[Tm.sz] at hs;have hk:k=5\/k=6:=by
     by_cases k5:k=5
     .exact .inl k5
     .by_cases k6:k=6
      .exact .inr k6
      .have:l=[]:=okB0 ho k5 k6;subst this;exact absurd rfl h0
    rw[wd hk] at hl;show lvB (.mk k [] 0 (vW l).1)=true;rw[wd hk];exact bL M hM l (KA ho) za hb.2 hl h2
   .cases h1
theorem bL (M:Int)(hM:M+SZ<=4611686018427387904):∀l:List Tm,okL l=true->Tm.szs l<=SZ->bds M l->lvL l=true->(vW l).2=1->lvL (vW l).1=true
 |[],_,_,_,_,h=>by cases h
 |t::l,ho,hs,hb,hl,h=>by
  simp only[okL,tF] at ho;simp only[Tm.szs] at hs;simp only[lvL,tF] at hl;rw[vW] at h ⊢;split at h;next h0=>rw[tG h0];simp only[lvL,hl.1,bL M hM l ho.2 za hb.2 hl.2 h,E7]
  next h0=>rw[tD h0];simp only[lvL,hl.2,cB M hM t ho.1 za hb.1 hl.1 h,E7]
end
theorem zX {k n:Int}{s:List UInt8}{l:List Tm}(h:validB (.mk k s n l)=true)(e:k=5\/k=6):∀u∈l,validB u=true:=λu d=>by rw[xc,tF] at h ⊢;have f:=KA h.1;have b:=h.2;rw[wd e] at b;exact⟨vK f d,jz b d⟩
def LeW (p q:Bool×List WV):Prop:=p.1=q.1/\All2 WV.Le p.2 q.2
theorem J0 {α β:Type}{R:α->β->Prop}:∀ {a:List α} {b:List β},All2 R a b->a.length=b.length/\∀(i:Nat) (x:α) (y:β),a[i]?=some x->b[i]?=some y->R x y
 |[],[],_=>⟨rfl,λi x y f _=>by simp at f⟩
 |x::a,y::b,h=>by
  have:=J0 h.2;refine⟨by simp[this.1],λi u v e d=>?_⟩
  match i,e,d with
  |0,e,d=>simp at e d;subst e;subst d;exact h.1
  |i+1,e,d=>exact this.2 i u v (zp e) (zp d)
 |[],_::_,h=>h.elim
 |_::_,[],h=>h.elim
theorem jL {a b:List (Bool×List WV)}(h:All2 LeW a b):TV.Le (.tup a) (.tup b):=by have:=J0 h;refine .tup _ _ this.1 λi p q g f=>?_;have e:=this.2 i p q g f;have d:=J0 e.2;exact⟨e.1,d.1,d.2⟩
theorem leWn:WV.Le (qf .N) (qf<|.sl false 4<|FTs []):=.a _ _<|.fz _ _ zO
theorem lw1 {x y:WV}{b:Bool}(h:WV.Le x y):LeW (b,[x]) (b,[y]):=⟨rfl,h,trivial⟩
theorem lwT {k n:Int}{s:List UInt8}{x:FV}{l:List Tm}{b:Bool}(h:FV.Le x<|.sl false 4<|FTs l):LeW (b,[qi k,qf<|.str s,qi n,qf x]) (b,cT<|.mk k s n l):=⟨rfl,.refl _,.refl _,.refl _,.a _ _<|.fz _ _ h,trivial⟩
theorem lwR (p:Bool×List WV):LeW p p:=by
 obtain⟨b,l⟩:=p;refine⟨rfl,?_⟩;show All2 WV.Le l l
 induction l with
 |nil=>trivial
 |cons x l ih=>exact⟨.refl _,ih⟩
theorem vP (l:List Inf):(SR l).length=l.length:=by simp[SR]
theorem SR_get {l:List Inf}{i:Nat}(h:i<l.length):getD (SR l) i []=Inf.c l[i]:=by simp[SR,getD,h]
theorem nH (a b:List Inf):SR (a++b)=SR a++SR b:=by simp[SR]
abbrev noI:Inf:=⟨0,false,noT⟩
abbrev aS (o:Nat):TV:=.c<|.a<|.ep o 2 0 0
abbrev sto2 (a b:Nat)(s:Sto):AObj:=.arr 2 [[.a<|.osl a 6 0 s.V.length,.a<|.osl b 1 0 s.T.length]]
abbrev oS (s:Sto):List AObj:=[sto2 1 2 s,.arz 6<|SR s.V,.arz 1<|IR s.T]
abbrev oSf (s:Sto)(f:Int):List AObj:=[sto2 1 2 s,.arz 6<|SR s.V,.arz 1<|IR s.T,obj1 f]
def zL (V:List Inf)(x:Int):Inf:=if 0<=x/\x<(V.length:Int) then(V[x.toNat]?).getD noI else noI
def inB (V:List Inf)(x:Int):Bool:=decide (0<=x)&&decide (x<(V.length:Int))
theorem Y8 {V:List Inf}{x:Int}(d:0<=x)(b:x<(V.length:Int)):∃h:x.toNat<V.length,zL V x=V[x.toNat]:=by have h:x.toNat<V.length:=za;exact⟨h,by rw[zL,tG ⟨d,b⟩,tO h];rfl⟩
theorem jX {V:List Inf}{x:Int}(h:¬(0<=x/\x<(V.length:Int))):zL V x=noI:=tD h
abbrev tI (i:Inf)(b:Bool):TV:=.tup [(true,[qi i.lv,qf<|.bool i.bd,qi i.v.k,qf<|.str i.v.s,qi i.v.n,qf<|.sl false 4<|FTs i.v.l]),(false,[qf<|.bool b])]
theorem inf_no {c d:Bool}(h:c=d){n:Nat}:TV.Le (.tup [(true,[qi 0,qf<|.bool false,qi 0,qf<|.str [],qi 0,qf .N]),(false,[qf<|.bool c])]) (tI noI d)/\n=n:=by subst h;exact⟨jL ⟨⟨rfl,.refl _,.refl _,.refl _,.refl _,.refl _,leWn,trivial⟩,lwR _,trivial⟩,rfl⟩
theorem c_snew:AC tB 10 [] [] (aS 0) (oS ⟨[],[]⟩):=by refine acv (v10 ..) ?_;exact rrl
theorem qQ (s:Sto)(x:Int):AC tB 100 [aS 0,ci x] (oS s) (tI (zL s.V x)<|inB s.V x) (oS s):=by
 refine acv (v100 ..) ?_;refine zu (λh=>?_) λh=>zu (λh'=>?_) λh'=>?_
 .have h:=hU h;rw[jX za];exact⟨(inf_no (by simp[inB];omega) (n:=0)).1,rfl⟩
 .have h':=hU h';rw[jX za];exact⟨(inf_no (by simp[inB];omega) (n:=0)).1,rfl⟩
 .have h:=tP h;have h':=tP h';obtain⟨hl,e⟩:=Y8 (V:=s.V) (x:=x) za za;rw[e,show getD (SR s.V) (0+toNat x) []=Inf.c s.V[x.toNat] by rw[A4,SR_get hl],show inB s.V x=true by simp[inB];omega];refine⟨⟨za,za⟩,⟨by rw[vP];omega,rfl,rfl⟩,.refl _,rfl⟩
def valS (s:Sto)(t:Tm):Tm:=(zL s.V t.n).v
def valB (s:Sto)(t:Tm):Bool:=t.k==4&&(zL s.V t.n).bd
theorem bI (s:Sto)(t:Tm):AC tB 71 [aS 0,aT t] (oS s) (.tup [(true,cT<|valS s t),(false,[qf<|.bool<|valB s t])]) (oS s):=by
 have hi:=qQ s t.n;obtain⟨k,str,n,l⟩:=t;refine acv (v71 k str n (FTs l) ..) ?_;have out:inB s.V n=false->(zL s.V n).bd=false:=λh=>by rw[jX<|by simp[inB] at h;omega]
 refine⟨(_,_,_,_),hi,zu (λh=>zu (λh'=>?_) λh'=>?_) λh=>?_⟩
 .refine⟨?_,rfl⟩;show TV.Le _<|.tup [(true,cT (zL s.V n).v),(false,[qf<|.bool<|k==4&&(zL s.V n).bd])];rw[show(k==4)=true from h];exact .refl _
 .refine⟨?_,rfl⟩;show TV.Le _<|.tup [(true,cT (zL s.V n).v),(false,[qf<|.bool<|k==4&&(zL s.V n).bd])];rw[out h',Ap];exact .refl _
 .refine⟨?_,rfl⟩;show TV.Le _<|.tup [(true,cT (zL s.V n).v),(false,[qf<|.bool<|k==4&&(zL s.V n).bd])];rw[show(k==4)=false from h];exact .refl _
def OKV (v:Tm):Prop:=validB v=true/\v.sz<=40000/\bd 2199023255552 v
def OKS (s:Sto):Prop:=∀i∈s.V,i.bd=true->OKV i.v
theorem OKS.val {s:Sto}(h:OKS s){t:Tm}(b:valB s t=true):OKV (valS s t):=by
 simp only[valB,tF] at b;by_cases q:0<=t.n/\t.n<(s.V.length:Int)
 .obtain⟨d,e⟩:=Y8 q.1 q.2;rw[valS,e];rw[e] at b;exact h _ (List.getElem_mem d) b.2
 .rw[jX q] at b;simp[noI] at b
def zU (s:Sto)(t:Tm):Tm×Int:=
 if valB s t=true then(valS s t,1) else if t.k≠6 then(t,0) else if valB s (hd t.l)=true then(zJ (valS s<|hd t.l)<|t.l.drop 1,1) else if (hd t.l).k≠5 then(t,0) else(zJ (conF (hd (hd t.l).l)<|hd<|t.l.drop 1)<|t.l.drop 2,if vT (hd (hd t.l).l) (hd<|t.l.drop 1)=true then 1 else 2)
theorem WU (s:Sto)(t:Tm):(zU s t).2=0\/(zU s t).2=1\/(zU s t).2=2:=by
 unfold zU;split
 .exact .inr<|.inl rfl
 .split
  .exact .inl rfl
  .split
   .exact .inr<|.inl rfl
   .split
    .exact .inl rfl
    .simp only;split
     .exact .inr<|.inl rfl
     .exact .inr<|.inr rfl
theorem kT (t:List<|List FV):take (toNat ((t.length:Nat):Int)) t=t:=by rw[hJ,tN<|tJ _]
theorem aE0 (x:Tm)(l:List Tm):aE (getD (FTs<|x::l) 0 [])=aT x:=yT x
theorem aE1 (x y:Tm)(l:List Tm):aE (getD (FTs<|x::y::l) 1 [])=aT y:=yT y
theorem asI0 (x:Tm)(l:List Tm):FV.I (getD (getD (FTs<|x::l) 0 []) 0 FV.N)=x.k:=by cases x;rfl
theorem rV (s:Sto)(hs:OKS s)(t:Tm)(hv:validB t=true)(hz:t.sz<=SZ)(hb:bd M61 t):AC tB 46 [aS 0,aT t] (oS s) (aSt (zU s t).1 (zU s t).2) (oS s):=by
 have h1:=bI s t;have ok:=zB t hv;obtain⟨k,str,n,l⟩:=t;refine acv (v46 k str n (FTs l) ..) ?_;refine⟨(_,_),h1,zu (λh=>?_) λh=>zu (λh6=>?_) λh6=>?_⟩
 .have h:valB s (.mk k str n l)=true:=h;rw[zU,tG h];exact rrl
 .have h:valB s (.mk k str n l)=false:=h;have h6:k≠6:=zp h6;rw[zU,tD<|by rw[h];simp,tG (show Tm.k (.mk k str n l)≠6 from h6)];exact rrl
 have h:valB s (.mk k str n l)=false:=h;have h6:k=6:=zp h6;obtain⟨x,y,r,rfl,hx6,hl⟩:=okB6 ok h6;simp only[okL,tF] at hl;subst h6;simp only[Tm.sz,Tm.szs,SZ] at hz;have szr:=Tm.szs_length r;have bx:=hb.2.1;have by_:=hb.2.2.1;have h2:=bI s x;have e1:drop 1 (take (toNat (((FTs<|x::y::r).length:Nat):Int))<|FTs<|x::y::r)=FTs (y::r):=by rw[kT];rfl
 have e2:drop 2 (take (toNat (((FTs<|x::y::r).length:Nat):Int))<|FTs<|x::y::r)=FTs r:=by rw[kT];rfl
 rw[e1,e2,aE0,aE1,asI0];have len:∀n:Nat,n<=2->((n:Nat):Int)<=(((FTs<|x::y::r).length:Nat):Int):=λn hn=>by rw[zq];simp only[tC];omega
 have hS:zU s (.mk 6 str n<|x::y::r)=if valB s x=true then(zJ (valS s x)<|y::r,1) else if x.k≠5 then(.mk 6 str n<|x::y::r,0) else(zJ (conF (hd x.l) y) r,if vT (hd x.l) y=true then 1 else 2):=by rw[zU,tD<|by rw[h];simp,tD (show¬Tm.k (.mk 6 str n<|x::y::r)≠6 from λe=>e rfl)];rfl
 refine⟨el0 x<|y::r,(_,_),h2,zu (λh3=>⟨rfl,⟨za,len 1 za,tU _⟩,_,w8 (valS s x) (y::r) ?_,?_⟩) λh3=>⟨el0 x<|y::r,zu (λh5=>?_) λh5=>?_⟩⟩
 .have h3:valB s x=true:=h3;have hv:=(hs.val h3).2.1;have:=Tm.szs_length (valS s x).l;have:=(valS s x).sz_eq;simp only[tC];omega
 .have h3:valB s x=true:=h3;rw[hS,tG h3];exact rrl
 .have h3:valB s x=false:=h3;have h5:x.k≠5:=zp h5;rw[hS,tD<|by rw[h3];simp,tG h5];exact rrl
 .have h3:valB s x=false:=h3;have h5:x.k=5:=zp h5;rw[hS,tD<|by rw[h3];simp,tD<|by rw[h5];simp];have hvl:=zX hv<|.inr rfl;have vx:=hvl x tM;have vy:=hvl y<|tK _ tM;obtain⟨xk,xs,xn,xl⟩:=x;have h5:xk=5:=h5;subst h5;obtain⟨b,rfl,ob⟩:=okB5 hl.1 rfl;have vb:=zX vx (.inl rfl) b tM;simp only[Tm.sz,Tm.szs] at hz;have hc:=dU b y (by simp only[SZ];omega) (by simp only[SZ];omega) bx.2.1 by_;rw[tG<|by rw[vb,vy];rfl] at hc;rw[show aE (getD (FV.ses<|getD (getD (FTs<|.mk 5 xs xn [b]::y::r) 0 []) 3 FV.N) 0 [])=aT b from yT b];refine⟨el0 _ _,el0 b [],el1 _ _ _,(_,_),hc,rfl,⟨za,len 2 za,tU _⟩,_,w8 (conF b y) r ?_,?_⟩
  .unfold conF;split;next hr=>have h5:=(fA ob hl.2.1 hr<|by simp only[SZ];omega).1;have hz:=suT_sz 0 y b 0;have h6:=Tm.szs_length (suT 0 y b 0).l;have h7:=(suT 0 y b 0).sz_eq;simp only[B] at h5;omega
   .simp only[Tm.l,tR];omega
  .refine⟨?_,rfl⟩;show TV.Le (.tup [(true,cT<|zJ (conF b y) r),(false,[qf<|.bool true]),(false,[qi<|conE b y])])<|aSt (zJ (conF b y) r) (if vT b y=true then 1 else 2);unfold conE;by_cases q:vT b y=true
   .rw[tG q,tG q];exact .refl _
   .rw[tD q,tD q];exact .refl _
theorem jO {F:Nat}{s:Sto}{t:Tm}(X:OKS s)(K:validB t=true)(g:Fit (F+1) t)(h:(zU s t).2=1):validB (zU s t).1=true/\Fit F (zU s t).1:=by
 have hM:(2199023255552:Int)<=M61-SZ-SZ*F:=by have:=g.2.2.2;simp only[M61,SZ];omega
 have f:∀u,valB s u=true->validB (valS s u)=true/\okB (valS s u)=true/\lvB (valS s u)=true/\(valS s u).sz<=40000/\bd (M61-SZ-SZ*F) (valS s u):=λu L=>by have:=X.val L;exact⟨this.1,zB _ this.1,xM this.1,this.2.1,yQ hM _ this.2.2⟩
 have W:=g.2.1;have hF4:=g.2.2.2;unfold zU at h ⊢;split;next q=>obtain⟨M,J,U,v4,H⟩:=f _ q;exact⟨M,J,by simp only;omega,H,za⟩
 rename_i q;rw[tD q] at h;split;next p=>rw[tG p] at h;simp at h
 rename_i p;rw[tD p] at h;have V:=zB t K;obtain⟨k,j,n,l⟩:=t;have T:k=6:=by
  by_cases e:k=6
  .exact e
  .exact absurd e p
 obtain⟨x,y,r,rfl,hx6,v⟩:=okB6 V T;subst T;simp only[okL,tF] at v;have S:=zX K<|.inr rfl;have O:=yQ (M':=M61-SZ-SZ*F) (by simp only[SZ];omega) _ g.2.2.1;simp only[Tm.sz,Tm.szs] at W;have C:lvL r=true:=aj λu L=>xM<|S u<|tK _<|tK _ L;have ey:Tm.l (.mk 6 j n<|x::y::r)=x::y::r:=rfl;have eh:hd (x::y::r)=x:=rfl;have e1:drop 1 (x::y::r)=y::r:=rfl;have Y:drop 2 (x::y::r)=r:=rfl;have E:hd (y::r)=y:=rfl;simp only[ey,eh,e1,Y,E] at h ⊢;split
 .rename_i A;obtain⟨M,J,U,v4,H⟩:=f _ A;have m:okB (zJ (valS s x)<|y::r)=true:=vk J (by simp only[okL,v.2.1,v.2.2,E7]);have G:lvB (zJ (valS s x)<|y::r)=true:=vg U (by simp only[lvL,C,xM<|S y<|tK _ tM,E7]);have z:=xS (valS s x)<|y::r;simp only[Tm.szs] at z;refine⟨by rw[xc,m,G];rfl,m,by simp only;omega,xB H (show bds _ (y::r) from⟨O.2.2.1,O.2.2.2⟩),za⟩
 rename_i A;rw[tD A] at h;split;next w=>rw[tG w] at h;simp at h
 rename_i w;rw[tD w] at h;obtain⟨N,xs,I,xl⟩:=x;have Z:N=5:=by
  by_cases e:N=5
  .exact e
  .exact absurd e w
 subst Z;obtain⟨b,rfl,ob⟩:=okB5 v.1 rfl;have d:vT b y=true:=by
  by_cases e:vT b y=true
  .exact e
  .exfalso;have h:(if vT b y=true then(1:Int) else 2)=1:=h;rw[tD e] at h;cases h
 have i:wR (.mk 6 j n<|.mk 5 xs I [b]::y::r)=(zJ (suT 0 y b 0) r,1):=by rw[wR,tG<|cV j xs n I b y r];exact tG d
 have e3:conF (hd<|Tm.l<|.mk 5 xs I [b]) y=suT 0 y b 0:=by show conF b y=_;rw[conF,tG d]
 rw[e3];have D:=g.next (by rw[i]);have o:=cB (M61-SZ-SZ*((F+1:Nat):Int)) (by simp only[M61,SZ];omega) _ V g.sz g.2.2.1 (xM K) (by rw[i]);rw[i] at D o;exact⟨by rw[xc,D.1,o];rfl,D⟩
def runH (s:Sto):Nat->Tm->Tm×Int×Nat
 |0,t=>if (zU s t).2=0 then(t,0,0) else(noT,80,0)
 |F+1,t=>if (zU s t).2=0 then(t,0,0) else if (zU s t).2=2 then(noT,80,0) else((runH s F (zU s t).1).1,(runH s F (zU s t).1).2.1,(runH s F (zU s t).1).2.2+1)
theorem jP {s:Sto}(i:OKS s):∀ {F:Nat} {t:Tm},validB t=true->Fit F t->(runH s F t).2.2<=F/\((runH s F t).2.1=0/\validB (runH s F t).1=true/\Fit (F-(runH s F t).2.2) (runH s F t).1/\(zU s (runH s F t).1).2=0\/(runH s F t).2.1=80/\(runH s F t).1=noT)
 |0,t,g,e=>by
  rw[runH];split;next h=>exact⟨tJ _,.inl ⟨rfl,g,e,h⟩⟩
  .exact⟨tJ _,.inr ⟨rfl,rfl⟩⟩
 |F+1,t,g,e=>by
  rw[runH];split;next h=>exact⟨AT _,.inl ⟨rfl,g,e,h⟩⟩
  .rename_i m;split
   .exact⟨AT _,.inr ⟨rfl,rfl⟩⟩
   .rename_i o
    have h1:(zU s t).2=1:=by rcases WU s t with q|q|q; · exact absurd q m
                             .exact q
                             .exact absurd q o
    obtain⟨v,f⟩:=jO i g e h1;have:=jP i v f;refine⟨by simp only;omega,?_⟩;rcases this.2 with⟨a,b,c,d⟩|⟨a,b⟩
    .exact .inl ⟨a,b,by simp only;rw[show F+1-((runH s F (zU s t).1).2.2+1)=F-(runH s F (zU s t).1).2.2 by omega];exact c,d⟩
    .exact .inr ⟨a,b⟩
theorem l_shead (s:Sto)(hs:OKS s):∀(F:Nat) (f:Int) (t:Tm),f.toNat=F->0-9223372036854775808<=f->validB t=true->Fit F t->
  RPt tB 29 4 (aTE (runH s F t).1 (runH s F t).2.1) (oSf s<|f-((runH s F t).2.2:Int)) 1
   ⟨[(0,aS 0),(2,.c<|.a<|.ep 3 1 0 0),(4,.c<|.a<|.ep 4 4 0 0),(6,.c<|.a<|.ep 5 4 0 0)],[(0,sto2 1 2 s),(1,.arz 6<|SR s.V),(2,.arz 1<|IR s.T),(3,obj1 f),(4,.arr 4 [cT t]),(5,.arr 4 [zT])],6⟩:=by
 intro F
 induction F with
 |zero=>
  intro f t hf hf0 hv hfit;have hc:=rV s hs t hv hfit.sz hfit.bd;have hr:runH s 0 t=if (zU s t).2=0 then(t,0,0) else(noT,80,0):=rfl
  rw[hr];obtain⟨k,str,n,l⟩:=t;refine rpv (v29_1a s.V.length s.T.length (SR s.V) (IR s.T) f k str n (FTs l) 0 [] 0 _ _) ?_;refine⟨(_,_,_),hc,zu (λh=>?_) λh=>zu (λh2=>?_) λh2=>zu (λh3=>?_) λh3=>absurd (tP h3) za⟩
  .have h:(zU s<|.mk k str n l).2=0:=by have h:(!((zU s<|.mk k str n l).2 !=0))=true:=h;exact zp h
   rw[tG h];exact⟨.refl _,zb⟩
  .have h:¬(zU s<|.mk k str n l).2=0:=by have h:(!((zU s<|.mk k str n l).2 !=0))=false:=h;exact zp h
   rw[tD h];exact⟨leTE (l:=[]) zO,zb⟩
  .have h:¬(zU s<|.mk k str n l).2=0:=by have h:(!((zU s<|.mk k str n l).2 !=0))=false:=h;exact zp h
   rw[tD h];exact⟨leTE (l:=[]) zO,zb⟩
 |succ F ih=>
  intro f t hf hf0 hv hfit;have hc:=rV s hs t hv hfit.sz hfit.bd;have hr:runH s (F+1) t=if (zU s t).2=0 then(t,0,0) else if (zU s t).2=2 then(noT,80,0) else((runH s F (zU s t).1).1,(runH s F (zU s t).1).2.1,(runH s F (zU s t).1).2.2+1):=rfl
  rw[hr];have hF4:=hfit.2.2.2
  have next:¬(zU s t).2=0->¬(zU s t).2=2->_:=λh0 h2=>by
   have h1:(zU s t).2=1:=by rcases WU s t with q|q|q; · exact absurd q h0
                            .exact q
                            .exact absurd q h2
   obtain⟨v,ff⟩:=jO hs hv hfit h1;exact ih (f-1) (zU s t).1 za za v ff
  obtain⟨k,str,n,l⟩:=t;refine rpv (v29_1a s.V.length s.T.length (SR s.V) (IR s.T) f k str n (FTs l) 0 [] 0 _ _) ?_;rw[w64 (x:=f-1) za za];refine⟨(_,_,_),hc,zu (λh=>?_) λh=>zu (λh2=>?_) λh2=>zu (λh3=>absurd (hU h3) za) λh3=>?_⟩
  .have h:(zU s<|.mk k str n l).2=0:=by have h:(!((zU s<|.mk k str n l).2 !=0))=true:=h;exact zp h
   rw[tG h];exact⟨.refl _,zb⟩
  .have h:¬(zU s<|.mk k str n l).2=0:=by have h:(!((zU s<|.mk k str n l).2 !=0))=false:=h;exact zp h
   have h2:(zU s<|.mk k str n l).2=2:=by
    by_cases q:(zU s<|.mk k str n l).2=2
    .exact q
    .have h2:((if (zU s<|.mk k str n l).2=2 then(80:Int) else 0) !=0)=true:=h2;rw[tD q] at h2;cases h2
   rw[tD h,tG h2];exact⟨leTE (l:=[]) zO,zb⟩
  .have h:¬(zU s<|.mk k str n l).2=0:=by have h:(!((zU s<|.mk k str n l).2 !=0))=false:=h;exact zp h
   have h2:¬(zU s<|.mk k str n l).2=2:=λq=>by have h2:((if (zU s<|.mk k str n l).2=2 then(80:Int) else 0) !=0)=false:=h2;rw[tG q] at h2;cases h2
   rw[tD h,tD h2];have:=next h h2;rw[show f-1-(((runH s F (zU s<|.mk k str n l).1).2.2:Nat):Int)=f-(((runH s F (zU s<|.mk k str n l).1).2.2+1:Nat):Int) by omega] at this;exact this
theorem ig (s:Sto)(hs:OKS s)(F:Nat)(f:Int)(t:Tm)(hF:f.toNat=F)(h0:0-9223372036854775808<=f)(hv:validB t=true)(hf:Fit F t):
  AC tB 29 [aS 0,aT t,.c<|.a<|.ep 3 1 0 0] (oSf s f) (aTE (runH s F t).1 (runH s F t).2.1) (oSf s<|f-((runH s F t).2.2:Int)):=by
 have h:=l_shead s hs F f t hF h0 hv hf;obtain⟨k,str,n,l⟩:=t;exact acv (v29 k str n (FTs l) ..) h
def zZ (s:Sto)(f:Int)(t:Tm):Tm×Int×Int:=
 if validB t=true then(if (runH s f.toNat t).2.1=0 then((runH s f.toNat t).1,f-((runH s f.toNat t).2.2:Int),0) else(noT,0,(runH s f.toNat t).2.1)) else(noT,0,1)
abbrev aHd (z:Tm×Int×Int):TV:=.tup [(true,cT z.1),(false,[qi z.2.1]),(false,[qi z.2.2])]
theorem leHd {k n a e:Int}{s:List UInt8}{x:FV}{l:List Tm}(h:FV.Le x<|.sl false 4<|FTs l):TV.Le (.tup [(true,[qi k,qf<|.str s,qi n,qf x]),(false,[qi a]),(false,[qi e])]) (aHd (.mk k s n l,a,e)):=
 jL ⟨lwT h,lwR _,lwR _,trivial⟩
theorem fg (s:Sto)(hs:OKS s)(f:Int)(t:Tm)(h0:0-9223372036854775808<=f)(hz:t.sz<=B)(hf:validB t=true->Fit f.toNat t):
  AC tB 28 [aT t,ci f,.c<|.fn (.func 29) [(false,[.ep 0 2 0 0])] []] (oS s) (aHd<|zZ s f t) (oS s):=by
 have h1:=yz t hz;have h2:=λhv=>ig s hs f.toNat f t rfl h0 hv (hf hv);have h3:=λhv=>jP hs hv<|hf hv;have hV:zZ s f t=if validB t=true then(if (runH s f.toNat t).2.1=0 then((runH s f.toNat t).1,f-((runH s f.toNat t).2.2:Int),0) else(noT,0,(runH s f.toNat t).2.1)) else(noT,0,1):=rfl
 rw[hV];obtain⟨k,str,n,l⟩:=t;refine acv (v28_F29 k str n (FTs l) ..) ?_;refine⟨_,h1,zu (λh=>?_) λh=>⟨(_,_,_),h2<|zp h,zu (λh'=>?_) λh'=>?_⟩⟩
 .rw[tD<|zp h];exact⟨leHd (l:=[]) zO,rfl⟩
 .have h:validB (.mk k str n l)=true:=zp h;have h':((runH s f.toNat<|.mk k str n l).2.1 !=0)=true:=h';rw[tG h,tD<|zp h'];exact⟨leHd (l:=[]) zO,rfl⟩
 .have h:validB (.mk k str n l)=true:=zp h;have h':((runH s f.toNat<|.mk k str n l).2.1 !=0)=false:=h';rw[tG h,tG<|zp h'];exact rrl
theorem JQ (s:Sto)(hs:OKS s)(f:Int)(t:Tm)(h0:0-9223372036854775808<=f)(hz:t.sz<=B)(hf:validB t=true->Fit f.toNat t):AC tB 12 [aS 0,aT t,ci f] (oS s) (aHd<|zZ s f t) (oS s):=by have h:=fg s hs f t h0 hz hf;obtain⟨k,str,n,l⟩:=t;refine acv (v12 k str n (FTs l) ..) ?_;exact⟨(_,_,_),h,.refl _,rfl⟩
theorem stepS_sz {F:Nat}{s:Sto}{t:Tm}(v:OKS s)(L:validB t=true)(m:Fit (F+1) t)(h:(zU s t).2=1):(zU s t).1.sz<=t.sz+42000:=by
 unfold zU at h ⊢;split;next q=>have:=(v.val q).2.1;simp only;omega
 rename_i q;rw[tD q] at h;split;next i=>rw[tG i] at h;simp at h
 rename_i i;rw[tD i] at h;have M:=zB t L;obtain⟨k,f,n,l⟩:=t;have C:k=6:=by
  by_cases e:k=6
  .exact e
  .exact absurd e i
 obtain⟨x,y,r,rfl,H,w⟩:=okB6 M C;subst C;simp only[okL,tF] at w;have K:Tm.l (.mk 6 f n<|x::y::r)=x::y::r:=rfl;have I:hd (x::y::r)=x:=rfl;have J:drop 1 (x::y::r)=y::r:=rfl;have D:drop 2 (x::y::r)=r:=rfl;have p:hd (y::r)=y:=rfl;simp only[K,I,J,D,p] at h ⊢;split
 .rename_i o;have S:=(v.val o).2.1;have z:=xS (valS s x)<|y::r;have N:=x.sz_pos;simp only[Tm.szs,Tm.sz] at z ⊢;omega
 rename_i o;rw[tD o] at h;split;next j=>rw[tG j] at h;simp at h
 rename_i j;rw[tD j] at h;obtain⟨A,xs,u,O⟩:=x;have E:A=5:=by
  by_cases e:A=5
  .exact e
  .exact absurd e j
 subst E;obtain⟨b,rfl,T⟩:=okB5 w.1 rfl;have d:vT b y=true:=by
  by_cases e:vT b y=true
  .exact e
  .exfalso;have h:(if vT b y=true then(1:Int) else 2)=1:=h;rw[tD e] at h;cases h
 have g:wR (.mk 6 f n<|.mk 5 xs u [b]::y::r)=(zJ (suT 0 y b 0) r,1):=by rw[wR,tG<|cV f xs n u b y r];exact tG d
 have G:conF (hd<|Tm.l<|.mk 5 xs u [b]) y=suT 0 y b 0:=by show conF b y=_;rw[conF,tG d]
 rw[G];have:=(X0 M61 (by simp only[M61];omega) _ m.ok m.sz m.bd<|by rw[g]).2.1;rw[g] at this;exact this
def zr (t:Tm):Tm×List Tm:=if t.k=6/\validB t=true then(hd t.l,t.l.drop 1) else(t,[])
abbrev aSp (z:Tm×List Tm):TV:=.tup [(true,cT z.1),(false,[qf<|.sl false 4<|FTs z.2])]
theorem kK (t:Tm)(j:t.sz<=B):AC tB 68 [aT t] [] (aSp<|zr t) []:=by
 have u:=yz t j;have d:=Tm.szs_length t.l;have f:=t.sz_eq;obtain⟨k,b,n,l⟩:=t
 have o:∀x:FV,FV.Le x (.sl false 4<|FTs [])->TV.Le (.tup [(true,[qi k,qf<|.str b,qi n,qf<|.sl false 4<|FTs l]),(false,[qf x])]) (aSp (.mk k b n l,[])):=
  λx v=>jL ⟨lwR _,lw1<|.a _ _<|.fz _ _ v,trivial⟩
 refine acv (v68 k b n (FTs l) _ _) ?_;refine zu (λh=>?_) λh=>⟨_,u,zu (λh'=>?_) λh'=>?_⟩
 .rw[zr,tD (λe=>by have i:k=6:=e.1;subst i;cases h)];exact⟨o _ zO,rfl⟩
 .rw[zr,tD λe=>by rw[show validB (.mk k b n l)=false by simpa using h'] at e;cases e.2];exact⟨o _ zO,rfl⟩
 .have p:k=6:=zp h;subst p;have m:validB (.mk 6 b n l)=true:=zp h';obtain⟨x,y,r,rfl,w,z⟩:=okB6 (zB _ m) rfl;simp only[Tm.l,tC,B] at d f j;have g:=Ji.1 (FTs<|y::r) (by simp[FTs]) (by rw[zq];simp only[tC,B];omega);have i:drop 1 (take (toNat (((FTs<|x::y::r).length:Nat):Int))<|FTs<|x::y::r)=FTs (y::r):=by rw[kT];rfl
  rw[i,zr,tG ⟨rfl,m⟩];refine⟨el0 x<|y::r,rfl,⟨za,by rw[zq];simp only[tC];omega,tU _⟩,.inr ⟨_,g,⟨rfl,za⟩,?_,rfl⟩⟩;rw[A3,tN<|tJ _,show cE (getD (FTs<|x::y::r) 0 [])=cT x from cE_FT x];exact .refl _
theorem Yk (t:Tm)(e:t.sz<=B)(h:¬(t.k=6/\validB t=true)):AC tB 68 [aT t] [] (.tup [(true,cT t),(false,[qf .N])]) []:=by
 have f:=yz t e;obtain⟨k,b,n,l⟩:=t;refine AC.vc hP shO lv5 (tJ _) zb zb<|Eq.mpr (v68_O k b n (FTs l) _ _) ?_;refine zu (λ_=>rrl) λd=>⟨_,f,zu (λ_=>rrl) λh'=>absurd ⟨?_,?_⟩ h⟩
 .have d:(k !=6)=false:=d;show k=6;exact zp d
 .exact zp h'
theorem qg (t:Tm)(i:t.sz<=B)(g:t.k=6)(h:validB t=true):AC tB 68 [aT t] [] (.tup [(true,cT<|hd t.l),(false,[.a<|.osl 0 4 0 (t.l.drop 1).length])]) [.arz 4<|FTs<|t.l.drop 1]:=by
 have o:=yz t i;have b:=Tm.szs_length t.l;have e:=t.sz_eq;obtain⟨k,f,n,l⟩:=t;have g:k=6:=g;subst g;obtain⟨x,y,r,rfl,j,p⟩:=okB6 (zB _ h) rfl;simp only[Tm.l,tC,B] at b e i;have d:=Ji.1 (FTs<|y::r) (by simp[FTs]) (by rw[zq];simp only[tC,B];omega);have m:drop 1 (take (toNat (((FTs<|x::y::r).length:Nat):Int))<|FTs<|x::y::r)=FTs (y::r):=by rw[kT];rfl
 refine AC.vc hP shO lv5 zb zb (by simp[isLive])<|Eq.mpr (v68_O 6 f n (FTs<|x::y::r) _ _) ?_;rw[m];refine bN ⟨_,o,zu (λh'=>absurd h<|zp h') λ_=>?_⟩;refine⟨el0 x<|y::r,rfl,⟨za,by rw[zq];simp only[tC];omega,tU _⟩,.inr ⟨_,d,?_,rfl⟩⟩;rw[show cE (getD (FTs<|x::y::r) 0 [])=cT x from cE_FT x,zq];exact .refl _
mutual
def unF (n:Int):Tm->Bool
 |.mk k _ m l=> !(k==1||k==4&&decide (m>=n))&&unL n l
def unL (n:Int):List Tm->Bool
 |[]=>true
 |t::l=>unF n t&&unL n l
end
theorem rK (n:Int):∀l:List Tm,unL n l=l.all (unF n)
 |[]=>rfl
 |t::l=>by rw[unL,rK n l];rfl
theorem unF_eq (n:Int)(t:Tm):unF n t=(!(t.k==1||t.k==4&&decide (t.n>=n))&&t.l.all (unF n)):=by obtain⟨k,s,m,l⟩:=t;rw[unF,rK];rfl
def XG (t:Tm):Bool:=t.k==0&&(t.s==[]&&(t.n==0&&t.l.isEmpty))
def plB (n:Int)(t:Tm):Bool:=validB t&&(decide (xf t 0 0<=0)&&unF n t)
def logs:List (List UInt8):=[[58,45],[44],[59],[61,62],[61],[105,115],[60],[61,60],[62],[62,61],[116,114,117,101],[102,97,105,108],[33],[112,105],[115,105,103,109,97]]
def nums:List (List UInt8):=[[105,115],[60],[61,60],[62],[62,61]]
def logB (s:List UInt8):Bool:=logs.contains s
def numB (s:List UInt8):Bool:=nums.contains s
def nmB (s:List UInt8):Bool:=(Yj s||gu s) && !logB s
def cntB (ar fr vs sl:Int):Bool:=decide (0<=ar/\ar<=4096/\0<=fr/\fr<=4096/\0<=vs/\vs<=4096/\sl<=4096/\fr+vs<=sl)
def XN (t:Tm):Bool:=(zr t).1.k==0 && !logB (zr t).1.s
def isNum (t:Tm):Bool:=(zr t).1.k==0&&(numB (zr t).1.s&&(zr t).2.length==2)
def useA (k:Int):Bool:=k==0||k==1||k==9||k==10||k==11||k==13
def useT (k:Int):Bool:=k==0||k==1||k==2||k==3||k==6
def insB (ar fv sl n at_:Int)(was:Option<|Int×Int)(k a:Int)(t:Tm):Bool:=
 if k=0\/k=1 then decide (0<=a/\a<ar)&&((k==0||t.k==0||t.k==2)&&match was with|none=>true|some w=>(w.1==0||w.1==1)&&decide (w.2<a)) else if k=2\/k=3 then XN t else if k=6 then isNum t else if k=9\/k=10 then decide (at_<a/\a<n) else if k=11\/k=13 then decide (fv<=a/\a<sl) else decide (0<=k/\k<=15)
def fldB (ar fv sl n at_:Int)(was:Option<|Int×Int)(k a:Int)(t:Tm)(l:List Tm)(c:Bool):Bool:=
 (XG t||validB t)&&(insB ar fv sl n at_ was k a t&&((useA k||a==0)&&((k==14||c)&&((if k=5 then l.length==2 else l.isEmpty)&&((if useT k=true then plB sl t else XG t)&&l.all (plB sl))))))
abbrev Pl:=Bool×Int×Int
def uB (l:List Pl)(at_:Int)(p:Int×Int):Option (List Pl):=
 if at_<(l.length:Int) then(if (l.getD at_.toNat (false,0,0)).1=false then some (l.set at_.toNat (true,p)) else if l.getD at_.toNat (false,0,0)=(true,p) then some l else none) else none
def aftP (k:Int)(p:Int×Int):Int×Int:=if k=11 then(p.1+1,p.2) else if k=12 then(p.1-1,p.2) else if k=14 then(p.1,p.2+1) else if k=15 then(p.1,p.2-1) else p
def KY (l:List Pl)(i k a:Int):Option (List Pl):=
 if (l.getD i.toNat (false,0,0)).1=false then some l else if k=3\/k=4 then(if (l.getD i.toNat (false,0,0)).2=(0,0) then some l else none) else if k=8 then some l else if (aftP k (l.getD i.toNat (false,0,0)).2).1<0\/(aftP k (l.getD i.toNat (false,0,0)).2).2<0 then none
 else if k=9\/k=10 then
  match uB l a (aftP k (l.getD i.toNat (false,0,0)).2) with
  |none=>none
  |some l'=>if k=10 then some l' else uB l' (i+1)<|aftP k (l.getD i.toNat (false,0,0)).2 else uB l (i+1)<|aftP k (l.getD i.toNat (false,0,0)).2
def Z6:List Pl->Int->List In1->Bool
 |_,_,[]=>true
 |l,i,x::r=>match KY l i x.k x.a with|none=>false|some l'=>Z6 l' (i+1) r
def lz (ins:List In1):Bool:=Z6 ((List.replicate ins.length (false,0,0)).set 0 (true,0,0)) 0 ins
def mM (ins:List In1):Bool:=match ins.getLast? with|none=>false|some x=>x.k==3||x.k==4||x.k==8
mutual
def vC:Cd->Bool
 |.mk nm ar fr vs sl ins=>nmB nm&&(cntB ar fr vs sl&&(mM ins&&(vIs ar (fr+vs) sl ins.length 0 none ins&&lz ins)))
def vIs (ar fv sl n:Int):Int->Option (Int×Int)->List In1->Bool
 |_,_,[]=>true
 |at_,was,.mk k a t l c::r=>fldB ar fv sl n at_ was k a t l c.isEmpty&&(vCs sl c&&vIs ar fv sl n (at_+1) (some (k,a)) r)
def vCs (sl:Int):List Cd->Bool
 |[]=>true
 |c::r=>decide (c.fr<=sl)&&(vC c&&vCs sl r)
end
theorem nR (sl:Int):∀l:List Cd,vCs sl l=l.all λc=>decide (c.fr<=sl)&&vC c
 |[]=>rfl
 |c::l=>by rw[vCs,nR sl l];simp[Sb]
abbrev i64 (x:Int):Prop:= -9223372036854775808<=x/\x<=9223372036854775807
theorem vV (s:List UInt8):AC tB 89 [cs s] [] (cb<|logB s) []:=by
 refine acv (v89 ..) ?_
 repeat' (refine zu (λ_=>?_) λ_=>?_)
 all_goals exact zD (by simp_all[logB,logs])
def ixJ (p:Int->Bool):List Int->Nat->Int
 |[],_=> -1
 |t::l,i=>if p t=true then(i:Int) else ixJ p l<|i+1
theorem t9 (p:Int->Bool):∀(l:List Int) (i:Nat),decide (ixJ p l i>=0)=l.any p
 |[],_=>rfl
 |t::l,i=>by
  rw[ixJ,E3];split;next h=>rw[h];simp
  next h=>rw[t9 p l,show p t=false by simpa using h,Ec]
def cntN (n:Int):Bool:=decide (n<0)||decide (n>4096)
theorem lS (n:Int):AC tB 119 [ci n] [] (cb<|cntN n) []:=by refine acv (v119 ..) ?_;exact zu (λh=>zD<|by rw[cntN,h];rfl) (λh=>zD<|by rw[cntN,h];rfl)
theorem ro (b:List Int):∀a:List Int,(a++b).length<=B->RPt tB 108 0 (ci<|ixJ cntN b a.length) [] 1 ⟨[(0,.c<|qf<|.sl false 1<|IR<|a++b),(1,.c<|.fn (.func 119) [] []),(7,ci (a++b).length),(8,ci a.length)],[],0⟩:=by
 induction b with
 |nil=>intro a d;refine rpv (ZA ..) ?_;exact bF zb<|yF rfl
 |cons t b e=>
  intro a d;have f:=e (a++[t]) (zp d);rw[ap,nx,show(a++[t]).length=a.length+1 by simp] at f;rw[ixJ];simp only[tE,tC,B] at d;have g:(a.length:Int)<((a++t::b).length:Int):=by simp only[tE,tC];omega
  have i:getD (IR<|a++t::b) (toNat (a.length:Int)) []=[.int .i64 t]:=by simp[IR]
  refine rpv (ZA ..) ?_;rw[w64 za za,i];refine bT g ⟨⟨rfl,za,by simp only[IR,Ax];exact g,rfl⟩,_,lS t,zu (λh=>?_) λh=>?_⟩
  .rw[tG h];exact yF rfl
  .rw[tD<|by rw[h];simp];exact f
theorem c_ccount (l:List Int)(d:l.length<=B):AC tB 90 [.c<|qf<|.sl false 1<|IR l] [] (cb (!l.any cntN)) []:=by
 have h:=ro l [] d;have e:AC tB 108 [.c<|qf<|.sl false 1<|IR l,.c<|.fn (.func 119) [] []] [] (ci<|ixJ cntN l 0) []:=by refine acv (ic ..) ?_;rw[show(IR l).length=l.length by simp[IR]];exact⟨rfl,h⟩
 have b:AC tB 118 [.c<|qf<|.sl false 1<|IR l,.c<|.fn (.func 119) [] []] [] (cb<|l.any cntN) []:=by refine acv (iX ..) ?_;exact⟨_,e,zD<|t9 cntN l 0⟩
 refine acv (v90 ..) ?_;exact⟨_,b,zD rfl⟩
def ixF (p:Tm->Bool):List Tm->Nat->Int
 |[],_=> -1
 |t::l,i=>if p t=true then(i:Int) else ixF p l<|i+1
theorem vJ (p:Tm->Bool):∀(l:List Tm) (i:Nat),decide (ixF p l i>=0)=l.any p
 |[],_=>rfl
 |t::l,i=>by
  rw[ixF,E3];split;next h=>rw[h];simp
  next h=>rw[vJ p l,show p t=false by simpa using h,Ec]
abbrev obN (n:Int):AObj:=.arr 1 [[qi n]]
abbrev obC (c:Cd):AObj:=.arr 6 [cCd c]
theorem fY (p:Tm->Bool)(n:Int)(b:List Tm):∀a:List Tm,(a++b).length<=B->(∀u∈b,AC tB 145 [aT u,.c<|.a<|.ep 0 1 0 0] [obN n] (cb<|p u) [obN n])->RPt tB 42 1 (ci<|ixF p b a.length) [obN n] 1 ⟨[(0,aL<|a++b),(1,.c<|.fn (.func 145) [] [(false,[.ep 0 1 0 0])]),(7,ci (a++b).length),(8,ci a.length)],[(0,obN n)],1⟩:=by
 induction b with
 |nil=>intro a d _;refine rpv (Ye ..) ?_;exact bF zb rrl
 |cons t b e=>
  intro a d ih;have g:=ltI' a t b;have i:=ih t tM;have f:=e (a++[t]) (zp d) λu j=>ih u<|tK _ j;rw[ap,nx,show(a++[t]).length=a.length+1 by simp] at f;rw[ixF];simp only[tE,tC,B] at d;have m:(a.length:Int)<((a++t::b).length:Int):=by simp only[tE,tC];omega
  refine rpv (Ye ..) ?_;rw[w64 za za];refine bT m ⟨⟨rfl,za,g,xr ..⟩,p t,by rw[xN];exact i,zu (λh=>?_) λh=>?_⟩
  .rw[tG h];exact rrl
  .rw[tD<|by rw[h];simp];exact f
theorem KN (p:Tm->Bool)(n:Int)(l:List Tm)(b:l.length<=B)(h:∀u∈l,AC tB 145 [aT u,.c<|.a<|.ep 0 1 0 0] [obN n] (cb<|p u) [obN n]):AC tB 25 [aL l,.c<|.fn (.func 145) [] [(false,[.ep 0 1 0 0])]] [obN n] (cb<|l.any p) [obN n]:=by
 have e:=fY p n l [] b h;have d:AC tB 42 [aL l,.c<|.fn (.func 145) [] [(false,[.ep 0 1 0 0])]] [obN n] (ci<|ixF p l 0) [obN n]:=by refine acv (v42_F145 ..) ?_;rw[zq];exact⟨rfl,e⟩
 refine acv (v25_F145 ..) ?_;exact⟨_,d,by rw[vJ p l 0];exact rrl⟩
theorem l_ixcodd (p:Tm->Bool)(c:Cd)(b:List Tm):∀a:List Tm,(a++b).length<=B->(∀u∈b,AC tB 120 [aT u,.c<|.a<|.ep 0 6 0 0] [obC c] (cb<|p u) [obC c])->RPt tB 42 1 (ci<|ixF p b a.length) [obC c] 1 ⟨[(0,aL<|a++b),(1,.c<|.fn (.func 120) [] [(false,[.ep 0 6 0 0])]),(7,ci (a++b).length),(8,ci a.length)],[(0,obC c)],1⟩:=by
 induction b with
 |nil=>intro a d _;refine rpv (YZ ..) ?_;exact bF zb rrl
 |cons t b e=>
  intro a d ih;have g:=ltI' a t b;have i:=ih t tM;have f:=e (a++[t]) (zp d) λu j=>ih u<|tK _ j;rw[ap,nx,show(a++[t]).length=a.length+1 by simp] at f;rw[ixF];simp only[tE,tC,B] at d;have m:(a.length:Int)<((a++t::b).length:Int):=by simp only[tE,tC];omega
  refine rpv (YZ ..) ?_;rw[w64 za za];refine bT m ⟨⟨rfl,za,g,xr ..⟩,p t,by rw[xN];exact i,zu (λh=>?_) λh=>?_⟩
  .rw[tG h];exact rrl
  .rw[tD<|by rw[h];simp];exact f
theorem nG (p:Tm->Bool)(c:Cd)(l:List Tm)(b:l.length<=B)(h:∀u∈l,AC tB 120 [aT u,.c<|.a<|.ep 0 6 0 0] [obC c] (cb<|p u) [obC c]):AC tB 25 [aL l,.c<|.fn (.func 120) [] [(false,[.ep 0 6 0 0])]] [obC c] (cb<|l.any p) [obC c]:=by
 have e:=l_ixcodd p c l [] b h;have d:AC tB 42 [aL l,.c<|.fn (.func 120) [] [(false,[.ep 0 6 0 0])]] [obC c] (ci<|ixF p l 0) [obC c]:=by refine acv (v42_F120 ..) ?_;rw[zq];exact⟨rfl,e⟩
 refine acv (v25_F120 ..) ?_;exact⟨_,d,by rw[vJ p l 0];exact rrl⟩
theorem YY (f:Tm->Bool)(l:List Tm):(!l.any λt=> !f t)=l.all f:=by induction l with|nil=>rfl|cons t l ih=>rw[E3,AZ,<-ih];cases f t<;>simp
theorem c_cunder (n:Int):∀t:Tm,t.sz<=B->AC tB 121 [aT t,ci n] [] (cb<|unF n t) []:=by
 refine Tm.ind λt ih j=>?_;have i:=Tm.szs_length t.l;have m:=t.sz_eq;have g:∀u∈t.l,AC tB 145 [aT u,.c<|.a<|.ep 0 1 0 0] [obN n] (cb (!unF n u)) [obN n]:=λu d=>by have f:=ih u d (by have:=Tm.szs_mem d;omega);refine acv (v145 ..) ?_;exact⟨_,f,.refl _,rfl⟩
 have b:=KN (λu=> !unF n u) n t.l za g;refine acv (v121 ..) ?_;have e:=YY (unF n) t.l;rw[unF_eq,<-e];refine zu (λh=>zD<|by rw[h];rfl) (λh=>zu (λh'=>zu (λq=>zD<|by rw[h,h',q];rfl) λq=>⟨_,b,zD<|by rw[h,h',q];rfl⟩) λh'=>⟨_,b,zD<|by rw[h,h'];rfl⟩)
theorem oR (t:Tm):xg t (.mk 0 [] 0 [])=XG t:=by
 obtain⟨k,s,n,l⟩:=t;cases l with
 |nil=>simp[xg,jC,XG,Tm.k,Tm.s,Tm.n,Tm.l]
 |cons x l=>simp[xg,jC,XG,Tm.k,Tm.s,Tm.n,Tm.l]
theorem c_cempty (t:Tm)(e:t.sz<=B):AC tB 122 [aT t] [] (cb<|XG t) []:=by
 have h:=(tx t e<|.mk 0 [] 0 []).args (args:=[aT t,.agg [qi 0,qf<|.str [],qi 0,qf .N]]) ⟨.refl _,.agg _ _ rfl (λi x y b d=>by
  match i with
  |0=>simp at b d;subst b;subst d;exact .refl _
  |1=>simp at b d;subst b;subst d;exact .refl _
  |2=>simp at b d;subst b;subst d;exact .refl _
  |3=>simp at b d;subst b;subst d;exact .a _ _ (.fz _ _ zO)
  |i+4=>simp at b),trivial⟩
 refine acv (v122 ..) ?_;exact⟨_,h,zD<|oR t⟩
theorem c_codd (c:Cd)(t:Tm)(hs:t.sz<=B)(hb:bd 2305843009213693952 t):AC tB 120 [aT t,.c<|.a<|.ep 0 6 0 0] [obC c] (cb (!plB c.sl t)) [obC c]:=by
 have h1:=yz t hs;have h2:=dp t hs<|yQ zc _ hb;have h3:=c_cunder c.sl t hs;refine acv (v120 ..) ?_;refine⟨_,h1,zu (λh=>⟨?_,rfl⟩) λh=>⟨_,h2,zu (λq=>⟨?_,rfl⟩) λq=>⟨_,h3,?_,rfl⟩⟩⟩
 .rw[plB,show validB t=false by simpa using h];exact .refl _
 .have:decide (xf t 0 0<=0)=false:=by have:=hU q;exact AF za
  rw[plB,this,As,Ap];exact .refl _
 .have:decide (xf t 0 0<=0)=true:=by have:=tP q;exact AD za
  rw[plB,this,show validB t=true by simpa using h];exact .refl _
theorem c_anyOdd (c:Cd)(l:List Tm)(e:l.length<=B)(b:∀t∈l,t.sz<=B/\bd 2305843009213693952 t):AC tB 25 [aL l,.c<|.fn (.func 120) [] [(false,[.ep 0 6 0 0])]] [obC c] (cb (!l.all (plB c.sl))) [obC c]:=by have h:=nG (λt=> !plB c.sl t) c l e λu d=>c_codd c u (b u d).1 (b u d).2;rw[<-YY,Bool.not_not];exact h
theorem c_chead (k:Int):AC tB 146 [ci k] [] (cb<|k==0||k==1) []:=by refine acv (v146 ..) ?_;exact zu (λh=>zD<|by rw[h];rfl) (λh=>zD<|by rw[h];rfl)
theorem c_cpred (t:Tm)(d:t.sz<=B):AC tB 147 [aT t] [] (cb<|XN t) []:=by have e:=kK t d;have b:=vV (zr t).1.s;refine acv (v147 ..) ?_;exact⟨_,e,zu (λh=>⟨_,b,zD<|by rw[XN,h];rfl⟩) λh=>zD<|by rw[XN,h];rfl⟩
theorem nL (t:Tm)(d:t.sz<=B):AC tB 148 [aT t] [] (cb<|isNum t) []:=by
 have f:=kK t d;refine acv (v148 ..) ?_;refine⟨_,f,?_⟩;rw[zq];have e:((((zr t).2.length:Nat):Int)==2)=((zr t).2.length==2):=by rw[EF,Al,Al];omega
 rw[e];unfold isNum numB nums;generalize (zr t).1.s=s;generalize (zr t).1.k=k;generalize ((zr t).2.length==2)=b
 repeat' (first|refine zu (λ_=>?_) (λ_=>?_)|refine And.intro (show FV.L 4 _=true by rfl) ?_)
 all_goals exact zD (by simp_all)
def aftR (k:Int)(p:Int×Int):(Int×Int)×Bool×Bool:=
 if k=3\/k=4 then(p,false,p.1==0&&p.2==0) else if k=8 then(p,false,true) else(aftP k p,true,decide ((aftP k p).1>=0)&&decide ((aftP k p).2>=0))
theorem YS {a b:TV}(h:a=b):TV.Le a b:=by rw[h];exact .refl _
theorem c_cafter (m:Bool)(p:Int×Int)(k:Int)(d:0-M61<=p.1/\p.1<=M61)(b:0-M61<=p.2/\p.2<=M61):AC tB 125 [.agg [qf<|.bool m,qi p.1,qi p.2],ci k] []
  (.tup [(true,[qf<|.bool m,qf<|.int .i64 (aftR k p).1.1,qf<|.int .i64 (aftR k p).1.2]),(false,[qf<|.bool (aftR k p).2.1]),(false,[qf<|.bool (aftR k p).2.2])]) []:=by
 obtain⟨x,y⟩:=p;simp only[M61] at d b;refine acv (v125 ..) ?_;rw[w64 (x:=x+1) za za,w64 (x:=x-1) za za,w64 (x:=y+1) za za,w64 (x:=y-1) za za];unfold aftR aftP
 repeat' (refine zu (λ_=>?_) λ_=>?_)
 all_goals refine uw<|YS ?_
 all_goals simp_all
 all_goals omega
open Go.RowKit Go.Lib
open Go.RowKit Go.Lib in
set_option maxHeartbeats 1000000 in
theorem W2 (b:Addr)(n c:Nat)(d:n<=c)(w:World):
  Calls tB 178 #[.slice (some b) n c] w λe w'=>e=.returned (.slice (some b) n n)/\w'=w:=by
 go_enter Tryz.func178,Tryz.ntmps178
 go_wp2
 go_ret;exact⟨rfl,rfl⟩
open Go.RowKit Go.Lib in
set_option maxHeartbeats 1000000 in
theorem sd (w:World):
  Calls tB 178 #[.slice none 0 0] w λe w'=>e=.returned (.slice none 0 0)/\w'=w:=by
 go_enter Tryz.func178,Tryz.ntmps178
 go_wp2
 go_ret;exact⟨rfl,rfl⟩
def AwP (w:World)(cells:List Value)(nv:Int)(any:Bool)(n1:Nat)(e:Ending)(w':World):Prop:=
 ∃(cap:Nat) (tail:Array Value),e=.returned (.agg #[.int .i64 nv,.slice (some ⟨w.heap.size+4,0,none⟩) n1 cap,.bool any])/\n1<=cap/\w'.heap[w.heap.size+4]?=some (.cells (cells.toArray++tail) 26 (0,0))/\
  (∀j,j<w.heap.size->w'.heap[j]?=w.heap[j]?)/\w'.heap.size=w.heap.size+5/\w'.os=w.os/\w'.tape=w.tape/\w'.output=w.output
theorem Jb (w:World)(a b c d e:Obj){j:Nat}(f:j<w.heap.size):(((((w.alloc a).alloc b).alloc c).alloc d).alloc e).drew.drew.heap[j]?=w.heap[j]? :=by show((((w.heap.push a).push b).push c).push d |>.push e)[j]?=_;rw[A8,tD zj,A8,tD zj,A8,tD zj,A8,tD zj,A8,tD za]
theorem JP (w:World)(a b c d e:Obj):(((((w.alloc a).alloc b).alloc c).alloc d).alloc e).drew.drew.heap[w.heap.size+4]?=some e:=by show((((w.heap.push a).push b).push c).push d |>.push e)[w.heap.size+4]?=_;rw[A8,tG zb]
theorem Xs (w:World)(a b c d e:Obj):(((((w.alloc a).alloc b).alloc c).alloc d).alloc e).drew.drew.heap.size=w.heap.size+5:=by show((((w.heap.push a).push b).push c).push d |>.push e).size=_;simp
theorem four_old (w:World)(a b c d:Obj){j:Nat}(e:j<w.heap.size):((((w.alloc a).alloc b).alloc c).alloc d).drew.drew.heap[j]?=w.heap[j]? :=by show((((w.heap.push a).push b).push c).push d)[j]?=_;rw[A8,tD zj,A8,tD zj,A8,tD zj,A8,tD za]
open Go.RowKit Go.Lib in
set_option maxHeartbeats 2000000 in
theorem lL (bb d n c:Nat)(y:n<=c)(G:n<=1000000000)(b:List Value)(A:b.length=n*4)(o:Int)(f:Bool)(k s m lv:Value)(w:World)(F:b≠[]->bb<w.heap.size)(i:∀j v,b[j]?=some v->w.cell? ⟨bb,d+j,none⟩=some v):
  Calls tB 164 #[.agg #[.int .i64 o,(.slice (some ⟨bb,d,none⟩) n c),.bool f],.agg #[k,s,m,lv]] w (AwP w (b++[k,s,m,lv]) o f<|n+1):=by
 have x:¬(n+1<=n):=za;have C:¬(9223372036854775807<(n:Int)+1/\Tryz.t26.bytes=0):=za;have u:¬(281474976710656<Builtin.nextslicecap (n+1) n*Tryz.t26.bytes):=by have:=growslice_fits_succ (old:=n) (bytes:=Tryz.t26.bytes) (by show n*56<=_;omega) (by show 56<=_;omega);omega
 have D:∀W:World,(∀j v,b[j]?=some v->W.cell? ⟨bb,d+j,none⟩=some v)->Sem.run tB (loadCellsFrom ⟨bb,d,none⟩ 0 (n*4) #[]) W=.ok b.toArray W:=λW h=>run_firstCells_some (P:=tB) W 4 n ⟨bb,d,none⟩ n n b A (λj v g=>by rw[Addr.add_lit];exact h j v g)
 go_enter Tryz.func164,Tryz.ntmps164
 go_wp2;have r:=D ((((w.alloc<|Obj.cells #[Value.int IntKind.i64 o,Value.slice (some ⟨bb,d,none⟩) n c,Value.bool f] 176).alloc<|Obj.cells #[k,s,m,lv] 26).alloc<|Obj.cells #[Value.int IntKind.i64 0,Value.slice none 0 0,Value.bool false] 176).alloc<|Obj.cells #[k,s,m,lv] 26).drew.drew (λj v g=>by have z:=i j v g;have p:=F (λe=>by rw[e] at g;simp at g);have E:=four_old w (Obj.cells #[Value.int IntKind.i64 o,Value.slice (some ⟨bb,d,none⟩) n c,Value.bool f] 176) (Obj.cells #[k,s,m,lv] 26) (Obj.cells #[Value.int IntKind.i64 0,Value.slice none 0 0,Value.bool false] 176) (Obj.cells #[k,s,m,lv] 26) p;rw[<-z];unfold World.cell?;simp only[E])
 go_region_with (first|(go_at_call 178;refine(W2 ⟨bb,d,none⟩ n c y _).mono ?_;rintro e H ⟨rfl,rfl⟩));all_goals go_wp2
 all_goals refine bodyPost_ret (v:=.agg #[.int .i64 o,.slice (some ⟨w.heap.size+1+1+1+1,0,none⟩) (n+1)<|(Question.appendCap (n+1) n 26).cut<|w.tape (w.drawn+1)<|Question.appendCap (n+1) n 26,.bool f]) (by simp only[results,Tryz.f164];go_simp) rfl ?_
 all_goals exact⟨_,Builtin.zeroCells #[.int .i64 0,.string ⟨#[]⟩,.int .i64 0,.slice none 0 0] (grownCap w.drew (n+1) n 26-(n+1)),rfl,grownCap_ge w.drew (n+1) n 26,(JP w _ _ _ _ _).trans<|congrArg (λq=>some<|Obj.cells q 26 (0,0))<|by rw[<-Array.append_assoc,show(b++[k,s,m,lv]).toArray=b.toArray++ #[k,s,m,lv] by simp];rfl,λj g=>Jb w _ _ _ _ _ g,Xs w _ _ _ _ _,rfl,rfl,rfl⟩
open Go.RowKit Go.Lib in
set_option maxHeartbeats 2000000 in
theorem iQ (d:Int)(b:Bool)(k s m lv:Value)(w:World):
  Calls tB 164 #[.agg #[.int .i64 d,.slice none 0 0,.bool b],.agg #[k,s,m,lv]] w (AwP w ([]++[k,s,m,lv]) d b<|0+1):=by
 have g:¬(281474976710656<Builtin.nextslicecap 1 0*Tryz.t26.bytes):=by exact Nat.not_lt.2<|growslice_fits_succ (old:=0) (bytes:=Tryz.t26.bytes) (by show 0*56<=_;omega)<|by show 56<=_;omega
 go_enter Tryz.func164,Tryz.ntmps164
 go_wp2
 go_region_with (first|(go_at_call 178;refine(sd _).mono ?_;rintro e h ⟨rfl,rfl⟩));all_goals go_wp2
 all_goals refine bodyPost_ret (v:=.agg #[.int .i64 d,.slice (some ⟨w.heap.size+1+1+1+1,0,none⟩) 1<|(Question.appendCap 1 0 26).cut<|w.tape (w.drawn+1)<|Question.appendCap 1 0 26,.bool b]) (by simp only[results,Tryz.f164];go_simp) rfl ?_
 all_goals exact⟨_,Builtin.zeroCells #[.int .i64 0,.string ⟨#[]⟩,.int .i64 0,.slice none 0 0] (grownCap w.drew 1 0 26-1),rfl,grownCap_ge w.drew 1 0 26,(JP w _ _ _ _ _).trans<|congrArg (λq=>some<|Obj.cells q 26 (0,0)) rfl,λj f=>Jb w _ _ _ _ _ f,Xs w _ _ _ _ _,rfl,rfl,rfl⟩
open Go.RowKit Go.Lib in
set_option maxHeartbeats 2000000 in
theorem lN (b:Addr)(f:Int)(d:Bool)(k s m lv:Value)(w:World):
  Calls tB 164 #[.agg #[.int .i64 f,.slice (some b) 0 0,.bool d],.agg #[k,s,m,lv]] w (AwP w ([]++[k,s,m,lv]) f d<|0+1):=by
 have i:¬(281474976710656<Builtin.nextslicecap 1 0*Tryz.t26.bytes):=by exact Nat.not_lt.2<|growslice_fits_succ (old:=0) (bytes:=Tryz.t26.bytes) (by show 0*56<=_;omega)<|by show 56<=_;omega
 have o:∀W:World,Sem.run tB (loadCellsFrom b 0 0 #[]) W=.ok #[] W:=λW=>rfl
 go_enter Tryz.func164,Tryz.ntmps164
 go_wp2;have h:=o ((((w.alloc<|Obj.cells #[Value.int IntKind.i64 f,Value.slice (some b) 0 0,Value.bool d] 176).alloc<|Obj.cells #[k,s,m,lv] 26).alloc<|Obj.cells #[Value.int IntKind.i64 0,Value.slice none 0 0,Value.bool false] 176).alloc<|Obj.cells #[k,s,m,lv] 26).drew.drew
 go_region_with (first|(go_at_call 178;refine(W2 b 0 0 (tJ _) _).mono ?_;rintro e p ⟨rfl,rfl⟩));all_goals go_wp2
 all_goals refine bodyPost_ret (v:=.agg #[.int .i64 f,.slice (some ⟨w.heap.size+1+1+1+1,0,none⟩) 1<|(Question.appendCap 1 0 26).cut<|w.tape (w.drawn+1)<|Question.appendCap 1 0 26,.bool d]) (by simp only[results,Tryz.f164];go_simp) rfl ?_
 all_goals exact⟨_,Builtin.zeroCells #[.int .i64 0,.string ⟨#[]⟩,.int .i64 0,.slice none 0 0] (grownCap w.drew 1 0 26-1),rfl,grownCap_ge w.drew 1 0 26,(JP w _ _ _ _ _).trans<|congrArg (λq=>some<|Obj.cells q 26 (0,0)) rfl,λj g=>Jb w _ _ _ _ _ g,Xs w _ _ _ _ _,rfl,rfl,rfl⟩
abbrev aAr (nv:Int)(L:List Tm)(any:Bool):TV:=.agg [qi nv,qf<|.sl false 4<|FTs L,qf<|.bool any]
theorem YV {w:World}{X:Nat->Prop}{β:Nat->Option Nat}{x:FV}{v:Value}(h:WRep w X β (qf x) v):FRep w X x v:=by
 cases h with
 |a _ _ h=>cases h with
  |fz _ _ h=>exact h
theorem four_inv {w:World}{X:Nat->Prop}{β:Nat->Option Nat}{a b c d:FV}{vs:List Value}(h:LRep (WRep w X β) [qf a,qf b,qf c,qf d] vs):∃k s m lv,vs=[k,s,m,lv]/\FRep w X a k/\FRep w X b s/\FRep w X c m/\FRep w X d lv:=by obtain⟨k,r,rfl,i,h⟩:=h.cons_inv;obtain⟨s,r,rfl,e,h⟩:=h.cons_inv;obtain⟨m,r,rfl,f,h⟩:=h.cons_inv;obtain⟨lv,r,rfl,g,h⟩:=h.cons_inv;obtain rfl:=h.nil_inv;exact⟨k,s,m,lv,rfl,YV i,YV e,YV f,YV g⟩
theorem rS {w:World}{X:Nat->Prop}{β:Nat->Option Nat}{a b c:FV}{vs:List Value}(h:LRep (WRep w X β) [qf a,qf b,qf c] vs):∃k s m,vs=[k,s,m]/\FRep w X a k/\FRep w X b s/\FRep w X c m:=by obtain⟨k,r,rfl,f,h⟩:=h.cons_inv;obtain⟨s,r,rfl,d,h⟩:=h.cons_inv;obtain⟨m,r,rfl,e,h⟩:=h.cons_inv;obtain rfl:=h.nil_inv;exact⟨k,s,m,rfl,YV f,YV d,YV e⟩
theorem FT4' (g:Tm):FT g=[.int .i64 g.k,.str g.s,.int .i64 g.n,.sl false 4<|FTs g.l]:=by cases g;rfl
theorem iD {w:World} {X:Nat->Prop} {L:List Tm} {b g:Nat} {u:Nat->Nat->Value}
  (D:∀(i j:Nat) (e:List FV) (f:FV),(FTs L)[i]?=some e->e[j]?=some f->w.cell? ⟨b,g+i*4+j,none⟩=some (u i j)) (C:∀(i j:Nat) (e:List FV) (f:FV),(FTs L)[i]?=some e->e[j]?=some f->FRep w X f (u i j)):
  ∃d:List Value,d.length=L.length*4/\(∀j v,d[j]?=some v->w.cell? ⟨b,g+j,none⟩=some v)/\∀(i j:Nat) (e:List FV) (f:FV),(FTs L)[i]?=some e->e[j]?=some f->∃v,d[i*4+j]?=some v/\FRep w X f v:=by
 have m:∀i,i<L.length->∃t,(FTs L)[i]?=some (FT t):=λi x=>⟨L[i],by rw[yf,tV,tO x];rfl⟩;refine⟨(List.range<|L.length*4).map λq=>u (q/4)<|q % 4,zb,λj v r=>?_,λi j e f h z=>?_⟩
 .rw[tV] at r;obtain⟨q,o,rfl⟩:=tH.1 r;have y:j<L.length*4:=by have:=(tQ.1 o).1;exact zp this
  rw[Ep y] at o;injection o with o
  subst o;obtain⟨t,p⟩:=m (j/4) za;have A:j % 4<(FT t).length:=by rw[ym];omega
  have:=D (j/4) (j % 4) _ _ p<|tO A;rw[(za:g+j=g+j/4*4+j % 4)];exact this
 .have x:i<L.length:=by have:=(tQ.1 h).1;rwa [zq] at this
  obtain⟨t,p⟩:=m i x;rw[p] at h;injection h with h
  have r:j<4:=by have:=(tQ.1 z).1;rwa [<-h,ym] at this
  refine⟨u i j,?_,C i j e f (by rw[p,h]) z⟩;rw[tV,Ep za];show some (u ((i*4+j)/4)<|(i*4+j) % 4)=_;rw[show(i*4+j)/4=i by omega,show(i*4+j) % 4=j by omega]
theorem og {w w':World} {X X':Nat->Prop} {N:Nat->Option Nat} {L:List Tm} {g:Tm} {I:Int} {A:Bool} {r:List Value} {k s m lv v:Value} (G:r.length=L.length*4)
  (C:∀(i j:Nat) (e:List FV) (f:FV),(FTs L)[i]?=some e->e[j]?=some f->∃v,r[i*4+j]?=some v/\FRep w X f v)
  (V:FRep w X (.int .i64 g.k) k) (U:FRep w X (.str g.s) s) (T:FRep w X (.int .i64 g.n) m) (W:FRep w X (.sl false 4<|FTs g.l) lv)
  (h:AwP w (r++[k,s,m,lv]) I A (L.length+1) (.returned v) w') (S:¬X' (w.heap.size+4)) (J:∀b,¬X b->b<w.heap.size->¬X' b):TRep w' X' N (aAr I (L++[g]) A) v:=by
 obtain⟨cap,O,e,D,H,E,Y,_⟩:=h;injection e with e
 subst e;have p:∀ {f:FV} {v:Value},FRep w X f v->FRep w' X' f v:=λd=>d.mono za λb hb x=>⟨E b x,J b hb x⟩
 have z:∀(j:Nat) (f:FV),(FT g)[j]?=some f->∃v,[k,s,m,lv][j]?=some v/\FRep w' X' f v:=λj f d=>by
  rw[FT4'] at d
  match j with
  |0=>simp at d;subst d;exact⟨k,rfl,p V⟩
  |1=>simp at d;subst d;exact⟨s,rfl,p U⟩
  |2=>simp at d;subst d;exact⟨m,rfl,p T⟩
  |3=>simp at d;subst d;exact⟨lv,rfl,p W⟩
  |j+4=>simp at d
 have y:∀(i j:Nat) (e:List FV) (f:FV),(FTs<|L++[g])[i]?=some e->e[j]?=some f->e.length=4/\∃v,(r++[k,s,m,lv])[i*4+j]?=some v/\FRep w' X' f v:=λi j e f o d=>by
  rw[yh] at o;have K:e.length=4:=by rw[<-yh,yf,tV] at o;obtain⟨t,_,rfl⟩:=tH.1 o;exact ym t
  have hj:j<4:=by have:=(tQ.1 d).1;omega
  refine⟨K,?_⟩;by_cases Z:i<L.length
  .rw[Ea<|by rw[zq];exact Z] at o;obtain⟨v,u,F⟩:=C i j e f o d;exact⟨v,by rw[Ea za];exact u,p F⟩
  .rw[Ei<|by rw[zq];omega,zq] at o;have M:i-L.length=0:=by have:=(tQ.1 o).1;simp[FTs] at this;omega
   rw[M] at o;injection o with o
   subst o;obtain⟨v,u,F⟩:=z j f d;exact⟨v,by rw[Ei za,G,(za:i*4+j-L.length*4=j)];exact u,F⟩
 refine⟨[.int .i64 I,.slice (some ⟨w.heap.size+4,0,none⟩) (L.length+1) cap,.bool A],rfl,.cons (.a _ _<|.fz _ _<|.int _ _)<|.cons (.a _ _<|.fz _ _ ?_)<|.cons (.a _ _<|.fz _ _<|.bool _) .nil⟩;refine .sl false 4 (FTs<|L++[g]) (w.heap.size+4) 0 cap (L.length+1) (λi j=>(r++[k,s,m,lv]).getD (i*4+j) undef) (by rw[zq];simp) (by rw[zq];exact zp D) S za (λi e o=>?_) (λi j e f o d=>?_) λi j e f o d=>?_
 .rw[yf,tV] at o;obtain⟨t,_,rfl⟩:=tH.1 o;exact ym t
 .obtain⟨_,v,u,_⟩:=y i j e f o d;have x:=(tQ.1 u).1;show World.cell? w' _=some (getD _ _ _);unfold World.cell?;simp only[H,getD,u,AU];simp only[A4,En,tX,A6];rw[Array.getElem?_append_left<|zp x];exact zp u
 .obtain⟨_,v,u,F⟩:=y i j e f o d;show FRep w' X' f<|getD _ _ _;simp only[getD,u,AU];exact F
theorem slF_inv {w:World}{X:Nat->Prop}{es:List (List FV)}{v:Value}(h:FRep w X (.sl false 4 es) v):(v=.slice none 0 0/\es=[])\/(∃a,v=.slice (some a) 0 0/\es=[])\/
  ∃(b d cap:Nat) (u:Nat->Nat->Value),v=.slice (some ⟨b,d,none⟩) es.length cap/\es.length<=cap/\¬X b/\b<w.heap.size/\(∀(i j:Nat) (e:List FV) (f:FV),es[i]?=some e->e[j]?=some f->w.cell? ⟨b,d+i*4+j,none⟩=some (u i j))/\(∀(i j:Nat) (e:List FV) (f:FV),es[i]?=some e->e[j]?=some f->FRep w X f (u i j)):=by
 cases h with
 |slnil=>exact .inl ⟨rfl,rfl⟩
 |sl0 _ _ a=>exact .inr<|.inl ⟨a,rfl,rfl⟩
 |sl _ _ _ b d cap m u o p r g z y x=>exact .inr<|.inr ⟨b,d,cap,u,by rw[o],p,r,g,y,x⟩
theorem rf (z:Int)(L:List Tm)(p:Bool)(g:Tm)(hL:L.length<=1000000000):AC tB 164 [aAr z L p,aT g] [] (aAr z (L++[g]) p) []:=by
 refine⟨zg,tJ _,λw vals β Y E hY hG hO C=>?_⟩;have S:∀b,(Y b\/Own (λo=>([]:List AObj).getD o .gone) β b)->Y b:=λb h=>h.elim id λ⟨o,h,_⟩=>by simp[isLive] at h
 obtain⟨u1,us,rfl,K,h2⟩:=C.cons_inv;obtain⟨u2,us2,rfl,I,h4⟩:=h2.cons_inv;obtain rfl:=h4.nil_inv;obtain⟨a1,rfl,K⟩:=K;obtain⟨a2,rfl,I⟩:=I;obtain⟨k,s,m,lv,rfl,r1,r2,r3,r4⟩:=four_inv I;obtain⟨x,v,y,rfl,q1,Z,q3⟩:=rS K;have ex:x=.int .i64 z:=by cases q1;rfl
 have ey:y=.bool p:=by cases q3;rfl
 subst ex;subst ey
 have fin:∀d:List Value,d.length=L.length*4->(∀(i j:Nat) (e:List FV) (f:FV),(FTs L)[i]?=some e->e[j]?=some f->∃v,d[i*4+j]?=some v/\FRep w (λb=>Y b\/Own (λo=>([]:List AObj).getD o .gone) β b) f v)->
   Calls tB 164 #[.agg #[.int .i64 z,v,.bool p],.agg #[k,s,m,lv]] w (AwP w (d++[k,s,m,lv]) z p<|L.length+1)->
   Calls tB 164 #[.agg #[.int .i64 z,v,.bool p],.agg #[k,s,m,lv]] w λe w'=> ∃v r,e=.returned v/\Good w (Own (λo=>([]:List AObj).getD o .gone) β) w'/\Objs (λo=>([]:List AObj).getD o .gone) r Y w'/\
    TRep w' (λb=>Y b\/Own (λo=>([]:List AObj).getD o .gone) r b) r (aAr z (L++[g]) p) v/\(∀o b,r o=some b->o<([]:List AObj).length)/\(∀o,o<([]:List AObj).length->r o=β o)/\(∀o b,([]:List AObj).length<=o->r o=some b->w.heap.size<=b\/Own (λo=>([]:List AObj).getD o .gone) β b):=λd N T hc=>by
  refine hc.mono λe w' hp=>?_;have U:=hp;obtain⟨cap,X,rfl,hcap,hnew,A,hsz,M,O,e3⟩:=hp;refine⟨_,β,rfl,⟨za,λb D _=>A b D,λb D=>by unfold World.shape?;rw[A b D],M,O,e3⟩,⟨λo b h=>by simp[isLive] at h,λo h=>by simp[isLive] at h,λo o' b h=>by simp[isLive] at h,λo b h=>by have:=hO.lt o b h;omega⟩,?_,E,λ_ _=>rfl,λo b _ h=>absurd (E o b h)<|Nat.not_lt_zero _⟩;exact og N T r1 r2 r3 r4 U (λhx=>by have:=hY _ (S _ hx);omega) λb D _=>D
 have G:∀ {es:List (List FV)},FTs L=es->es=[]->L.length=0:=λM O=>by rw[<-zq L,M,O];rfl
 generalize J:FTs L=es at Z fin;rcases slF_inv Z with⟨rfl,e⟩|⟨a,rfl,e⟩|⟨b,V,cap,u,rfl,W,g3,g4,g6,g7⟩
 .have F:=G J e;refine fin [] (by rw[F];rfl) (λi j e' f H=>by rw[e] at H;simp at H) ?_;rw[F];exact iQ z p k s m lv w
 .have F:=G J e;refine fin [] (by rw[F];rfl) (λi j e' f H=>by rw[e] at H;simp at H) ?_;rw[F];exact lN a z p k s m lv w
 .subst J;obtain⟨d,o1,o2,o3⟩:=iD g6 g7;rw[zq] at W fin ⊢;exact fin d o1 o3<|lL b V L.length cap W hL d o1 z p k s m lv w (λ_=>g4) o2
abbrev pS:List UInt8:=[116,114,117,101]
abbrev nFail:List UInt8:=[102,97,105,108]
abbrev nCut:List UInt8:=[33]
abbrev nPi:List UInt8:=[112,105]
abbrev nSig:List UInt8:=[115,105,103,109,97]
abbrev nAnd:List UInt8:=[44]
abbrev nOr:List UInt8:=[59]
abbrev nImp:List UInt8:=[61,62]
abbrev nIf:List UInt8:=[58,45]
abbrev nEq:List UInt8:=[61]
def Xw (s:List UInt8):Int:=if s=pS\/s=nFail\/s=nCut then 0 else if s=nPi\/s=nSig then 1 else 2
def zw (t:Tm)(flex:Int):List UInt8×List Tm×Int:=
 if (zr t).1.k=4\/(zr t).1.k=3 then([],[],flex) else if (zr t).1.k≠0 then([],[],130) else if logB (zr t).1.s=false then([],(zr t).2,0) else if ((zr t).2.length:Int)≠Xw (zr t).1.s then([],[],130) else((zr t).1.s,(zr t).2,0)
abbrev noT0:Tm:=.mk 0 [] 0 []
abbrev ZP:Tm:=.mk 0 pS 0 []
abbrev andT:Tm:=.mk 0 nAnd 0 []
abbrev bd0:Tm:=.mk 3 [] 0 []
def y9 (t:Tm):Tm:=if t.k=5 then hd t.l else zJ (shT 0 1 t 0) [bd0]
abbrev andG (b g:Tm):Tm:=.mk 6 [] 0 [andT,b,g]
def wL:List Tm->Tm
 |[]=>ZP
 |g::l=>l.foldl andG g
def ZJ:List Int->List Tm->Int->Bool
 |_,[],_=>true
 |m,t::l,k=>if t.k≠3 then false else if k<=t.n then false else if m.contains t.n=true then false else ZJ (m++[t.n]) l k
def patG:Nat->Tm->Int->Bool
 |0,_,_=>false
 |n+1,t,k=>if t.k=5 then patG n (hd t.l) (k+1) else if (zr t).1.k=5 then false else if (zr t).1.k=4\/((zr t).1.k=3/\k<=(zr t).1.n) then ZJ [] (zr t).2 k else(zr t).2.all λu=>patG n u k
abbrev at0 (l:List Tm):Tm:=l.getD 0 noT0
abbrev at1 (l:List Tm):Tm:=l.getD 1 noT0
mutual
def zH (w:Bool):Nat->Tm->Int
 |0,_=>0
 |n+1,t=>if (zw t 133).2.2≠0 then(zw t 133).2.2 else if (zw t 133).1=nIf then 130 else if (zw t 133).1=nAnd\/(zw t 133).1=nOr then(if zH w n (at0 (zw t 133).2.1)≠0 then zH w n (at0 (zw t 133).2.1) else zH w n<|at1 (zw t 133).2.1) else if (zw t 133).1=nImp then(if (clsF w n false 0 []<|at0 (zw t 133).2.1).1≠0 then(clsF w n false 0 []<|at0 (zw t 133).2.1).1 else zH w n<|at1 (zw t 133).2.1) else if (zw t 133).1=nPi\/(zw t 133).1=nSig then zH w n (y9<|at0 (zw t 133).2.1) else 0
def clsF (w:Bool):Nat->Bool->Int->List Tm->Tm->Int×List Cl
 |0,_,_,_,_=>(0,[])
 |n+1,any,vs,L,t=>if (zw t 131).2.2≠0 then((zw t 131).2.2,[]) else if (zw t 131).1=[] then
   (if (!(any||w)&&(zw t 131).2.1.any λu=> !patG n u 0)=true then(132,[]) else(0,[(vs,t,wL L)]))
  else if (zw t 131).1=nAnd then
   (if (clsF w n any vs L<|at0 (zw t 131).2.1).1≠0 then clsF w n any vs L (at0 (zw t 131).2.1) else((clsF w n any vs L<|at1 (zw t 131).2.1).1,(clsF w n any vs L<|at0 (zw t 131).2.1).2++(clsF w n any vs L<|at1 (zw t 131).2.1).2)) else if (zw t 131).1=nPi then clsF w n any (vs+1) (L.map λg=>shT 0 1 g 0)<|y9<|at0 (zw t 131).2.1 else if (zw t 131).1=nImp then(if zH w n (at0 (zw t 131).2.1)≠0 then(zH w n<|at0 (zw t 131).2.1,[]) else clsF w n any vs (L++[at0 (zw t 131).2.1])<|at1 (zw t 131).2.1) else if (zw t 131).1=nIf then(if zH w n (at1 (zw t 131).2.1)≠0 then(zH w n<|at1 (zw t 131).2.1,[]) else clsF w n any vs (L++[at1 (zw t 131).2.1])<|at0 (zw t 131).2.1) else(131,[])
end
theorem rB (s:List UInt8):AC tB 116 [cs s] [] (ci<|Xw s) []:=by
 refine acv (v116 ..) ?_;unfold Xw
 repeat' (refine zu (λ_=>?_) λ_=>?_)
 all_goals exact yF (by simp_all)
theorem kJ {t:Tm}{flex:Int}(g:flex≠0)(h:(zw t flex).2.2=0):(zr t).1.k=0/\(((zw t flex).1=[]/\logB (zr t).1.s=false/\(zw t flex).2.1=(zr t).2)\/((zw t flex).1=(zr t).1.s/\logB (zr t).1.s=true/\(zw t flex).2.1=(zr t).2/\((zr t).2.length:Int)=Xw (zr t).1.s)):=by
 unfold zw at h ⊢;by_cases f:(zr t).1.k=4\/(zr t).1.k=3
 .rw[tG f] at h;exact absurd h g
 .rw[tD f] at h ⊢;by_cases d:(zr t).1.k≠0
  .rw[tG d] at h;cases h
  .rw[tD d] at h ⊢;refine⟨za,?_⟩;by_cases b:logB (zr t).1.s=false
   .rw[tG b];exact .inl ⟨rfl,b,rfl⟩
   .rw[tD b] at h ⊢;by_cases e:((zr t).2.length:Int)≠Xw (zr t).1.s
    .rw[tG e] at h;cases h
    .rw[tD e];exact .inr ⟨rfl,zp b,rfl,za⟩
theorem ky (t:Tm)(flex:Int)(A:t.sz<=B)(m:(zw t flex).2.1=[]):AC tB 85 [aT t,ci flex] [] (.tup [(false,[qf<|.str (zw t flex).1]),(false,[qf .N]),(false,[qf<|.int .i64 (zw t flex).2.2])]) []:=by
 have c3:=vV (zr t).1.s;have w:=rB (zr t).1.s;refine AC.vc hP shO lv5 (tJ _) zb zb<|Eq.mpr (v85 t.k t.s t.n (FTs t.l) flex ..) ?_;have fin:∀(a:List UInt8) (e:Int),zw t flex=(a,[],e)->TV.Le (.tup [(false,[qf<|.str a]),(false,[qf .N]),(false,[qi e])]) (.tup [(false,[qf<|.str (zw t flex).1]),(false,[qf .N]),(false,[qf<|.int .i64 (zw t flex).2.2])])/\([]:List AObj)=[]:=λa e h=>by rw[h];exact rrl
 have z:((zr t).1.k==4)=true->zw t flex=([],[],flex):=λh=>by unfold zw;rw[tG<|.inl<|zp h]
 have v:((zr t).1.k==3)=true->zw t flex=([],[],flex):=λh=>by unfold zw;rw[tG<|.inr<|zp h]
 have s0:((zr t).1.k==4)=false->((zr t).1.k==3)=false->((zr t).1.k !=0)=true->zw t flex=([],[],130):=λb d h=>by have b:¬(zr t).1.k=4:=zp b;have d:¬(zr t).1.k=3:=zp d;unfold zw;rw[tD za,tG<|zp h]
 have sl:((zr t).1.k==4)=false->((zr t).1.k==3)=false->((zr t).1.k !=0)=false->(!logB (zr t).1.s)=true->zw t flex=([],(zr t).2,0):=λb d f h=>by have b:¬(zr t).1.k=4:=zp b;have d:¬(zr t).1.k=3:=zp d;unfold zw;rw[tD za,tD<|zp f,tG<|zp h]
 have p:((zr t).1.k==4)=false->((zr t).1.k==3)=false->((zr t).1.k !=0)=false->(!logB (zr t).1.s)=false->(((zr t).2.length:Int) !=Xw (zr t).1.s)=true->zw t flex=([],[],130):=λb d f h g=>by have b:¬(zr t).1.k=4:=zp b;have d:¬(zr t).1.k=3:=zp d;unfold zw;rw[tD za,tD<|zp f,tD<|zp h,tG<|zp g]
 have u:((zr t).1.k==4)=false->((zr t).1.k==3)=false->((zr t).1.k !=0)=false->(!logB (zr t).1.s)=false->(((zr t).2.length:Int) !=Xw (zr t).1.s)=false->zw t flex=((zr t).1.s,(zr t).2,0):=λb d f h g=>by have b:¬(zr t).1.k=4:=zp b;have d:¬(zr t).1.k=3:=zp d;unfold zw;rw[tD za,tD<|zp f,tD<|zp h,tD<|zp g]
 by_cases i:t.k=6/\validB t=true
 .have e:zr t=(hd t.l,t.l.drop 1):=tG i;have o:=qg t A i.1 i.2;have j:(zr t).2≠[]:=by obtain⟨k,s,n,l⟩:=t;have E:k=6:=i.1;subst E;obtain⟨x,y,r,rfl,_,_⟩:=okB6 (zB _ i.2) rfl;rw[e];simp[Tm.l]
  rw[show hd t.l=(zr t).1 by rw[e],show t.l.drop 1=(zr t).2 by rw[e]] at o;refine .inr ⟨zr t,o,zu (λh=>fin _ _<|z h) λb=>zu (λh=>fin _ _<|v h) λd=>zu (λh=>fin _ _<|s0 b d h) λf=>⟨_,c3,zu (λh=>?_) λh=>⟨_,w,zu (λg=>fin _ _<|p b d f h g) λg=>?_⟩⟩⟩
  .rw[sl b d f h] at m;exact absurd m j
  .rw[u b d f h g] at m;exact absurd m j
 .have e:zr t=(t,[]):=tD i;have o:=Yk t A i;have D:(zr t).1=t:=by rw[e]
  have C:(zr t).2=[]:=by rw[e]
  rw[D] at c3 w z v s0 sl p u;rw[C] at sl p u;exact .inl ⟨t,o,zu (λh=>fin _ _<|z h) λb=>zu (λh=>fin _ _<|v h) λd=>zu (λh=>fin _ _<|s0 b d h) λf=>⟨_,c3,zu (λh=>fin _ _<|sl b d f h) λh=>⟨rfl,_,w,zu (λg=>fin _ _<|p b d f h g) λg=>fin _ _<|u b d f h g⟩⟩⟩
theorem xE (t:Tm)(flex:Int)(o:t.sz<=B)(f:(zw t flex).2.1≠[]):AC tB 85 [aT t,ci flex] [] (.tup [(false,[qf<|.str (zw t flex).1]),(false,[.a<|.osl 0 4 0 (zw t flex).2.1.length]),(false,[qf<|.int .i64 (zw t flex).2.2])]) [.arz 4<|FTs (zw t flex).2.1]:=by
 have c3:=vV (zr t).1.s;have r:=rB (zr t).1.s
 have j:t.k=6/\validB t=true:=A5 λp=>by
  have e:zr t=(t,[]):=tD p;refine f ?_;unfold zw;rw[e];split
  .rfl
  .split
   .rfl
   .split
    .rfl
    .split<;>rfl
 have e:zr t=(hd t.l,t.l.drop 1):=tG j;have m:=qg t o j.1 j.2;rw[show hd t.l=(zr t).1 by rw[e],show t.l.drop 1=(zr t).2 by rw[e]] at m;refine AC.vc hP shO lv5 zb zb (by simp[isLive])<|Eq.mpr (v85 t.k t.s t.n (FTs t.l) flex ..) ?_;refine .inr ⟨zr t,m,zu (λh=>?_) λb=>zu (λh=>?_) λd=>zu (λh=>?_) λg=>⟨_,c3,zu (λh=>?_) λh=>⟨_,r,zu (λi=>?_) λi=>?_⟩⟩⟩
 .exact absurd (by unfold zw;rw[tG<|.inl<|zp h]) f
 .exact absurd (by unfold zw;rw[tG<|.inr<|zp h]) f
 .have b:¬(zr t).1.k=4:=zp b;have d:¬(zr t).1.k=3:=zp d;exact absurd (by unfold zw;rw[tD za,tG<|zp h]) f
 .have b:¬(zr t).1.k=4:=zp b;have d:¬(zr t).1.k=3:=zp d;have:zw t flex=([],(zr t).2,0):=by unfold zw;rw[tD za,tD<|zp g,tG<|zp h]
  rw[this];exact rrl
 .have b:¬(zr t).1.k=4:=zp b;have d:¬(zr t).1.k=3:=zp d;exact absurd (by unfold zw;rw[tD za,tD<|zp g,tD<|zp h,tG<|zp i]) f
 .have b:¬(zr t).1.k=4:=zp b;have d:¬(zr t).1.k=3:=zp d;have:zw t flex=((zr t).1.s,(zr t).2,0):=by unfold zw;rw[tD za,tD<|zp g,tD<|zp h,tD<|zp i]
  rw[this];exact rrl
theorem fF (a b:Tm):AC tB 163 [.c<|.a<|.osl 0 4 0 2] [.arz 4<|FTs [a,b]] (.tup []) [.arz 4<|FTs [b,a]]:=by
 refine acv (v163_i1 2 (FTs [a,b]) ..) ?_;rw[w64 za za];refine rpv (Wt 2 0 1 (FTs [a,b]) ..) ?_;refine bP<|?_;rw[w64 za za,w64 za za];have e0:rE (getD (FTs [a,b]) 0 [])=FT a:=yD a;have d:rE (getD (FTs [a,b]) 1 [])=FT b:=yD b;have t0:take 4 (drop 0<|getD (FTs [a,b]) 0 [])=FT a:=by cases a;rfl
 have e:take 4 (drop 0<|getD (FTs [a,b]) 1 [])=FT b:=by cases b;rfl
 refine⟨⟨za,za⟩,⟨by show 1<2;omega,d.trans e.symm,rfl⟩,⟨za,za⟩,⟨by show 0<2;omega,e0.trans t0.symm,rfl⟩,⟨za,za⟩,⟨by show 0<2;omega,by show(FT a).length=4;exact ym a⟩,⟨za,za⟩,⟨by show 1<2;omega,by show(FT b).length=4;exact ym b⟩,?_⟩;have f:List.set (List.set (FTs [a,b]) (0+toNat 0)<|rE<|getD (FTs [a,b]) (0+toNat 1) []) (0+toNat 1) (rE<|getD (FTs [a,b]) (0+toNat 0) [])=FTs [b,a]:=by rw[show 0+toNat 0=0 from rfl,show 0+toNat 1=1 from rfl,e0,d];rfl
 rw[f];refine rpv (Wt 2 (0+1) (1-1) (FTs [b,a]) ..) ?_;exact bN rrl
theorem c_applyN (k:Int)(s:List UInt8)(n:Int)(args:List Tm)(h:args.length<2199023255552):AC tB 17 [.agg [qi k,qf<|.str s,qi n,qf .N],aL args] [] (aT<|zJ (.mk k s n []) args) []:=
 (w8 (.mk k s n []) args<|by simpa[Tm.l] using h).args ⟨leT zO,.refl _,trivial⟩
theorem aq (f i:Int)(s0:List UInt8):∀(b a:List Tm) (t:Tm),(a++b).length<=1000000000->
  RPt tB 161 0 (aT<|b.foldl andG t) [] 1 ⟨[(2,.c<|.a<|.ep 0 4 0 0),(3,.c<|.a<|.ep 1 4 0 0),(17,aL<|a++b),(18,ci (a++b).length),(19,ci a.length)],[(0,.arr 4 [[qi f,qf<|.str s0,qi i,qf .N]]),(1,.arr 4 [cT t])],2⟩
 |[],a,t,h=>by obtain⟨k,s,n,l⟩:=t;refine rpv (sX ..) ?_;exact bF zb rrl
 |g::b,a,t,h=>by
  have e:=aq f i s0 b (a++[g]) (andG t g) (zp h);rw[ap,nx] at e;have j:=c_applyN 0 nAnd 0 [t,g] zb;simp only[tE,tC] at h;have d:(a.length:Int)<((a++g::b).length:Int):=by simp only[tE,tC];omega
  refine rpv (sX ..) ?_;rw[w64 za za];refine bT d ⟨⟨rfl,za,by rw[zq];exact d,xr ..⟩,⟨rfl,za⟩,andG t g,?_,e⟩;rw[xr,midI];refine j.args ⟨.refl _,.c _ _<|.a _ _<|.fz _ _ ?_,trivial⟩;obtain⟨k,s,n,l⟩:=t;exact .refl _
theorem c_kabody (e:Int)(L:List Tm)(b:Bool)(h:L.length<=1000000000):AC tB 161 [aAr e L b] [] (aT<|wL L) []:=by
 refine acv (v161 ..) ?_;cases L with
 |nil=>exact⟨rfl,bP<|uw<|leT zO⟩
 |cons g L=>
  have f:=aq 0 0 [] L [] g (by simp only[tC] at h;simpa using Nat.le_of_succ_le h);refine⟨rfl,zu (λh=>?_) λ_=>⟨⟨rfl,za,?_,?_⟩,rfl,⟨za,?_,za⟩,rfl,?_⟩⟩
  .rw[zq] at h;have:((g::L).length:Int)=0:=zp h;simp only[tC] at this;omega
  .rw[zq];simp only[tC];omega
  .exact yD g
  .rw[zq];simp only[tC];omega
  .have i:drop 1 (take (toNat (((FTs<|g::L).length:Nat):Int))<|FTs<|g::L)=FTs L:=by rw[kT];rfl
   rw[i,show cE (getD (FTs<|g::L) 0 [])=cT g from cE_FT g];have d:(((FTs L).length:Nat):Int)=(L.length:Int):=by rw[zq]
   rw[d];exact f
theorem Kg (m:Int)(d:Bool)(r:Int)(p:Bool):∀(b a:List Tm),(a++b).length<=1000000000->a≠[]->(∀g∈a++b,g.sz<=B/\bd M61 g)->
  RPt tB 162 0 (aAr m ((a++b).map λg=>shT 0 1 g 0) d) [] 1 ⟨[(2,.c<|.a<|.ep 0 3 0 0),(3,.c<|.a<|.ep 1 3 0 0),(13,aL<|a++b),(14,ci (a++b).length),(15,ci a.length)],
   [(0,.arr 3 [[qi r,qf .N,qf<|.bool p]]),(1,.arr 3 [[qi m,.a<|.osl 2 4 0 a.length,qf<|.bool d]]),(2,.arz 4<|FTs<|a.map λg=>shT 0 1 g 0)],3⟩
 |[],a,h,j,f=>by refine rpv (iL ..) ?_;refine bF zb ⟨⟨⟨rfl,by rw[zq];simp⟩,trivial⟩,?_,rfl⟩;rw[tY,A3,tN<|by rw[zq];simp];exact .refl _
 |g::b,a,h,j,f=>by
  have i:=Kg m d r p b (a++[g]) (zp h) zb (zp f);rw[ap,nx,show((a++[g]).map λg=>shT 0 1 g 0)=(a.map λg=>shT 0 1 g 0)++[shT 0 1 g 0] by simp,yh] at i;have e:=f g zb;have u:=jE g 0 1 e.1 e.2 za (by simp only[M61];omega) za (by simp only[M61];omega);simp only[tE,tC] at h;have o:(a.length:Int)<((a++g::b).length:Int):=by simp only[tE,tC];omega
  refine rpv (iL ..) ?_;rw[w64 za za];refine bT o ⟨⟨rfl,za,by rw[zq];exact o,xr ..⟩,shT 0 1 g 0,by rw[xN];exact u,za,⟨by rw[zq];simp,by unfold zI;omega⟩,?_⟩;rw[tN<|by rw[zq];simp,wN];rw[show(a++[g]).length=a.length+1 by simp] at i;exact i
theorem mf (f:Int)(L:List Tm)(b:Bool)(h:L.length<=1000000000)(v:0<=f)(u:f<=M61)(o:∀g∈L,g.sz<=B/\bd M61 g):AC tB 162 [aAr f L b] [] (aAr (f+1) (L.map λg=>shT 0 1 g 0) b) []:=by
 refine acv (v162 ..) ?_;simp only[M61] at u;rw[w64 za za];refine⟨rfl,rpv (v162_1a ..) ?_⟩;cases L with
 |nil=>exact zu (λh=>by cases h) (λ_=>⟨.agg _ _ rfl (λi x y d e=>by
   match i with
   |0=>simp at d e;subst d;subst e;exact .refl _
   |1=>simp at d e;subst d;subst e;exact .a _ _ (.fz _ _ zO)
   |2=>simp at d e;subst d;subst e;exact .refl _
   |i+3=>simp at d),rfl⟩)
 |cons g L=>
  have j:=o g tM;have r:=jE g 0 1 j.1 j.2 za (by simp only[M61];omega) za (by simp only[M61];omega);have p:=Kg (f+1) b 0 false L [g] (zp h) zb (zp o);have m:(0:Int)<(((FTs<|g::L).length:Nat):Int):=by rw[zq];simp only[tC];omega
  rw[w64 za za];refine bT m ⟨⟨rfl,za,m,yD g⟩,shT 0 1 g 0,by rw[show aE (getD (FTs<|g::L) (toNat 0) [])=aT g from yT g];exact r,za,by unfold zI;omega,?_⟩;rw[wN,zq];exact p
theorem dl (t:Tm)(f:validB t=true)(g:t.sz<=B)(p:bd M61 t):AC tB 87 [aT t] [] (aT<|y9 t) []:=by
 have j:=yz t g;have m:=jE t 0 1 g p za (by simp only[M61];omega) za (by simp only[M61];omega);have o:(shT 0 1 t 0).l.length<=B:=by have:=Tm.szs_length (shT 0 1 t 0).l;have:=(shT 0 1 t 0).sz_eq;have:=jW 0 1 t 0;omega
 simp only[B] at o
 have c3:=(w8 (shT 0 1 t 0) [bd0]<|by simp only[tC,tR];omega).args (args:=[aT<|shT 0 1 t 0,.c<|qf<|.sl false 4 [[.int .i64 3,.str [],.int .i64 0,.N]]]) ⟨.refl _,.c _ _ (.a _ _ (.fz _ _ (au (l:=[bd0]) rfl (λi r u d e=>by
  match i with
  |0=>simp at d e;subst d;subst e;exact leFT zO
  |i+1=>simp at d)))),trivial⟩
 obtain⟨k,s,n,l⟩:=t;refine acv (v87 ..) ?_;unfold y9;refine⟨_,j,zu (λh=>absurd f<|zp h) λ_=>zu (λh=>?_) λh=>⟨_,m,⟨rfl,za⟩,_,c3,?_⟩⟩
 .have b:(Tm.mk k s n l).k=5:=zp h;have b:k=5:=b;subst b;obtain⟨x,rfl,_⟩:=okB5 (zB _ f) rfl;refine⟨⟨rfl,za,by show(0:Int)<1;omega,yD x⟩,?_,rfl⟩;show TV.Le (aE<|FT x) _;rw[yT,tG (show(Tm.mk 5 s n [x]).k=5 from rfl)];exact .refl _
 .have b:¬(Tm.mk k s n l).k=5:=zp h;exact pB (by rw[tD b])
theorem c_ktell (c:Cl)(X:List Cl)(h:X.length<=1000000000):AC tB 144 [aCl c,.c<|.a<|.ep 0 1 0 0] [.arr 1 [[.a<|.osl 1 9 0 X.length]],.arz 9<|CLs X] (.tup []) [.arr 1 [[.a<|.osl 2 9 0 (X++[c]).length]],.gone,.arz 9<|CLs<|X++[c]]:=by refine acv (v144 ..) ?_;refine⟨za,⟨by rw[zW];exact tJ _,by unfold zI;omega⟩,.refl _,?_⟩;rw[tN<|by rw[zW];exact tJ _];simp[CLs]
abbrev mKi:(Bool×List EK)×(Bool×List WV):=((false,[EK.int]),(false,[qf<|.bool false]))
def ZH (m:List Int):List MapZ:=m.map λn=>((false,[.int .i64 n]),(false,[.bool true]))
theorem YM (n:Int):∀(m:List Int) (i:Nat),(m.contains n=false->vi mKi.1 [.int .i64 n] ((ZH m).map thaw) i=some none)/\(m.contains n=true->∃j,vi mKi.1 [.int .i64 n] ((ZH m).map thaw) i=some (some<|i+j)/\(ZH m)[j]?=some ((false,[.int .i64 n]),(false,[.bool true])))
 |[],i=>⟨λ_=>rfl,λh=>by cases h⟩
 |x::m,i=>by
  have ih:=YM n m<|i+1;have b:vi mKi.1 [.int .i64 n] ((ZH<|x::m).map thaw) i=if (((n:Int)==x)&&true)=true then some (some i) else vi mKi.1 [.int .i64 n] ((ZH m).map thaw) (i+1):=rfl
  rw[b];by_cases q:n=x
  .subst q;refine⟨λh=>?_,λ_=>⟨0,zb,rfl⟩⟩;simp at h
  .have e:(((n:Int)==x)&&true)=false:=by simp[q]
   rw[e];have g:(x::m).contains n=m.contains n:=by simp[List.contains_cons,q]
   rw[g];refine⟨ih.1,λh=>?_⟩;obtain⟨j,f,d⟩:=ih.2 h;exact⟨j+1,by rw[tD zb,f,(za:i+1+j=i+(j+1))],by simpa[ZH] using d⟩
theorem gq {n:Int}{m:List Int}(h:m.contains n=false):XH mKi [.int .i64 n] (ZH m)=some none/\updZ mKi [.int .i64 n] (false,[.bool true]) (ZH m)=some (ZH<|m++[n]):=by have:=(YM n m 0).1 h;refine⟨by unfold XH;rw[this],by unfold updZ;rw[this];simp[ZH]⟩
theorem iA {n:Int}{m:List Int}(h:m.contains n=true):XH mKi [.int .i64 n] (ZH m)=some (some [.bool true]):=by obtain⟨j,d,b⟩:=(YM n m 0).2 h;unfold XH;rw[d];simp only[A4,b,tZ]
theorem nP (k:Int):∀(b a:List Tm) (m:List Int),(a++b).length<=B->RPt tB 176 0 (cb<|ZJ m b k) [] 1 ⟨[(1,ci k),(5,.c<|.a<|.mp 0),(9,aL<|a++b),(10,ci (a++b).length),(11,ci a.length)],[(0,.mapz<|ZH m)],1⟩
 |[],a,m,h=>by refine rpv (ie ..) ?_;exact bF zb<|zD rfl
 |t::b,a,m,h=>by
  have f:=nP k b (a++[t]) (m++[t.n]) (zp h);rw[ap,nx] at f;simp only[tE,tC,B] at h;have e:(a.length:Int)<((a++t::b).length:Int):=by simp only[tE,tC];omega
  have e0:FV.I (getD (getD (FTs<|a++t::b) (toNat (a.length:Int)) []) 0 FV.N)=t.k:=by rw[midI];cases t;rfl
  have i:FV.I (getD (getD (FTs<|a++t::b) (toNat (a.length:Int)) []) 2 FV.N)=t.n:=by rw[midI];cases t;rfl
  refine rpv (ie ..) ?_;rw[w64 za za,e0,i,ZJ];refine bT e ⟨⟨rfl,za,by rw[zq];exact e,xr ..⟩,zu (λh=>zD ?_) λg=>zu (λh=>zD ?_) λj=>?_⟩
  .rw[tG<|zp h]
  .rw[tD<|zp g,tG<|zp h]
  .rw[tD<|zp g,tD<|zp j];cases d:m.contains t.n with
   |true=>exact .inl ⟨true,iA d,bP<|zD rfl⟩
   |false=>exact .inr ⟨(gq d).1,_,(gq d).2,f⟩
theorem c_kdist (l:List Tm)(k:Int)(h:l.length<=B):AC tB 176 [aL l,ci k] [] (cb<|ZJ [] l k) []:=by have b:=nP k l [] [] h;refine acv (v176 ..) ?_;rw[zq];exact⟨rfl,b⟩
theorem mJ (p:Tm->Bool)(n:Int)(b:List Tm):∀a:List Tm,(a++b).length<=B->(∀u∈b,AC tB 177 [aT u,.c<|.a<|.ep 0 1 0 0] [obN n] (cb<|p u) [obN n])->RPt tB 42 1 (ci<|ixF p b a.length) [obN n] 1 ⟨[(0,aL<|a++b),(1,.c<|.fn (.func 177) [] [(false,[.ep 0 1 0 0])]),(7,ci (a++b).length),(8,ci a.length)],[(0,obN n)],1⟩:=by
 induction b with
 |nil=>intro a e _;refine rpv (Xq ..) ?_;exact bF zb rrl
 |cons t b d=>
  intro a e ih;have i:=ltI' a t b;have m:=ih t tM;have f:=d (a++[t]) (zp e) λu j=>ih u<|tK _ j;rw[ap,nx,show(a++[t]).length=a.length+1 by simp] at f;rw[ixF];simp only[tE,tC,B] at e;have g:(a.length:Int)<((a++t::b).length:Int):=by simp only[tE,tC];omega
  refine rpv (Xq ..) ?_;rw[w64 za za];refine bT g ⟨⟨rfl,za,i,xr ..⟩,p t,by rw[xN];exact m,zu (λh=>?_) λh=>?_⟩
  .rw[tG h];exact rrl
  .rw[tD<|by rw[h];simp];exact f
theorem lA (p:Tm->Bool)(n:Int)(l:List Tm)(d:l.length<=B)(h:∀u∈l,AC tB 177 [aT u,.c<|.a<|.ep 0 1 0 0] [obN n] (cb<|p u) [obN n]):AC tB 25 [aL l,.c<|.fn (.func 177) [] [(false,[.ep 0 1 0 0])]] [obN n] (cb<|l.any p) [obN n]:=by
 have b:=mJ p n l [] d h;have e:AC tB 42 [aL l,.c<|.fn (.func 177) [] [(false,[.ep 0 1 0 0])]] [obN n] (ci<|ixF p l 0) [obN n]:=by refine acv (v42_F177 ..) ?_;rw[zq];exact⟨rfl,b⟩
 refine acv (v25_F177 ..) ?_;exact⟨_,e,by rw[vJ p l 0];exact rrl⟩
theorem ZR (t:Tm):(zr t).1.sz<=t.sz/\(∀u∈(zr t).2,u.sz+1<=t.sz)/\(zr t).2.length<=t.sz:=by
 unfold zr;split
 .rename_i h;obtain⟨k,s,n,l⟩:=t;obtain⟨x,y,r,rfl,_,_⟩:=okB6 (zB _ h.2) h.1;have e:=Tm.szs_length<|y::r;refine⟨?_,λu b=>?_,?_⟩
  .simp only[Tm.l,hd,EI,Tm.sz,Tm.szs];omega
  .have:=Tm.szs_mem (show u∈y::r from b);have d:=x.sz_pos;simp only[Tm.sz,Tm.szs] at*;omega
  .simp only[Tm.l,S6,A3,Tm.sz,Tm.szs] at*;omega
 .exact⟨tJ _,λu b=>by simp at b,zb⟩
theorem sU:∀(n:Nat) (t:Tm) (k:Int),t.sz<=n->t.sz<=B->validB t=true->0<=k->k+n<=M61->AC tB 160 [aT t,ci k] [] (cb<|patG n t k) []
 |0,t,k,z,_,_,_,_=>by have:=t.sz_pos;omega
 |n+1,t,k,z,A,p,D,F=>by
  have C:=kK t A;have v:=ZR t;have i:∀u∈(zr t).2,validB u=true:=by
   intro u g;unfold zr at g;split at g
   .obtain⟨w,s,m,l⟩:=t;exact zX p (.inr ‹_/\_›.1) u<|Eg g
   .simp at g
  have y:=c_kdist (zr t).2 k za;have c3:=lA (λu=> !patG n u k) k (zr t).2 za (λu g=>by have h:=sU n u k (by have:=v.2.1 u g;omega) (by have:=v.2.1 u g;omega) (i u g) D za;obtain⟨a,b,c,d⟩:=u;refine acv (v177 ..) ?_;exact⟨_,h,.refl _,rfl⟩);rw[patG];simp only[M61] at F;refine acv (v160 t.k t.s t.n (FTs t.l) k ..) ?_;rw[w64 (x:=k+1) za za];refine zu (λh=>?_) λe=>⟨zr t,C,zu (λh=>zD ?_) λf=>zu (λh=>⟨_,y,zD ?_⟩) λo=>zu (λh=>zu (λj=>⟨_,y,zD ?_⟩) λj=>⟨_,c3,zD ?_⟩) λr=>⟨_,c3,zD ?_⟩⟩
  .have e:t.k=5:=zp h;rw[tG e];obtain⟨w,s,m,l⟩:=t;have e:w=5:=e;subst e;obtain⟨x,rfl,_⟩:=okB5 (zB _ p) rfl;have E:=sU n x (k+1) (by simp only[Tm.sz,Tm.szs] at z;omega) (by simp only[Tm.sz,Tm.szs] at A;omega) (zX p (.inl rfl) x zb) za (by simp only[M61];omega);exact⟨⟨rfl,za,by show(0:Int)<1;omega,yD x⟩,_,by show AC tB 160 [aE<|FT x,_] [] _ [];rw[yT];exact E,zD rfl⟩
  .rw[tD<|zp e,tG<|zp h]
  .rw[tD<|zp e,tD<|zp f,tG<|.inl<|zp h]
  .rw[tD<|zp e,tD<|zp f,tG<|.inr ⟨zp h,zp j⟩]
  .have r:(zr t).1.k=3:=zp h;have j:¬k<=(zr t).1.n:=zp j;rw[tD<|zp e,tD<|zp f,tD za,YY]
  .have r:¬(zr t).1.k=3:=zp r;have G:¬(zr t).1.k=4:=zp o;rw[tD<|zp e,tD<|zp f,tD za,YY]
mutual
def ms (b:Int->List UInt8->Nat):Tm->Nat
 |.mk k s _ l=>b k s+mss b l
def mss (b:Int->List UInt8->Nat):List Tm->Nat
 |[]=>0
 |t::l=>ms b t+mss b l
end
mutual
theorem XK:∀t:Tm,ms (λ_ _=>1) t=t.sz
 |.mk _ _ _ l=>by rw[ms,Tm.sz,mss_sz l]
theorem mss_sz:∀l:List Tm,mss (λ_ _=>1) l=Tm.szs l
 |[]=>rfl
 |t::l=>by rw[mss,Tm.szs,XK t,mss_sz l]
end
mutual
theorem Jp:∀t:Tm,ms (λ_ s=>1+s.length) t=t.bk
 |.mk _ _ _ l=>by rw[ms,Tm.bk,mss_bk l]
theorem mss_bk:∀l:List Tm,mss (λ_ s=>1+s.length) l=Tm.bks l
 |[]=>rfl
 |t::l=>by rw[mss,Tm.bks,Jp t,mss_bk l]
end
abbrev wb:Int->List UInt8->Nat:=λk _=>if k=0 then 4 else 1
abbrev wt (t:Tm):Nat:=ms wb t
mutual
theorem Xx:∀t:Tm,t.sz<=wt t
 |.mk k _ _ l=>by
  have:=t7 l;unfold wt;rw[Tm.sz,ms];have:1<=wb k []:=by unfold wb;split<;>omega
  have e:wb k []=wb k ‹_›:=rfl;omega
theorem t7:∀l:List Tm,Tm.szs l<=mss wb l
 |[]=>tJ _
 |t::l=>by have:=Xx t;have:=t7 l;rw[Tm.szs,mss];unfold wt at*;omega
end
section
variable {b:Int->List UInt8->Nat}
theorem XB (t:Tm):ms b t=b t.k t.s+mss b t.l:=by cases t;rw[ms];rfl
theorem XY:∀l m:List Tm,mss b (l++m)=mss b l+mss b m
 |[],m=>by simp[mss]
 |t::l,m=>by rw[AE,mss,mss,XY l m];omega
theorem sa:∀ {l:List Tm} {t:Tm},t∈l->ms b t<=mss b l
 |x::l,t,h=>by
  rw[mss];rcases A1.1 h with rfl|h
  .omega
  .have:=sa h;omega
theorem Yv (g:Tm->Int->Tm)(h:∀u d,u.k≠5->u.k≠6->(g u d).k≠6)(t:Tm)(d:Int)(b:(zG g t d).k=6):t.k=6:=by
 obtain⟨k,s,n,l⟩:=t;rw[zG] at b;split at b
 .rw[withF_k] at b;exact b
 next f=>exact absurd b<|h _ _ (λe=>f<|by rw[show k=5 from e];rfl) λe=>f<|by rw[show k=6 from e];rfl
theorem y5 (b:Tm->Int->Tm)(h:∀u d,u.k≠5->u.k≠6->(b u d).k≠6)(k:Int)(s:List UInt8)(n:Int)(l:List Tm)(d:Int)(g:(k==5||k==6)=true):
  zG b (.mk k s n l) d=.mk k s n (zF b l<|d+if (k==5)=true then 1 else 0):=by
 rw[zG,tG g,xx,tD λe=>?_];rfl
 match l,e with
 |[],e=>have:=e.2.1;simp[zF] at this
 |t::l,e=>
  have f:=e.2.2.1;have i:(t.k !=6)=true:=e.2.2.2;rw[zF,EI] at f;have:=Yv b h t _ (zp f);simp[this] at i
mutual
theorem Xc (lf:Tm->Int->Tm)(h:∀u d,u.k≠5->u.k≠6->(lf u d).k≠6)(hm:∀u d,u.k≠5->u.k≠6->ms b (lf u d)<=ms b u):∀(t:Tm) (d:Int),ms b (zG lf t d)<=ms b t
 |.mk k s n l,d=>by
  by_cases hk:(k==5||k==6)=true
  .have:=aB lf h hm l<|d+if (k==5)=true then 1 else 0
   rw[y5 lf h k s n l d hk,ms,ms];omega
  .rw[zG,tD hk];exact hm _ _ (λe=>hk<|by rw[show k=5 from e];rfl) (λe=>hk<|by rw[show k=6 from e];rfl)
theorem aB (lf:Tm->Int->Tm)(h:∀u d,u.k≠5->u.k≠6->(lf u d).k≠6)(hm:∀u d,u.k≠5->u.k≠6->ms b (lf u d)<=ms b u):∀(l:List Tm) (d:Int),mss b (zF lf l d)<=mss b l
 |[],_=>tJ _
 |t::l,d=>by have:=Xc lf h hm t d;have:=aB lf h hm l d;rw[zF,mss,mss];omega
end
theorem rk (fr by_:Int)(u:Tm)(d:Int)(b:u.k≠6):(ye fr by_ u d).k≠6:=by rw[cI];exact b
theorem oH (fr by_:Int)(t:Tm)(d:Int):ms b (shT fr by_ t d)<=ms b t:=by
 refine Xc _ (λu d _ e=>rk _ _ u d e) (λu d _ _=>?_) t d;unfold ye;split
 .rw[XB u];exact tJ _
 .exact tJ _
theorem kI (i v:Int)(u:Tm)(d:Int):xe i (.mk 4 [] v []) u d=if (u.k==3)=true then(if u.n<d+i then u else if (u.n==d+i)=true then .mk 4 [] v [] else .mk u.k u.s (u.n-1) u.l) else u:=rfl
theorem fX (i v:Int)(u:Tm)(d:Int)(b:u.k≠6):(xe i (.mk 4 [] v []) u d).k≠6:=by
 rw[kI];split
 .split
  .exact b
  .split
   .intro h;cases h
   .exact b
 .exact b
theorem sP (g:∀s,b 4 []<=b 3 s)(i v:Int)(t:Tm)(d:Int):ms b (suT i (.mk 4 [] v []) t d)<=ms b t:=by
 refine Xc _ (λu d _ f=>fX _ _ u d f) (λu d _ _=>?_) t d;rw[kI];split
 .rename_i e;have e:u.k=3:=zp e;split
  .exact tJ _
  .split
   .rw[XB u,e,ms];have:=g u.s;simp only[mss];omega
   .rw[XB u];exact tJ _
 .exact tJ _
theorem apply_ms (d:∀s,b 6 []<=b 6 s)(f:Tm)(l:List Tm):ms b (zJ f l)<=b 6 []+ms b f+mss b l:=by
 match l with
 |[]=>show ms b f<=_;omega
 |x::r=>
  show ms b (if (f.k==6)=true/\f.l≠[] then .mk 6 [] 0 (f.l++x::r) else .mk 6 [] 0<|f::x::r)<=_;split
  .rw[ms,XY,XB f];omega
  .rw[ms,mss];omega
theorem dD (d:∀s,b 6 []<=b 6 s)(t:Tm)(e:validB t=true):ms b (y9 t)<=b 6 []+ms b t+b 3 []:=by
 unfold y9;split;next f=>obtain⟨k,s,n,l⟩:=t;obtain⟨x,rfl,_⟩:=okB5 (zB _ e) f;show ms b x<=_;rw[ms,mss];omega
 .have g:=apply_ms d (shT 0 1 t 0) [bd0];have h:=oH (b:=b) 0 1 t 0;rw[mss,mss,ms,mss] at g;omega
end
theorem ue {t:Tm}(h:(zr t).2≠[]):∃s n x y r,t=.mk 6 s n (x::y::r)/\zr t=(x,y::r)/\validB t=true:=by
 unfold zr at h;split at h;next b=>obtain⟨k,s,n,l⟩:=t;have d:k=6:=b.1;subst d;obtain⟨x,y,r,rfl,_,_⟩:=okB6 (zB _ b.2) rfl;exact⟨s,n,x,y,r,rfl,tG b,b.2⟩
 .exact absurd rfl h
theorem arg_ms (b:Int->List UInt8->Nat){t u:Tm}(d:u∈(zr t).2):(∃s,ms b t>=b 6 s+ms b (zr t).1+ms b u):=by obtain⟨s,n,x,y,r,rfl,e,_⟩:=ue (t:=t) (λe=>by rw[e] at d;cases d);rw[e] at d ⊢;have f:ms b u<=mss b (y::r):=sa d;exact⟨s,by rw[ms,mss];show _>=b 6 s+ms b x+ms b u;omega⟩
theorem head_wt {t:Tm}(h:(zr t).1.k=0):4<=wt (zr t).1:=by unfold wt;rw[XB,h];show 4<=4+_;omega
theorem vf {t u:Tm}(d:u∈(zr t).2)(h:(zr t).1.k=0):5+wt u<=wt t:=by obtain⟨s,b⟩:=arg_ms wb d;have:=head_wt h;unfold wt at*;simp only[show wb 6 s=1 from rfl] at b;omega
theorem jN {t u:Tm}(d:u∈(zr t).2):2+u.sz<=t.sz:=by obtain⟨s,b⟩:=arg_ms (λ_ _=>1) d;rw[XK,XK,XK] at b;have:=(zr t).1.sz_pos;omega
theorem qZ {t:Tm}(d:validB t=true):wt (y9 t)<=wt t+2:=by have:=dD (b:=wb) (λ_=>tJ _) t d;unfold wt;simp only[show wb 6 []=1 from rfl,show wb 3 []=1 from rfl] at this;omega
theorem JG {t:Tm}(d:validB t=true):(y9 t).sz<=t.sz+2:=by have:=dD (b:=λ_ _=>1) (λ_=>tJ _) t d;rw[XK,XK] at this;omega
theorem zP {t u:Tm}(b:u∈(zr t).2):validB u=true:=by obtain⟨s,n,x,y,r,rfl,e,d⟩:=ue (t:=t) (λe=>by rw[e] at b;cases b);rw[e] at b;exact zX d (.inr rfl) u<|tK _ b
theorem gW {M:Int}{t:Tm}(d:M+1<=4611686018427387904)(b:validB t=true)(e:bd M t):validB (shT 0 1 t 0)=true:=by rw[xc,tF];exact⟨ad 0<|zB _ b,nS (D:=0) za d t 0 0 e (xM b)<|tU 0⟩
theorem pW {M:Int}{t:Tm}(g:M+1<=4611686018427387904)(b:validB t=true)(f:bd M t):validB (y9 t)=true:=by
 unfold y9;split;next d=>obtain⟨k,s,n,l⟩:=t;obtain⟨x,rfl,_⟩:=okB5 (zB _ b) d;exact zX b (.inl d) x zb
 .have e:=gW g b f;rw[xc,tF];exact⟨vk (zB _ e) rfl,vg (xM e) rfl⟩
theorem iB {M:Int}{t:Tm}(f:0<=M)(e:validB t=true)(b:bd M t):bd (M+1) (y9 t):=by
 unfold y9;split;next d=>obtain⟨k,s,n,l⟩:=t;obtain⟨x,rfl,_⟩:=okB5 (zB _ e) d;exact yQ za _<|yN (bd_l b)<|by simp[hd,Tm.l]
 .exact xB (aQ za t 0 b<|tU 0) ⟨⟨λ_=>⟨by show 0-(M+1)<=(0:Int);omega,by show(0:Int)<=M+1;omega⟩,trivial⟩,trivial⟩
def TG (n:Nat)(t:Tm):Prop:=validB t=true/\t.sz<=1000000/\bd (1000000000000-n) t
theorem TG.mono {n m:Nat}{t:Tm}(h:TG n t)(b:m<=n):TG m t:=⟨h.1,h.2.1,yQ za _ h.2.2⟩
theorem TG.arg {n:Nat}{t u:Tm}(h:TG (n+1) t)(b:u∈(zr t).2):TG n u:=by refine⟨zP b,by have:=jN b;have:=h.2.1;omega,?_⟩;obtain⟨s,m,x,y,r,rfl,e,_⟩:=ue (t:=t) (λe=>by rw[e] at b;cases b);rw[e] at b;exact yQ za _<|yN (bd_l h.2.2)<|tK _ b
theorem TG.body {n:Nat}{t u:Tm}(g:n<=1000000000)(h:TG (n+1) t)(b:u∈(zr t).2):TG n (y9 u):=by
 have d:=zP b;have f:bd (1000000000000-(n+1:Nat)) u:=by obtain⟨s,m,x,y,r,rfl,e,_⟩:=ue (t:=t) (λe=>by rw[e] at b;cases b);rw[e] at b;exact yN (bd_l h.2.2)<|tK _ b
 refine⟨pW za d f,by have:=jN b;have:=h.2.1;have:=JG d;omega,?_⟩;have:=iB za d f;rw[show(1000000000000:Int)-(n+1:Nat)+1=1000000000000-n by omega] at this;exact this
theorem TG.sh {n:Nat}{t:Tm}(b:n<=1000000000)(h:TG (n+1) t):TG n (shT 0 1 t 0):=by refine⟨gW za h.1 h.2.2,by have:=jW 0 1 t 0;have:=h.2.1;omega,?_⟩;have:=aQ (fr:=0) (by_:=1) za t 0 h.2.2<|tU 0;rw[show(1000000000000:Int)-(n+1:Nat)+1=1000000000000-n by omega] at this;exact this
theorem KI {t:Tm}{flex:Int}(g:flex≠0)(h:(zw t flex).2.2=0)(b:(zw t flex).1≠[]):(zr t).1.k=0/\(zw t flex).1=(zr t).1.s/\(zw t flex).2.1=(zr t).2/\((zr t).2.length:Int)=Xw (zw t flex).1:=by
 obtain⟨j,⟨e,_⟩|⟨d,_,i,f⟩⟩:=kJ g h
 .exact absurd e b
 .exact⟨j,d,i,by rw[f,d]⟩
theorem two_of {l:List Tm}(h:(l.length:Int)=2):∃a b,l=[a,b]:=by
 match l,h with
 |[a,b],_=>exact⟨a,b,rfl⟩
 |[],h=>simp at h
 |[_],h=>simp at h
 |_::_::_::_,h=>simp only[tC] at h;omega
theorem one_of {l:List Tm}(h:(l.length:Int)=1):∃a,l=[a]:=by
 match l,h with
 |[a],_=>exact⟨a,rfl⟩
 |[],h=>simp at h
 |_::_::_,h=>simp only[tC] at h;omega
theorem yc {t:Tm}{flex:Int}(f:flex≠0)(h:(zw t flex).2.2=0)(d:(zw t flex).1=nAnd\/(zw t flex).1=nOr\/(zw t flex).1=nImp\/(zw t flex).1=nIf):
  ∃a c,(zw t flex).2.1=[a,c]/\(zr t).2=[a,c]/\(zr t).1.k=0:=by
 have b:(zw t flex).1≠[]:=by rcases d with e|e|e|e<;>rw[e]<;>simp
 obtain⟨j,m,g,i⟩:=KI f h b;have:Xw (zw t flex).1=2:=by rcases d with e|e|e|e<;>rw[e]<;>rfl
 obtain⟨a,c,e⟩:=two_of<|i.trans this;exact⟨a,c,g.trans e,e,j⟩
theorem xb {t:Tm}{flex:Int}(f:flex≠0)(h:(zw t flex).2.2=0)(d:(zw t flex).1=nPi\/(zw t flex).1=nSig):
  ∃a,(zw t flex).2.1=[a]/\(zr t).2=[a]/\(zr t).1.k=0:=by
 have b:(zw t flex).1≠[]:=by rcases d with e|e<;>rw[e]<;>simp
 obtain⟨j,m,g,i⟩:=KI f h b;have:Xw (zw t flex).1=1:=by rcases d with e|e<;>rw[e]<;>rfl
 obtain⟨a,e⟩:=one_of<|i.trans this;exact⟨a,g.trans e,e,j⟩
theorem XV {t a c:Tm}(h:(zr t).2=[a,c]):2+a.sz+c.sz<=t.sz:=by
 obtain⟨s,n,x,y,r,rfl,e,_⟩:=ue (t:=t) (by rw[h];simp);rw[e] at h;injection h with b d
 subst b;subst d;have:=x.sz_pos;simp only[Tm.sz,Tm.szs];omega
theorem vz (w:Bool):∀(n:Nat) (b:Bool) (vs:Int) (L:List Tm) (t:Tm),(clsF w n b vs L t).2.length<=t.sz
 |0,_,_,_,t=>AT _
 |n+1,b,vs,L,t=>by
  have o:=t.sz_pos;rw[clsF];split
  .exact AT _
  .rename_i h;have h:(zw t 131).2.2=0:=A5 h;split
   .split
    .exact AT _
    .exact o
   .split
    .rename_i d;obtain⟨a,c,e,f,_⟩:=yc za h<|.inl d;rw[e];have j:=vz w n b vs L a;have p:=vz w n b vs L c;have i:=XV f;split
     .show(clsF w n b vs L a).2.length<=_;omega
     .show((clsF w n b vs L a).2++(clsF w n b vs L c).2).length<=_;rw[tE];omega
    .split
     .rename_i d;obtain⟨a,e,f,_⟩:=xb za h<|.inl d;rw[e];have m:a∈(zr t).2:=by rw[f];simp
      have j:=vz w n b (vs+1) (L.map λg=>shT 0 1 g 0)<|y9 a;have p:=JG<|zP m;have i:=jN m;show(clsF w n b (vs+1) (L.map λg=>shT 0 1 g 0)<|y9 a).2.length<=_;omega
     .split
      .rename_i d;obtain⟨a,c,e,f,_⟩:=yc za h<|.inr<|.inr<|.inl d;rw[e];have i:=XV f;split
       .exact AT _
       .have j:=vz w n b vs (L++[a]) c;show(clsF w n b vs (L++[a]) c).2.length<=_;omega
      .split
       .rename_i d;obtain⟨a,c,e,f,_⟩:=yc za h<|.inr<|.inr<|.inr d;rw[e];have i:=XV f;split
        .exact AT _
        .have j:=vz w n b vs (L++[c]) a;show(clsF w n b vs (L++[c]) a).2.length<=_;omega
       .exact AT _
theorem br_t {c:Bool}{p q:Prop}(h:c=true)(b:p):br c p q:=zu (λ_=>b) (λh'=>by rw[h] at h';cases h')
theorem br_f {c:Bool}{p q:Prop}(h:c=false)(b:q):br c p q:=zu (λh'=>by rw[h] at h';cases h') λ_=>b
theorem u4 (a:Tm):take 4 (drop 0<|FT a)=FT a:=by cases a;rfl
abbrev tellK:TV:=.c<|.fn (.func 144) [] [(false,[.ep 0 1 0 0])]
abbrev inK (X:List Cl):List AObj:=[.arr 1 [[.a<|.osl 1 9 0 X.length]],.arz 9<|CLs X]
abbrev outK (X:List Cl):List AObj:=[.arr 1 [[.a<|.osl 2 9 0 X.length]],.gone,.arz 9<|CLs X]
theorem c_keach1 (n:Nat)(u:Tm)(e:u.sz<=n)(g:u.sz<=B)(f:validB u=true)(i:(n:Int)<=M61):AC tB 159 [aT u] [] (cb (!patG n u 0)) []:=by have h:=sU n u 0 e g f (tU 0) za;obtain⟨a,b,c,d⟩:=u;refine acv (v159 ..) ?_;exact⟨_,h,zD rfl⟩
theorem l_ixE1 (p:Tm->Bool)(b:List Tm):∀a:List Tm,(a++b).length<=B->(∀u∈b,AC tB 159 [aT u] [] (cb<|p u) [])->
  RPt tB 42 1 (ci<|ixF p b a.length) [.arz 4<|FTs<|a++b] 1 ⟨[(0,.c<|.a<|.osl 0 4 0 (a++b).length),(1,.c<|.fn (.func 159) [] []),(7,ci (a++b).length),(8,ci a.length)],[(0,.arz 4<|FTs<|a++b)],1⟩:=by
 induction b with
 |nil=>intro a e _;refine rpv (jf ..) ?_;exact bF zb rrl
 |cons t b d=>
  intro a e ih;have j:=ih t tM;have f:=d (a++[t]) (zp e) λu i=>ih u<|tK _ i;rw[ap,nx,show(a++[t]).length=a.length+1 by simp] at f;rw[ixF];simp only[tE,tC,B] at e;have g:(a.length:Int)<((a++t::b).length:Int):=by simp only[tE,tC];omega
  refine rpv (jf ..) ?_;rw[w64 za za,A4,midI,yT];refine bT g ⟨⟨za,g⟩,⟨by rw[zq,tE,tC];omega,(yD t).trans (u4 t).symm,rfl⟩,p t,j,zu (λh=>?_) λh=>?_⟩
  .rw[tG h];exact rrl
  .rw[tD<|by rw[h];simp];exact f
theorem c_anyE1 (p:Tm->Bool)(l:List Tm)(e:l.length<=B)(h:∀u∈l,AC tB 159 [aT u] [] (cb<|p u) []):AC tB 25 [.c<|.a<|.osl 0 4 0 l.length,.c<|.fn (.func 159) [] []] [.arz 4<|FTs l] (cb<|l.any p) [.arz 4<|FTs l]:=by
 have b:=l_ixE1 p l [] e h;have d:AC tB 42 [.c<|.a<|.osl 0 4 0 l.length,.c<|.fn (.func 159) [] []] [.arz 4<|FTs l] (ci<|ixF p l 0) [.arz 4<|FTs l]:=by refine acv (fS ..) ?_;exact b
 refine acv (dh ..) ?_;exact⟨_,d,by rw[vJ p l 0];exact rrl⟩
theorem c_anyE1N:AC tB 25 [.c<|qf .N,.c<|.fn (.func 159) [] []] [] (cb false) []:=by
 have d:AC tB 42 [aL [],.c<|.fn (.func 159) [] []] [] (ci (-1)) []:=by refine acv (v42_F159 ..) ?_;refine⟨rfl,rpv (fq ..) ?_⟩;exact br_f rfl (yF rfl)
 have b:AC tB 25 [aL [],.c<|.fn (.func 159) [] []] [] (cb false) []:=by refine acv (v25_F159 ..) ?_;exact⟨_,d,zD rfl⟩
 exact b.args ⟨.c _ _<|.a _ _<|.fz _ _ zO,.refl _,trivial⟩
def GC (n:Nat):Prop:=
 (∀t,wt t<=n->TG n t->AC tB 61 [aT t] [] (ci<|zH false n t) [])/\
 (∀(any:Bool) (vs:Int) (L:List Tm) (t:Tm) (X:List Cl),wt t<=n->TG n t->(∀g∈L,TG n g)->0<=vs->vs+n<=1000000000000->L.length+n<=1000000000->X.length+t.sz<=1000000000->
  AC tB 143 [aT t,aAr vs L any,tellK] (inK X) (ci (clsF false n any vs L t).1) (outK<|X++(clsF false n any vs L t).2))
theorem all_of {n:Nat}(h:GC n)(j:n<=1000000000)(b:Bool)(t:Tm)(m:wt t<=n)(e:TG n t):AC tB 117 [aT t,aAr 0 [] b] [] (.tup [(false,[qf<|.sl false 9<|CLs (if (clsF false n b 0 [] t).1=0 then(clsF false n b 0 [] t).2 else [])]),(false,[qf<|.int .i64 (clsF false n b 0 [] t).1])]) []:=by
 have f:=h.2 b 0 [] t [] m e (λg i=>by cases i) (tU 0) za (zp j) (by have:=e.2.1;simp only[tR];omega);rw[E0] at f;refine acv (v117 ..) ?_;refine⟨(_,_),f,zu (λd=>?_) λd=>?_⟩
 .rw[tD<|zp d];exact⟨jL ⟨lw1<|.a _ _<|.fz _ _<|.N 9,lwR _,trivial⟩,rfl⟩
 .have d:(clsF false n b 0 [] t).1=0:=zp d;rw[tG d,d];refine⟨⟨rfl,by rw[zW];omega⟩,?_,rfl⟩;rw[A3,tN<|by rw[zW];exact tJ _];exact .refl _
def xV (n:Nat)(any:Bool)(t:Tm):List Cl:=if (clsF false n any 0 [] t).1=0 then(clsF false n any 0 [] t).2 else []
theorem arN (e:Bool):TV.Le (.agg [qi 0,qf .N,qf<|.bool e]) (aAr 0 [] e):=.agg _ _ rfl (λi x y b d=>by
 match i with
 |0=>simp at b d;subst b;subst d;exact .refl _
 |1=>simp at b d;subst b;subst d;exact .a _ _ (.fz _ _ zO)
 |2=>simp at b d;subst b;subst d;exact .refl _
 |i+3=>simp at b)
theorem fJ {n:Nat}(h:GC n)(g:n<=1000000000)(t:Tm)(i:wt t<=n)(e:TG n t):AC tB 86 [aT t] [] (.tup [(false,[qf<|.sl false 9<|CLs<|xV n false t]),(false,[qf<|.int .i64 (clsF false n false 0 [] t).1])]) []:=by have f:=yz t (by have:=e.2.1;simp only[B];omega);have m:=(all_of h g false t i e).args (args:=[aT t,.agg [qi 0,qf .N,qf<|.bool false]]) ⟨.refl _,arN _,trivial⟩;have j:=e.1;obtain⟨a,b,c,d⟩:=t;refine acv (v86 ..) ?_;exact⟨_,f,br_f (by rw[j];rfl) ⟨(_,_),m,.refl _,rfl⟩⟩
theorem rc {n:Nat}(h:GC n)(g:n<=1000000000)(t:Tm)(i:wt t<=n)(e:TG n t):AC tB 152 [aT t] [] (.tup [(false,[qf<|.sl false 9<|CLs<|xV n true t]),(false,[qf<|.int .i64 (clsF false n true 0 [] t).1])]) []:=by have f:=yz t (by have:=e.2.1;simp only[B];omega);have m:=(all_of h g true t i e).args (args:=[aT t,.agg [qi 0,qf .N,qf<|.bool true]]) ⟨.refl _,arN _,trivial⟩;have j:=e.1;obtain⟨a,b,c,d⟩:=t;refine acv (v152 ..) ?_;exact⟨_,f,br_f (by rw[j];rfl) ⟨(_,_),m,.refl _,rfl⟩⟩
theorem oD {n:Nat}(h:GC n)(N:n+1<=1000000000)(t:Tm)(O:wt t<=n+1)(z:TG (n+1) t):AC tB 61 [aT t] [] (ci<|zH false (n+1) t) []:=by
 have w:t.sz<=B:=by have:=z.2.1;simp only[B];omega
 have F:=yz t w;rw[z.1] at F;have J:∀R:Int,((∃M:List UInt8×Int,True)->True)->True:=λ_ _=>trivial;have sub:∀u∈(zr t).2,(zr t).1.k=0->AC tB 61 [aT u] [] (ci<|zH false n u) []:=λu m v=>h.1 u (by have:=vf m v;omega)<|z.arg m;refine acv (v61 t.k t.s t.n (FTs t.l) ..) ?_;refine⟨_,F,br_f rfl ?_⟩;rw[zH];by_cases d:(zw t 133).2.2≠0
 .rw[tG d];have C:(zw t 133).2.1=[]:=by
   unfold zw at d ⊢;split
   .rfl
   .rename_i K;rw[tD K] at d;split
    .rfl
    .rename_i I;rw[tD I] at d;split;next D=>rw[tG D] at d;exact absurd rfl d
     .rename_i D;rw[tD D] at d;split
      .rfl
      next L=>rw[tD L] at d;exact absurd rfl d
  exact .inl ⟨((zw t 133).1,(zw t 133).2.2),ky t 133 w C,br_t (zp d)<|yF rfl⟩
 .rw[tD d];have d:(zw t 133).2.2=0:=A5 d;by_cases j:(zw t 133).1=nIf
  .rw[tG j];obtain⟨a,c,e,x,v⟩:=yc za d<|.inr<|.inr<|.inr j;have b:=xE t 133 w (by rw[e];simp);rw[e,j,d] at b;exact .inr ⟨(nIf,[a,c],0),b,br_f rfl (br_t rfl (yF rfl))⟩
  .rw[tD j];by_cases g:(zw t 133).1=nAnd\/(zw t 133).1=nOr
   .rw[tG g];obtain⟨a,c,e,x,v⟩:=yc za d<|g.imp_right .inl;have b:=xE t 133 w (by rw[e];simp);rw[e,d] at b;have y:=sub a (by rw[x];simp) v;have E:=sub c (by rw[x];simp) v;rw[e]
    have fin:br ((zH false n a:Int) !=0) (TV.Le (ci<|zH false n a) (ci (if zH false n a≠0 then zH false n a else zH false n c))/\([]:List AObj)=[])
      ((0<=(1:Int)/\(1:Int)<(((List.length [a,c]):Nat):Int))/\((1<(FTs [a,c]).length/\((rE<|getD (FTs [a,c]) 1 []):List FV)=take 4 (drop 0<|getD (FTs [a,c]) 1 [])/\(4:Nat)=4)/\∃G:Int,AC tB 61 [aE<|getD (FTs [a,c]) 1 []] [] (ci G) []/\(TV.Le (ci G) (ci (if zH false n a≠0 then zH false n a else zH false n c))/\([]:List AObj)=[]))):=by
     refine zu (λq=>?_) (λq=>⟨⟨za,by show(1:Int)<2;omega⟩,⟨by show 1<2;omega,(yD c).trans (u4 c).symm,rfl⟩,zH false n c,by rw[show aE (getD (FTs [a,c]) 1 [])=aT c from yT c];exact E,?_⟩)
     .exact yF (by rw[tG<|zp q])
     .exact yF (by rw[tD<|zp q])
    rcases g with hn' |hn'
    .rw[hn'] at b;exact .inr ⟨(nAnd,[a,c],0),b,br_f rfl (br_f rfl (br_t rfl ⟨⟨za,by show(0:Int)<2;omega⟩,⟨by show 0<2;omega,(yD a).trans (u4 a).symm,rfl⟩,_,by rw[show aE (getD (FTs [a,c]) 0 [])=aT a from yT a];exact y,fin⟩))⟩
    .rw[hn'] at b;exact .inr ⟨(nOr,[a,c],0),b,br_f rfl (br_f rfl (br_f rfl (br_t rfl ⟨⟨za,by show(0:Int)<2;omega⟩,⟨by show 0<2;omega,(yD a).trans (u4 a).symm,rfl⟩,_,by rw[show aE (getD (FTs [a,c]) 0 [])=aT a from yT a];exact y,fin⟩)))⟩
   .rw[tD g];have p:¬(zw t 133).1=nAnd:=λq=>g<|.inl q;have r:¬(zw t 133).1=nOr:=λq=>g<|.inr q;by_cases f:(zw t 133).1=nImp
    .rw[tG f];obtain⟨a,c,e,x,v⟩:=yc za d<|.inr<|.inr<|.inl f;have b:=xE t 133 w (by rw[e];simp);rw[e,f,d] at b;have m:a∈(zr t).2:=by rw[x];simp
     have y:=fJ h za a (by have:=vf m v;omega)<|z.arg m;have E:=sub c (by rw[x];simp) v;rw[e]
     refine .inr ⟨(nImp,[a,c],0),b,br_f rfl (br_f rfl (br_f rfl (br_f rfl (br_t rfl ⟨⟨za,by show(0:Int)<2;omega⟩,⟨by show 0<2;omega,(yD a).trans (u4 a).symm,rfl⟩,(_,_),by rw[show aE (getD (FTs [a,c]) 0 [])=aT a from yT a];exact y,
      zu (λq=>?_) (λq=>⟨⟨za,by show(1:Int)<2;omega⟩,⟨by show 1<2;omega,(yD c).trans (u4 c).symm,rfl⟩,zH false n c,by rw[show aE (getD (FTs [a,c]) 1 [])=aT c from yT c];exact E,?_⟩)⟩))))⟩
     .exact yF (by rw[tG<|zp q];rfl)
     .exact yF (by rw[tD<|zp q];rfl)
    .rw[tD f];by_cases i:(zw t 133).1=nPi\/(zw t 133).1=nSig
     .rw[tG i];obtain⟨a,e,x,v⟩:=xb za d i;have b:=xE t 133 w (by rw[e];simp);rw[e,d] at b;have m:a∈(zr t).2:=by rw[x];simp
      have H:=jN m;have A:=dl a (zP m) za<|yQ (by simp only[M61];omega) _ (z.arg m).2.2;have y:=h.1 (y9 a) (by have:=vf m v;have:=qZ (zP m);omega)<|z.body za m;rw[e];rcases i with hn' |hn'
      .rw[hn'] at b;exact .inr ⟨(nPi,[a],0),b,br_f rfl (br_f rfl (br_f rfl (br_f rfl (br_f rfl (br_t rfl ⟨⟨za,by show(0:Int)<1;omega⟩,⟨by show 0<1;omega,(yD a).trans (u4 a).symm,rfl⟩,_,by rw[show aE (getD (FTs [a]) 0 [])=aT a from yT a];exact A,_,y,yF rfl⟩)))))⟩
      .rw[hn'] at b;exact .inr ⟨(nSig,[a],0),b,br_f rfl (br_f rfl (br_f rfl (br_f rfl (br_f rfl (br_f rfl (br_t rfl ⟨⟨za,by show(0:Int)<1;omega⟩,⟨by show 0<1;omega,(yD a).trans (u4 a).symm,rfl⟩,_,by rw[show aE (getD (FTs [a]) 0 [])=aT a from yT a];exact A,_,y,yF rfl⟩))))))⟩
     .rw[tD i];have hp1:¬(zw t 133).1=nPi:=λq=>i<|.inl q;have hp2:¬(zw t 133).1=nSig:=λq=>i<|.inr q;have o:∀ {s:List UInt8},¬(zw t 133).1=s->(((zw t 133).1:List UInt8)==s)=false:=λq=>zp q;by_cases C:(zw t 133).2.1=[]
      .have b:=ky t 133 w C;rw[d] at b;exact .inl ⟨((zw t 133).1,0),b,br_f rfl (br_f (o j)<|br_f (o p)<|br_f (o r)<|br_f (o f)<|br_f (o hp1)<|br_f (o hp2)<|yF rfl)⟩
      .have b:=xE t 133 w C;rw[d] at b;exact .inr ⟨((zw t 133).1,(zw t 133).2.1,0),b,br_f rfl (br_f (o j)<|br_f (o p)<|br_f (o r)<|br_f (o f)<|br_f (o hp1)<|br_f (o hp2)<|yF rfl)⟩
theorem clsF_err {w:Bool}{n:Nat}{b:Bool}{vs:Int}{L:List Tm}{t:Tm}(d:(zw t 131).2.2≠0):clsF w (n+1) b vs L t=((zw t 131).2.2,[]):=by rw[clsF,tG d]
theorem iM {t:Tm}{flex:Int}(b:(zw t flex).2.2≠0):(zw t flex).2.1=[]:=by
 unfold zw at b ⊢;split
 .rfl
 .rename_i g;rw[tD g] at b;split
  .rfl
  .rename_i e;rw[tD e] at b;split;next d=>rw[tG d] at b;exact absurd rfl b
   .rename_i d;rw[tD d] at b;split
    .rfl
    next f=>rw[tD f] at b;exact absurd rfl b
theorem kF {i:Int}{X:List Cl}:TV.Le (ci i) (ci i)/\outK X=outK (X++([]:List Cl)):=⟨.refl _,by rw[tY]⟩
theorem sN {n:Nat} (h:GC n) (hn:n+1<=1000000000) (b:Bool) (vs:Int) (L:List Tm) (t:Tm) (X:List Cl) (hw:wt t<=n+1) (G:TG (n+1) t) (M:∀g∈L,TG (n+1) g) (N:0<=vs) (h1:vs+(n+1:Nat)<=1000000000000)
  (hL:L.length+(n+1)<=1000000000) (hX:X.length+t.sz<=1000000000):AC tB 143 [aT t,aAr vs L b,tellK] (inK X) (ci (clsF false (n+1) b vs L t).1) (outK<|X++(clsF false (n+1) b vs L t).2):=by
 have C:t.sz<=B:=by have:=G.2.1;simp only[B];omega
 have E:∀g∈L,TG n g:=λg q=>(M g q).mono za;have sub:∀u∈(zr t).2,(zr t).1.k=0->AC tB 61 [aT u] [] (ci<|zH false n u) []:=λu o N=>h.1 u (by have:=vf o N;omega)<|G.arg o
 have v:∀(L':List Tm) (X':List Cl),∀u∈(zr t).2,(zr t).1.k=0->(∀g∈L',TG n g)->L'.length<=L.length+1->X'.length+u.sz<=1000000000->AC tB 143 [aT u,aAr vs L' b,tellK] (inK X') (ci (clsF false n b vs L' u).1) (outK<|X'++(clsF false n b vs L' u).2):=
  λL' X' u o z T H Y=>h.2 b vs L' u X' (by have:=vf o z;omega) (G.arg o) T N za za Y
 have m:=c_kabody vs L b za;have I:=c_ktell (vs,t,wL L) X (by have:=t.sz_pos;omega);refine acv (sW t.k t.s t.n (FTs t.l) vs (FTs L) b X.length (CLs X) ..) ?_;by_cases j:(zw t 131).2.2≠0
 .rw[clsF_err j];exact .inl ⟨((zw t 131).1,(zw t 131).2.2),ky t 131 C<|iM j,br_t (zp j) kF⟩
 rw[clsF,tD j];have j:(zw t 131).2.2=0:=A5 j;by_cases y:(zw t 131).1=[]
 .rw[tG y]
  have fin:∀(c:Bool),c=false->AC tB 144 [aCl (vs,t,wL L),.c<|.a<|.ep 0 1 0 0] (inK X) (.tup []) (outK<|X++[(vs,t,wL L)])/\(TV.Le (ci 0) (ci (if c=true then((132:Int),([]:List Cl)) else(0,[(vs,t,wL L)])).1)/\outK (X++[(vs,t,wL L)])=outK (X++(if c=true then((132:Int),([]:List Cl)) else(0,[(vs,t,wL L)])).2)):=
   λc O=>⟨I,by rw[O];exact rrl⟩
  by_cases H:(zw t 131).2.1=[]
  .have d:=ky t 131 C H;rw[j,y] at d;have O:(!(b||false)&&(zw t 131).2.1.any λu=> !patG n u 0)=false:=by rw[H];simp
   refine .inl ⟨([],0),d,br_f rfl (br_t rfl (zu (λ_=>⟨false,c_anyE1N,br_f rfl ⟨wL L,m,X++[(vs,t,wL L)],fin _ O⟩⟩) λ_=>⟨wL L,m,X++[(vs,t,wL L)],fin _ O⟩))⟩
  .have d:=xE t 131 C H;rw[j,y] at d;have K:(zw t 131).2.1=(zr t).2:=by obtain⟨_,⟨_,_,q⟩|⟨_,_,q,_⟩⟩:=kJ za j<;>exact q
   have D:=c_anyE1 (λu=> !patG n u 0) (zw t 131).2.1 (by rw[K];have:=(ZR t).2.2;omega) (λu o=>by rw[K] at o;have U:=jN o;have:=Xx t;exact c_keach1 n u za za (zP o) (by simp only[M61];omega));refine .inr ⟨([],(zw t 131).2.1,0),d,br_f rfl (br_t rfl (zu (λF=>⟨_,D,zu (λq=>?_) λq=>⟨wL L,m,X++[(vs,t,wL L)],fin _ ?_⟩⟩) λF=>⟨wL L,m,X++[(vs,t,wL L)],fin _ ?_⟩))⟩
   .have F:b=false:=zp F;rw[tG<|by rw[F,q];rfl];exact kF
   .rw[q,Ap]
   .have F:b=true:=zp F;rw[F];rfl
 rw[tD y];by_cases i:(zw t 131).1=nAnd
 .rw[tG i];obtain⟨a,c,e,r,z⟩:=yc za j<|.inl i;have d:=xE t 131 C (by rw[e];simp);rw[e,i,j] at d;have U:=XV r;have hta:=vz false n b vs L a;have D:=v L X a (by rw[r];simp) z E za za;have J:=v L (X++(clsF false n b vs L a).2) c (by rw[r];simp) z E za (by rw[tE];omega);rw[e]
  refine .inr ⟨(nAnd,[a,c],0),d,br_f rfl (br_f rfl (br_t rfl ⟨⟨za,by show(0:Int)<2;omega⟩,⟨by show 0<2;omega,(yD a).trans (u4 a).symm,rfl⟩,((clsF false n b vs L a).1,X++(clsF false n b vs L a).2),by rw[show aE (getD (FTs [a,c]) 0 [])=aT a from yT a];exact D,
   zu (λq=>?_) (λq=>⟨⟨za,by show(1:Int)<2;omega⟩,⟨by show 1<2;omega,(yD c).trans (u4 c).symm,rfl⟩,((clsF false n b vs L c).1,(X++(clsF false n b vs L a).2)++(clsF false n b vs L c).2),by rw[show aE (getD (FTs [a,c]) 1 [])=aT c from yT c];exact J,?_⟩)⟩))⟩
  .have q:(clsF false n b vs L a).1≠0:=zp q;rw[tG (show(clsF false n b vs L<|at0 [a,c]).1≠0 from q)];exact rrl
  .have q:(clsF false n b vs L a).1=0:=zp q;rw[tD (show¬(clsF false n b vs L<|at0 [a,c]).1≠0 from λp=>p q)];refine⟨.refl _,?_⟩;rw[AB];rfl
 rw[tD i];by_cases w:(zw t 131).1=nPi
 .rw[tG w];obtain⟨a,e,r,z⟩:=xb za j<|.inl w;have d:=xE t 131 C (by rw[e];simp);rw[e,w,j] at d;have o:a∈(zr t).2:=by rw[r];simp
  have hz2:=jN o;have W:=JG<|zP o;have S:=dl a (zP o) za<|yQ (by simp only[M61];omega) _ (G.arg o).2.2;have cu:=mf vs L b za N (by simp only[M61];omega) (λg q=>⟨by have:=(M g q).2.1;simp only[B];omega,yQ (by simp only[M61];omega) _ (M g q).2.2⟩);have D:=h.2 b (vs+1) (L.map λg=>shT 0 1 g 0) (y9 a) X (by have:=vf o z;have:=qZ (zP o);omega) (G.body za o) (λg q=>by obtain⟨g',Z,rfl⟩:=Ay.1 q;exact(M g' Z).sh za) za za (by rw[Ax];omega) za;rw[e]
  exact .inr ⟨(nPi,[a],0),d,br_f rfl (br_f rfl (br_f rfl (br_t rfl ⟨⟨za,by show(0:Int)<1;omega⟩,⟨by show 0<1;omega,(yD a).trans (u4 a).symm,rfl⟩,_,by rw[show aE (getD (FTs [a]) 0 [])=aT a from yT a];exact S,(vs+1,(L.map λg=>shT 0 1 g 0),b),cu,
   ((clsF false n b (vs+1) (L.map λg=>shT 0 1 g 0)<|y9 a).1,X++(clsF false n b (vs+1) (L.map λg=>shT 0 1 g 0)<|y9 a).2),D,.refl _,rfl⟩)))⟩
 rw[tD w];by_cases f:(zw t 131).1=nImp
 .rw[tG f];obtain⟨a,c,e,r,z⟩:=yc za j<|.inr<|.inr<|.inl f;have d:=xE t 131 C (by rw[e];simp);rw[e,f,j] at d;have U:=XV r;have D:=sub a (by rw[r];simp) z;have V:=rf vs L b a za
  have J:=v (L++[a]) X c (by rw[r];simp) z (λg q=>by
   rcases A0.1 q with q|q
   .exact E g q
   .have:g=a:=zp q;subst this;exact G.arg (by rw[r];simp)) zb za
  rw[e]
  refine .inr ⟨(nImp,[a,c],0),d,br_f rfl (br_f rfl (br_f rfl (br_f rfl (br_t rfl ⟨[c,a],fF a c,⟨za,by show(1:Int)<2;omega⟩,⟨by show 1<2;omega,(yD a).trans (u4 a).symm,rfl⟩,zH false n a,by rw[show aE (getD (FTs [c,a]) 1 [])=aT a from yT a];exact D,
   zu (λq=>?_) (λq=>⟨⟨za,by show(0:Int)<2;omega⟩,⟨by show 0<2;omega,(yD c).trans (u4 c).symm,rfl⟩,⟨za,by show(1:Int)<2;omega⟩,⟨by show 1<2;omega,(yD a).trans (u4 a).symm,rfl⟩,(vs,L++[a],b),by rw[show aE (getD (FTs [c,a]) 1 [])=aT a from yT a];exact V,
    ((clsF false n b vs (L++[a]) c).1,X++(clsF false n b vs (L++[a]) c).2),by rw[show aE (getD (FTs [c,a]) 0 [])=aT c from yT c];exact J,?_⟩)⟩))))⟩
  .have q:zH false n a≠0:=zp q;rw[tG (show zH false n (at0 [a,c])≠0 from q)];exact kF
  .have q:zH false n a=0:=zp q;rw[tD (show¬zH false n (at0 [a,c])≠0 from λp=>p q)];exact rrl
 rw[tD f];by_cases x:(zw t 131).1=nIf
 .rw[tG x];obtain⟨a,c,e,r,z⟩:=yc za j<|.inr<|.inr<|.inr x;have d:=xE t 131 C (by rw[e];simp);rw[e,x,j] at d;have U:=XV r;have J:=sub c (by rw[r];simp) z;have V:=rf vs L b c za
  have D:=v (L++[c]) X a (by rw[r];simp) z (λg q=>by
   rcases A0.1 q with q|q
   .exact E g q
   .have:g=c:=zp q;subst this;exact G.arg (by rw[r];simp)) zb za
  rw[e]
  refine .inr ⟨(nIf,[a,c],0),d,br_f rfl (br_f rfl (br_f rfl (br_f rfl (br_f rfl (br_t rfl ⟨⟨za,by show(1:Int)<2;omega⟩,⟨by show 1<2;omega,(yD c).trans (u4 c).symm,rfl⟩,zH false n c,by rw[show aE (getD (FTs [a,c]) 1 [])=aT c from yT c];exact J,
   zu (λq=>?_) (λq=>⟨⟨za,by show(0:Int)<2;omega⟩,⟨by show 0<2;omega,(yD a).trans (u4 a).symm,rfl⟩,⟨za,by show(1:Int)<2;omega⟩,⟨by show 1<2;omega,(yD c).trans (u4 c).symm,rfl⟩,(vs,L++[c],b),by rw[show aE (getD (FTs [a,c]) 1 [])=aT c from yT c];exact V,
    ((clsF false n b vs (L++[c]) a).1,X++(clsF false n b vs (L++[c]) a).2),by rw[show aE (getD (FTs [a,c]) 0 [])=aT a from yT a];exact D,?_⟩)⟩)))))⟩
  .have q:zH false n c≠0:=zp q;rw[tG (show zH false n (at1 [a,c])≠0 from q)];exact kF
  .have q:zH false n c=0:=zp q;rw[tD (show¬zH false n (at1 [a,c])≠0 from λp=>p q)];exact rrl
 rw[tD x];have A:∀ {s:List UInt8},¬(zw t 131).1=s->(((zw t 131).1:List UInt8)==s)=false:=λq=>zp q;by_cases H:(zw t 131).2.1=[]
 .have d:=ky t 131 C H;rw[j] at d;exact .inl ⟨((zw t 131).1,0),d,br_f rfl (br_f (A y)<|br_f (A i)<|br_f (A w)<|br_f (A f)<|br_f (A x) kF)⟩
 .have d:=xE t 131 C H;rw[j] at d;exact .inr ⟨((zw t 131).1,(zw t 131).2.1,0),d,br_f rfl (br_f (A y)<|br_f (A i)<|br_f (A w)<|br_f (A f)<|br_f (A x) kF)⟩
theorem io:∀n:Nat,n<=1000000000->GC n
 |0,_=>⟨λt b _=>by have:=Xx t;have:=t.sz_pos;omega,λ_ _ _ t _ b _=>by have:=Xx t;have:=t.sz_pos;omega⟩
 |n+1,f=>by have h:=io n za;exact⟨λt b e=>oD h f t b e,λd vs L t X b e g j o m i=>sN h f d vs L t X b e g j o m i⟩
theorem sF (n:Nat)(e:n<=1000000000)(t:Tm)(b:wt t<=n)(d:TG n t):AC tB 61 [aT t] [] (ci<|zH false n t) []:=(io n e).1 t b d
theorem c_kparts (n:Nat)(b:n<=1000000000)(t:Tm)(d:wt t<=n)(e:TG n t):AC tB 152 [aT t] [] (.tup [(false,[qf<|.sl false 9<|CLs<|xV n true t]),(false,[qf<|.int .i64 (clsF false n true 0 [] t).1])]) []:=rc (io n b) b t d e
def pR (p:Pl):List FV:=[.bool p.1,.int .i64 p.2.1,.int .i64 p.2.2]
def PRw (l:List Pl):List (List FV):=l.map pR
theorem wV (l:List Pl):(PRw l).length=l.length:=by simp[PRw]
theorem rA {l:List Pl}{i:Nat}(h:i<l.length):getD (PRw l) i []=pR (l.getD i (false,0,0)):=by simp[PRw,getD,tO h]
theorem pr_set (l:List Pl)(i:Nat)(p:Pl):List.set (PRw l) i (pR p)=PRw (l.set i p):=by simp[PRw,S8]
abbrev obL (n:Nat):AObj:=.arr 1 [[.a<|.osl 1 3 0 n]]
theorem t4 (l:List Pl)(i:Nat)(p:Int×Int):AC tB 124 [ci i,.agg [qf<|.bool true,qi p.1,qi p.2],.c<|.a<|.ep 0 1 0 0] [obL l.length,.arz 3<|PRw l]
  (cb (uB l i p).isSome) [obL l.length,.arz 3<|PRw<|(uB l i p).getD l]:=by
 refine acv (v124 ..) ?_;rw[hJ,A4];refine zu (λh=>?_) λh=>?_
 .have h:=hU h;rw[uB,tD za];exact rrl
 .have h:=tP h;have d:i<l.length:=za;have j:(0:Int)<=(i:Int)/\(i:Int)<((l.length:Nat):Int):=⟨za,za⟩;have e:=rA d;rw[uB,tG za,hJ];have u:List.set (PRw l) i [.bool true,.int .i64 p.1,.int .i64 p.2]=PRw (l.set i (true,p)):=pr_set l i (true,p);have g:i<(l.set i (true,p)).length:=zp d;have o:=rA g;rw[u,e,o];have r:(l.set i (true,p)).getD i (false,0,0)=(true,p):=by simp[getD,d]
  rw[r];generalize l.getD i (false,0,0)=q;obtain⟨m,x,y⟩:=q;refine⟨j,⟨by rw[wV];exact d,rfl,rfl⟩,zu (λb=>?_) λb=>?_⟩
  .have b:m=false:=by simpa[pR,FV.asB] using b
   subst b;refine⟨j,⟨by rw[wV];exact d,rfl⟩,j,⟨by rw[wV];exact g,rfl,rfl⟩,YS ?_,rfl⟩;simp[pR,FV.asB,FV.I]
  .have b:m=true:=by simpa[pR,FV.asB] using b
   subst b;refine⟨j,⟨by rw[wV];exact d,rfl,rfl⟩,?_⟩;by_cases f:((true,x,y):Pl)=(true,p)
   .rw[tD zb,tG f];obtain⟨_,rfl⟩:=Prod.mk.inj f;exact⟨YS<|by simp[pR,FV.asB,FV.I],rfl⟩
   .rw[tD zb,tD f];refine⟨YS ?_,rfl⟩;obtain⟨w,v⟩:=p;simp[pR,FV.asB,FV.I] at f ⊢;exact f
theorem iq {l l':List Pl}{i:Int}{p:Int×Int}(h:uB l i p=some l'):l'.length=l.length/\∀q∈l',q∈l\/q=(true,p):=by
 unfold uB at h;split at h
 .split at h
  .injection h with h
   subst h;exact⟨zb,λq b=>by rcases El b with h|h;exact .inl h;exact .inr h⟩
  .split at h
   .injection h with h
    subst h;exact⟨rfl,λq b=>.inl b⟩
   .cases h
 .cases h
theorem stepW_no {l:List Pl}{i k a:Int}(h:(l.getD i.toNat (false,0,0)).1=false):KY l i k a=some l:=by rw[KY,tG h]
theorem oG {l:List Pl}{i k a:Int}(h:(l.getD i.toNat (false,0,0)).1=true):KY l i k a=
  if (aftR k (l.getD i.toNat (false,0,0)).2).2.2=false then none else if (aftR k (l.getD i.toNat (false,0,0)).2).2.1=false then some l
  else if k=9\/k=10 then(match uB l a (aftR k (l.getD i.toNat (false,0,0)).2).1 with
   |none=>none
   |some l'=>if k=10 then some l' else uB l' (i+1) (aftR k (l.getD i.toNat (false,0,0)).2).1) else uB l (i+1) (aftR k (l.getD i.toNat (false,0,0)).2).1:=by
 rw[KY,tD<|by rw[h];simp];generalize (l.getD i.toNat (false,0,0)).2=p;obtain⟨x,y⟩:=p;unfold aftR;by_cases f:k=3\/k=4
 .rw[tG f,tG f];by_cases d:((x,y):Int×Int)=(0,0)
  .rw[tG d];injection d with a b;subst a;subst b;rfl
  .rw[tD d];have:(x==0&&y==0)=false:=by
    rw[Bool.and_eq_false_iff];by_cases g:x=0
    .right;subst g;exact zp d
    .left;exact zp g
   rw[tG this]
 rw[tD f,tD f];by_cases d:k=8
 .rw[tG d,tG d];rfl
 rw[tD d,tD d];by_cases j:(aftP k (x,y)).1<0\/(aftP k (x,y)).2<0
 .have e:(decide ((aftP k (x,y)).1>=0)&&decide ((aftP k (x,y)).2>=0))=false:=by simp only[Bool.and_eq_false_iff,decide_eq_false_iff_not];omega
  rw[tG j];dsimp only;rw[e,tG rfl]
 .have e:(decide ((aftP k (x,y)).1>=0)&&decide ((aftP k (x,y)).2>=0))=true:=by simp only[tF,Ak];omega
  rw[tD j];dsimp only;rw[e];simp only[Bool.true_eq_false,A6]
  try rfl
theorem aft_bd {k:Int}{p:Int×Int}{n:Int}(f:0<=p.1/\p.1<=n)(h:0<=p.2/\p.2<=n)(g:0<=n)(b:(aftR k p).2.2=true):(0<=(aftR k p).1.1/\(aftR k p).1.1<=n+1)/\0<=(aftR k p).1.2/\(aftR k p).1.2<=n+1:=by
 unfold aftR at b ⊢;split
 .simp only;omega
 split
 .simp only;omega
 rename_i e d;rw[tD e,tD d] at b;simp only[tF,Ak] at b ⊢;unfold aftP at b ⊢;split<;>(try split)<;>(try split)<;>(try split)<;>simp_all<;>omega
abbrev fnM:TV:=.c<|.fn (.func 124) [] [(false,[.ep 0 1 0 0])]
theorem sb (ins:List In1)(hB:ins.length<=B):∀(b a:List In1) (l:List Pl),ins=a++b->l.length=ins.length->(∀x∈b,(x.k=9\/x.k=10)->0<=x.a/\x.a<=B)->(∀q∈l,(0<=q.2.1/\q.2.1<=a.length)/\0<=q.2.2/\q.2.2<=a.length)->
  RPt tB 92 0 (cb<|Z6 l a.length b) [] 1 ⟨[(3,.c<|.a<|.ep 0 1 0 0),(4,fnM),(22,.c<|qf<|.sl false 8<|FIs ins),(23,ci ins.length),(24,ci a.length)],[(0,obL l.length),(1,.arz 3<|PRw l)],2⟩
 |[],a,l,hx,hl,_,_=>by refine rpv (v92_1a ..) ?_;refine zu (λh=>absurd (hU h) ?_) λ_=>zD rfl;rw[hx];simp
 |x::b,a,l,hx,hl,ha,hq=>by
  have hla:a.length<l.length:=by rw[hl,hx];simp
  have hlt:(a.length:Int)<(ins.length:Int):=za;simp only[B] at hB
  have next:∀l':List Pl,l'.length=l.length->(∀q∈l',(0<=q.2.1/\q.2.1<=(a.length:Int)+1)/\0<=q.2.2/\q.2.2<=(a.length:Int)+1)->KY l a.length x.k x.a=some l'->
    RPt tB 92 0 (cb<|Z6 l a.length<|x::b) [] 1 ⟨[(3,.c<|.a<|.ep 0 1 0 0),(4,fnM),(22,.c<|qf<|.sl false 8<|FIs ins),(23,ci ins.length),(24,ci<|(a.length:Int)+1)],[(0,obL l.length),(1,.arz 3<|PRw l')],2⟩:=λl' h1 h2 h3=>by
   have:=sb ins (by simp only[B];omega) b (a++[x]) l' (by rw[hx];simp) (by rw[h1,hl]) (λy hy=>ha y<|tK _ hy) (λq hm=>by have:=h2 q hm;simp only[tE,Ex];omega);rw[nx,h1] at this;rw[Z6,h3];exact this
  have em:getD (FIs ins) (toNat (a.length:Int)) []=FI x:=by rw[hx];exact gC a x b
  have eq0:=rA hla;refine rpv (v92_1a ..) ?_
  skip;rw[w64 (x:=(a.length:Int)+1) za za,em,FI0,FI1,hJ,A4,eq0];have hmem:l.getD a.length (false,0,0)∈l:=by simp[getD,tO hla]
  have hbd:=hq _ hmem;have sno:=stepW_no (l:=l) (i:=(a.length:Int)) (k:=x.k) (a:=x.a);have syes:=oG (l:=l) (i:=(a.length:Int)) (k:=x.k) (a:=x.a);rw[hJ] at sno syes;generalize l.getD a.length (false,0,0)=q at*;obtain⟨m,p⟩:=q;simp only at hbd sno syes;have hn:(0:Int)<=(a.length:Int)/\(a.length:Int)<((l.length:Nat):Int):=⟨za,za⟩;have hgrow:∀q∈l,(0<=q.2.1/\q.2.1<=(a.length:Int)+1)/\0<=q.2.2/\q.2.2<=(a.length:Int)+1:=λq hm=>by have:=hq q hm;omega
  refine bT hlt ⟨⟨rfl,za,by rw[zR];exact hlt,by rw[<-FI0 x,<-FI1 x];exact fIr_FI x⟩,hn,⟨by rw[wV];exact hla,rfl,rfl⟩,zu (λh1=>?_) λh1=>?_⟩
  .exact next l rfl hgrow (sno<|by simpa[pR,FV.asB] using h1)
  have h1:m=true:=by simpa[pR,FV.asB] using h1
  subst h1;have hs:=syes rfl;have hc:=c_cafter true p x.k (by simp only[M61];omega) (by simp only[M61];omega);refine⟨hn,⟨by rw[wV];exact hla,rfl,rfl⟩,true,(aftR x.k p).1.1,(aftR x.k p).1.2,(aftR x.k p).2.1,(aftR x.k p).2.2,hc,?_⟩;have none_no:KY l a.length x.k x.a=none->TV.Le (cb false) (cb<|Z6 l a.length<|x::b)/\([]:List AObj)=[]:=λh=>zD (by rw[Z6,h]);refine zu (λh2=>?_) λh2=>?_
  .exact none_no (by rw[hs,tG<|zp h2])
  have h2:(aftR x.k p).2.2=true:=zp h2;rw[tD<|by rw[h2];simp] at hs;have hb2:=aft_bd hbd.1 hbd.2 za h2
  have hm1:∀(l1 l2:List Pl) (i:Int),(∀q∈l1,(0<=q.2.1/\q.2.1<=(a.length:Int)+1)/\0<=q.2.2/\q.2.2<=(a.length:Int)+1)->uB l1 i (aftR x.k p).1=some l2->l2.length=l1.length/\∀q∈l2,(0<=q.2.1/\q.2.1<=(a.length:Int)+1)/\0<=q.2.2/\q.2.2<=(a.length:Int)+1:=λl1 l2 i h3 h4=>by
   have:=iq h4;refine⟨this.1,λq hm=>?_⟩;rcases this.2 q hm with h|h
   .exact h3 q h
   .rw[h];exact hb2
  have hN:∀(l1:List Pl),(((a.length:Nat):Int)+1)=((a.length+1:Nat):Int):=λ_=>za
  have go2:∀l1:List Pl,l1.length=l.length->(∀q∈l1,(0<=q.2.1/\q.2.1<=(a.length:Int)+1)/\0<=q.2.2/\q.2.2<=(a.length:Int)+1)->KY l a.length x.k x.a=uB l1 ((a.length:Int)+1) (aftR x.k p).1->
    ∃z:Bool×List (List FV),AC tB 124 [ci<|(a.length:Int)+1,.agg [qf<|.bool true,qf<|.int .i64 (aftR x.k p).1.1,qf<|.int .i64 (aftR x.k p).1.2],.c<|.a<|.ep 0 1 0 0] [obL l.length,.arz 3<|PRw l1] (cb z.1) [obL l.length,.arz 3 z.2]/\
     br (!z.1) (TV.Le (cb false) (cb<|Z6 l a.length<|x::b)/\([]:List AObj)=[])
      (RPt tB 92 0 (cb<|Z6 l a.length<|x::b) [] 1 ⟨[(3,.c<|.a<|.ep 0 1 0 0),(4,fnM),(22,.c<|qf<|.sl false 8<|FIs ins),(23,ci ins.length),(24,ci<|(a.length:Int)+1)],[(0,obL l.length),(1,.arz 3 z.2)],2⟩):=λl1 e1 h3 h4=>by
   have hc2:=t4 l1 (a.length+1) (aftR x.k p).1;rw[e1,<-hN l1] at hc2;refine⟨(_,_),hc2,zu (λh=>none_no ?_) λh=>?_⟩
   .rw[h4];cases hm:uB l1 ((a.length:Int)+1) (aftR x.k p).1 with
    |none=>rfl
    |some l2=>rw[hm] at h;cases h
   .cases hm:uB l1 ((a.length:Int)+1) (aftR x.k p).1 with
    |none=>rw[hm] at h;cases h
    |some l2=>
     have h5:=hm1 l1 l2 _ h3 hm;exact next l2 (by rw[h5.1,e1]) h5.2 (by rw[h4,hm])
  cases ho:(aftR x.k p).2.1 with
  |false=>
   rw[tG ho] at hs;have:=next l rfl hgrow hs;refine zu (λ_=>?_) λ_=>?_
   .exact this
   .exact this
  |true=>
   rw[tD<|by rw[ho];simp] at hs;by_cases hk:x.k=9\/x.k=10
   .rw[tG hk] at hs;have hxa:=ha x tM hk;obtain⟨j,hj⟩:∃j:Nat,x.a=j:=⟨x.a.toNat,za⟩;have hc2:=t4 l j (aftR x.k p).1;rw[<-hj] at hc2
    have key:∃z:Bool×List (List FV),AC tB 124 [ci x.a,.agg [qf<|.bool true,qf<|.int .i64 (aftR x.k p).1.1,qf<|.int .i64 (aftR x.k p).1.2],.c<|.a<|.ep 0 1 0 0] [obL l.length,.arz 3<|PRw l] (cb z.1) [obL l.length,.arz 3 z.2]/\
     br (!z.1) (TV.Le (cb false) (cb<|Z6 l a.length<|x::b)/\([]:List AObj)=[])
      (br (x.k !=10) (∃z7:Bool×List (List FV),AC tB 124 [ci<|(a.length:Int)+1,.agg [qf<|.bool true,qf<|.int .i64 (aftR x.k p).1.1,qf<|.int .i64 (aftR x.k p).1.2],.c<|.a<|.ep 0 1 0 0] [obL l.length,.arz 3 z.2] (cb z7.1) [obL l.length,.arz 3 z7.2]/\
       br (!z7.1) (TV.Le (cb false) (cb<|Z6 l a.length<|x::b)/\([]:List AObj)=[])
        (RPt tB 92 0 (cb<|Z6 l a.length<|x::b) [] 1 ⟨[(3,.c<|.a<|.ep 0 1 0 0),(4,fnM),(22,.c<|qf<|.sl false 8<|FIs ins),(23,ci ins.length),(24,ci<|(a.length:Int)+1)],[(0,obL l.length),(1,.arz 3 z7.2)],2⟩))
       (RPt tB 92 0 (cb<|Z6 l a.length<|x::b) [] 1 ⟨[(3,.c<|.a<|.ep 0 1 0 0),(4,fnM),(22,.c<|qf<|.sl false 8<|FIs ins),(23,ci ins.length),(24,ci<|(a.length:Int)+1)],[(0,obL l.length),(1,.arz 3 z.2)],2⟩)):=by
     refine⟨(_,_),hc2,zu (λh=>none_no ?_) λh=>?_⟩
     .cases hm:uB l x.a (aftR x.k p).1 with
      |none=>rw[hm] at hs;exact hs
      |some l2=>rw[hm] at h;cases h
     .cases hm:uB l x.a (aftR x.k p).1 with
      |none=>rw[hm] at h;cases h
      |some l2=>
       rw[hm] at hs;simp only at hs;have h5:=hm1 l l2 _ hgrow hm;refine zu (λh6=>?_) λh6=>?_
       .rw[tD<|zp h6] at hs;exact go2 l2 h5.1 h5.2 hs
       .rw[tG<|zp h6] at hs;exact next l2 h5.1 h5.2 hs
    refine zu (λh9=>?_) λh9=>?_
    .exact key
    .have h10:(x.k==10)=true:=by
      rcases hk with h|h
      .rw[h] at h9;cases h9
      .rw[h];rfl
     rw[h10];exact key
   .rw[tD hk] at hs;have h9:(x.k==9)=false:=by simp only[beq_eq_false_iff_ne];exact λh=>hk<|.inl h
    have h10:(x.k==10)=false:=by simp only[beq_eq_false_iff_ne];exact λh=>hk<|.inr h
    have h11:(x.k !=10)=true:=by rw[bne,h10];rfl
    rw[h9,h10,h11];exact go2 l rfl hgrow hs
theorem c_cways (c:Cd)(d:c.ins.length<=B)(b:0<c.ins.length)(f:∀x∈c.ins,(x.k=9\/x.k=10)->0<=x.a/\x.a<=B):AC tB 92 [aC c] [] (cb<|lz c.ins) []:=by
 have h:=sb c.ins d c.ins [] ((List.replicate c.ins.length (false,0,0)).set 0 (true,0,0)) rfl zb f (λq g=>by
  rcases El g with h|h
  .rw[(List.mem_replicate.1 h).2];simp
  .rw[h];simp)
 have e:PRw ((List.replicate c.ins.length (false,0,0)).set 0 (true,0,0))=List.set (List.replicate (toNat (((FIs c.ins).length:Nat):Int)) [.bool false,.int .i64 0,.int .i64 0]) 0 (u7 (getD (List.replicate (toNat (((FIs c.ins).length:Nat):Int)) [.bool false,.int .i64 0,.int .i64 0]) 0 []) 0 [.bool true]):=by
  rw[<-pr_set,hJ,zR];have:getD (List.replicate c.ins.length [FV.bool false,.int .i64 0,.int .i64 0]) 0 []=[.bool false,.int .i64 0,.int .i64 0]:=by simp[getD,b]
  rw[this];simp[PRw,pR,u7]
 rw[e] at h;simp only[B] at d;have j:((FIs c.ins).length:Int)=(c.ins.length:Int):=by rw[zR]
 refine acv (v92 ..) ?_;refine⟨rfl,⟨rfl,za,rfl,za,za,?_⟩,⟨za,?_⟩,⟨?_,?_⟩,rfl,?_⟩
 .unfold zI;rw[hJ,zR];omega
 .rw[hJ,zR];omega
 .rw[List.length_replicate,hJ,zR];exact b
 .rw[hJ,zR];simp[getD,b]
 .have i:((List.replicate c.ins.length ((false,0,0):Pl)).set 0 (true,0,0)).length=toNat (((FIs c.ins).length:Nat):Int):=by simp[zR]
  rw[i,<-j] at h;exact h
theorem FI2 (x:In1):FV.I (getD (FI x) 2 FV.N)=x.t.k:=by cases x;rw[FI];rfl
theorem FI4 (x:In1):FV.I (getD (FI x) 4 FV.N)=x.t.n:=by cases x;rw[FI];rfl
theorem FI5 (x:In1):getD (FI x) 5 FV.N=.sl false 4 (FTs x.t.l):=by cases x;rw[FI];rfl
theorem el8 (ins:List In1)(i:Int)(d:0<=i)(b:i<ins.length)(x:In1):FV.L 8 (.sl false 8<|FIs ins)=true/\0<=i/\i<(((FIs ins).length:Nat):Int)/\
  ([.int .i64 x.k,.int .i64 x.a,.int .i64 x.t.k,.str x.t.s,.int .i64 x.t.n,.sl false 4<|FTs x.t.l,.sl false 4<|FTs x.l,.sl false 6<|FCs x.c]:List FV)=FI x:=
 ⟨rfl,d,by rw[zR];exact b,(FI_eta x).symm⟩
def oddC (sl:Int)(d:Cd):Bool:=decide (d.fr>sl) || !vC d
theorem vCs_any (sl:Int)(l:List Cd):(!l.any (oddC sl))=vCs sl l:=by
 rw[nR]
 induction l with
 |nil=>rfl
 |cons d l ih=>
  rw[E3,AZ,<-ih,Bool.not_or];congr 1;unfold oddC;by_cases h:d.fr<=sl
  .rw[AF za,AD h];simp
  .rw[AD (za:d.fr>sl),AF h];rfl
theorem c_cins1 (c d:Cd)(h:AC tB 65 [aC d] [] (cb<|vC d) []):AC tB 149 [aC d,.c<|.a<|.ep 0 6 0 0] [obC c] (cb<|oddC c.sl d) [obC c]:=by refine acv (v149 ..) ?_;exact zu (λq=>⟨YS<|by rw[oddC,q];rfl,rfl⟩) (λq=>⟨_,h,YS<|by rw[oddC,q];rfl,rfl⟩)
def ixC (p:Cd->Bool):List Cd->Nat->Int
 |[],_=> -1
 |t::l,i=>if p t=true then(i:Int) else ixC p l<|i+1
theorem rj (p:Cd->Bool):∀(l:List Cd) (i:Nat),decide (ixC p l i>=0)=l.any p
 |[],_=>rfl
 |t::l,i=>by
  rw[ixC,E3];split;next h=>rw[h];simp
  next h=>rw[rj p l,show p t=false by simpa using h,Ec]
theorem re (p:Cd->Bool)(c:Cd)(b:List Cd):∀a:List Cd,(a++b).length<=B->(∀u∈b,AC tB 149 [aC u,.c<|.a<|.ep 0 6 0 0] [obC c] (cb<|p u) [obC c])->RPt tB 165 1 (ci<|ixC p b a.length) [obC c] 1 ⟨[(0,aCs<|a++b),(1,.c<|.fn (.func 149) [] [(false,[.ep 0 6 0 0])]),(7,ci (a++b).length),(8,ci a.length)],[(0,obC c)],1⟩:=by
 induction b with
 |nil=>intro a f _;refine rpv (Zl ..) ?_;exact bF zb rrl
 |cons t b d=>
  intro a f ih;have m:=ih t tM;have j:=d (a++[t]) (zp f) λu o=>ih u<|tK _ o;rw[ap,nx,show(a++[t]).length=a.length+1 by simp] at j;rw[ixC];simp only[tE,tC,B] at f;have i:(a.length:Int)<((a++t::b).length:Int):=by simp only[tE,tC];omega
  refine rpv (Zl ..) ?_;rw[w64 za za,m5];have e:=aCr_FC t;refine bT i ⟨⟨rfl,za,by rw[yB];exact i,fCr_FC t⟩,p t,by have g:=m;rw[<-(show(aCr<|FC t)=aC t from aCr_FC t)] at g;exact g,zu (λh=>?_) λh=>?_⟩
  .rw[tG h];exact rrl
  .rw[tD<|by rw[h];simp];exact j
theorem c_ccontc (c:Cd)(l:List Cd)(e:l.length<=B)(h:∀u∈l,AC tB 65 [aC u] [] (cb<|vC u) []):AC tB 150 [aCs l,.c<|.fn (.func 149) [] [(false,[.ep 0 6 0 0])]] [obC c] (cb (!vCs c.sl l)) [obC c]:=by
 have d:=re (oddC c.sl) c l [] e λu f=>c_cins1 c u<|h u f;have b:AC tB 165 [aCs l,.c<|.fn (.func 149) [] [(false,[.ep 0 6 0 0])]] [obC c] (ci<|ixC (oddC c.sl) l 0) [obC c]:=by refine acv (rG ..) ?_;rw[yB];exact⟨rfl,d⟩
 rw[<-vCs_any,Bool.not_not];refine acv (ng ..) ?_;exact⟨_,b,by rw[rj (oddC c.sl) l 0];exact rrl⟩
def YJ (a:List In1):Option (Int×Int):=a.getLast?.map λy=>(y.k,y.a)
theorem Wx (a:List In1)(x:In1):YJ (a++[x])=some (x.k,x.a):=by simp[YJ]
def insR (c:Cd)(a:List In1)(x:In1):Bool:=
 if x.k=5 then x.l.length==2 else if x.k=14 then vCs c.sl x.c else insB c.ar (c.fr+c.vs) c.sl c.ins.length a.length (YJ a) x.k x.a x.t
abbrev usesT (k:Int)(ok:Bool):TV:=.tup [(true,[qf<|.bool<|useT k,qf<|.bool<|k==5,qf<|.bool<|k==14,qf<|.bool<|useA k]),(false,[qf<|.bool ok])]
theorem c_cins (c:Cd)(a b:List In1)(x:In1)(hx:c.ins=a++x::b)(hB:c.ins.length<=B)(hf:0<=c.fr+c.vs/\c.fr+c.vs<=B)(ht:x.t.sz<=B)(hc:x.c.length<=B)(hd:∀d∈x.c,AC tB 65 [aC d] [] (cb<|vC d) []):
  AC tB 123 [aC c,ci a.length] [] (usesT x.k<|insR c a x) []:=by
 simp only[B] at hB hf;have hla:a.length<c.ins.length:=by rw[hx];simp
 have e:getD (FIs c.ins) (toNat (a.length:Int)) []=FI x:=by rw[hx];exact gC a x b
 have c1:=c_cpred x.t ht;have c2:=nL x.t ht;have c3:=c_ccontc c x.c hc hd;have need:=el8 c.ins a.length za za x;have e5:((((FTs x.l).length:Nat):Int)==2)=(x.l.length==2):=by rw[zq,EF,Al,Al];omega
 have hlen:(((FIs c.ins).length:Nat):Int)=c.ins.length:=by rw[zR]
 refine acv (v123 ..) ?_
 skip;rw[e,w64 (x:=c.fr+c.vs) za za];simp only[FI0,FI1,FI2,FI3,FI4,FI5,FI6,FI7];refine⟨need,?_⟩;have hkinds:∀ok,insR c a x=ok->True:=λ_ _=>trivial;rcases EY a with ha|⟨a',y,ha⟩
 .subst ha;have h0:(decide ((([]:List In1).length:Int)>0))=false:=rfl;rw[h0];simp only[insR,insB,YJ,List.getLast?_nil,Option.map_none];simp only[FV.ses,e5,hlen];generalize x.k=k at*
  repeat' (first|refine zu (λ_=>?_) (λ_=>?_)|refine⟨_,c1,?_⟩|refine⟨_,c2,?_⟩|refine⟨_,c3,?_⟩|refine And.intro (show FV.L _ _=true by rfl) ?_)
  all_goals first
   |contradiction
   |(refine⟨YS ?_,by trivial⟩;simp_all[useT,useA]<;>omega)
 .have ha:a=a'++[y]:=zp ha;subst ha;have h1:(decide (((a'++[y]).length:Int)>0))=true:=zb;have e2:getD (FIs c.ins) (toNat<|wrap .i64<|((a'++[y]).length:Int)-1) []=FI y:=by
   have q:wrap .i64 (((a'++[y]).length:Int)-1)=(a'.length:Int):=by simp only[tE,Ex] at hla ⊢;rw[w64 za za];omega
   rw[q,hx,AB];exact gC a' y<|x::b
  have need2:=el8 c.ins (wrap .i64<|((a'++[y]).length:Int)-1) (by
   simp only[tE,Ex] at hla ⊢;rw[w64 za za];omega) (by
   simp only[tE,Ex] at hla ⊢;rw[w64 za za];omega) y
  have c4:=c_chead y.k;rw[h1,e2];simp only[FI0,FI1,FI2,FI3,FI4,FI5,FI6,FI7];simp only[insR,insB,Wx];simp only[FV.ses,e5,hlen];rw[hlen] at need2;generalize x.k=k at*
  repeat' (first|refine zu (λ_=>?_) (λ_=>?_)|refine⟨_,c1,?_⟩|refine⟨_,c2,?_⟩|refine⟨_,c3,?_⟩|refine⟨_,c4,?_⟩|refine And.intro (show FV.L 4 _=true by rfl) ?_|refine And.intro need2 ?_|refine And.intro (show FV.L 6 _=true by rfl) ?_|refine And.intro (show FV.L 8 _=true by rfl) ?_)
  all_goals clear need need2 e e2 ha hx hd c1 c2 c3 c4 hkinds e5 hlen h1 hla
  all_goals first
   |contradiction
   |(refine⟨YS ?_,by trivial⟩;simp_all[useT,useA]<;>omega)
def uK (c:Cd)(a:List In1)(x:In1):Bool:=fldB c.ar (c.fr+c.vs) c.sl c.ins.length a.length (YJ a) x.k x.a x.t x.l x.c.isEmpty&&vCs c.sl x.c
theorem mZ (c:Cd)(a:List In1)(x:In1):uK c a x=((x.k==14||((plB c.sl x.t||XG x.t)&&x.l.all (plB c.sl)))&&(insR c a x&&((useA x.k||x.a==0)&&((x.k==14||x.c.isEmpty)&&((x.k==5||x.l.isEmpty)&&(if useT x.k=true then plB c.sl x.t else XG x.t)))))):=by
 have p:plB c.sl x.t=true->validB x.t=true:=λh=>by unfold plB at h;simp only[tF] at h;exact h.1
 have o:x.c.isEmpty=true->vCs c.sl x.c=true:=λh=>by rw[List.isEmpty_iff.1 h,vCs]
 have u:x.l.isEmpty=true->x.l.all (plB c.sl)=true:=λh=>by rw[List.isEmpty_iff.1 h];rfl
 have g:x.k=5->insB c.ar (c.fr+c.vs) c.sl c.ins.length a.length (YJ a) x.k x.a x.t=true:=λh=>by rw[h];rfl
 have d:x.k=14->insB c.ar (c.fr+c.vs) c.sl c.ins.length a.length (YJ a) x.k x.a x.t=true:=λh=>by rw[h];rfl
 unfold uK fldB insR;generalize insB c.ar (c.fr+c.vs) c.sl c.ins.length a.length (YJ a) x.k x.a x.t=I at*;generalize plB c.sl x.t=A at*;generalize XG x.t=E at*;generalize validB x.t=V at*;generalize x.l.all (plB c.sl)=Ls at*;generalize vCs c.sl x.c=W at*;generalize x.c.isEmpty=f at*;generalize x.l.isEmpty=m at*;generalize (x.l.length==2)=l2 at*;generalize (x.a==0)=e at*;generalize x.k=k at*;by_cases q:k=14
 .have:=d q;subst q;cases E<;>cases m<;>cases e<;>cases W<;>simp_all[useA,useT]
 by_cases b:k=5
 .have:=g b;subst b;cases E<;>cases f<;>cases l2<;>cases e<;>cases Ls<;>simp_all[useA,useT]
 .have j:(k==14)=false:=zp q;have r:(k==5)=false:=zp b;rw[j,r,tD b,tD b,tD q];generalize useT k=i;generalize useA k=v;cases i<;>cases A<;>cases E<;>cases f<;>cases Ls<;>simp_all
theorem iC (c:Cd) (a b:List In1) (x:In1) (hx:c.ins=a++x::b) (hB:c.ins.length<=B) (hf:0<=c.fr+c.vs/\c.fr+c.vs<=B) (ht:x.t.sz<=B) (hbt:bd 2305843009213693952 x.t) (hl:x.l.length<=B) (hs:∀t∈x.l,t.sz<=B/\bd 2305843009213693952 t)
  (hc:x.c.length<=B) (hd:∀d∈x.c,AC tB 65 [aC d] [] (cb<|vC d) []):AC tB 91 [aC c,ci a.length] [] (cb<|uK c a x) []:=by
 have c0:=c_cins c a b x hx hB hf ht hc hd;have c1:=c_codd c x.t ht hbt;have c2:=c_cempty x.t ht;have c3:=c_anyOdd c x.l hl hs;have hla:a.length<c.ins.length:=by rw[hx];simp
 have e:getD (FIs c.ins) (toNat (a.length:Int)) []=FI x:=by rw[hx];exact gC a x b
 have need:=el8 c.ins a.length za za x;have hce:decide (((x.c.length:Nat):Int)>0)= !x.c.isEmpty:=by cases x.c<;>simp
 have hle:decide (((x.l.length:Nat):Int)>0)= !x.l.isEmpty:=by cases x.l<;>simp
 refine acv (v91 ..) ?_
 skip;rw[e];simp only[FI0,FI1,FI2,FI3,FI4,FI5,FI6,FI7];refine⟨need,?_⟩;rw[mZ];simp only[FV.ses,yB,zq];rw[hce,hle,show(x.a !=0)= !(x.a==0) from rfl,show(x.k !=14)= !(x.k==14) from rfl];unfold usesT at c0;generalize insR c a x=OK at*;generalize plB c.sl x.t=A at*;generalize XG x.t=E at*;generalize x.l.all (plB c.sl)=Ls at*;generalize x.c.isEmpty=ce at*;generalize x.l.isEmpty=le at*;generalize useA x.k=uA at*;generalize useT x.k=uT at*;generalize (x.a==0)=a0 at*;generalize (x.k==14)=k14 at*;generalize (x.k==5)=k5 at*
 repeat' (first|refine zu (λ_=>?_) (λ_=>?_)|refine⟨_,c1,?_⟩|refine⟨_,c2,?_⟩|refine⟨_,c3,?_⟩|refine⟨_,_,_,_,_,c0,?_⟩|refine And.intro (show FV.L 4 _=true by rfl) ?_|refine And.intro (show FV.L 6 _=true by rfl) ?_)
 all_goals clear c0 c1 c2 c3 hx hB hf ht hbt hl hs hc hd hla e need hce hle
 all_goals refine⟨YS ?_,by trivial⟩
 all_goals (simp_all;done)
mutual
def nbC:Cd->Prop
 |.mk _ _ _ _ _ ins=>nbIs ins
def nbIs:List In1->Prop
 |[]=>True
 |.mk _ _ t l c::r=>(bd 2305843009213693952 t/\(∀u∈l,bd 2305843009213693952 u)/\nbCs c)/\nbIs r
def nbCs:List Cd->Prop
 |[]=>True
 |c::r=>nbC c/\nbCs r
end
theorem JC:∀ {l:List In1} {x:In1},nbIs l->x∈l->bd 2305843009213693952 x.t/\(∀u∈x.l,bd 2305843009213693952 u)/\nbCs x.c
 |.mk k a t q c::r,x,h,hm=>by
  rw[nbIs] at h;rcases A1.1 hm with rfl|hm
  .exact h.1
  .exact JC h.2 hm
theorem bO:∀ {l:List Cd} {d:Cd},nbCs l->d∈l->nbC d
 |c::r,d,h,hm=>by
  rw[nbCs] at h;rcases A1.1 hm with rfl|hm
  .exact h.1
  .exact bO h.2 hm
theorem nU {c:Cd}(h:nbC c):nbIs c.ins:=by cases c;rw[nbC] at h;exact h
theorem ax (c:Cd)(i:zC c)(z:nbC c)(v:0<=c.fr+c.vs/\c.fr+c.vs<=B)(ih:∀x∈c.ins,∀d∈x.c,AC tB 65 [aC d] [] (cb<|vC d) [])(u:0<c.ins.length):∀(b a:List In1),c.ins=a++b->(∀x∈a,(x.k=9\/x.k=10)->0<=x.a/\x.a<=B)->
  RPt tB 65 0 (cb<|vIs c.ar (c.fr+c.vs) c.sl c.ins.length a.length (YJ a) b&&lz c.ins) [] 3 ⟨[(5,.c<|.a<|.ep 0 6 0 0),(68,ci c.ins.length),(69,ci a.length)],[(0,obC c)],1⟩
 |[],a,f,m=>by have j:c.ins.length<=B:=(gZ i).2.1;have o:=c_cways c j u (λx A=>m x<|by rw[f] at A;exact zp A);refine rpv (v65_3a ..) ?_;refine zu (λh=>absurd (hU h) ?_) (λ_=>⟨_,o,zD<|by rw[vIs];rfl⟩);rw[f];simp
 |x::b,a,f,m=>by
  have g:x∈c.ins:=by rw[f];simp
  have C:=Jo (gZ i).2.2 g;have E:=Tm.sz_bk x.t;have z6:=Tm.szs_bks x.l;have G:=Tm.szs_length x.l;have F:=C.2.2.1;have w:=JC (nU z) g;have j:c.ins.length<=B:=(gZ i).2.1;have D:a.length<c.ins.length:=by rw[f];simp
  have o:=iC c a b x f j v za w.1 za (λt r=>⟨by have:=Tm.szs_mem r;omega,w.2.1 t r⟩) za<|ih x g;have ev:vIs c.ar (c.fr+c.vs) c.sl c.ins.length a.length (YJ a) (x::b)=(uK c a x&&vIs c.ar (c.fr+c.vs) c.sl c.ins.length ((a.length:Int)+1) (some (x.k,x.a)) b):=by cases x;rw[vIs,uK,Sb];rfl
  rw[ev];simp only[B] at j;refine rpv (v65_3a ..) ?_;rw[w64 (x:=(a.length:Int)+1) za za];refine zu (λ_=>⟨_,o,zu (λh=>zD ?_) λh=>?_⟩) (λh=>absurd (tP h) za)
  .rw[show uK c a x=false by simpa using h];rfl
  .have e:uK c a x=true:=zp h
   have:=ax c i z v ih u b (a++[x]) (by rw[f];simp) (λy hy p=>by
    rcases A0.1 hy with hy|hy
    .exact m y hy p
    .have hy:y=x:=zp hy;subst hy;have:insB c.ar (c.fr+c.vs) c.sl c.ins.length a.length (YJ a) y.k y.a y.t=true:=by unfold uK fldB at e;simp only[tF] at e;exact e.1.2.1
     unfold insB at this;rw[tD za,tD za,tD za,tG p] at this;have:=hU this;simp only[B];omega)
   rw[nx,Wx] at this;rw[e,AS];exact this
theorem last_nil {l:List In1}(h:l.length=0):mM l=false:=by rw[tS h];rfl
theorem t6:∀c:Cd,zC c->nbC c->AC tB 65 [aC c] [] (cb<|vC c) []:=by
 refine Cd.ind λc ih hz hn=>?_;have z3:=gZ hz;have hl:c.ins.length<=B:=z3.2.1;simp only[B] at hl;have ih':∀x∈c.ins,∀d∈x.c,AC tB 65 [aC d] [] (cb<|vC d) []:=λx hx d hd=>ih x hx d hd (iJ (Jo z3.2.2 hx).2.2.2 hd)<|bO (JC (nU hn) hx).2.2 hd;have c1:=aH c.nm;have c2:=th c.nm;have c3:=vV c.nm;have c4:=c_ccount [c.ar,c.fr,c.vs,c.sl] (by simp[B]);have eV:vC c=(nmB c.nm&&(cntB c.ar c.fr c.vs c.sl&&(mM c.ins&&(vIs c.ar (c.fr+c.vs) c.sl c.ins.length 0 none c.ins&&lz c.ins)))):=by cases c;rw[vC];rfl
 rw[eV];have hlen:(((FIs c.ins).length:Nat):Int)=c.ins.length:=by rw[zR]
 have tail:nmB c.nm=true->∀R:Prop,(∀b:Bool,R->False)\/True->True:=λ_ _ _=>trivial;have ecnt:(!([c.ar,c.fr,c.vs,c.sl].any cntN))=true->(0<=c.ar/\c.ar<=4096)/\(0<=c.fr/\c.fr<=4096)/\(0<=c.vs/\c.vs<=4096)/\(0<=c.sl/\c.sl<=4096):=λh=>by simp only[E3,List.any_nil,cntN,Bool.not_or,EN,Eu,tF,AA,decide_eq_false_iff_not] at h;omega
 have ecnt2:(!([c.ar,c.fr,c.vs,c.sl].any cntN))=false->cntB c.ar c.fr c.vs c.sl=false:=λh=>by
  unfold cntB;refine AF λq=>?_;have:(!([c.ar,c.fr,c.vs,c.sl].any cntN))=true:=by simp only[E3,List.any_nil,cntN,Bool.not_or,EN,Eu,tF,AA,decide_eq_false_iff_not];omega
  rw[this] at h;cases h
 have loop:0<c.ins.length->0<=c.fr+c.vs/\c.fr+c.vs<=B->RPt tB 65 0 (cb<|vIs c.ar (c.fr+c.vs) c.sl c.ins.length 0 none c.ins&&lz c.ins) [] 3 ⟨[(5,.c<|.a<|.ep 0 6 0 0),(68,ci c.ins.length),(69,ci 0)],[(0,obC c)],1⟩:=λh0 hf=>ax c hz hn hf ih' h0 c.ins [] rfl (λx hx=>by cases hx);have rest:nmB c.nm=true->(∃b3:Bool,AC tB 90 [.c<|qf<|.sl false 1 [[.int .i64 c.ar],[.int .i64 c.fr],[.int .i64 c.vs],[.int .i64 c.sl]]] [] (cb b3) []/\(true=true)/\True):=λ_=>⟨_,c4,rfl,trivial⟩
 have hlast:0<c.ins.length->∃y a',c.ins=a'++[y]/\mM c.ins=(y.k==3||y.k==4||y.k==8)/\getD (FIs c.ins) (toNat<|wrap .i64<|(c.ins.length:Int)-1) []=FI y/\0<=wrap .i64 ((c.ins.length:Int)-1)/\wrap .i64 ((c.ins.length:Int)-1)<c.ins.length:=λh0=>by
  rcases EY c.ins with h|⟨a',y,h⟩
  .rw[h] at h0;cases h0
  .have h:c.ins=a'++[y]:=zp h;rw[w64 za za];refine⟨y,a',h,by rw[h];simp[mM],?_,za,za⟩;rw[show(c.ins.length:Int)-1=a'.length by rw[h];simp,h];exact gC a' y []
 refine acv (v65 ..) ?_
 skip;refine⟨rfl,_,c1,?_⟩;rw[hlen];by_cases h0:0<c.ins.length
 .obtain⟨y,a',hy1,hy2,hy3,hy4,hy5⟩:=hlast h0;have need:=el8 c.ins _ hy4 hy5 y;have en:((c.ins.length:Int)==0)=false:=by rw[beq_eq_false_iff_ne];omega
  rw[hy3,en,hy2];simp only[FI0,FI1,FI2,FI3,FI4,FI5,FI6,FI7];rw[hlen] at need;have hgo:=loop h0;clear loop hlast hy1 hy2 hy3 hy4 hy5 tail rest eV ih ih' z3 hl hn hz;unfold nmB;cases hcnt:(!([c.ar,c.fr,c.vs,c.sl].any cntN)) with
  |false=>
   have hc0:=ecnt2 hcnt;rw[hcnt] at c4;rw[hc0];clear ecnt ecnt2
   repeat' (first|refine zu (λ_=>?_) (λ_=>?_)|refine⟨_,c2,?_⟩|refine⟨_,c3,?_⟩|refine⟨_,c4,?_⟩|refine And.intro (And.intro True.intro (tJ 4)) ?_|refine And.intro (And.intro (rfl:(1:Nat)=1) (tJ 4)) ?_|refine And.intro True.intro ?_|refine And.intro (rfl:true=true) ?_|refine And.intro need ?_|fail)
   all_goals first
    |contradiction
    |exact⟨YS (by rw[As,Ap]),by trivial⟩
  |true=>
   have hb:=ecnt hcnt;rw[hcnt] at c4;rw[w64 (x:=c.fr+c.vs) za za];have hgo:=hgo (by simp only[B];omega);have hc1:cntB c.ar c.fr c.vs c.sl= !decide (c.fr+c.vs>c.sl):=by
    unfold cntB;by_cases q:c.fr+c.vs>c.sl
    .rw[AD q,AF za];rfl
    .rw[AF q,AD za];rfl
   rw[hc1];clear hc1 ecnt ecnt2 hcnt hb en h0;generalize (vIs c.ar (c.fr+c.vs) c.sl c.ins.length 0 none c.ins&&lz c.ins)=V at*;generalize decide (c.fr+c.vs>c.sl)=d at*;generalize Yj c.nm=n1 at*;generalize gu c.nm=n2 at*;generalize logB c.nm=lg at*;generalize (y.k==3)=k3 at*;generalize (y.k==4)=k4 at*;generalize (y.k==8)=k8 at*
   repeat' (first|refine zu (λ_=>?_) (λ_=>?_)|refine⟨_,c2,?_⟩|refine⟨_,c3,?_⟩|refine⟨_,c4,?_⟩|refine And.intro (And.intro True.intro (tJ 4)) ?_|refine And.intro (And.intro (rfl:(1:Nat)=1) (tJ 4)) ?_|refine And.intro True.intro ?_|refine And.intro (rfl:true=true) ?_|refine And.intro need ?_|fail)
   all_goals first
    |contradiction
    |(refine⟨YS ?_,by trivial⟩;clear hgo need c1 c2 c3 c4;simp_all;done)
    |((have e9:((n1||n2) && !lg&&(!d&&((k3||k4||k8)&&V)))=V:=by (clear hgo need c1 c2 c3 c4;simp_all));rw[e9];exact hgo)
 .have hl0:c.ins.length=0:=za;have en:((c.ins.length:Int)==0)=true:=by rw[Al];omega
  have hla:=last_nil hl0;rw[en,hla,As,Ap,Ap];clear hlast
  repeat' (first|exact zD rfl|refine zu (λ_=>?_) (λ_=>?_)|refine⟨_,c2,?_⟩|refine⟨_,c3,?_⟩|refine⟨_,c4,?_⟩|refine And.intro (And.intro True.intro (tJ 4)) ?_|refine And.intro (And.intro (rfl:(1:Nat)=1) (tJ 4)) ?_|refine And.intro True.intro ?_|refine And.intro (rfl:true=true) ?_|fail)
  all_goals contradiction
end Go.AM
namespace Go.AM
theorem mN:∀(t:Tm) (k:Int),0<=vO t k
 |.mk b s n l,k=>by
  rw[vO];split
  .exact sB _ _
  .split
   .exact W8 _ _
   .exact tU _
theorem maxI_0 {a:Int}(h:0<=a):maxI 0 a=a:=by unfold maxI;rw[tG h]
theorem fB (t:Tm):xf t 0 0=vO t 0/\0<=vO t 0:=by have h:=mN t 0;refine⟨?_,h⟩;rw[Ku t 0 0<|tU _];exact maxI_0 h
theorem sm (t:Tm)(d:t.k=6->validB t=true):AC tB 9 [aT t] [] (aSp<|zr t) []:=by
 by_cases b:t.k=6
 .have d:=d b;obtain⟨k,f,n,l⟩:=t;simp only[Tm.k] at b;subst b;obtain⟨x,y,r,rfl,g,j⟩:=okB6 (zB _ d) rfl;refine acv (v9 6 f n (FTs<|x::y::r) _ _) ?_;have i:drop 1 (take (toNat (((FTs<|x::y::r).length:Nat):Int))<|FTs<|x::y::r)=FTs (y::r):=by rw[kT];rfl
  rw[i,zr,tG ⟨rfl,d⟩];refine bP ⟨el0 x<|y::r,rfl,⟨za,by rw[zq];simp only[tC];omega,tU _⟩,?_,rfl⟩;rw[show cE (getD (FTs<|x::y::r) 0 [])=cT x from cE_FT x];exact .refl _
 .have e:zr t=(t,[]):=by rw[zr,tD λh=>b h.1]
  rw[e];refine acv (v9 ..) ?_;refine zu (λh=>absurd (zp h) b) λ_=>⟨jL ⟨lwR _,lw1<|.a _ _<|.fz _ _ zO,trivial⟩,rfl⟩
def gms (b:Int->List UInt8->Nat):List Tm->Nat
 |[]=>0
 |g::l=>ms b g+(b 6 []+b 0 nAnd)+gms b l
theorem Zc (b:Int->List UInt8->Nat):∀l m:List Tm,gms b (l++m)=gms b l+gms b m
 |[],m=>by simp[gms]
 |x::l,m=>by rw[AE,gms,gms,Zc b l m];omega
theorem dZ (b:Int->List UInt8->Nat):∀l:List Tm,gms b (l.map λg=>shT 0 1 g 0)<=gms b l
 |[]=>tJ _
 |g::l=>by have:=dZ b l;have:=oH (b:=b) 0 1 g 0;rw[Aw,gms,gms];omega
theorem sf (b:Int->List UInt8->Nat)(x g:Tm):ms b (andG x g)=b 6 []+b 0 nAnd+ms b x+ms b g:=by rw[ms,mss,mss,mss,mss,ms,mss];omega
theorem am (b:Int->List UInt8->Nat):∀(l:List Tm) (x:Tm),ms b (l.foldl andG x)<=ms b x+gms b l
 |[],x=>tJ _
 |g::l,x=>by have:=am b l (andG x g);rw[sf] at this;rw[Ek,gms];omega
theorem rM (b:Int->List UInt8->Nat)(L:List Tm)(h:L≠[]):ms b (wL L)<=gms b L:=by
 cases L with
 |nil=>exact absurd rfl h
 |cons x L=>have:=am b L x;show ms b (L.foldl andG x)<=_;rw[gms];omega
theorem andG_bd {M:Int}{x g:Tm}(b:bd M x)(d:bd M g):bd M (andG x g):=bd6 ⟨⟨λe=>absurd e za,trivial⟩,b,d,trivial⟩
theorem sh_43 {t:Tm}(flex:Int)(h:(zr t).1.k=4\/(zr t).1.k=3):zw t flex=([],[],flex):=by unfold zw;rw[tG h]
theorem sh_0 {t:Tm}(flex:Int)(b:¬(zr t).1.k=4)(d:¬(zr t).1.k=3)(h:(zr t).1.k≠0):zw t flex=([],[],130):=by unfold zw;rw[tD za,tG h]
theorem log_ne {s:List UInt8}(h:logB s=true):s≠[]:=by intro e;rw[e] at h;revert h;decide
theorem fK {t a c:Tm}(e:(zr t).2=[a,c]):((FV.L 4 (.sl false 4<|FTs (zr t).2)=true)/\((0<=(0:Int))/\(((0:Int)<(((FTs (zr t).2).length:Nat):Int))/\((rE (getD (FTs (zr t).2) 0 []):List FV)=getD (FTs (zr t).2) 0 []))))/\
  ((FV.L 4 (.sl false 4<|FTs (zr t).2)=true)/\((0<=(1:Int))/\(((1:Int)<(((FTs (zr t).2).length:Nat):Int))/\((rE (getD (FTs (zr t).2) 1 []):List FV)=getD (FTs (zr t).2) 1 []))))/\
  aE (getD (FTs (zr t).2) 0 [])=aT a/\aE (getD (FTs (zr t).2) 1 [])=aT c:=by
 rw[e];exact⟨⟨rfl,za,by show(0:Int)<2;omega,yD a⟩,⟨rfl,za,by show(1:Int)<2;omega,yD c⟩,yT a,yT c⟩
theorem iZ {t a:Tm}(e:(zr t).2=[a]):((FV.L 4 (.sl false 4<|FTs (zr t).2)=true)/\((0<=(0:Int))/\(((0:Int)<(((FTs (zr t).2).length:Nat):Int))/\((rE (getD (FTs (zr t).2) 0 []):List FV)=getD (FTs (zr t).2) 0 []))))/\
  aE (getD (FTs (zr t).2) 0 [])=aT a:=by
 rw[e];exact⟨⟨rfl,za,by show(0:Int)<1;omega,yD a⟩,yT a⟩
def wiB (t:Tm)(vars loose:Int):Bool:=validB t&&(unF vars t&&decide (xf t 0 0<=loose))
def clB (n:Nat)(c:Cl):Bool:=(decide (0<=c.1)&&decide (c.1<=4096))&&(wiB c.2.1 0 c.1&&(wiB c.2.2 0 c.1&&(XN c.2.1&&zH false n c.2.2==0)))
def uS (n:Nat)(prog:List Cl)(goal:Tm)(vars:Int):Bool:=(decide (0<=vars)&&decide (vars<=4096))&&(wiB goal vars 0&&(zH false n goal==0&&prog.all (clB n)))
def TB (n:Nat)(t:Tm):Prop:=t.bk<=B/\t.sz<=1000000/\bd (1000000000000-n) t/\wt t<=n
theorem TB.tg {n:Nat}{t:Tm}(h:TB n t)(b:validB t=true):TG n t:=⟨b,h.2.1,h.2.2.1⟩
theorem TB.sz {n:Nat}{t:Tm}(h:TB n t):t.sz<=B:=by have:=h.2.1;simp only[B];omega
def TW (n:Nat)(t:Tm):Prop:=t.bk<=B/\t.sz<=1000000/\wt t<=n
theorem TW.sz {n:Nat}{t:Tm}(h:TW n t):t.sz<=B:=by have:=h.2.1;simp only[B];omega
theorem nl {a b v:Int}:maxI a b<=v↔a<=v/\b<=v:=by unfold maxI;split<;>omega
mutual
theorem lo_bd {M m:Int}(hm:0<=m):∀(t:Tm) (k:Int),validB t=true->vO t k<=m->0<=k->k+m+t.sz<=M->bd M t
 |.mk kd s n l,k,hv,h,h0,hM=>by
  have hz:(Tm.mk kd s n l).sz=1+Tm.szs l:=Tm.sz_eq _;by_cases h56:kd=5\/kd=6
  .rw[vO,tD (by rcases h56 with rfl|rfl<;>decide),tG<|by rcases h56 with rfl|rfl<;>rfl] at h;have e:(0:Int)<=(if (kd==5)=true then 1 else 0)/\(if (kd==5)=true then(1:Int) else 0)<=1:=by split<;>omega
   exact⟨λe=>za,lo_bds hm l _ (zX hv h56) h za za⟩
  .have hl:l=[]:=okB0 (zB _ hv) (λe=>h56<|.inl e) λe=>h56<|.inr e;subst hl;refine⟨λe=>?_,trivial⟩;subst e;rw[vO,tG (show((3:Int)==3)=true from rfl),nl] at h;have:=(kC.1 hv).1;omega
theorem lo_bds {M m:Int}(hm:0<=m):∀(l:List Tm) (k:Int),(∀u∈l,validB u=true)->uj l k<=m->0<=k->k+m+Tm.szs l<=M->bds M l
 |[],_,_,_,_,_=>trivial
 |t::l,k,hv,h,h0,hM=>by rw[uj,nl] at h;have hz:Tm.szs (t::l)=t.sz+Tm.szs l:=rfl;exact⟨lo_bd hm t k (hv t tM) h.1 h0 za,lo_bds hm l k (λu hu=>hv u<|tK _ hu) h.2 h0 za⟩
end
theorem wi_bd {t:Tm}{v:Int}(h:wiB t 0 v=true)(hv:v<=4096)(hz:t.sz<=1000000):validB t=true/\bd 2000000 t:=by unfold wiB at h;rw[tF,tF,decide_eq_true_iff,(fB t).1] at h;refine⟨h.1,lo_bd (m:=4096) za t 0 h.1 za za za⟩
theorem aX (n:Int):AC tB 59 [ci n] [] (cb (decide (0<=n)&&decide (n<=4096))) []:=by refine acv (v59 ..) ?_;exact zu (λh=>zD<|by rw[h];rfl) (λh=>zD<|by rw[h];rfl)
theorem dQ (p:Tm->Bool)(n:Int)(b:List Tm):∀a:List Tm,(a++b).length<=B->(∀u∈b,AC tB 113 [aT u,.c<|.a<|.ep 0 1 0 0] [obN n] (cb<|p u) [obN n])->RPt tB 42 1 (ci<|ixF p b a.length) [obN n] 1 ⟨[(0,aL<|a++b),(1,.c<|.fn (.func 113) [] [(false,[.ep 0 1 0 0])]),(7,ci (a++b).length),(8,ci a.length)],[(0,obN n)],1⟩:=by
 induction b with
 |nil=>intro a d _;refine rpv (YU ..) ?_;exact bF zb rrl
 |cons t b e=>
  intro a d ih;have i:=ltI' a t b;have m:=ih t tM;have f:=e (a++[t]) (zp d) λu g=>ih u<|tK _ g;rw[ap,nx,show(a++[t]).length=a.length+1 by simp] at f;rw[ixF];simp only[tE,tC,B] at d;have j:(a.length:Int)<((a++t::b).length:Int):=by simp only[tE,tC];omega
  refine rpv (YU ..) ?_;rw[w64 za za];refine bT j ⟨⟨rfl,za,i,xr ..⟩,p t,by rw[xN];exact m,zu (λh=>?_) λh=>?_⟩
  .rw[tG h];exact rrl
  .rw[tD<|by rw[h];simp];exact f
theorem f8 (p:Tm->Bool)(n:Int)(l:List Tm)(b:l.length<=B)(h:∀u∈l,AC tB 113 [aT u,.c<|.a<|.ep 0 1 0 0] [obN n] (cb<|p u) [obN n]):AC tB 25 [aL l,.c<|.fn (.func 113) [] [(false,[.ep 0 1 0 0])]] [obN n] (cb<|l.any p) [obN n]:=by
 have d:=dQ p n l [] b h;have e:AC tB 42 [aL l,.c<|.fn (.func 113) [] [(false,[.ep 0 1 0 0])]] [obN n] (ci<|ixF p l 0) [obN n]:=by refine acv (v42_F113 ..) ?_;rw[zq];exact⟨rfl,d⟩
 refine acv (v25_F113 ..) ?_;exact⟨_,e,by rw[vJ p l 0];exact rrl⟩
theorem c_splain (n:Int):∀t:Tm,t.sz<=B->AC tB 83 [aT t,ci n] [] (cb<|unF n t) []:=by
 refine Tm.ind λt ih j=>?_;have i:=Tm.szs_length t.l;have m:=t.sz_eq;have f:∀u∈t.l,AC tB 113 [aT u,.c<|.a<|.ep 0 1 0 0] [obN n] (cb (!unF n u)) [obN n]:=λu b=>by have g:=ih u b (by have:=Tm.szs_mem b;omega);refine acv (v113 ..) ?_;exact⟨_,g,.refl _,rfl⟩
 have d:=f8 (λu=> !unF n u) n t.l za f;refine acv (v83 ..) ?_;have e:=YY (unF n) t.l;rw[unF_eq,<-e];refine zu (λh=>zD<|by rw[h];rfl) (λh=>zu (λh'=>zu (λq=>zD<|by rw[h,h',q];rfl) λq=>⟨_,d,zD<|by rw[h,h',q];rfl⟩) λh'=>⟨_,d,zD<|by rw[h,h'];rfl⟩)
theorem lC:∀t:Tm,validB t=true->bd 4611686018427387904 t:=by
 refine Tm.ind λt ih=>?_;intro hv;obtain⟨k,s,n,l⟩:=t
 have kids:yV l=true->bds 4611686018427387904 l:=λh=>by
  have key:∀(l':List Tm),(∀u∈l',u∈l)->yV l'=true->bds 4611686018427387904 l':=by
   intro l'
   induction l' with
   |nil=>intro _ _;trivial
   |cons u l' ih2=>intro hm h;rw[yV,tF] at h;exact⟨ih u (hm u tM) h.1,ih2 (λw hw=>hm w<|tK _ hw) h.2⟩
  exact key l (λu hu=>hu) h
 rw[validB] at hv;have nil:(((FTs l).length:Nat):Int)=0->l=[]:=λh=>tS (by rw[zq] at h;omega);show(k=3->0-4611686018427387904<=n/\n<=4611686018427387904)/\bds 4611686018427387904 l;split at hv
 .rename_i h;have h:k=0:=zp h;simp only[tF,Al] at hv;rw[nil hv.2];exact⟨λe=>za,trivial⟩
 .split at hv
  .rename_i h;have h:k=1:=zp h;simp only[tF] at hv;exact⟨λe=>za,kids hv.2⟩
  .split at hv
   .rename_i h;have h:k=2:=zp h;simp only[tF] at hv;exact⟨λe=>za,kids hv.2⟩
   .split at hv
    .simp only[tF,Ak] at hv;exact⟨λ_=>⟨za,hv.1.1.1.2⟩,kids hv.2⟩
    .rename_i h3;split at hv
     .simp only[tF] at hv;exact⟨λe=>by rw[e] at h3;exact absurd rfl h3,kids hv.2⟩
     .split at hv
      .simp only[tF] at hv;exact⟨λe=>by rw[e] at h3;exact absurd rfl h3,kids hv.2⟩
      .split at hv
       .simp only[tF] at hv;exact⟨λe=>by rw[e] at h3;exact absurd rfl h3,kids hv.2⟩
       .cases hv
theorem YN (t:Tm)(vars loose:Int)(hs:t.sz<=B):AC tB 60 [aT t,ci vars,ci loose] [] (cb<|wiB t vars loose) []:=by have h1:=yz t hs;have h2:=c_splain vars t hs;have h3:=λh=>dp t hs<|lC t h;refine acv (v60 ..) ?_;unfold wiB;exact⟨_,h1,zu (λh=>⟨_,h2,zu (λq=>⟨_,h3 h,zD<|by rw[h,q];rfl⟩) λq=>zD<|by rw[h,q];rfl⟩) λh=>zD<|by rw[h];rfl⟩
theorem c_spred (t:Tm)(d:t.sz<=B):AC tB 64 [aT t] [] (.tup [(false,[qf<|.str (zr t).1.s]),(false,[qf<|.bool<|XN t])]) []:=by have e:=kK t d;have b:=vV (zr t).1.s;refine acv (v64 ..) ?_;unfold XN;exact⟨_,e,zu (λh=>⟨_,b,by rw[h];exact rrl⟩) λh=>by rw[h];exact rrl⟩
theorem iO (n:Nat)(hn:n<=1000000000)(c:Cl)(h1:TW n c.2.1)(h2:TW n c.2.2):AC tB 63 [aCl c] [] (cb (!clB n c)) []:=by
 have c1:=c_spred c.2.1 h1.sz;have c2:=aX c.1;have c3:=YN c.2.1 0 c.1 h1.sz;have c4:=YN c.2.2 0 c.1 h2.sz;obtain⟨vs,hd',bo⟩:=c;refine acv (v63 ..) ?_;unfold clB;simp only at c1 c2 c3 c4;refine⟨_,_,c1,_,c2,zu (λq=>zD ?_) λq1=>⟨_,c3,zu (λq=>zD ?_) λq2=>⟨_,c4,zu (λq=>zD ?_) λq3=>zu (λq=>zD ?_) λq4=>⟨_,sF n hn bo h2.2.2 ?_,zD ?_⟩⟩⟩⟩
 .have q:(decide (0<=vs)&&decide (vs<=4096))=false:=by revert q;cases (decide (0<=vs)&&decide (vs<=4096))<;>simp
  rw[q];rfl
 .rw[show wiB hd' 0 vs=false by simpa using q,As,Ap];rfl
 .rw[show wiB bo 0 vs=false by simpa using q,As,Ap,Ap];rfl
 .rw[show XN hd'=false by simpa using q,As,Ap,Ap,Ap];rfl
 .have q1:(decide (0<=vs)&&decide (vs<=4096))=true:=by revert q1;cases (decide (0<=vs)&&decide (vs<=4096))<;>simp
  rw[tF,decide_eq_true_iff,decide_eq_true_iff] at q1;have w:=wi_bd (show wiB bo 0 vs=true by simpa using q3) q1.2 h2.2.1;exact⟨w.1,h2.2.1,yQ za _ w.2⟩
 .have q1:(decide (0<=vs)&&decide (vs<=4096))=true:=by revert q1;cases (decide (0<=vs)&&decide (vs<=4096))<;>simp
  rw[q1,show wiB hd' 0 vs=true by simpa using q2,show wiB bo 0 vs=true by simpa using q3,show XN hd'=true by simpa using q4];rfl
def ixCl (p:Cl->Bool):List Cl->Nat->Int
 |[],_=> -1
 |t::l,i=>if p t=true then(i:Int) else ixCl p l<|i+1
theorem bQ (p:Cl->Bool):∀(l:List Cl) (i:Nat),decide (ixCl p l i>=0)=l.any p
 |[],_=>rfl
 |t::l,i=>by
  rw[ixCl,E3];split;next h=>rw[h];simp
  next h=>rw[bQ p l,show p t=false by simpa using h,Ec]
theorem ZC (a:List Cl)(c:Cl)(b:List Cl):getD (CLs<|a++c::b) (toNat (a.length:Int)) []=FL c:=by rw[(za:toNat (a.length:Int)=a.length),CLs];simp[getD]
theorem l_ixcl (p:Cl->Bool)(b:List Cl):∀a:List Cl,(a++b).length<=B->(∀u∈b,AC tB 63 [aCl u] [] (cb<|p u) [])->RPt tB 88 0 (ci<|ixCl p b a.length) [] 1 ⟨[(0,aCls<|a++b),(1,.c<|.fn (.func 63) [] []),(7,ci (a++b).length),(8,ci a.length)],[],0⟩:=by
 induction b with
 |nil=>intro a d _;refine rpv (Wi ..) ?_;exact bF zb<|yF rfl
 |cons t b e=>
  intro a d ih;have i:=ih t tM;have g:=e (a++[t]) (zp d) λu j=>ih u<|tK _ j;rw[ap,nx,show(a++[t]).length=a.length+1 by simp] at g;rw[ixCl];simp only[tE,tC,B] at d;have f:(a.length:Int)<((a++t::b).length:Int):=by simp only[tE,tC];omega
  refine rpv (Wi ..) ?_;rw[w64 za za,ZC];refine bT f ⟨⟨rfl,za,by rw[zW];exact f,rfl⟩,p t,i,zu (λh=>?_) λh=>?_⟩
  .rw[tG h];exact yF rfl
  .rw[tD<|by rw[h];simp];exact g
theorem not_any (p:Cl->Bool)(l:List Cl):(!l.any λc=> !p c)=l.all p:=by induction l with|nil=>rfl|cons t l ih=>rw[E3,AZ,<-ih];cases p t<;>simp
theorem c_sright (n:Nat)(hn:n<=1000000000)(prog:List Cl)(goal:Tm)(vars:Int)(hg:TB n goal)(hl:prog.length<=B)(hp:∀c∈prog,TW n c.2.1/\TW n c.2.2):AC tB 43 [aCls prog,aT goal,ci vars] [] (cb<|uS n prog goal vars) []:=by
 have c2:=aX vars;have c3:=YN goal vars 0 hg.sz;have h0:=l_ixcl (λc=> !clB n c) prog [] hl λc hc=>iO n hn c (hp c hc).1 (hp c hc).2;have h1:AC tB 88 [aCls prog,.c<|.fn (.func 63) [] []] [] (ci<|ixCl (λc=> !clB n c) prog 0) []:=by refine acv (v88_F63 ..) ?_;rw[zW];exact⟨rfl,h0⟩
 have h2:AC tB 62 [aCls prog,.c<|.fn (.func 63) [] []] [] (cb<|prog.any λc=> !clB n c) []:=by refine acv (v62_F63 ..) ?_;exact⟨_,h1,zD<|bQ _ prog 0⟩
 refine acv (v43 ..) ?_;unfold uS;rw[<-not_any];refine⟨_,c2,zu (λq=>zD ?_) λq1=>⟨_,c3,zu (λq=>zD ?_) λq2=>⟨_,sF n hn goal hg.2.2.2<|hg.tg ?_,zu (λq=>zD ?_) λq3=>⟨_,h2,zD ?_⟩⟩⟩⟩
 .have q:(decide (0<=vars)&&decide (vars<=4096))=false:=by revert q;cases (decide (0<=vars)&&decide (vars<=4096))<;>simp
  rw[q];rfl
 .rw[show wiB goal vars 0=false by simpa using q,As,Ap]
 .have:wiB goal vars 0=true:=zp q2;unfold wiB at this;exact(Bool.and_eq_true_iff.1 this).1
 .have q:(zH false n goal==0)=false:=zp q;rw[q,As,Ap,Ap]
 .have q1:(decide (0<=vars)&&decide (vars<=4096))=true:=by revert q1;cases (decide (0<=vars)&&decide (vars<=4096))<;>simp
  have q3:(zH false n goal==0)=true:=zp q3;rw[q1,show wiB goal vars 0=true by simpa using q2,q3];rfl
abbrev vN4 (v:Int):Tm:=.mk 4 [] v []
def zE (vs:List Int)(u:Tm)(d:Int):Tm:=if (u.k==3)=true/\d<=u.n then(if u.n<d+vs.length then vN4 (vs.getD (toNat<|(vs.length:Int)-1-(u.n-d)) 0) else .mk 3 [] (u.n-vs.length) []) else u
def openG (vs:List Int)(t:Tm):Tm:=zG (zE vs) t 0
theorem yX (vs:List Int)(u:Tm)(d:Int)(b:u.k≠6):(zE vs u d).k≠6:=by
 unfold zE;split
 .split<;>(intro h;cases h)
 .exact b
theorem ZY (vs:List Int){n d:Int}(h:d<=n):zE vs (.mk 3 [] n []) d=if n<d+(vs.length:Int) then vN4 (vs.getD (toNat<|(vs.length:Int)-1-(n-d)) 0) else .mk 3 [] (n-vs.length) []:=by unfold zE;exact tG ⟨rfl,h⟩
theorem op_leaf (vs:List Int)(v:Int)(u:Tm)(d:Int)(m:u.k=3->u.s=[]/\u.l=[])(r:u.k≠5)(w:u.k≠6):zG (zE vs) (xe 0 (vN4 v) u d) d=zE (vs++[v]) u d:=by
 obtain⟨k,s,n,l⟩:=u;simp only[Tm.k,Tm.s,Tm.l] at m r w;have b:∀(f:Int) (h:List UInt8) (j:Int) (l':List Tm),f≠5->f≠6->zG (zE vs) (.mk f h j l') d=zE vs (.mk f h j l') d:=λf h j l' y z=>yq _ _ _ _ _ _ (by simp[y,z]);rw[kI];by_cases x:k=3
 .subst x;obtain⟨rfl,rfl⟩:=m rfl;have c3:((Tm.mk 3 [] n []).k==3)=true:=rfl;rw[tG c3];show zG (zE vs) (if n<d+0 then _ else if (n==d+0)=true then _ else _) d=_;by_cases o:n<d+0
  .rw[tG o,b _ _ _ _ za za];unfold zE;rw[tD (λe=>by have:d<=n:=e.2;omega),tD (λe=>by have:d<=n:=e.2;omega)]
  .rw[tD o];by_cases g:(n==d+0)=true
   .have i:n=d+0:=zp g;rw[tG g,b _ _ _ _ za za];unfold zE;rw[tD (λe=>by cases e.1),tG ⟨c3,by show d<=n;omega⟩];show _=if n<d+((vs++[v]).length:Int) then _ else _
    rw[tG<|by rw[tE];simp only[tC,tR];omega];show vN4 v=vN4 ((vs++[v]).getD (toNat<|((vs++[v]).length:Int)-1-(n-d)) 0);rw[show toNat (((vs++[v]).length:Int)-1-(n-d))=vs.length by rw[tE];simp only[tC,tR];omega];simp[getD]
   .have i:¬n=d+0:=zp g;rw[tD g];show zG (zE vs) (.mk 3 [] (n-1) []) d=_;rw[b _ _ _ _ za za];rw[ZY vs za,ZY (vs++[v]) za];show(if n-1<d+(vs.length:Int) then vN4 (vs.getD (toNat<|(vs.length:Int)-1-(n-1-d)) 0) else Tm.mk 3 [] (n-1-vs.length) [])=if n<d+((vs++[v]).length:Int) then vN4 ((vs++[v]).getD (toNat<|((vs++[v]).length:Int)-1-(n-d)) 0) else Tm.mk 3 [] (n-(vs++[v]).length) []
    have C:((vs++[v]).length:Int)=vs.length+1:=by rw[tE];simp
    rw[C];by_cases p:n-1<d+(vs.length:Int)
    .rw[tG p,tG za,show(vs.length:Int)+1-1-(n-d)=vs.length-1-(n-1-d) by omega];have A:toNat ((vs.length:Int)-1-(n-1-d))<vs.length:=za;simp only[getD];rw[Ea A]
    .rw[tD p,tD za,(za:n-1-(vs.length:Int)=n-(vs.length+1))]
 .have c3:((Tm.mk k s n l).k==3)=false:=by simpa[Tm.k] using x
  rw[tD<|by rw[c3];simp,b _ _ _ _ r w];unfold zE;rw[tD (λe=>by rw[c3] at e;cases e.1),tD λe=>by rw[c3] at e;cases e.1]
mutual
def bare3:Tm->Prop
 |.mk k s _ l=>(k=3->s=[]/\l=[])/\Ky l
def Ky:List Tm->Prop
 |[]=>True
 |t::l=>bare3 t/\Ky l
end
mutual
theorem qW:∀t:Tm,validB t=true->bare3 t
 |.mk k s n l,h=>by
  refine⟨λe=>?_,?_⟩
  .subst e;exact⟨(kC.1 h).2.2.1,(kC.1 h).2.2.2⟩
  .by_cases h56:k=5\/k=6
   .exact Yl l λu hu=>zX h h56 u hu
   .have:l=[]:=okB0 (zB _ h) (λe=>h56<|.inl e) λe=>h56<|.inr e;subst this;trivial
theorem Yl:∀l:List Tm,(∀u∈l,validB u=true)->Ky l
 |[],_=>trivial
 |t::l,h=>⟨qW t<|h t tM,Yl l λu hu=>h u<|tK _ hu⟩
end
mutual
theorem ou (vs:List Int)(v:Int):∀(t:Tm) (d:Int),bare3 t->zG (zE vs) (zG (xe 0<|vN4 v) t d) d=zG (zE<|vs++[v]) t d
 |.mk k s n l,d,h=>by
  by_cases hk:(k==5||k==6)=true
  .rw[y5 _ (λu d _ h6=>fX 0 v u d h6) k s n l d hk,y5 _ (λu d _ h6=>yX vs u d h6) _ _ _ _ _ hk,y5 _ (λu d _ h6=>yX (vs++[v]) u d h6) _ _ _ _ _ hk,bA vs v l _ h.2]
  .have h5:k≠5:=λe=>hk (by rw[e];rfl);have h6:k≠6:=λe=>hk (by rw[e];rfl);rw[yq _ k s n l d<|zp hk,yq _ k s n l d<|zp hk];exact op_leaf vs v _ d h.1 h5 h6
theorem bA (vs:List Int)(v:Int):∀(l:List Tm) (d:Int),Ky l->zF (zE vs) (zF (xe 0<|vN4 v) l d) d=zF (zE<|vs++[v]) l d
 |[],_,_=>rfl
 |t::l,d,h=>by rw[zF,zF,zF,ou vs v t d h.1,bA vs v l d h.2]
end
theorem KJ (vs:List Int)(v:Int)(t:Tm)(b:validB t=true):openG vs (suT 0 (vN4 v) t 0)=openG (vs++[v]) t:=ou vs v t 0<|qW t b
mutual
theorem nX:∀(t:Tm) (d:Int),bare3 t->zG (zE []) t d=t
 |.mk k s n l,d,h=>by
  by_cases hk:(k==5||k==6)=true
  .rw[y5 _ (λu d _ h6=>yX [] u d h6) k s n l d hk,aP l _ h.2]
  .rw[yq _ k s n l d<|zp hk];unfold zE;split
   .rename_i h3;have h3k:k=3:=by simpa[Tm.k] using h3.1
    subst h3k;obtain⟨rfl,rfl⟩:=h.1 rfl;have:d<=n:=h3.2;exact(tD (show¬n<d+(([]:List Int).length:Int) by simp only[tR];omega)).trans (by rw[show(Tm.mk 3 [] n []).n-(([]:List Int).length:Int)=n by show n-((0:Nat):Int)=n;omega])
   .rfl
theorem aP:∀(l:List Tm) (d:Int),Ky l->zF (zE []) l d=l
 |[],_,_=>rfl
 |t::l,d,h=>by rw[zF,nX t d h.1,aP l d h.2]
end
theorem bc (t:Tm)(b:validB t=true):openG [] t=t:=nX t 0<|qW t b
theorem valid4 {s:List UInt8}{n:Int}{l:List Tm}:validB (.mk 4 s n l)=true↔0<=n/\n<=4611686018427387904/\s=[]/\l=[]:=by
 rw[validB,lenI];simp only[show((4:Int)==0)=false from rfl,show((4:Int)==1)=false from rfl,show((4:Int)==2)=false from rfl,show((4:Int)==3)=false from rfl,tX,A6,show((4:Int)==4)=true from rfl,tZ];simp only[tF,Ak,Al];constructor
 .rintro ⟨⟨⟨⟨d,b⟩,e⟩,f⟩,_⟩;exact⟨d,b,e,tS za⟩
 .rintro ⟨d,b,e,rfl⟩;exact⟨⟨⟨⟨d,b⟩,e⟩,rfl⟩,rfl⟩
def VR (vs:List Int):Prop:=vs.length<=1000000/\∀v∈vs,0<=v/\v<=4611686018427387904
theorem KM {v:Int}(d:0<=v)(b:v<=4611686018427387904):validB (vN4 v)=true:=valid4.2 ⟨d,b,rfl,rfl⟩
theorem YE (M v:Int):bd M (vN4 v):=⟨λe=>absurd e<|by show¬(4:Int)=3;omega,trivial⟩
theorem gh {M v:Int}{t:Tm}(b:validB t=true)(e:0<=v)(f:v<=4611686018427387904)(g:t.sz<=1000000):validB (suT 0 (vN4 v) t 0)=true:=by have d:=KM e f;rw[xc,tF];exact⟨suT_ok 0 (zB _ d)<|zB _ b,suT_lv (M:=0) (D:=t.sz) (tU 0) za (YE 0 v) (xM d) (xM b) 0 (tU 0) za⟩
theorem suV_sz (v:Int)(t:Tm):(suT 0 (vN4 v) t 0).sz<=t.sz:=by have:=sP (b:=λ_ _=>1) (λ_=>tJ _) 0 v t 0;rw[XK,XK] at this;exact this
theorem suV_bd {M v:Int}{t:Tm}(d:(t.sz:Int)<=M)(b:bd M t):bd M (suT 0 (vN4 v) t 0):=
 suT_bd (M':=0) (D:=t.sz) (vN4 v) t 0 b (YE 0 v) za (tU 0) za (tU 0) za
abbrev byV (vs:List Int):List Tm:=vs.map vN4
theorem my (l:List Tm):AC tB 95 [aL l] [] (.c<|.fn (.func 126) [] [(false,[.ep 0 1 0 0])]) [.arr 1 [[qf<|.sl false 4<|FTs l]]]:=by refine acv (v95 ..) ?_;exact rrl
theorem isBkT:IsBk tB 126 24 26:=⟨zg,_,188,3,4,Tryz.func126,zg,zg,zg⟩
theorem bTyT:a7 tB 24 26 4=true:=zg
abbrev hpOp (vs:List Int)(t:Tm):AHeap:=[(0,.arr 1 [[qf<|.sl false 4<|FTs<|byV vs]]),(1,.arr 4 [cT t]),(2,.arr 4 [[qi 0,qf<|.str [],qi 0,qf .N]]),(3,.arr 1 [[qf<|.sl false 4<|FTs<|byV vs]])]
theorem pn (vs:List Int)(w:VR vs)(t:Tm)(G:validB t=true)(D:t.sz<=1000000)(E:bd 1000000000000 t):AC tB 94 [aT t,.c<|.a<|.ep 0 1 0 0] [.arr 1 [[qf<|.sl false 4<|FTs<|byV vs]]] (aT<|openG vs t) [.arr 1 [[qf<|.sl false 4<|FTs<|byV vs]]]:=by
 refine acv (v94 t.k t.s t.n (FTs t.l) ..) ?_;refine⟨byV vs,my<|byV vs,?_⟩;have b:(byV vs).length=vs.length:=by simp[byV]
 have J:=w.1
 refine RPt.backF (sh:=sh) (lv:=lv94) (α:=Nat×Tm) (Inv:=λx=>x.1<=vs.length/\validB x.2=true/\x.2.sz<=1000000/\bd 1000000000000 x.2/\openG (vs.take x.1) x.2=openG vs t) (idx:=λx=>x.1) (nx:=λ_=>4) (m0:=4) (U:=[]) (live:=[2,3,7]) (oc:=3) (n:=4) (es:=FTs<|byV vs) (x0:=(vs.length,t)) (g:=.tmp 7) (env:=[(2,.c<|.a<|.ep 1 4 0 0),(3,.c<|.a<|.ep 2 4 0 0),(7,.c<|.fn (.func 126) [] [(false,[.ep 3 1 0 0])])])
  (H:=λx=>hpOp vs x.2) hP zg isBkT bTyT ?_ zg zg zg zg (λ_ _=>za) (λ_ _=>rfl) (λe z=>?_) (by rw[zq,b];omega) (λx j=>by rw[zq,b];exact j.1) (λx k j o K=>?_) ⟨tJ _,G,D,E,by rw[tN<|tJ _]⟩ (by rw[zq,b]) λx j r=>?_
 .refine Eq.mpr (v94_1an ..) ?_;rfl
 .rw[yf] at z;obtain⟨u,_,rfl⟩:=Ay.1 z;exact ym u
 .obtain⟨i,u⟩:=x;have v:i=k+1:=o;subst v;obtain⟨A,h,y,p,f⟩:=j;simp only at A h y p f;have d:k<vs.length:=za;have m:=w.2 vs[k]<|List.getElem_mem d;have C:getD (FTs<|byV vs) k []=FT (vN4 vs[k]):=by rw[yf];simp[byV,getD,d]
  rw[C];have I:=jE (vN4 vs[k]) 0 k (by show 1<=B;simp only[B];omega) (YE _ _) za (by simp only[M61];omega) za (by simp only[M61];omega);have F:=dB u (vN4 vs[k]) 0 (by show 1<=B;simp only[B];omega) (by show u.sz+nd u*1<=B;have:=nd_sz u;simp only[B];omega) (yQ (by simp only[M61];omega) _ p) (YE _ _) za (by simp only[M61];omega);refine Eq.mpr (v94_1ara ..) ?_;refine⟨vN4 vs[k],I,suT 0 (vN4 vs[k]) u 0,F,(k,suT 0 (vN4 vs[k]) u 0),⟨⟨by show k<=vs.length;omega,gh (M:=0) h m.1 m.2 y,by have:=suV_sz vs[k] u;show(suT 0 (vN4 vs[k]) u 0).sz<=_;omega,suV_bd za p,?_⟩,rfl⟩,rfl,rfl⟩;show openG (vs.take k) (suT 0 (vN4 vs[k]) u 0)=_;rw[KJ _ _ _ h,<-f,Ez d]
 .obtain⟨i,u⟩:=x;have r:i=0:=r;subst r;obtain⟨_,h,_,_,f⟩:=j;simp only[List.take_zero] at f h;refine Eq.mpr (v94_1aza ..) ?_;rw[bc u h] at f;rw[<-f];exact rrl
def wh (u:Tm)(d:Int):Tm:=if u.k=4\/(u.k=3/\d<=u.n) then .mk 4 [] 0 [] else u
def erT (t:Tm)(d:Int):Tm:=zG wh t d
def erL (l:List Tm)(d:Int):List Tm:=zF wh l d
abbrev frB (t:Tm)(d:Int):Prop:=t.k=4\/(t.k=3/\d<=t.n)
theorem tA (u:Tm)(d:Int)(b:u.k≠6):(wh u d).k≠6:=by
 unfold wh;split
 .intro h;cases h
 .exact b
theorem ju {t:Tm}(d:Int)(b:t.k=5\/t.k=6):erT t d=.mk t.k t.s t.n (erL t.l<|d+if (t.k==5)=true then 1 else 0):=by obtain⟨k,s,n,l⟩:=t;exact y5 _ (λu d _ f=>tA u d f) k s n l d (by rcases b with e|e<;>rw[show k=_ from e]<;>rfl)
theorem jQ {k:Int}(s:List UInt8)(n:Int)(l:List Tm)(d:Int)(b:k=5\/k=6):erT (.mk k s n l) d=.mk k s n (erL l<|d+if (k==5)=true then 1 else 0):=ju (t:=.mk k s n l) d b
theorem vI {t:Tm}(d:Int)(b:¬(t.k=5\/t.k=6)):erT t d=wh t d:=by obtain⟨k,s,n,l⟩:=t;exact yq _ k s n l d (by have f:¬k=5:=λe=>b (.inl e);have g:¬k=6:=λe=>b (.inr e);simp[f,g])
theorem vB (t:Tm)(l:List Tm)(d:Int):erL (t::l) d=erT t d::erL l d:=rfl
theorem Xe {u:Tm}{d:Int}(h:frB u d):wh u d=.mk 4 [] 0 []:=tG h
theorem qt {u:Tm}{d:Int}(h:¬frB u d):wh u d=u:=tD h
theorem p9 (u:Tm)(d:Int)(f:¬(u.k=5\/u.k=6)):¬((wh u d).k=5\/(wh u d).k=6):=by
 by_cases b:frB u d
 .rw[Xe b];rintro (e|e)<;>cases e
 .rw[qt b];exact f
theorem Zy {t b:Tm}{d:Int}(h:erT t d=erT b d):
  ((t.k=5\/t.k=6)/\b.k=t.k/\b.s=t.s/\b.n=t.n/\erL t.l (d+if (t.k==5)=true then 1 else 0)=erL b.l (d+if (t.k==5)=true then 1 else 0))\/(¬(t.k=5\/t.k=6)/\frB t d/\frB b d)\/(¬(t.k=5\/t.k=6)/\¬frB t d/\¬frB b d/\b=t):=by
 by_cases g:t.k=5\/t.k=6
 .rw[ju d g] at h;by_cases e:b.k=5\/b.k=6
  .rw[ju d e] at h;injection h with j p m o
   refine .inl ⟨g,j.symm,p.symm,m.symm,?_⟩;rw[o,j]
  .rw[vI d e] at h;exact absurd (by rw[<-h];exact g)<|p9 b d e
 .rw[vI d g] at h;by_cases e:b.k=5\/b.k=6
  .rw[ju d e] at h;exact absurd (by rw[h];exact e)<|p9 t d g
  .rw[vI d e] at h;by_cases i:frB t d
   .rw[Xe i] at h;refine .inr<|.inl ⟨g,i,?_⟩;by_cases f:frB b d
    .exact f
    .rw[qt f] at h;exact absurd (.inl<|by rw[<-h];rfl) f
   .rw[qt i] at h;by_cases f:frB b d
    .rw[Xe f] at h;exact absurd (.inl<|by rw[h];rfl) i
    .rw[qt f] at h;exact .inr<|.inr ⟨g,i,f,h.symm⟩
theorem jt {a:Tm}{l l':List Tm}{d:Int}(h:erL (a::l) d=erL l' d):∃a' r,l'=a'::r/\erT a d=erT a' d/\erL l d=erL r d:=by
 match l',h with
 |[],h=>cases h
 |a'::r,h=>injection h with b e;exact⟨a',r,rfl,b,e⟩
theorem X8 {l':List Tm}{d:Int}(h:erL [] d=erL l' d):l'=[]:=by
 match l',h with
 |[],h=>rfl
 |a'::r,h=>cases h
theorem lD {l l':List Tm}{d:Int}(h:erL l d=erL l' d):l.length=l'.length:=by
 induction l generalizing l' with
 |nil=>rw[X8 h]
 |cons a l ih=>obtain⟨e,r,rfl,_,b⟩:=jt h;rw[tC,tC,ih b]
theorem WG {t g:Tm}{d:Int}(h:erT t d=erT g d)(o:validB t=true)(j:validB g=true):erT (zr t).1 d=erT (zr g).1 d/\erL (zr t).2 d=erL (zr g).2 d:=by
 unfold zr;rcases Zy h with⟨m,f,_,_,i⟩|⟨m,_,w⟩|⟨m,_,_,rfl⟩
 .by_cases b:t.k=6
  .rw[tG ⟨b,o⟩,tG ⟨f.trans b,j⟩];obtain⟨k,s,n,l⟩:=t;obtain⟨v,z,A,l'⟩:=g;have b:k=6:=b;subst b;have f:v=6:=f;subst f;obtain⟨x,y,r,rfl,_,_⟩:=okB6 (zB _ o) rfl;have i:erL (x::y::r) (d+0)=erL l' (d+0):=i;rw[Ef] at i;obtain⟨C,r',rfl,u,p⟩:=jt i;exact⟨u,p⟩
  .rw[tD λq=>b q.1,tD λq=>b<|f▸q.1];exact⟨h,rfl⟩
 .rw[tD λq=>m<|.inr q.1,tD λq=>by rcases w with e|e<;>omega];exact⟨h,rfl⟩
 .exact⟨rfl,rfl⟩
theorem sD:∀(l l':List Tm) (m:List Int) (k:Int),erL l k=erL l' k->ZJ m l k=ZJ m l' k
 |[],l',m,k,h=>by rw[X8 h]
 |t::l,l',m,k,h=>by
  obtain⟨e,r,rfl,j,o⟩:=jt h;rw[ZJ,ZJ];rcases Zy j with⟨g,i,_⟩|⟨g,f,d⟩|⟨g,f,d,rfl⟩
  .have:¬t.k=3:=za;rw[tG this,tG<|by rw[i];exact this]
  .have a:∀u:Tm,frB u k->(if u.k≠3 then false else if k<=u.n then false else if m.contains u.n=true then false else ZJ (m++[u.n]) l k)=false:=λu q=>by
    rcases q with q|q
    .rw[tG za]
    .rw[tD λw=>w q.1,tG q.2]
   have b:∀u:Tm,frB u k->(if u.k≠3 then false else if k<=u.n then false else if m.contains u.n=true then false else ZJ (m++[u.n]) r k)=false:=λu q=>by
    rcases q with q|q
    .rw[tG za]
    .rw[tD λw=>w q.1,tG q.2]
   rw[a t f,b e d]
  .rw[sD l r (m++[e.n]) k o]
theorem all_er (p:Tm->Bool):∀(l l':List Tm) (k:Int),erL l k=erL l' k->(∀u∈l,∀b∈l',erT u k=erT b k->p u=p b)->l.all p=l'.all p
 |[],l',k,h,_=>by rw[X8 h]
 |t::l,l',k,h,q=>by obtain⟨i,r,rfl,e,g⟩:=jt h;rw[AZ,AZ,q t zb i zb e,all_er p l r k g λu f b d=>q u (tK _ f) b<|tK _ d]
theorem nJ {n:Nat}{t:Tm}{k:Int}(b:¬t.k=5):patG (n+1) t k=if (zr t).1.k=5 then false else if frB (zr t).1 k then ZJ [] (zr t).2 k else(zr t).2.all λu=>patG n u k:=by rw[patG,tD b]
theorem oY:∀(n:Nat) (t f:Tm) (k:Int),erT t k=erT f k->validB t=true->validB f=true->patG n t k=patG n f k
 |0,_,_,_,_,_,_=>rfl
 |n+1,t,f,k,h,z,i=>by
  have v:=WG h z i
  have D:¬t.k=5->¬f.k=5->patG (n+1) t k=patG (n+1) f k:=λH p=>by
   rw[nJ H,nJ p];have C:=all_er (λu=>patG n u k) _ _ k v.2 λu G F y e=>oY n u F k e (zP G)<|zP y;have hd:=sD _ _ [] k v.2;rcases Zy v.1 with⟨j,g,_⟩|⟨j,o,b⟩|⟨j,o,b,e⟩
   .have A:¬frB (zr t).1 k:=λq=>by rcases q with q|q<;>omega
    have r:¬frB (zr f).1 k:=λq=>by rcases q with q|q<;>omega
    rw[tD A,tD r,C];by_cases d:(zr t).1.k=5
    .rw[tG d,tG<|g.trans d]
    .rw[tD d,tD λq=>d<|g.symm.trans q]
   .have A:¬(zr t).1.k=5:=λq=>j<|.inl q;have r:¬(zr f).1.k=5:=λq=>by rcases b with w|w<;>omega
    rw[tD A,tD r,tG o,tG b,hd]
   .rw[e,C,tD o,tD o]
  rcases Zy h with⟨j,g,_,_,M⟩|⟨j,o,b⟩|⟨j,o,b,rfl⟩
  .by_cases d:t.k=5
   .rw[patG,patG,tG d,tG<|g.trans d];obtain⟨J,s,m,l⟩:=t;obtain⟨K,N,T,l'⟩:=f;have d:J=5:=d;subst d;have g:K=5:=g;subst g;obtain⟨x,rfl,_⟩:=okB5 (zB _ z) rfl;obtain⟨E,rfl,_⟩:=okB5 (zB _ i) rfl;obtain⟨S,r',e,I,O⟩:=jt M;injection e with L U
    subst L;exact oY n x E (k+1) I (zX z (.inl rfl) x zb)<|zX i (.inl rfl) E zb
   .exact D d λq=>d<|g▸q
  .exact D (λe=>j<|.inl e) λe=>by rcases b with q|q<;>omega
  .rfl
mutual
theorem er_er:∀(t:Tm) (d e:Int),d<=e->erT (erT t e) d=erT t d
 |.mk k s n l,d,e,h=>by
  by_cases hk:k=5\/k=6
  .rw[jQ s n l e hk,jQ s n l d hk,jQ s n _ d hk,er_ers l _ _ za]
  .rw[vI (t:=.mk k s n l) e hk,vI (t:=.mk k s n l) d hk];unfold wh;by_cases hf:frB (.mk k s n l) e
   .rw[tG hf,vI _<|by rintro (e|e)<;>cases e];have:frB (.mk k s n l) d:=hf.imp id (λq=>⟨q.1,by have:=q.2;omega⟩);rw[tG this];rfl
   .rw[tD hf,vI (t:=.mk k s n l) _ hk];rfl
theorem er_ers:∀(l:List Tm) (d e:Int),d<=e->erL (erL l e) d=erL l d
 |[],_,_,_=>rfl
 |t::l,d,e,h=>by rw[vB,vB,vB,er_er t d e h,er_ers l d e h]
end
mutual
theorem JJ (lf:Tm->Int->Tm)(h6:∀u d,u.k≠5->u.k≠6->(lf u d).k≠6)(hl:∀u d,¬(u.k=5\/u.k=6)->¬((lf u d).k=5\/(lf u d).k=6)/\wh (lf u d) d=wh u d):∀(t:Tm) (d:Int),erT (zG lf t d) d=erT t d
 |.mk k s n l,d=>by
  by_cases hk:k=5\/k=6
  .have hk2:(k==5||k==6)=true:=by rcases hk with e|e<;>rw[e]<;>rfl
   rw[y5 lf h6 k s n l d hk2,jQ s n _ d hk,jQ s n l d hk,aW lf h6 hl l _]
  .have hk2:(k==5||k==6)=false:=by have h5:¬k=5:=λe=>hk<|.inl e;have h6:¬k=6:=λe=>hk<|.inr e;simp[h5,h6]
   have:=hl (.mk k s n l) d hk;rw[yq lf k s n l d hk2,vI _ this.1,vI (t:=.mk k s n l) _ hk,this.2]
theorem aW (lf:Tm->Int->Tm)(h6:∀u d,u.k≠5->u.k≠6->(lf u d).k≠6)(hl:∀u d,¬(u.k=5\/u.k=6)->¬((lf u d).k=5\/(lf u d).k=6)/\wh (lf u d) d=wh u d):∀(l:List Tm) (d:Int),erL (zF lf l d) d=erL l d
 |[],_=>rfl
 |t::l,d=>by rw[zF,vB,vB,JJ lf h6 hl t d,aW lf h6 hl l d]
end
theorem er_sh (t:Tm)(d:Int):erT (shT 0 1 t d) d=erT t d:=by
 refine JJ _ (λu d _ e=>rk 0 1 u d e) (λu d f=>⟨by rw[cI];exact f,?_⟩) t d;unfold ye;split
 .rename_i h;have b:u.k=3:=zp h.1;unfold wh;rw[tG<|.inr ⟨b,by show d<=u.n+1;omega⟩,tG<|.inr ⟨b,za⟩]
 .rfl
theorem er_suV (v:Int)(t:Tm)(d:Int):erT (suT 0 (.mk 4 [] v []) t d) d=erT t d:=by
 refine JJ _ (λu d _ j=>fX 0 v u d j) (λu d g=>?_) t d;rw[kI];by_cases f:(u.k==3)=true
 .have b:u.k=3:=zp f;rw[tG f];by_cases h:u.n<d+0
  .rw[tG h];exact⟨g,rfl⟩
  .rw[tD h];split
   .refine⟨(by rintro (e|e)<;>cases e),?_⟩;unfold wh;rw[tG<|.inl rfl,tG<|.inr ⟨b,za⟩]
   .rename_i i;have i:¬u.n=d+0:=zp i;refine⟨g,?_⟩;unfold wh;rw[tG<|.inr ⟨b,by show d<=u.n-1;omega⟩,tG<|.inr ⟨b,za⟩]
 .rw[tD f];exact⟨g,rfl⟩
theorem oZ (vs:List Int)(t:Tm):erT (openG vs t) 0=erT t 0:=by
 refine JJ _ (λu d _ f=>yX vs u d f) (λu d g=>?_) t 0;unfold zE;split
 .rename_i h;have b:u.k=3:=zp h.1;split
  .refine⟨(by rintro (e|e)<;>cases e),?_⟩;unfold wh;rw[tG<|.inl rfl,tG<|.inr ⟨b,h.2⟩]
  next i=>refine⟨(by rintro (e|e)<;>cases e),?_⟩;unfold wh;rw[tG<|.inr ⟨rfl,by show d<=u.n-vs.length;omega⟩,tG<|.inr ⟨b,h.2⟩]
 .exact⟨g,rfl⟩
theorem W6:∀(l m:List Tm) (d:Int),erL (l++m) d=erL l d++erL m d
 |[],_,_=>rfl
 |t::l,m,d=>by rw[AE,vB,vB,W6 l m d];rfl
theorem bK (f x:Tm)(d:Int):erT (zJ f [x]) d=zJ (erT f d) [erT x d]:=by
 show erT (if (f.k==6)=true/\f.l≠[] then .mk 6 [] 0 (f.l++[x]) else .mk 6 [] 0 [f,x]) d=if ((erT f d).k==6)=true/\(erT f d).l≠[] then .mk 6 [] 0 ((erT f d).l++[erT x d]) else .mk 6 [] 0 [erT f d,erT x d]
 have e0:∀l:List Tm,erT (.mk 6 [] 0 l) d=.mk 6 [] 0 (erL l d):=λl=>by rw[ju d<|.inr rfl];show Tm.mk 6 [] 0 (erL l<|d+0)=_;rw[Ef]
 by_cases b:f.k=6
 .have h:=ju d<|.inr b;rw[show(d+if (f.k==5)=true then 1 else 0)=d by rw[b];exact Ef d] at h;rw[h,b];by_cases g:f.l=[]
  .rw[g,tD zb,tD<|by simp[erL,zF,Tm.l],e0,vB,h,g,b];rfl
  .have j:erL f.l d≠[]:=λe=>g<|X8 (l':=f.l) (d:=d)<|by rw[e];rfl
   rw[tG ⟨rfl,g⟩,tG ⟨rfl,j⟩,e0,W6];rfl
 .have i:¬(erT f d).k=6:=by
   by_cases m:f.k=5
   .rw[ju d<|.inl m];show¬f.k=6;omega
   .rw[vI d za];exact tA f d b
  rw[tD<|by simp[b],tD<|by simp[i],e0];rfl
theorem sT {t g:Tm}(h:erT t 0=erT g 0)(r:validB t=true)(m:validB g=true):erT (y9 t) 0=erT (y9 g) 0:=by
 have d:g.k=5↔t.k=5:=by
  rcases Zy h with⟨_,f,_⟩|⟨i,_,j⟩|⟨_,_,_,rfl⟩
  .rw[f]
  .exact⟨λe=>by rcases j with q|q<;>omega,λe=>absurd (.inl e) i⟩
  .exact Iff.rfl
 unfold y9;by_cases b:t.k=5
 .rw[tG b,tG<|d.2 b];rcases Zy h with⟨_,f,_,_,w⟩|⟨i,_⟩|⟨i,_⟩
  .obtain⟨k,s,n,l⟩:=t;obtain⟨u,y,z,l'⟩:=g;have b:k=5:=b;subst b;have f:u=5:=f;subst f;obtain⟨x,rfl,_⟩:=okB5 (zB _ r) rfl;obtain⟨p,rfl,_⟩:=okB5 (zB _ m) rfl;obtain⟨A,r',e,o,_⟩:=jt w;injection e with v C
   subst v;have o:erT x 1=erT p 1:=o;show erT x 0=erT p 0;rw[<-er_er x 0 1 za,o,er_er p 0 1 za]
  .exact absurd (.inl b) i
  .exact absurd (.inl b) i
 .rw[tD b,tD λq=>b<|d.1 q,bK,bK,er_sh,er_sh,h]
theorem ac {t b:Tm}(flex:Int)(h:erT t 0=erT b 0)(m:validB t=true)(g:validB b=true):(zw t flex).1=(zw b flex).1/\(zw t flex).2.2=(zw b flex).2.2/\erL (zw t flex).2.1 0=erL (zw b flex).2.1 0:=by
 have f:=WG h m g;rcases Zy f.1 with⟨j,o,_⟩|⟨j,i,d⟩|⟨j,i,d,e⟩
 .rw[sh_0 (t:=t) flex za za za,sh_0 (t:=b) flex za za za];exact⟨rfl,rfl,rfl⟩
 .rw[sh_43 (t:=t) flex (by rcases i with q|q<;>omega),sh_43 (t:=b) flex<|by rcases d with q|q<;>omega];exact⟨rfl,rfl,rfl⟩
 .unfold zw;rw[e,lD f.2];split
  .exact⟨rfl,rfl,rfl⟩
  .split
   .exact⟨rfl,rfl,rfl⟩
   .split
    .exact⟨rfl,rfl,f.2⟩
    .split
     .exact⟨rfl,rfl,rfl⟩
     .exact⟨rfl,rfl,f.2⟩
theorem er_two {a c b e:Tm}{d:Int}(h:erL [a,c] d=erL [b,e] d):erT a d=erT b d/\erT c d=erT e d:=by
 injection h with g f
 injection f with i _
 exact⟨g,i⟩
theorem er_one {a b:Tm}{d:Int}(h:erL [a] d=erL [b] d):erT a d=erT b d:=by injection h with e _
theorem any_er (p q:Tm->Bool):∀(l l':List Tm) (k:Int),erL l k=erL l' k->(∀u∈l,∀b∈l',erT u k=erT b k->p u=q b)->l.any p=l'.any q
 |[],l',k,h,_=>by rw[X8 h];rfl
 |t::l,l',k,h,w=>by obtain⟨f,r,rfl,i,e⟩:=jt h;rw[E3,E3,w t zb f zb i,any_er p q l r k e λu g b d=>w u (tK _ g) b<|tK _ d]
theorem fN {t:Tm}{flex:Int}(d:flex≠0)(h:(zw t flex).2.2=0):(zw t flex).2.1=(zr t).2/\(zr t).1.k=0:=by
 obtain⟨b,⟨_,_,q⟩|⟨_,_,q,_⟩⟩:=kJ d h
 .exact⟨q,b⟩
 .exact⟨q,b⟩
theorem Y4 (w:Bool):∀n:Nat,n<=1000000000->(∀t x:Tm,TG n t->TG n x->erT t 0=erT x 0->zH w n t=zH w n x)/\
  (∀(j:Bool) (vs D:Int) (L L':List Tm) (t x:Tm),TG n t->TG n x->erT t 0=erT x 0->(clsF w n j vs L t).1=(clsF w n j D L' x).1)
 |0,_=>⟨λ_ _ _ _ _=>rfl,λ_ _ _ _ _ _ _ _ _ _=>rfl⟩
 |n+1,hn=>by
  obtain⟨E,F⟩:=Y4 w n za;refine⟨λt x S A h=>?_,λj vs D L L' t x S A h=>?_⟩
  .obtain⟨T,W,I⟩:=ac 133 h S.1 A.1;rw[zH,zH,<-T,<-W];by_cases o:(zw t 133).2.2≠0
   .rw[tG o,tG o]
   rw[tD o,tD o];have o:(zw t 133).2.2=0:=A5 o;by_cases v:(zw t 133).1=nIf
   .rw[tG v,tG v]
   rw[tD v,tD v];have G:∀(V:(zw t 133).1=nAnd\/(zw t 133).1=nOr\/(zw t 133).1=nImp\/(zw t 133).1=nIf),∃a c b g,(zw t 133).2.1=[a,c]/\(zw x 133).2.1=[b,g]/\TG n a/\TG n b/\TG n c/\TG n g/\erT a 0=erT b 0/\erT c 0=erT g 0:=λV=>by obtain⟨a,c,q,H,_⟩:=yc za o V;obtain⟨b,g,r,m,_⟩:=yc (t:=x) za (W.symm.trans o) (by rw[<-T];exact V);rw[q,r] at I;exact⟨a,c,b,g,q,r,S.arg<|by rw[H];simp,A.arg<|by rw[m];simp,S.arg<|by rw[H];simp,A.arg<|by rw[m];simp,er_two I⟩
   by_cases d:(zw t 133).1=nAnd\/(zw t 133).1=nOr
   .rw[tG d,tG d];obtain⟨a,c,b,g,q,r,O,C,N,y,K,M⟩:=G<|d.imp_right .inl;rw[q,r];show(if zH w n a≠0 then zH w n a else zH w n c)=if zH w n b≠0 then zH w n b else zH w n g
    rw[E a b O C K,E c g N y M]
   rw[tD d,tD d];by_cases f:(zw t 133).1=nImp
   .rw[tG f,tG f];obtain⟨a,c,b,g,q,r,O,C,N,y,K,M⟩:=G<|.inr<|.inr<|.inl f;rw[q,r];show(if (clsF w n false 0 [] a).1≠0 then(clsF w n false 0 [] a).1 else zH w n c)=if (clsF w n false 0 [] b).1≠0 then(clsF w n false 0 [] b).1 else zH w n g
    rw[F false 0 0 [] [] a b O C K,E c g N y M]
   rw[tD f,tD f];by_cases i:(zw t 133).1=nPi\/(zw t 133).1=nSig
   .rw[tG i,tG i];obtain⟨a,q,H,_⟩:=xb za o i;obtain⟨b,r,m,_⟩:=xb (t:=x) za (W.symm.trans o) (by rw[<-T];exact i);rw[q,r] at I;rw[q,r];exact E (y9 a) (y9 b) (S.body za<|by rw[H];simp) (A.body za<|by rw[m];simp)<|sT (er_one I) (zP (t:=t)<|by rw[H];simp)<|zP (t:=x)<|by rw[m];simp
   rw[tD i,tD i]
  .obtain⟨T,W,I⟩:=ac 131 h S.1 A.1;rw[clsF,clsF,<-T,<-W];by_cases o:(zw t 131).2.2≠0
   .rw[tG o,tG o]
   rw[tD o,tD o];have o:(zw t 131).2.2=0:=A5 o;have U:(zw x 131).2.2=0:=W.symm.trans o;by_cases J:(zw t 131).1=[]
   .rw[tG J,tG J];have:(zw t 131).2.1.any (λu=> !patG n u 0)=(zw x 131).2.1.any (λu=> !patG n u 0):=any_er _ _ _ _ 0 I λu Z u' X e=>by rw[(fN za o).1] at Z;rw[(fN za U).1] at X;rw[oY n u u' 0 e (zP Z)<|zP X]
    rw[this];split<;>rfl
   rw[tD J,tD J];have G:∀(V:(zw t 131).1=nAnd\/(zw t 131).1=nOr\/(zw t 131).1=nImp\/(zw t 131).1=nIf),∃a c b g,(zw t 131).2.1=[a,c]/\(zw x 131).2.1=[b,g]/\TG n a/\TG n b/\TG n c/\TG n g/\erT a 0=erT b 0/\erT c 0=erT g 0:=λV=>by obtain⟨a,c,q,H,_⟩:=yc za o V;obtain⟨b,g,r,m,_⟩:=yc (t:=x) za U (by rw[<-T];exact V);rw[q,r] at I;exact⟨a,c,b,g,q,r,S.arg<|by rw[H];simp,A.arg<|by rw[m];simp,S.arg<|by rw[H];simp,A.arg<|by rw[m];simp,er_two I⟩
   by_cases d:(zw t 131).1=nAnd
   .rw[tG d,tG d];obtain⟨a,c,b,g,q,r,O,C,N,y,K,M⟩:=G<|.inl d;rw[q,r];have f1:=F j vs D L L' a b O C K;have Y:=F j vs D L L' c g N y M;by_cases z:(clsF w n j vs L a).1=0
    .rw[tD (show¬(clsF w n j vs L<|at0 [a,c]).1≠0 from λp=>p z),tD (show¬(clsF w n j D L'<|at0 [b,g]).1≠0 from λp=>p<|f1.symm.trans z)];exact Y
    .rw[tG (show(clsF w n j vs L<|at0 [a,c]).1≠0 from z),tG (show(clsF w n j D L'<|at0 [b,g]).1≠0 from λp=>z<|f1.trans p)];exact f1
   rw[tD d,tD d];by_cases i:(zw t 131).1=nPi
   .rw[tG i,tG i];obtain⟨a,q,H,_⟩:=xb za o<|.inl i;obtain⟨b,r,m,_⟩:=xb (t:=x) za U (by rw[<-T];exact .inl i);rw[q,r] at I;rw[q,r];exact F j _ _ _ _ (y9 a) (y9 b) (S.body za<|by rw[H];simp) (A.body za<|by rw[m];simp)<|sT (er_one I) (zP (t:=t)<|by rw[H];simp)<|zP (t:=x)<|by rw[m];simp
   rw[tD i,tD i];by_cases f:(zw t 131).1=nImp
   .rw[tG f,tG f];obtain⟨a,c,b,g,q,r,O,C,N,y,K,M⟩:=G<|.inr<|.inr<|.inl f;rw[q,r];have f1:=E a b O C K;have Y:=F j vs D (L++[a]) (L'++[b]) c g N y M;by_cases z:zH w n a=0
    .rw[tD (show¬zH w n (at0 [a,c])≠0 from λp=>p z),tD (show¬zH w n (at0 [b,g])≠0 from λp=>p<|f1.symm.trans z)];exact Y
    .rw[tG (show zH w n (at0 [a,c])≠0 from z),tG (show zH w n (at0 [b,g])≠0 from λp=>z<|f1.trans p)];exact f1
   rw[tD f,tD f];by_cases v:(zw t 131).1=nIf
   .rw[tG v,tG v];obtain⟨a,c,b,g,q,r,O,C,N,y,K,M⟩:=G<|.inr<|.inr<|.inr v;rw[q,r];have f1:=E c g N y M;have Y:=F j vs D (L++[c]) (L'++[g]) a b O C K;by_cases z:zH w n c=0
    .rw[tD (show¬zH w n (at1 [a,c])≠0 from λp=>p z),tD (show¬zH w n (at1 [b,g])≠0 from λp=>p<|f1.symm.trans z)];exact Y
    .rw[tG (show zH w n (at1 [a,c])≠0 from z),tG (show zH w n (at1 [b,g])≠0 from λp=>z<|f1.trans p)];exact f1
   rw[tD v,tD v]
theorem xz (t:Tm):1<=wt t:=by have:=Xx t;have:=t.sz_pos;omega
theorem ZV:∀(n:Nat) (t:Tm) (k:Int),t.sz<=n->validB t=true->patG (n+1) t k=patG n t k
 |0,t,k,h,_=>by have:=t.sz_pos;omega
 |n+1,t,k,h,e=>by
  conv=>lhs;rw[patG]
  conv=>rhs;rw[patG]
  by_cases d:t.k=5
  .rw[tG d,tG d];obtain⟨f,s,m,l⟩:=t;have d:f=5:=d;subst d;obtain⟨x,rfl,_⟩:=okB5 (zB _ e) rfl;exact ZV n x (k+1) (by simp only[Tm.sz,Tm.szs] at h;omega)<|zX e (.inl rfl) x zb
  .rw[tD d,tD d];have:(zr t).2.all (λu=>patG (n+1) u k)=(zr t).2.all λu=>patG n u k:=by rw[EF,A7,A7];exact⟨λq u b=>by rw[<-ZV n u k (by have:=jN b;omega)<|zP b];exact q u b,λq u b=>by rw[ZV n u k (by have:=jN b;omega)<|zP b];exact q u b⟩
   rw[this]
theorem Yn (w:Bool):∀n:Nat,n<=1000000000->(∀t:Tm,wt t<=n->TG n t->zH w (n+1) t=zH w n t)/\(∀(b:Bool) (vs:Int) (L:List Tm) (t:Tm),wt t<=n->TG n t->clsF w (n+1) b vs L t=clsF w n b vs L t)
 |0,_=>⟨λt h=>by have:=xz t;omega,λ_ _ _ t h=>by have:=xz t;omega⟩
 |n+1,J=>by
  obtain⟨m,o⟩:=Yn w n za;refine⟨λt I F=>?_,λb vs L t I F=>?_⟩
  .conv=>lhs;rw[zH]
   conv=>rhs;rw[zH]
   by_cases j:(zw t 133).2.2≠0
   .rw[tG j,tG j]
   rw[tD j,tD j];have j:(zw t 133).2.2=0:=A5 j
   have r:∀(G:(zw t 133).1=nAnd\/(zw t 133).1=nOr\/(zw t 133).1=nImp\/(zw t 133).1=nIf),∃a c,(zw t 133).2.1=[a,c]/\TG n a/\TG n c/\wt a<=n/\wt c<=n:=λG=>by
    obtain⟨a,c,q,D,v⟩:=yc za j G;have p:a∈(zr t).2:=by rw[D];simp
    have H:c∈(zr t).2:=by rw[D];simp
    exact⟨a,c,q,F.arg p,F.arg H,by have:=vf p v;omega,by have:=vf H v;omega⟩
   by_cases i:(zw t 133).1=nIf
   .rw[tG i,tG i]
   rw[tD i,tD i];by_cases d:(zw t 133).1=nAnd\/(zw t 133).1=nOr
   .rw[tG d,tG d];obtain⟨a,c,q,C,A,x,z⟩:=r<|d.imp_right .inl;rw[q];show(if zH w (n+1) a≠0 then zH w (n+1) a else zH w (n+1) c)=if zH w n a≠0 then zH w n a else zH w n c
    rw[m a x C,m c z A]
   rw[tD d,tD d];by_cases f:(zw t 133).1=nImp
   .rw[tG f,tG f];obtain⟨a,c,q,C,A,x,z⟩:=r<|.inr<|.inr<|.inl f;rw[q];show(if (clsF w (n+1) false 0 [] a).1≠0 then(clsF w (n+1) false 0 [] a).1 else zH w (n+1) c)=if (clsF w n false 0 [] a).1≠0 then(clsF w n false 0 [] a).1 else zH w n c
    rw[o false 0 [] a x C,m c z A]
   rw[tD f,tD f];by_cases g:(zw t 133).1=nPi\/(zw t 133).1=nSig
   .rw[tG g,tG g];obtain⟨a,q,D,v⟩:=xb za j g;have p:a∈(zr t).2:=by rw[D];simp
    rw[q];exact m (y9 a) (by have:=vf p v;have:=qZ (zP p);omega)<|F.body za p
   rw[tD g,tD g]
  .conv=>lhs;rw[clsF]
   conv=>rhs;rw[clsF]
   by_cases j:(zw t 131).2.2≠0
   .rw[tG j,tG j]
   rw[tD j,tD j];have j:(zw t 131).2.2=0:=A5 j
   have r:∀(G:(zw t 131).1=nAnd\/(zw t 131).1=nOr\/(zw t 131).1=nImp\/(zw t 131).1=nIf),∃a c,(zw t 131).2.1=[a,c]/\TG n a/\TG n c/\wt a<=n/\wt c<=n:=λG=>by
    obtain⟨a,c,q,D,v⟩:=yc za j G;have p:a∈(zr t).2:=by rw[D];simp
    have H:c∈(zr t).2:=by rw[D];simp
    exact⟨a,c,q,F.arg p,F.arg H,by have:=vf p v;omega,by have:=vf H v;omega⟩
   by_cases y:(zw t 131).1=[]
   .rw[tG y,tG y];have:(zw t 131).2.1.any (λu=> !patG (n+1) u 0)=(zw t 131).2.1.any (λu=> !patG n u 0):=by obtain⟨q,v⟩:=fN za j;rw[q,EF,List.any_eq_true,List.any_eq_true];have k:∀u∈(zr t).2,patG (n+1) u 0=patG n u 0:=λu E=>ZV n u 0 (by have:=vf E v;have:=Xx u;omega)<|zP E;exact⟨λ⟨u,E,e⟩=>⟨u,E,by rw[<-k u E];exact e⟩,λ⟨u,E,e⟩=>⟨u,E,by rw[k u E];exact e⟩⟩
    rw[this]
   rw[tD y,tD y];by_cases d:(zw t 131).1=nAnd
   .rw[tG d,tG d];obtain⟨a,c,q,C,A,x,z⟩:=r<|.inl d;rw[q];show(if (clsF w (n+1) b vs L a).1≠0 then clsF w (n+1) b vs L a else((clsF w (n+1) b vs L c).1,(clsF w (n+1) b vs L a).2++(clsF w (n+1) b vs L c).2))=if (clsF w n b vs L a).1≠0 then clsF w n b vs L a else((clsF w n b vs L c).1,(clsF w n b vs L a).2++(clsF w n b vs L c).2)
    rw[o b vs L a x C,o b vs L c z A]
   rw[tD d,tD d];by_cases g:(zw t 131).1=nPi
   .rw[tG g,tG g];obtain⟨a,q,D,v⟩:=xb za j<|.inl g;have p:a∈(zr t).2:=by rw[D];simp
    rw[q];exact o b _ _ (y9 a) (by have:=vf p v;have:=qZ (zP p);omega)<|F.body za p
   rw[tD g,tD g];by_cases f:(zw t 131).1=nImp
   .rw[tG f,tG f];obtain⟨a,c,q,C,A,x,z⟩:=r<|.inr<|.inr<|.inl f;rw[q];show(if zH w (n+1) a≠0 then(zH w (n+1) a,[]) else clsF w (n+1) b vs (L++[a]) c)=if zH w n a≠0 then(zH w n a,[]) else clsF w n b vs (L++[a]) c
    rw[m a x C,o b vs (L++[a]) c z A]
   rw[tD f,tD f];by_cases i:(zw t 131).1=nIf
   .rw[tG i,tG i];obtain⟨a,c,q,C,A,x,z⟩:=r<|.inr<|.inr<|.inr i;rw[q];show(if zH w (n+1) c≠0 then(zH w (n+1) c,[]) else clsF w (n+1) b vs (L++[c]) a)=if zH w n c≠0 then(zH w n c,[]) else clsF w n b vs (L++[c]) a
    rw[m c z A,o b vs (L++[c]) a x C]
   rw[tD i,tD i]
theorem fw (w:Bool){t:Tm}{m:Nat}(d:wt t<=m):∀n:Nat,m<=n->n<=1000000000->TG n t->zH w n t=zH w m t:=by
 intro n
 induction n with
 |zero=>intro h _ _;have:=xz t;omega
 |succ n ih=>
  intro h f b;by_cases e:m=n+1
  .rw[e]
  .rw[(Yn w n za).1 t za<|b.mono za,ih za za<|b.mono za]
theorem cls_le (w:Bool){b:Bool}{vs:Int}{L:List Tm}{t:Tm}{m:Nat}(f:wt t<=m):∀n:Nat,m<=n->n<=1000000000->TG n t->clsF w n b vs L t=clsF w m b vs L t:=by
 intro n
 induction n with
 |zero=>intro h _ _;have:=xz t;omega
 |succ n ih=>
  intro h g d;by_cases e:m=n+1
  .rw[e]
  .rw[(Yn w n za).2 b vs L t za<|d.mono za,ih za za<|d.mono za]
theorem Z3 (w:Bool):∀(n:Nat) (vs:Int) (L:List Tm) (t:Tm),(clsF w n false vs L t).1=0->clsF w n true vs L t=clsF w n false vs L t
 |0,_,_,_,_=>rfl
 |n+1,vs,L,t,h=>by
  rw[clsF] at h
  conv=>lhs;rw[clsF]
  conv=>rhs;rw[clsF]
  by_cases i:(zw t 131).2.2≠0
  .rw[tG i,tG i]
  rw[tD i] at h;rw[tD i,tD i];by_cases e:(zw t 131).1=[]
  .rw[tG e] at h;rw[tG e,tG e];by_cases j:(!(false||w)&&(zw t 131).2.1.any λu=> !patG n u 0)=true
   .rw[tG j] at h;cases h
   .rw[tD j,tD zb]
  rw[tD e] at h;rw[tD e,tD e];by_cases b:(zw t 131).1=nAnd
  .rw[tG b] at h;rw[tG b,tG b];by_cases z:(clsF w n false vs L<|at0 (zw t 131).2.1).1≠0
   .rw[tG z] at h;exact absurd h z
   .rw[tD z] at h;rw[Z3 w n vs L _<|A5 z,Z3 w n vs L _ h]
  rw[tD b] at h;rw[tD b,tD b];by_cases f:(zw t 131).1=nPi
  .rw[tG f] at h;rw[tG f,tG f];exact Z3 w n _ _ _ h
  rw[tD f] at h;rw[tD f,tD f];by_cases d:(zw t 131).1=nImp
  .rw[tG d] at h;rw[tG d,tG d];by_cases z:zH w n (at0 (zw t 131).2.1)≠0
   .rw[tG z,tG z]
   .rw[tD z] at h;rw[tD z,tD z];exact Z3 w n _ _ _ h
  rw[tD d] at h;rw[tD d,tD d];by_cases g:(zw t 131).1=nIf
  .rw[tG g] at h;rw[tG g,tG g];by_cases z:zH w n (at1 (zw t 131).2.1)≠0
   .rw[tG z,tG z]
   .rw[tD z] at h;rw[tD z,tD z];exact Z3 w n _ _ _ h
  rw[tD g,tD g]
theorem rW {t a c:Tm}(h:(zr t).2=[a,c])(b:(zr t).1.k=0):5+wt a+wt c<=wt t:=by
 obtain⟨s,n,x,y,r,rfl,e,_⟩:=ue (t:=t) (by rw[h];simp);rw[e] at h b;injection h with d f
 subst d;subst f;have g:4<=ms wb x:=by rw[XB,show x.k=0 from b];show 4<=4+_;omega
 unfold wt;simp only[ms,mss];have:wb 6 s=1:=rfl;omega
def GG (M:Nat)(g:Tm):Prop:=TG M g/\wt g<=M/\zH false M g=0
theorem GG.le {M m:Nat}{g:Tm}(h:GG M g)(b:m<=M)(d:wt g<=m)(e:M<=1000000000):GG m g:=⟨h.1.mono b,d,by rw[<-fw false d M b e h.1];exact h.2.2⟩
def TD (M W:Nat)(c:Cl):Prop:=TG M c.2.1/\wt c.2.1<=W/\((zr c.2.1).1.k=0/\logB (zr c.2.1).1.s=false)/\∃L,c.2.2=wL L/\gms wb L<=W/\∀g∈L,GG M g
theorem TD.mono {M W W':Nat}{c:Cl}(h:TD M W c)(g:W<=W'):TD M W' c:=by obtain⟨b,j,f,L,d,i,e⟩:=h;exact⟨b,za,f,L,d,za,e⟩
theorem qB (f:Bool):∀(n M:Nat),n<=M->n+M<=1000000000->∀(vs:Int) (L:List Tm) (t:Tm),wt t<=n->TG (n+M) t->(∀g∈L,TG (n+M) g/\wt g<=M/\zH false M g=0)->(clsF false n f vs L t).1=0->∀c∈(clsF false n f vs L t).2,(vs<=c.1/\c.1<=vs+wt t)/\TD M (gms wb L+wt t) c
 |0,_,_,_,_,_,t,h,_,_,_=>by have:=xz t;omega
 |n+1,M,Z,hM,vs,L,t,hw,W,I,h=>by
  rw[clsF] at h ⊢;have w:∀g∈L,TG (n+M) g/\wt g<=M/\zH false M g=0:=λg o=>⟨(I g o).1.mono za,(I g o).2⟩;have v:TG (n+M+1) t:=by rw[(za:n+M+1=n+1+M)];exact W
  by_cases r:(zw t 131).2.2≠0
  .rw[tG r] at h;exact absurd h r
  rw[tD r] at h ⊢;have r:(zw t 131).2.2=0:=A5 r;by_cases E:(zw t 131).1=[]
  .rw[tG E] at h ⊢;split at h
   .cases h
   .rename_i X;rw[tD X];intro c O;have O:c=(vs,t,wL L):=zp O;subst O;refine⟨⟨tU _,by show vs<=vs+wt t;omega⟩,W.mono za,by show wt t<=_;omega,?_,L,rfl,za,λg o=>⟨(I g o).1.mono za,(I g o).2⟩⟩;obtain⟨h0,⟨_,q,_⟩|⟨q,C,_⟩⟩:=kJ za r
    .exact⟨h0,q⟩
    .exact absurd (q.symm.trans E)<|log_ne C
  rw[tD E] at h ⊢;have y:∀(V:(zw t 131).1=nAnd\/(zw t 131).1=nOr\/(zw t 131).1=nImp\/(zw t 131).1=nIf),∃a c,(zw t 131).2.1=[a,c]/\TG (n+M) a/\TG (n+M) c/\5+wt a+wt c<=wt t:=λV=>by obtain⟨a,c,q,C,S⟩:=yc za r V;exact⟨a,c,q,v.arg<|by rw[C];simp,v.arg<|by rw[C];simp,rW C S⟩
  by_cases j:(zw t 131).1=nAnd
  .rw[tG j] at h ⊢;obtain⟨a,c,q,F,H,G⟩:=y<|.inl j;rw[q] at h ⊢;by_cases z:(clsF false n f vs L<|at0 [a,c]).1≠0
   .rw[tG z] at h;exact absurd h z
   .rw[tD z] at h ⊢;intro x hx;rcases A0.1 hx with hx|hx
    .have:=qB f n M za za vs L a za F w (A5 z) x hx;exact⟨⟨this.1.1,za⟩,this.2.mono za⟩
    .have:=qB f n M za za vs L c za H w h x hx;exact⟨⟨this.1.1,za⟩,this.2.mono za⟩
  rw[tD j] at h ⊢;by_cases A:(zw t 131).1=nPi
  .rw[tG A] at h ⊢;obtain⟨a,q,C,S⟩:=xb za r<|.inl A;have N:a∈(zr t).2:=by rw[C];simp
   have G:=vf N S;have hb:=qZ<|zP N;rw[q] at h ⊢;intro x hx;have o:=dZ wb L
   have:=qB f n M za za (vs+1) (L.map λg=>shT 0 1 g 0) (y9 a) za (v.body za N) (λg o=>by
    obtain⟨J,K,rfl⟩:=Ay.1 o;have q:=I J K;have Y:TG (n+M+1) J:=by rw[(za:n+M+1=n+1+M)];exact q.1
    have U:=Y.sh za;refine⟨U,by have:=oH (b:=wb) 0 1 J 0;have:=q.2.1;unfold wt at*;omega,?_⟩;exact((Y4 false M za).1 _ _ (U.mono za) (q.1.mono za)<|er_sh J 0).trans q.2.2) h x hx
   exact⟨⟨za,za⟩,this.2.mono za⟩
  rw[tD A] at h ⊢
  have p:∀g d:Tm,TG (n+M) g->TG (n+M) d->5+wt g+wt d<=wt t->zH false n g=0->(clsF false n f vs (L++[g]) d).1=0->∀x∈(clsF false n f vs (L++[g]) d).2,(vs<=x.1/\x.1<=vs+wt t)/\TD M (gms wb L+wt t) x:=λg d T td G o hd x hx=>by
   have:=qB f n M za za vs (L++[g]) d za td (λu hu=>by
    rcases A0.1 hu with hu|hu
    .exact w u hu
    .have:u=g:=zp hu;subst this;exact⟨T,za,by rw[fw false (m:=n) za M za za<|T.mono za];exact o⟩) hd x hx
   rw[Zc,gms,gms] at this;have e:wb 6 []+wb 0 nAnd=5:=rfl;exact⟨⟨this.1.1,za⟩,this.2.mono<|by unfold wt at*;omega⟩
  by_cases i:(zw t 131).1=nImp
  .rw[tG i] at h ⊢;obtain⟨a,c,q,F,H,G⟩:=y<|.inr<|.inr<|.inl i;rw[q] at h ⊢;by_cases z:zH false n (at0 [a,c])≠0
   .rw[tG z] at h;exact absurd h z
   .rw[tD z] at h ⊢;exact p a c F H G (A5 z) h
  rw[tD i] at h ⊢;by_cases D:(zw t 131).1=nIf
  .rw[tG D] at h ⊢;obtain⟨a,c,q,F,H,G⟩:=y<|.inr<|.inr<|.inr D;rw[q] at h ⊢;by_cases z:zH false n (at1 [a,c])≠0
   .rw[tG z] at h;exact absurd h z
   .rw[tD z] at h ⊢;exact p c a H F za (A5 z) h
  rw[tD D] at h;cases h
theorem f9 {b g:Tm}(d:validB b=true)(e:validB g=true):validB (andG b g)=true:=by
 rw[gO];have h:yV [andT,b,g]=true:=by rw[yV,yV,yV,yV,d,e];rfl
 rw[h];rfl
theorem oE {b g:Tm}(d:validB b=true)(e:validB g=true):zr (andG b g)=(andT,[b,g]):=by unfold zr;rw[tG ⟨rfl,f9 d e⟩];rfl
theorem nY {b g:Tm}(d:validB b=true)(e:validB g=true)(flex:Int):zw (andG b g) flex=(nAnd,[b,g],0):=by unfold zw;rw[oE d e];rfl
theorem and_goal (w:Bool)(n:Nat){b g:Tm}(d:validB b=true)(e:validB g=true):zH w (n+1) (andG b g)=if zH w n b≠0 then zH w n b else zH w n g:=by rw[zH,nY d e];rfl
theorem and_wt (b g:Tm):wt (andG b g)=5+wt b+wt g:=by unfold wt;rw[sf];rfl
theorem GG.and {M:Nat}{b g:Tm}(d:GG M b)(e:GG M g)(h:wt (andG b g)<=M)(f:M<=1000000000)(p:wt (andG b g)<=1000000):GG M (andG b g):=by have o:=and_wt b g;refine⟨⟨f9 d.1.1 e.1.1,by have:=Xx (andG b g);omega,andG_bd d.1.2.2 e.1.2.2⟩,h,?_⟩;obtain⟨m,rfl⟩:∃m,M=m+1:=⟨M-1,za⟩;have j:=d.le (m:=m) za za f;have i:=e.le (m:=m) za za f;rw[and_goal false m d.1.1 e.1.1,tD λq=>q j.2.2];exact i.2.2
theorem GG.foldl {M:Nat}(f:M<=1000000000):∀(l:List Tm) (x:Tm),GG M x->(∀g∈l,GG M g)->ms wb x+gms wb l<=M->ms wb x+gms wb l<=1000000->GG M (l.foldl andG x)
 |[],x,b,_,_,_=>b
 |g::l,x,b,d,h,m=>by have e:wb 6 []+wb 0 nAnd=5:=rfl;rw[gms] at h m;have j:=and_wt x g;unfold wt at j;exact GG.foldl f l (andG x g) (b.and (d g zb) (by unfold wt;omega) f<|by unfold wt;omega) (λu i=>d u<|tK _ i) za za
theorem pG:validB ZP=true:=zc
theorem GG.true {M:Nat}(h:4<=M)(b:M<=1000000000):GG M ZP:=by refine⟨⟨pG,by show 1<=1000000;omega,⟨λe=>absurd e za,trivial⟩⟩,h,?_⟩;obtain⟨m,rfl⟩:∃m,M=m+1:=⟨M-1,za⟩;rw[zH];rfl
theorem GG.fold {M:Nat}(f:4<=M)(d:M<=1000000000)(L:List Tm)(b:∀g∈L,GG M g)(e:gms wb L<=M)(i:gms wb L<=1000000):GG M (wL L):=by
 cases L with
 |nil=>exact GG.true f d
 |cons x L=>rw[gms] at e i;exact GG.foldl d L x (b x zb) (λu h=>b u<|tK _ h) za za
abbrev mkI (k a:Int):In1:=.mk k a noT0 [] []
def slotsF:Nat->Int->List Int
 |0,_=> []
 |n+1,f=>f::slotsF n (f+1)
def argI:Nat->List Tm->List In1
 |_,[]=> []
 |i,t::l=>.mk (if t.k=0\/t.k=2 then 1 else 0) i t [] []::argI (i+1) l
def lastK (l:List In1):Int:=match l.getLast? with|some x=>x.k|none=>0
def finI (l:List In1):List In1:=if lastK l=3 then l else l++[mkI 4 0]
abbrev Bf:=Bool->Tm->Int->Nat->Int×List In1
def wj (bf:Bf)(c:Cl)(fr:Int):Cd:=
 .mk (zr<|openG (slotsF c.1.toNat fr) c.2.1).1.s (zr<|openG (slotsF c.1.toNat fr) c.2.1).2.length fr c.1
  (bf true (openG (slotsF c.1.toNat fr) c.2.2) (fr+c.1) (zr<|openG (slotsF c.1.toNat fr) c.2.1).2.length).1
  (finI<|argI 0 (zr<|openG (slotsF c.1.toNat fr) c.2.1).2++(bf true (openG (slotsF c.1.toNat fr) c.2.2) (fr+c.1) (zr<|openG (slotsF c.1.toNat fr) c.2.1).2.length).2)
abbrev BoR:=Int×List In1
def bodA (r:BoR)(f:Int->Nat->BoR)(p:Nat):BoR:=((f r.1<|p+r.2.length).1,r.2++(f r.1<|p+r.2.length).2)
def bodO (r:BoR)(f:Int->Nat->BoR)(p:Nat):BoR:=
 ((f r.1<|p+1+r.2.length+1).1,mkI 9 ((p+1+r.2.length+1:Nat):Int)::(r.2++mkI 10 ((p+1+r.2.length+1+(f r.1<|p+1+r.2.length+1).2.length:Nat):Int)::(f r.1<|p+1+r.2.length+1).2))
def bodP (s:Int)(r:BoR):BoR:=(r.1,mkI 11 s::(r.2++[mkI 12 0]))
def bodS (s:Int)(r:BoR):BoR:=(r.1,mkI 13 s::r.2)
def bodI (c:List Cd)(r:BoR):BoR:=(r.1,.mk 14 0 noT0 [] c::(r.2++[mkI 15 0]))
def bodC:Nat->Bf
 |0,_,_,s,_=>(s,[])
 |n+1,last,t,s,p=>
  if (zr t).1.s=pS then(s,[]) else if (zr t).1.s=nFail then(s,[mkI 8 0]) else if (zr t).1.s=nCut then(s,[mkI 7 0]) else if (zr t).1.s=nAnd then bodA (bodC n false (at0 (zr t).2) s p) (bodC n last<|at1 (zr t).2) p else if (zr t).1.s=nOr then bodO (bodC n false (at0 (zr t).2) s<|p+1) (bodC n false<|at1 (zr t).2) p else if (zr t).1.s=nPi then bodP s<|bodC n false (suT 0 (vN4 s) (y9<|at0 (zr t).2) 0) (s+1)<|p+1 else if (zr t).1.s=nSig then bodS s<|bodC n last (suT 0 (vN4 s) (y9<|at0 (zr t).2) 0) (s+1)<|p+1 else if (zr t).1.s=nImp then bodI ((xV n true<|at0 (zr t).2).map λc=>wj (bodC n) c s)<|bodC n false (at1 (zr t).2) s<|p+1 else if (zr t).1.s=nEq then(s,[.mk 5 0 noT0 (zr t).2 []]) else if numB (zr t).1.s=true then(s,[.mk 6 0 t [] []]) else(s,[.mk (if last=true then 3 else 2) 0 t [] []])
def Zi (n:Nat)(c:Cl):Cd:=wj (bodC n) c 0
theorem ja (v:Int)(t:Tm):wt (suT 0 (vN4 v) t 0)<=wt t:=sP (b:=wb) (λ_=>tJ _) 0 v t 0
theorem TG.suV {M:Nat}{t:Tm}{v:Int}(h:TG M t)(e:M<=1000000000)(b:0<=v)(d:v<=4611686018427387904):TG M (suT 0 (vN4 v) t 0):=
 ⟨gh (M:=0) h.1 b d h.2.1,by have:=suV_sz v t;have:=h.2.1;omega,suV_bd (by have:=h.2.1;omega) h.2.2⟩
theorem GG.suV {M:Nat}{t:Tm}{v:Int}(h:GG M t)(b:M<=1000000000)(e:0<=v)(f:v<=4611686018427387904):GG M (suT 0 (vN4 v) t 0):=by have d:=h.1.suV b e f;exact⟨d,by have:=ja v t;have:=h.2.1;omega,((Y4 false M b).1 _ _ d h.1<|er_suV v t 0).trans h.2.2⟩
theorem TG.open {M:Nat}(f:M<=1000000000):∀(vs:List Int),(∀v∈vs,0<=v/\v<=4611686018427387904)->∀t:Tm,TG M t->TG M (openG vs t)/\wt (openG vs t)<=wt t:=by
 have key:∀(b:List Int),(∀v∈b,0<=v/\v<=4611686018427387904)->∀t:Tm,TG M t->TG M (openG b.reverse t)/\wt (openG b.reverse t)<=wt t:=by
  intro b
  induction b with
  |nil=>intro _ t h;rw[List.reverse_nil,bc t h.1];exact⟨h,tJ _⟩
  |cons v b ih=>intro d t h;rw[EV,<-KJ _ _ _ h.1];have:=d v zb;have e:=ih (λu g=>d u<|tK _ g) (suT 0 (vN4 v) t 0)<|h.suV f this.1 this.2;exact⟨e.1,AX e.2<|ja v t⟩
 intro vs d t h;have:=key vs.reverse (λv q=>d v<|List.mem_reverse.1 q) t h;rwa [List.reverse_reverse] at this
theorem GG.open {M:Nat}(d:M<=1000000000){vs:List Int}(e:∀v∈vs,0<=v/\v<=4611686018427387904){t:Tm}(h:GG M t):GG M (openG vs t)/\wt (openG vs t)<=wt t:=by have b:=TG.open d vs e t h.1;exact⟨⟨b.1,by have:=h.2.1;omega,((Y4 false M d).1 _ _ b.1 h.1<|oZ vs t).trans h.2.2⟩,b.2⟩
theorem fb {t:Tm}{flex:Int}(d:flex≠0)(h:(zw t flex).2.2=0)(b:logB (zr t).1.s=true):(zw t flex).1=(zr t).1.s:=by
 obtain⟨_,⟨_,q,_⟩|⟨q,_⟩⟩:=kJ d h
 .rw[q] at b;cases b
 .exact q
theorem GG.head {M:Nat}{t:Tm}(h:GG (M+1) t):(zw t 133).2.2=0:=by
 have:=h.2.2;rw[zH] at this;by_cases b:(zw t 133).2.2≠0
 .rw[tG b] at this;exact absurd this b
 .exact A5 b
theorem GG.two {M:Nat}{t:Tm}(h:GG (M+1) t)(i:(zr t).1.s=nAnd\/(zr t).1.s=nOr):∃a c,(zr t).2=[a,c]/\GG M a/\GG M c/\5+wt a+wt c<=wt t:=by
 have g:=h.head;have r:=fb za g (by rcases i with e|e<;>rw[e]<;>decide);have b:(zw t 133).1=nAnd\/(zw t 133).1=nOr:=by rw[r];exact i
 obtain⟨a,c,q,f,j⟩:=yc (t:=t) (flex:=133) za g<|b.imp_right .inl;have o:=rW f j;have m:=h.2.1;have d:=h.2.2;rw[zH,tD λp=>p g,tD (by rcases b with e|e<;>rw[e]<;>decide),tG b,q] at d;have d:(if zH false M a≠0 then zH false M a else zH false M c)=0:=d;by_cases z:zH false M a≠0
 .rw[tG z] at d;exact absurd d z
 .rw[tD z] at d;exact⟨a,c,f,⟨h.1.arg<|by rw[f];simp,za,A5 z⟩,⟨h.1.arg<|by rw[f];simp,za,d⟩,o⟩
theorem GG.one {M:Nat}(m:M<=1000000000){t:Tm}(h:GG (M+1) t)(g:(zr t).1.s=nPi\/(zr t).1.s=nSig):∃a,(zr t).2=[a]/\TG M a/\GG M (y9 a)/\3+wt (y9 a)<=wt t:=by
 have f:=h.head;have u:=fb za f (by rcases g with e|e<;>rw[e]<;>decide);have b:(zw t 133).1=nPi\/(zw t 133).1=nSig:=by rw[u];exact g
 obtain⟨a,q,i,o⟩:=xb (t:=t) (flex:=133) za f b;have d:a∈(zr t).2:=by rw[i];simp
 have w:=vf d o;have v:=qZ<|zP d;have r:=h.2.1;have j:=h.2.2;rw[zH,tD λp=>p f,tD (by rcases b with e|e<;>rw[e]<;>decide),tD (by rcases b with e|e<;>rw[e]<;>decide),tD (by rcases b with e|e<;>rw[e]<;>decide),tG b,q] at j;exact⟨a,i,h.1.arg d,⟨h.1.body m d,za,j⟩,za⟩
theorem GG.imp {M:Nat}{t:Tm}(h:GG (M+1) t)(g:(zr t).1.s=nImp):∃a c,(zr t).2=[a,c]/\TG M a/\(clsF false M false 0 [] a).1=0/\GG M c/\5+wt a+wt c<=wt t:=by
 have f:=h.head;have o:=fb za f (by rw[g];decide);have b:(zw t 133).1=nImp:=by rw[o];exact g
 obtain⟨a,c,q,e,i⟩:=yc (t:=t) (flex:=133) za f<|.inr<|.inr<|.inl b;have m:=rW e i;have j:=h.2.1;have d:=h.2.2;rw[zH,tD λp=>p f,tD<|by rw[b];decide,tD<|by rw[b];decide,tG b,q] at d;have d:(if (clsF false M false 0 [] a).1≠0 then(clsF false M false 0 [] a).1 else zH false M c)=0:=d;by_cases z:(clsF false M false 0 [] a).1≠0
 .rw[tG z] at d;exact absurd d z
 .rw[tD z] at d;exact⟨a,c,e,h.1.arg<|by rw[e];simp,A5 z,⟨h.1.arg<|by rw[e];simp,za,d⟩,m⟩
def OKc (n:Nat)(c:Cl)(fr:Int):Prop:=(0<=c.1/\c.1<=100000)/\(0<=fr/\fr+c.1+n+(n*n:Nat)<=1000000000)/\TG (n*n+n) c.2.1/\GG (n*n+n) c.2.2/\wt c.2.2<=n
theorem sq_s (n:Nat):(n+1)*(n+1)+(n+1)=(n*n+3*n+1)+1:=by rw[Nat.mul_add,AG];omega
theorem sq_b {n:Nat}(h:n<=10000):n*n<=100000000:=AX (Nat.mul_le_mul h h) za
theorem fold_wt2 (L:List Tm){W:Nat}(b:4<=W)(h:gms wb L<=W):wt (wL L)<=W:=by
 cases L with
 |nil=>exact b
 |cons x L=>have:=rM wb (x::L) zb;unfold wt;omega
theorem aR {n:Nat}(N:n+1<=10000){t:Tm}(M:wt t<=n+1)(h:GG ((n+1)*(n+1)+(n+1)) t)(w:(zr t).1.s=nImp)(s:Int)(H:0<=s)(K:s+n+n+(n*n:Nat)<=1000000000):
  ∃a c,(zr t).2=[a,c]/\TG n a/\wt a<=n/\(clsF false n true 0 [] a).1=0/\GG (n*n+n) c/\5+wt a+wt c<=wt t/\(∀x∈(clsF false n true 0 [] a).2,OKc n x s/\TD (n*n+n) (wt a) x/\x.1<=wt a):=by
 have C:=sq_b (n:=n) za;rw[sq_s] at h;obtain⟨a,c,e,o,A,D,p⟩:=h.imp w;have w1:wt a<=n:=za;have b:(clsF false n false 0 [] a).1=0:=by rw[<-cls_le false (m:=n) w1 _ za za o];exact A
 have d:=Z3 false n 0 [] a b;have f:(clsF false n true 0 [] a).1=0:=by rw[d];exact b
 refine⟨a,c,e,o.mono za,w1,f,D.le za za za,p,λx F=>?_⟩;obtain⟨⟨z,J⟩,j⟩:=qB true n (n*n+n) za za 0 [] a w1 (o.mono za) (λg I=>by cases I) f x F;have j:TD (n*n+n) (wt a) x:=j.mono (by simp only[gms];omega);obtain⟨r,y,v,L,i,G,u⟩:=j;have E:GG (n*n+n) x.2.2:=by rw[i];exact GG.fold za za L u za za
 exact⟨⟨⟨z,za⟩,⟨H,za⟩,r,E,by rw[i];exact fold_wt2 L za za⟩,⟨r,y,v,L,i,G,u⟩,za⟩
theorem kZ:∀(n:Nat),n<=10000->∀(b:Bool) (t:Tm) (s:Int) (p:Nat),wt t<=n->GG (n*n+n) t->0<=s->s+wt t<=1000000000->(bodC n b t s p).2.length<=wt t/\s<=(bodC n b t s p).1/\(bodC n b t s p).1<=s+wt t
 |0,_,_,t,_,_,h,_,_,_=>by have:=xz t;omega
 |n+1,N,b,t,s,p,J,h,i,L=>by
  have I:=sq_b (n:=n) za;have o:=xz t;rw[sq_s] at h;rw[bodC];by_cases C:(zr t).1.s=pS
  .rw[tG C];exact⟨AT _,tU _,by show s<=_;omega⟩
  rw[tD C];by_cases E:(zr t).1.s=nFail
  .rw[tG E];exact⟨o,tU _,by show s<=_;omega⟩
  rw[tD E];by_cases c3:(zr t).1.s=nCut
  .rw[tG c3];exact⟨o,tU _,by show s<=_;omega⟩
  rw[tD c3];by_cases A:(zr t).1.s=nAnd
  .rw[tG A];obtain⟨a,c,e,d,g,u⟩:=h.two<|.inl A;rw[e];have j:=kZ n za false a s p za (d.le za za za) i za;have H:=kZ n za b c (bodC n false a s p).1 (p+(bodC n false a s p).2.length) za (g.le za za za) za za;refine⟨?_,?_,?_⟩
   .show((bodC n false a s p).2++(bodC n b c (bodC n false a s p).1<|p+(bodC n false a s p).2.length).2).length<=_;rw[tE];omega
   .show s<=(bodC n b c (bodC n false a s p).1<|p+(bodC n false a s p).2.length).1;omega
   .show(bodC n b c (bodC n false a s p).1<|p+(bodC n false a s p).2.length).1<=_;omega
  rw[tD A];by_cases x:(zr t).1.s=nOr
  .rw[tG x];obtain⟨a,c,e,d,g,u⟩:=h.two<|.inr x;rw[e];show(bodO (bodC n false a s<|p+1) (bodC n false c) p).2.length<=_/\s<=(bodO (bodC n false a s<|p+1) (bodC n false c) p).1/\(bodO (bodC n false a s<|p+1) (bodC n false c) p).1<=_;have j:=kZ n za false a s (p+1) za (d.le za za za) i za;generalize M:bodC n false a s (p+1)=r at j ⊢;have H:=kZ n za false c r.1 (p+1+r.2.length+1) za (g.le za za za) za za;unfold bodO;simp only[tC,tE];exact⟨za,za,za⟩
  rw[tD x];by_cases w:(zr t).1.s=nPi
  .rw[tG w];obtain⟨a,e,F,d,u⟩:=h.one za<|.inl w;rw[e];have z:=(d.suV (v:=s) za i za).le (m:=n*n+n) za (by have:=ja s (y9 a);omega) za;have G:=ja s<|y9 a;have j:=kZ n za false (suT 0 (vN4 s) (y9 a) 0) (s+1) (p+1) za z za za;rw[show at0 [a]=a from rfl];unfold bodP;simp only[tC,tE,tR];exact⟨za,za,za⟩
  rw[tD w];by_cases y:(zr t).1.s=nSig
  .rw[tG y];obtain⟨a,e,F,d,u⟩:=h.one za<|.inr y;rw[e];have z:=(d.suV (v:=s) za i za).le (m:=n*n+n) za (by have:=ja s (y9 a);omega) za;have G:=ja s<|y9 a;have j:=kZ n za b (suT 0 (vN4 s) (y9 a) 0) (s+1) (p+1) za z za za;rw[show at0 [a]=a from rfl];unfold bodS;simp only[tC];exact⟨za,za,za⟩
  rw[tD y];by_cases c8:(zr t).1.s=nImp
  .rw[tG c8];obtain⟨a,c,e,F,K,g,u⟩:=h.imp c8;rw[e];have j:=kZ n za false c s (p+1) za (g.le za za za) i za;rw[show at1 [a,c]=c from rfl];unfold bodI;simp only[tC,tE,tR];exact⟨za,za,za⟩
  rw[tD c8];by_cases D:(zr t).1.s=nEq
  .rw[tG D];exact⟨o,tU _,by show s<=_;omega⟩
  rw[tD D];by_cases f:numB (zr t).1.s=true
  .rw[tG f];exact⟨o,tU _,by show s<=_;omega⟩
  rw[tD f];exact⟨o,tU _,by show s<=_;omega⟩
theorem xy:∀(n:Nat) (f:Int),(slotsF n f).length=n
 |0,_=>rfl
 |n+1,f=>by rw[slotsF,tC,xy n]
theorem KS:∀(n:Nat) (f:Int) (v:Int),v∈slotsF n f->f<=v/\v<f+n
 |0,_,v,h=>by cases h
 |n+1,f,v,h=>by
  rcases A1.1 h with rfl|h
  .exact⟨tU _,za⟩
  .have:=KS n (f+1) v h;omega
theorem qM:∀(n:Nat) (f:Int),slotsF (n+1) f=slotsF n f++[f+n]
 |0,f=>by rw[slotsF,slotsF,slotsF];simp
 |n+1,f=>by rw[slotsF,qM n<|f+1,slotsF,AE,show f+1+(n:Int)=f+((n+1:Nat):Int) by omega]
theorem l_ixOp (p:Tm->Bool)(b:List Tm):∀a:List Tm,(a++b).length<=B->(∀u∈b,AC tB 93 [aT u] [] (cb<|p u) [])->RPt tB 42 0 (ci<|ixF p b a.length) [] 1 ⟨[(0,aL<|a++b),(1,.c<|.fn (.func 93) [] []),(7,ci (a++b).length),(8,ci a.length)],[],0⟩:=by
 induction b with
 |nil=>intro a d _;refine rpv (XU ..) ?_;exact bF zb<|yF rfl
 |cons t b e=>
  intro a d ih;have m:=ltI' a t b;have g:=ih t tM;have f:=e (a++[t]) (zp d) λu i=>ih u<|tK _ i;rw[ap,nx,show(a++[t]).length=a.length+1 by simp] at f;rw[ixF];simp only[tE,tC,B] at d;have j:(a.length:Int)<((a++t::b).length:Int):=by simp only[tE,tC];omega
  refine rpv (XU ..) ?_;rw[w64 za za];refine bT j ⟨⟨rfl,za,m,xr ..⟩,p t,by rw[xN];exact g,zu (λh=>?_) λh=>?_⟩
  .rw[tG h];exact yF rfl
  .rw[tD<|by rw[h];simp];exact f
theorem c_anyOp (p:Tm->Bool)(l:List Tm)(d:l.length<=B)(h:∀u∈l,AC tB 93 [aT u] [] (cb<|p u) []):AC tB 25 [aL l,.c<|.fn (.func 93) [] []] [] (cb<|l.any p) []:=by
 have b:=l_ixOp p l [] d h;have e:AC tB 42 [aL l,.c<|.fn (.func 93) [] []] [] (ci<|ixF p l 0) []:=by refine acv (v42_F93 ..) ?_;rw[zq];exact⟨rfl,b⟩
 refine acv (v25_F93 ..) ?_;exact⟨_,e,zD<|by rw[vJ p l 0]⟩
theorem JE (t:Tm)(e:t.sz<=B):AC tB 93 [aT t] [] (cb (!validB t)) []:=by have h:=yz t e;obtain⟨a,b,c,d⟩:=t;refine acv (v93 ..) ?_;exact⟨_,h,zD rfl⟩
theorem c_kopen (c:Cl)(vs:List Int)(e:VR vs)(p:c.1=vs.length)(j:validB c.2.1=true)(m:validB c.2.2=true)(w:c.2.1.sz<=1000000)(r:c.2.2.sz<=1000000)(A:bd 1000000000000 c.2.1)(z:bd 1000000000000 c.2.2):
  AC tB 67 [aCl c,aL<|byV vs] [] (.tup [(true,cT<|openG vs c.2.1),(true,cT<|openG vs c.2.2)]) []:=by
 have b:(byV vs).length=vs.length:=by simp[byV]
 have h:=c_anyOp (λu=> !validB u) (byV vs) (by rw[b];have:=e.1;simp only[B];omega) (λu f=>by obtain⟨v,_,rfl⟩:=Ay.1 f;exact JE (vN4 v) (by show 1<=B;simp only[B];omega));have d:((byV vs).any λu=> !validB u)=false:=by rw[List.any_eq_false];intro u f;obtain⟨v,o,rfl⟩:=Ay.1 f;have:=e.2 v o;rw[KM this.1 this.2];simp
 rw[d] at h;have i:=JE c.2.1 (by simp only[B];omega);have g:=JE c.2.2 (by simp only[B];omega);rw[j] at i;rw[m] at g;have o1:=pn vs e c.2.1 j w A;have x:=pn vs e c.2.2 m r z;obtain⟨n,y,C⟩:=c;refine acv (v67 ..) ?_;exact⟨rfl,br_f (by rw[zq,b,p];simp) ⟨_,h,br_f rfl ⟨_,i,br_f rfl ⟨_,g,br_f rfl ⟨_,o1,_,x,.refl _,rfl⟩⟩⟩⟩⟩
abbrev stI (s:Int)(l:List In1):List AObj:=[.arr 2 [[qi s,.a<|.osl 1 8 0 l.length]],.arz 8<|FIs l]
abbrev stO (s:Int)(l:List In1):List AObj:=[.arr 2 [[qi s,.a<|.osl 2 8 0 l.length]],.gone,.arz 8<|FIs l]
abbrev ep2:TV:=.c<|.a<|.ep 0 2 0 0
abbrev aIw (x:In1):TV:=.agg [qi x.k,qi x.a,qi x.t.k,qf<|.str x.t.s,qi x.t.n,qf<|.sl false 4<|FTs x.t.l,qf<|.sl false 4<|FTs x.l,qf<|.sl false 6<|FCs x.c]
theorem FIs_snoc (l:List In1)(x:In1):FIs l++[FI x]=FIs (l++[x]):=by rw[uH,uH,E4];rfl
theorem take_FIs (l:List In1):take l.length (FIs l)=FIs l:=tN (by rw[zR];exact tJ _)
theorem pf (x:In1)(s:Int)(l:List In1)(b:l.length<=1000000000):AC tB 69 [ep2,aIw x] (stI s l) (ci l.length) (stO s<|l++[x]):=by
 refine acv (v69 x.k x.a x.t.k x.t.s x.t.n (FTs x.t.l) (FTs x.l) (FCs x.c) s l.length (FIs l) ..) ?_;rw[w64 (x:=((l.length+1:Nat):Int)-1) za za,take_FIs,<-FI_eta x,FIs_snoc];refine⟨tJ _,⟨by rw[zR];exact tJ _,by unfold zI;omega⟩,?_,?_⟩
 .rw[show((l.length+1:Nat):Int)-1=(l.length:Int) by omega];exact .refl _
 .show _=[AObj.arr 2 [[qi s,.a<|.osl 2 8 0 (l++[x]).length]],.gone,.arz 8<|FIs<|l++[x]];rw[tE];rfl
theorem vZ (k a s:Int)(l:List In1)(d:l.length<=1000000000):AC tB 69 [ep2,.agg [qi k,qi a,qi 0,qf<|.str [],qi 0,qf .N,qf .N,qf .N]] (stI s l) (ci l.length) (stO s<|l++[mkI k a]):=
 (pf (mkI k a) s l d).args ⟨.refl _,KQ (a:=[.int .i64 k,.int .i64 a,.int .i64 0,.str [],.int .i64 0,.N,.N,.N]) (b:=[.int .i64 k,.int .i64 a,.int .i64 0,.str [],.int .i64 0,.sl false 4 [],.sl false 4 [],.sl false 6 []]) ⟨.refl _,.refl _,.refl _,.refl _,.refl _,.N 4,.N 4,.N 6,trivial⟩,trivial⟩
theorem WX (k a:Int)(t:Tm)(s:Int)(l:List In1)(d:l.length<=1000000000):AC tB 69 [ep2,.agg [qi k,qi a,qi t.k,qf<|.str t.s,qi t.n,qf<|.sl false 4<|FTs t.l,qf .N,qf .N]] (stI s l) (ci l.length) (stO s<|l++[.mk k a t [] []]):=
 (pf (.mk k a t [] []) s l d).args ⟨.refl _,KQ (a:=[.int .i64 k,.int .i64 a,.int .i64 t.k,.str t.s,.int .i64 t.n,.sl false 4<|FTs t.l,.N,.N]) (b:=[.int .i64 k,.int .i64 a,.int .i64 t.k,.str t.s,.int .i64 t.n,.sl false 4<|FTs t.l,.sl false 4 [],.sl false 6 []]) ⟨.refl _,.refl _,.refl _,.refl _,.refl _,.refl _,.N 4,.N 6,trivial⟩,trivial⟩
theorem c_pputL (k a:Int)(m:List Tm)(s:Int)(l:List In1)(d:l.length<=1000000000):AC tB 69 [ep2,.agg [qi k,qi a,qi 0,qf<|.str [],qi 0,qf .N,qf<|.sl false 4<|FTs m,qf .N]] (stI s l) (ci l.length) (stO s<|l++[.mk k a noT0 m []]):=
 (pf (.mk k a noT0 m []) s l d).args ⟨.refl _,KQ (a:=[.int .i64 k,.int .i64 a,.int .i64 0,.str [],.int .i64 0,.N,.sl false 4<|FTs m,.N]) (b:=[.int .i64 k,.int .i64 a,.int .i64 0,.str [],.int .i64 0,.sl false 4 [],.sl false 4<|FTs m,.sl false 6 []]) ⟨.refl _,.refl _,.refl _,.refl _,.refl _,.N 4,.refl _,.N 6,trivial⟩,trivial⟩
theorem c_pputC (k a:Int)(m:List Cd)(s:Int)(l:List In1)(d:l.length<=1000000000):AC tB 69 [ep2,.agg [qi k,qi a,qi 0,qf<|.str [],qi 0,qf .N,qf .N,qf<|.sl false 6<|FCs m]] (stI s l) (ci l.length) (stO s<|l++[.mk k a noT0 [] m]):=
 (pf (.mk k a noT0 [] m) s l d).args ⟨.refl _,KQ (a:=[.int .i64 k,.int .i64 a,.int .i64 0,.str [],.int .i64 0,.N,.N,.sl false 6<|FCs m]) (b:=[.int .i64 k,.int .i64 a,.int .i64 0,.str [],.int .i64 0,.sl false 4 [],.sl false 4 [],.sl false 6<|FCs m]) ⟨.refl _,.refl _,.refl _,.refl _,.refl _,.N 4,.N 4,.refl _,trivial⟩,trivial⟩
theorem dc (a b:List In1):FIs (a++b)=FIs a++FIs b:=by rw[uH,uH,uH,E4]
theorem cy {α:Type}(x y:α):∀(a b:List α),(a++x::b).set a.length y=a++y::b
 |[],_=>rfl
 |z::a,b=>by rw[AE,tC,List.set_cons_succ,cy x y a b];rfl
theorem c_phere (a b:List In1)(k v s:Int)(h:a.length<=1000000000):AC tB 151 [ep2,ci a.length] (stI s<|a++mkI k v::b) (.tup []) (stO s<|a++mkI k ((a++mkI k v::b).length:Nat)::b):=by
 refine acv (v151 a.length s (a++mkI k v::b).length (FIs<|a++mkI k v::b) ..) ?_;have e:FIs (a++mkI k v::b)=FIs a++FI (mkI k v)::FIs b:=by rw[dc];rfl
 have g:0+toNat (a.length:Int)=(FIs a).length:=by rw[zR];omega
 have f:getD (FIs a++FI (mkI k v)::FIs b) (FIs a).length []=FI (mkI k v):=by simp[getD]
 rw[e,g,f,cy];refine⟨⟨za,by rw[tE,tC];omega⟩,⟨by rw[tE,tC];omega,si _⟩,.refl _,?_⟩;generalize d:(a++mkI k v::b).length=n;have hn2:(a++mkI k (n:Nat)::b).length=n:=by rw[<-d,tE,tE];rfl
 show _=[AObj.arr 2 [[qi s,.a<|.osl 2 8 0 (a++mkI k (n:Nat)::b).length]],.gone,.arz 8<|FIs<|a++mkI k (n:Nat)::b];rw[hn2,dc];rfl
theorem sQ (n:Int):AC tB 66 [ci n] [] (aT<|vN4 n) []:=by refine acv (v66 ..) ?_;exact uw<|leT zO
theorem mE (k:Int)(t:Tm)(s:Int)(l:List In1)(j:l.length<=1000000000)(r:0<=s)(p:s<=1000000000)(e:validB t=true)(o:t.sz<=1000000)(g:bd 1000000000000 t):
  AC tB 132 [ep2,ci k,aT t] (stI s l) (aT<|suT 0 (vN4 s) (y9 t) 0) (stO (s+1)<|l++[mkI k s]):=by
 have i:=JG e;have f:=iB za e g;have h:=dl t e (by simp only[B];omega)<|yQ (by simp only[M61];omega) _ g;have m:=dB (y9 t) (vN4 s) 0 (by show 1<=B;simp only[B];omega) (by show(y9 t).sz+nd (y9 t)*1<=B;have:=nd_sz (y9 t);simp only[B];omega) (yQ (by simp only[M61];omega) _ f) (YE _ _) za (by simp only[M61];omega);have c3:=vZ k s (s+1) l j;obtain⟨a,b,c,d⟩:=t;refine acv (v132 k a b c (FTs d) s l.length (FIs l) ..) ?_;rw[w64 (x:=s+1) za za];exact⟨vN4 s,sQ s,(l.length,s+1,l++[mkI k s]),c3,_,h,_,m,.refl _,rfl⟩
def BdC (n:Nat):Prop:=∀(last:Bool) (t:Tm) (s:Int) (l:List In1) (p:Nat),p=l.length->wt t<=n->GG (n*n+n) t->0<=s->s+wt t+(n*n:Nat)<=1000000000->l.length+wt t<=1000000000->
 AC tB 99 [ep2,aT t,cb last] (stI s l) (.tup []) (stO (bodC n last t s p).1<|l++(bodC n last t s p).2)
theorem ab (L a b:List In1)(k v i:Int)(N:Nat)(s:Int)(e:L=a++mkI k v::b)(f:L.length=N)(d:i=(a.length:Int))(g:a.length<=1000000000):AC tB 151 [ep2,ci i] (stI s L) (.tup []) (stO s<|a++mkI k (N:Nat)::b):=by subst f;subst e;subst d;exact c_phere a b k v s g
theorem uq {s b:Int}{l l':List In1}(e:s=b)(d:l=l'):TV.Le (.tup []) (.tup [])/\stO s l=stO b l':=by subst e;subst d;exact rrl
theorem c_por {n:Nat}(f:n<=10000)(h:BdC n)(a b:Tm)(s:Int)(l:List In1)(e:GG (n*n+n) a)(g:GG (n*n+n) b)(z:5+wt a+wt b<=n+1)(i:0<=s)(D:s+wt a+wt b+5+(n*n:Nat)<=1000000000)(F:l.length+wt a+wt b+5<=1000000000):
  AC tB 131 [ep2,aT a,aT b] (stI s l) (.tup []) (stO (bodO (bodC n false a s<|l.length+1) (bodC n false b) l.length).1<|l++(bodO (bodC n false a s<|l.length+1) (bodC n false b) l.length).2):=by
 have x:=vZ 9 0 s l za;have E:=kZ n f false a s (l.length+1) za e i za;unfold BdC at h;have o:=h false a s (l++[mkI 9 0]) (l.length+1) zb za e i za (by simp only[tE,tC,tR];omega);generalize A:bodC n false a s (l.length+1)=r at*;have v:=vZ 10 0 r.1 (l++[mkI 9 0]++r.2) (by simp only[tE,tC,tR];omega);have p:(l++[mkI 9 0]++r.2++[mkI 10 0]).length=l.length+1+r.2.length+1:=by simp only[tE,tC,tR]
 have y:=ab (l++[mkI 9 0]++r.2++[mkI 10 0]) l (r.2++[mkI 10 0]) 9 0 l.length (l.length+1+r.2.length+1) r.1 zb p rfl za;have C:=kZ n f false b r.1 (l.length+1+r.2.length+1) za g za za;have u:=h false b r.1 (l++mkI 9 ((l.length+1+r.2.length+1:Nat):Int)::(r.2++[mkI 10 0])) (l.length+1+r.2.length+1) (by simp only[tE,tC,tR];omega) za g za za (by simp only[tE,tC,tR];omega);unfold bodO;generalize j:bodC n false b r.1 (l.length+1+r.2.length+1)=d at*;have m:(l++mkI 9 ((l.length+1+r.2.length+1:Nat):Int)::(r.2++[mkI 10 0])++d.2).length=l.length+1+r.2.length+1+d.2.length:=by simp only[tE,tC,tR];omega
 have w:=ab (l++mkI 9 ((l.length+1+r.2.length+1:Nat):Int)::(r.2++[mkI 10 0])++d.2) (l++mkI 9 ((l.length+1+r.2.length+1:Nat):Int)::r.2) d.2 10 0 ((l++[mkI 9 0]++r.2).length:Nat) (l.length+1+r.2.length+1+d.2.length) d.1 zb m (by simp only[tE,tC,tR];omega) (by simp only[tE,tC];omega);refine acv (v131 a.k a.s a.n (FTs a.l) b.k b.s b.n (FTs b.l) s l.length (FIs l) ..) ?_;refine⟨(_,_,_),x,(_,_),o,(_,_,_),v,(_,_),y,(_,_),u,(_,_),w,uq rfl ?_⟩;simp
theorem px (a:List In1)(x:In1):lastK (a++[x])=x.k:=by unfold lastK;rw[List.getLast?_append];rfl
theorem c_pfin {n:Nat}(u:n<=10000)(h:BdC n)(t:Tm)(s:Int)(l:List In1)(p:Nat)(y:p=l.length)(g:wt t<=n)(e:GG (n*n+n) t)(d:0<=s)(v:s+wt t+(n*n:Nat)<=1000000000)(j:l.length+wt t<=1000000000):
  AC tB 70 [ep2,aT t] (stI s l) (.tup []) (stO (bodC n true t s p).1<|finI<|l++(bodC n true t s p).2):=by
 have i:=h true t s l p y g e d v j;have bb:=kZ n u true t s p g e d za;generalize bodC n true t s p=r at*;have b:=vZ 4 0 r.1 (l++r.2) (by rw[tE];omega);have f:(l++r.2).length<=1000000000:=by rw[tE];omega
 refine acv (v70 t.k t.s t.n (FTs t.l) s l.length (FIs l) ..) ?_;refine⟨(r.1,l++r.2),i,?_⟩;dsimp only;clear i;generalize l++r.2=m at*;rw[w64 (x:=((m.length:Nat):Int)-1) za za];unfold finI;rcases EY m with rfl|⟨a,x,rfl⟩
 .exact br_t rfl ⟨(_,_,_),b,.refl _,by rw[tD zc]⟩
 .rw[List.concat_eq_append] at*;have o:0+toNat (((a++[x]).length:Nat)-1:Int)=a.length:=by rw[tE];simp only[tC,tR];omega
  have w:getD (FIs<|a++[x]) a.length []=FI x:=by rw[dc];simp[getD,zR,FIs,AQ]
  rw[px];refine br_f (by simp only[tE,tC,tR];simp;omega) ?_;rw[o,w];refine⟨⟨by rw[tE];simp only[tC,tR];omega,za⟩,⟨by rw[zR,tE];simp only[tC,tR];omega,by cases x;rfl,rfl⟩,?_⟩;rw[FI0];refine zu (λq=>⟨(_,_,_),b,.refl _,?_⟩) λq=>⟨.refl _,?_⟩
  .rw[tD<|zp q]
  .rw[tG<|zp q]
theorem K6:∀(a:List Tm) (i:Nat) (t:Tm),argI i (a++[t])=argI i a++[.mk (if t.k=0\/t.k=2 then 1 else 0) (i+a.length:Nat) t [] []]
 |[],i,t=>by rw[E0,argI,argI,argI];simp
 |x::a,i,t=>by rw[AE,argI,argI,K6 a (i+1) t,AE,tC,(za:i+1+a.length=i+(a.length+1))]
theorem Y9:∀(a:List Tm) (i:Nat),(argI i a).length=a.length
 |[],_=>rfl
 |x::a,i=>by rw[argI,tC,tC,Y9 a]
abbrev z6:List WV:=[qf<|.str [],qi 0,qi 0,qi 0,qi 0,qf .N]
abbrev cCl9 (c:Cl):List WV:=[qi c.1,qi c.2.1.k,qf<|.str c.2.1.s,qi c.2.1.n,qf<|.sl false 4<|FTs c.2.1.l,qi c.2.2.k,qf<|.str c.2.2.s,qi c.2.2.n,qf<|.sl false 4<|FTs c.2.2.l]
abbrev hp5 (c:Cl)(bo hh:Tm)(s:Int)(m:List In1):AHeap:=[(0,.arr 9 [cCl9 c]),(1,.arr 6 [z6]),(2,.arr 4 [cT bo]),(3,.arr 4 [cT hh]),(4,.arr 2 [[qi s,.a<|.osl 5 8 0 m.length]]),(5,.arz 8<|FIs m)]
abbrev ev5 (fr:Int)(xs:List Tm)(i:Int):Env:=[(1,ci fr),(2,.c<|.a<|.ep 0 9 0 0),(4,.c<|.a<|.ep 1 6 0 0),(8,.c<|.a<|.ep 2 4 0 0),(9,.c<|.a<|.ep 3 4 0 0),(10,aL xs),(11,.c<|.a<|.ep 4 2 0 0),(45,aL xs),(46,ci xs.length),(47,ci i)]
theorem bZ {n:Nat}(C:n<=10000)(h:BdC n)(c:Cl)(d i:Tm)(fr s:Int)(xs:List Tm)(D:wt d<=n)(A:GG (n*n+n) d)(v:0<=s)(E:s+wt d+(n*n:Nat)<=1000000000)(u:xs.length<=1000000):
  ∀(b a:List Tm),xs=a++b->RPt tB 45 0 (aC<|.mk i.s xs.length fr c.1 (bodC n true d s xs.length).1<|finI<|argI 0 xs++(bodC n true d s xs.length).2) [] 5 ⟨ev5 fr xs a.length,hp5 c d i s<|argI 0 a,6⟩
 |[],a,j=>by
  have F:a=xs:=by rw[j,tY]
  subst F;have y:=Y9 a 0;have k:=c_pfin C h d s (argI 0 a) a.length y.symm D A v E (by rw[y];omega);refine rpv (v45_5a ..) ?_;refine br_f zb ⟨((bodC n true d s a.length).1,finI<|argI 0 a++(bodC n true d s a.length).2),k,rfl,⟨rfl,by rw[zR];simp⟩,?_,rfl⟩
  .rw[A3,tN<|by rw[zR];exact tJ _,zq];exact .refl _
 |t::b,a,j=>by
  have ih:=bZ C h c d i fr s xs D A v E u b (a++[t]) (by rw[j];simp);rw[K6,nx,A4] at ih;have r:a.length<xs.length:=by rw[j];simp
  have e:getD (FTs xs) (toNat (a.length:Int)) []=FT t:=by rw[j];exact midI ..
  have g:∀o:Int,(if t.k=0\/t.k=2 then 1 else 0)=o->∃z:Int×Int×List In1,AC tB 69 [ep2,.agg [qi o,qi a.length,qi t.k,qf<|.str t.s,qi t.n,qf<|.sl false 4<|FTs t.l,qf .N,qf .N]]
    [.arr 2 [[qi s,.a<|.osl 1 8 0 (argI 0 a).length]],.arz 8<|FIs<|argI 0 a] (ci z.1) [.arr 2 [[qi z.2.1,.a<|.osl 2 8 0 z.2.2.length]],.gone,.arz 8<|FIs z.2.2]/\
    RPt tB 45 0 (aC<|.mk i.s xs.length fr c.1 (bodC n true d s xs.length).1<|finI<|argI 0 xs++(bodC n true d s xs.length).2) [] 5 ⟨ev5 fr xs<|(a.length:Int)+1,hp5 c d i z.2.1 z.2.2,6⟩:=λo G=>by
   have k:=WX o a.length t s (argI 0 a) (by rw[Y9];omega);rw[G] at ih;exact⟨(_,_,_),k,ih⟩
  refine rpv (v45_5a ..) ?_;rw[w64 (x:=(a.length:Int)+1) za za,e];obtain⟨k,p,m,H⟩:=t;refine br_t (zp r) ⟨⟨rfl,za,by rw[zq];omega,yD<|.mk k p m H⟩,zu (λq=>?_) λq=>zu (λf=>?_) λf=>?_⟩
  .have q:(k==0)=true:=q;have q:k=0:=zp q;exact g 1 (by rw[tG<|.inl q])
  .have f:(k==2)=true:=f;have f:k=2:=zp f;exact g 1 (by rw[tG<|.inr f])
  .have q:(k==0)=false:=q;have f:(k==2)=false:=f;have q:¬k=0:=zp q;have f:¬k=2:=zp f;exact g 0 (by rw[tD λw=>w.elim q f])
abbrev ev1 (fr:Int)(xs:WV)(v i:Int):Env:=[(1,ci fr),(2,.c<|.a<|.ep 0 9 0 0),(4,.c<|.a<|.ep 1 6 0 0),(5,.c xs),(16,ci v),(17,ci i)]
def CpG (n:Nat)(c:Cl)(fr:Int):Prop:=∀by_:List Tm,by_=byV (slotsF c.1.toNat fr)->∃z:Tm×Tm,AC tB 67 [aCl c,aL by_] [] (.tup [(true,cT z.1),(true,cT z.2)]) []/\∃y:Tm×List Tm,AC tB 68 [aT z.1] [] (.tup [(true,cT y.1),(false,[qf<|.sl false 4<|FTs y.2])]) []/\
 RPt tB 45 0 (aC<|wj (bodC n) c fr) [] 5 ⟨ev5 fr y.2 0,hp5 c z.2 y.1 (fr+c.1) [],6⟩
theorem byV_snoc (n:Nat)(fr:Int):FTs (byV<|slotsF n fr)++[FT4<|vN4<|fr+n]=FTs (byV<|slotsF (n+1) fr):=by rw[qM];show FTs ((slotsF n fr).map vN4)++_=FTs ((slotsF n fr++[fr+n]).map vN4);rw[E4,yf,yf,E4];rfl
theorem kX {n:Nat}{fr:Int}(f:0<=fr)(e:fr+n<=1000000000)(b:n<=1000000):VR (slotsF n fr):=⟨by rw[xy];exact b,λv d=>by have:=KS n fr v d;omega⟩
theorem cpG {n:Nat}(g:n<=10000)(h:BdC n)(c:Cl)(fr:Int)(r:OKc n c fr):CpG n c fr:=by
 obtain⟨⟨w,u⟩,⟨f0,f1⟩,b,d,x⟩:=r;have m:=sq_b g;have e:VR (slotsF c.1.toNat fr):=kX f0 za za;intro by_ f;subst f;have o:=c_kopen c (slotsF c.1.toNat fr) e (by rw[xy];omega) b.1 d.1.1 b.2.1 d.1.2.1 (yQ za _ b.2.2)<|yQ za _ d.1.2.2;obtain⟨i,_⟩:=TG.open za _ e.2 _ b;obtain⟨j,w1⟩:=GG.open za e.2 d;have p:(openG (slotsF c.1.toNat fr) c.2.1).sz<=B:=by have:=i.2.1;simp only[B];omega
 have k:=kK (openG (slotsF c.1.toNat fr) c.2.1) p;have v:=(ZR<|openG (slotsF c.1.toNat fr) c.2.1).2.2;have l5:=bZ g h c (openG (slotsF c.1.toNat fr) c.2.2) (zr<|openG (slotsF c.1.toNat fr) c.2.1).1 fr (fr+c.1) (zr<|openG (slotsF c.1.toNat fr) c.2.1).2 za j za za (by have:=i.2.1;omega) (zr<|openG (slotsF c.1.toNat fr) c.2.1).2 [] rfl;exact⟨(_,_),o,zr<|openG (slotsF c.1.toNat fr) c.2.1,k,l5⟩
theorem aw {n:Nat}(c:Cl)(fr:Int)(f:CpG n c fr)(g:c.1<=100000)(f0:0<=fr)(f1:fr+c.1<=1000000000):∀(k j:Nat),0<j->(j+k:Int)=c.1->
  RPt tB 45 0 (aC<|wj (bodC n) c fr) [] 1 ⟨ev1 fr (.a<|.osl 2 4 0 j) c.1 j,[(0,.arr 9 [cCl9 c]),(1,.arr 6 [z6]),(2,.arz 4<|FTs<|byV<|slotsF j fr)],3⟩
 |0,j,h,d=>by
  have e:c.1.toNat=j:=za;obtain⟨z,o,y,k,l5⟩:=f (byV<|slotsF j fr) (by rw[e]);have b:(FTs<|byV<|slotsF j fr).length=j:=by rw[zq,byV,Ax,xy]
  refine rpv (v45_1b ..) ?_;rw[w64 (x:=fr+c.1) za za];refine br_f zj ⟨⟨rfl,by rw[b];omega⟩,z,?_,y,k,rfl,?_⟩
  .rw[A3,tN<|by rw[b];exact tJ _];exact o
  .rw[zq];exact l5
 |k+1,j,h,d=>by
  have ih:=aw c fr f g f0 f1 k (j+1) za za;have b:(FTs<|byV<|slotsF j fr).length=j:=by rw[zq,byV,Ax,xy]
  refine rpv (v45_1b ..) ?_;rw[w64 (x:=fr+j) za za,w64 (x:=(j:Int)+1) za za];refine br_t (AD za) ⟨vN4<|fr+j,sQ _,tJ _,⟨by rw[b];exact tJ _,by unfold zI;omega⟩,?_⟩;rw[tN<|by rw[b];exact tJ _,byV_snoc];exact ih
theorem fZ {n:Nat}(i:n<=10000)(h:BdC n)(c:Cl)(fr:Int)(f:OKc n c fr):AC tB 45 [aCl c,ci fr] [] (aC<|wj (bodC n) c fr) []:=by
 have d:=cpG i h c fr f;obtain⟨⟨j,g⟩,⟨f0,f1⟩,_⟩:=f;refine acv (v45 ..) ?_;refine rpv (v45_1a fr c.1 0 c.1 c.2.1.k c.2.1.s c.2.1.n (FTs c.2.1.l) c.2.2.k c.2.2.s c.2.2.n (FTs c.2.2.l) ..) ?_;rw[w64 (x:=fr+c.1) za za,w64 (x:=fr+0) za za];refine zu (λq=>⟨vN4<|fr+0,sQ _,tJ _,zc,?_⟩) λq=>?_
 .have q:=hU q;obtain⟨m,p⟩:∃m:Nat,c.1=m+1:=⟨(c.1-1).toNat,za⟩;have l:=aw c fr d g f0 za m 1 za za;have e:byV (slotsF 1 fr)=[vN4<|fr+0]:=by rw[Ef];rfl
  rw[e] at l;exact l
 .have q:=tP q;have b:c.1=0:=za;obtain⟨z,o,y,k,l5⟩:=d [] (by rw[b];rfl);refine⟨z,o.args ⟨.refl _,.c _ _<|.a _ _<|.fz _ _ zO,trivial⟩,y,k,rfl,?_⟩;rw[zq];exact l5
theorem bq (l:List Cd)(x:Cd):FCs l++[[.str x.nm,.int .i64 x.ar,.int .i64 x.fr,.int .i64 x.vs,.int .i64 x.sl,.sl false 8<|FIs x.ins]]=FCs (l++[x]):=by rw[jo,jo,E4];show _=List.map FC l++[FC x];rw[iG x]
abbrev evI (w:WV)(xs:List Cl)(i:Int):Env:=[(0,ep2),(5,.c<|.a<|.ep 3 4 0 0),(8,.c w),(16,aCls xs),(17,ci xs.length),(18,ci i)]
abbrev hpI (s:Int)(l:List In1)(g:Tm):AHeap:=[(0,.arr 2 [[qi s,.a<|.osl 2 8 0 l.length]]),(1,.gone),(2,.arz 8<|FIs l),(3,.arr 4 [cT g])]
theorem bB {n:Nat}(p:n<=10000)(h:BdC n)(g:Tm)(s:Int)(l:List In1)(b:List Cd)(f:wt g<=n)(j:GG (n*n+n) g)(i:0<=s)(m:s+wt g+(n*n:Nat)<=1000000000)(u:l.length+wt g+1<=1000000000):
  ∃e:Int×List In1,AC tB 99 [ep2,aT g,cb false] (stI s<|l++[.mk 14 0 noT0 [] b]) (.tup []) (stO e.1 e.2)/\∃d:Int×Int×List In1,AC tB 69 [ep2,.agg [qi 15,qi 0,qi 0,qf<|.str [],qi 0,qf .N,qf .N,qf .N]] (stI e.1 e.2) (ci d.1) (stO d.2.1 d.2.2)/\
   (TV.Le (.tup []) (.tup [])/\stO d.2.1 d.2.2=stO (bodI b<|bodC n false g s<|l.length+1).1 (l++(bodI b<|bodC n false g s<|l.length+1).2)):=by
 have k:=h false g s (l++[.mk 14 0 noT0 [] b]) (l.length+1) zb f j i m (by rw[tE];simp only[tC,tR];omega);have bb:=kZ n p false g s (l.length+1) f j i za;generalize bodC n false g s (l.length+1)=r at*;have o:=vZ 15 0 r.1 (l++[.mk 14 0 noT0 [] b]++r.2) (by simp only[tE,tC,tR];omega);refine⟨(_,_),k,(_,_,_),o,uq rfl ?_⟩;unfold bodI;simp
theorem l_pimp {n:Nat}(m:n<=10000)(h:BdC n)(g:Tm)(s:Int)(l:List In1)(xs:List Cl)(j:xs.length<=1000000)(p:∀x∈xs,OKc n x s)(u:wt g<=n)(v:GG (n*n+n) g)(w:0<=s)(r:s+wt g+(n*n:Nat)<=1000000000)(o:l.length+wt g+1<=1000000000):
  ∀(b a:List Cl),xs=a++b->a≠[]->RPt tB 133 2 (.tup []) (stO (bodI (xs.map λc=>wj (bodC n) c s)<|bodC n false g s<|l.length+1).1<|l++(bodI (xs.map λc=>wj (bodC n) c s)<|bodC n false g s<|l.length+1).2) 1
   ⟨evI (.a<|.osl 4 6 0 a.length) xs a.length,hpI s l g++[(4,.arz 6<|FCs<|a.map λc=>wj (bodC n) c s)],5⟩
 |[],a,f,_=>by
  have D:a=xs:=by rw[f,tY]
  subst D;have d:(FCs<|a.map λc=>wj (bodC n) c s).length=a.length:=by rw[yB,Ax]
  obtain⟨y,z,C,A,e⟩:=bB m h g s l (a.map λc=>wj (bodC n) c s) u v w r o;refine rpv (rv ..) ?_;refine br_f zb ⟨⟨rfl,by rw[d];omega⟩,((l.length:Int),s,l++[.mk 14 0 noT0 []<|a.map λc=>wj (bodC n) c s]),?_,y,z,C,A,e⟩;rw[A3,tN<|by rw[d];exact tJ _];exact c_pputC 14 0 (a.map λc=>wj (bodC n) c s) s l za
 |c::b,a,f,E=>by
  have ih:=l_pimp m h g s l xs j p u v w r o b (a++[c]) (by rw[f];simp) zb;rw[nx,E4,tE] at ih;have d:(FCs<|a.map λc=>wj (bodC n) c s).length=a.length:=by rw[yB,Ax]
  have i:a.length<xs.length:=by rw[f];simp
  have e:getD (CLs xs) (toNat (a.length:Int)) []=FL c:=by rw[f];exact ZC ..
  have k:=fZ m h c s<|p c<|by rw[f];simp
  refine rpv (rv ..) ?_;rw[w64 (x:=(a.length:Int)+1) za za,e];refine br_t (zp i) ⟨⟨rfl,za,by rw[zW];omega,rfl⟩,_,k,tJ _,⟨by rw[d];exact tJ _,by unfold zI;omega⟩,?_⟩;rw[tN<|by rw[d];exact tJ _,bq];exact ih
theorem c_pimp {n:Nat}(i:n<=10000)(h:BdC n)(d g:Tm)(s:Int)(l:List In1)(xs:List Cl)(e:Int)(A:AC tB 152 [aT d] [] (.tup [(false,[qf<|.sl false 9<|CLs xs]),(false,[qi e])]) [])(b:xs.length<=1000000)(f:∀x∈xs,OKc n x s)(o:wt g<=n)(p:GG (n*n+n) g)(r:0<=s)(m:s+wt g+(n*n:Nat)<=1000000000)(j:l.length+wt g+1<=1000000000):
  AC tB 133 [ep2,aT d,aT g] (stI s l) (.tup []) (stO (bodI (xs.map λc=>wj (bodC n) c s)<|bodC n false g s<|l.length+1).1<|l++(bodI (xs.map λc=>wj (bodC n) c s)<|bodC n false g s<|l.length+1).2):=by
 refine acv (v133 d.k d.s d.n (FTs d.l) g.k g.s g.n (FTs g.l) s l.length (FIs l) ..) ?_;refine⟨(xs,e),A,rfl,?_⟩;rw[zW];refine rpv (v133_1a (CLs xs) xs.length 0 s l.length (FIs l) g.k g.s g.n (FTs g.l) ..) ?_
 match xs,b,f with
 |[],_,_=>obtain⟨u,v,z,y,e⟩:=bB i h g s l [] o p r m j;exact br_f rfl ⟨(_,_,_),vZ 14 0 s l za,u,v,z,y,e⟩
 |c::xs,b,f=>
  have k:=fZ i h c s<|f c zb;have l1:=l_pimp i h g s l (c::xs) b f o p r m j xs [c] rfl zb;rw[w64 (x:=(0:Int)+1) za za];refine br_t (AD<|by simp only[tC];omega) ⟨⟨rfl,za,by rw[zW];simp only[tC];omega,rfl⟩,_,k,tJ _,zc,?_⟩;have w:[[FV.str (wj (bodC n) c s).nm,.int .i64 (wj (bodC n) c s).ar,.int .i64 (wj (bodC n) c s).fr,.int .i64 (wj (bodC n) c s).vs,.int .i64 (wj (bodC n) c s).sl,.sl false 8<|FIs (wj (bodC n) c s).ins]]=FCs ([c].map λc=>wj (bodC n) c s):=bq [] _;rw[w];exact l1
theorem vN (s:List UInt8):numB s=(s==[105,115]||(s==[60]||(s==[61,60]||(s==[62]||s==[62,61])))):=by unfold numB nums;simp only[List.contains_cons,List.contains_nil,S0]
theorem nK {n:Nat}(hn:n+1<=10000)(h:BdC n):BdC (n+1):=by
 intro d t s l p hp hw C w h1 hl;subst hp;have hsq:=sq_b (n:=n) za;have X:(n+1)*(n+1)=n*n+2*n+1:=by rw[Nat.mul_add,AG];omega
 have O:=C;rw[sq_s] at C;have c1:=kK t (by have:=C.1.2.1;simp only[B];omega);have W:=xz t;rw[bodC];refine acv (v99 t.k t.s t.n (FTs t.l) d s l.length (FIs l) ..) ?_;refine⟨zr t,c1,zu (λq=>?_) λo=>zu (λq=>?_) λy=>zu (λq=>?_) λA=>zu (λq=>?_) λE=>zu (λq=>?_) λI=>zu (λq=>?_) λK=>zu (λq=>?_) λT=>zu (λq=>?_) λV=>zu (λq=>?_) λq9=>?_⟩
 .rw[tG<|zp q];exact uq rfl zb
 .rw[tD<|zp o,tG<|zp q];exact⟨(_,_,_),vZ 8 0 s l za,uq rfl rfl⟩
 .rw[tD<|zp o,tD<|zp y,tG<|zp q];exact⟨(_,_,_),vZ 7 0 s l za,uq rfl rfl⟩
 .have e:(zr t).1.s=nAnd:=zp q;rw[tD<|zp o,tD<|zp y,tD<|zp A,tG e];obtain⟨a,c,b,f,j,L⟩:=C.two<|.inl e;obtain⟨r,u,G,H⟩:=fK b;rw[G,H];have f:=f.le (m:=n*n+n) za za za;have j:=j.le (m:=n*n+n) za za za;have N:=h false a s l l.length rfl za f w za za;have bb:=kZ n za false a s l.length za f w za;have F:=h d c (bodC n false a s l.length).1 (l++(bodC n false a s l.length).2) (l.length+(bodC n false a s l.length).2.length) (by rw[tE]) za j za za (by rw[tE];omega);rw[b];exact⟨by rw[<-b];exact r,(_,_),N,by rw[<-b];exact u,(_,_),F,uq rfl (by rw[AB];rfl)⟩
 .have e:(zr t).1.s=nOr:=zp q;rw[tD<|zp o,tD<|zp y,tD<|zp A,tD<|zp E,tG e];obtain⟨a,c,b,f,j,L⟩:=C.two<|.inr e;obtain⟨r,u,G,H⟩:=fK b;rw[G,H];have f:=f.le (m:=n*n+n) za za za;have j:=j.le (m:=n*n+n) za za za;have N:=c_por za h a c s l f j za w za za;rw[b];exact⟨by rw[<-b];exact r,by rw[<-b];exact u,(_,_),N,.refl _,rfl⟩
 .have e:(zr t).1.s=nPi:=zp q;rw[tD<|zp o,tD<|zp y,tD<|zp A,tD<|zp E,tD<|zp I,tG e];obtain⟨a,b,i,f,L⟩:=C.one za<|.inl e;obtain⟨r,u⟩:=iZ b;rw[u];have w2:=ja s<|y9 a;have J:=(f.suV (v:=s) za w za).le (m:=n*n+n) za za za;have D:=mE 11 a s l za w za i.1 i.2.1<|yQ za _ i.2.2;have F:=h false (suT 0 (vN4 s) (y9 a) 0) (s+1) (l++[mkI 11 s]) (l.length+1) zb za J za za (by rw[tE];simp only[tC,tR];omega);have bb:=kZ n za false (suT 0 (vN4 s) (y9 a) 0) (s+1) (l.length+1) za J za za;rw[b];refine⟨by rw[<-b];exact r,(_,_,_),D,(_,_),F,(_,_,_),vZ 12 0 _ _<|by simp only[tE,tC,tR];omega,uq rfl ?_⟩;show _=l++(mkI 11 s::((bodC n false (suT 0 (vN4 s) (y9 a) 0) (s+1)<|l.length+1).2++[mkI 12 0]));simp
 .have e:(zr t).1.s=nSig:=zp q;rw[tD<|zp o,tD<|zp y,tD<|zp A,tD<|zp E,tD<|zp I,tD<|zp K,tG e];obtain⟨a,b,i,f,L⟩:=C.one za<|.inr e;obtain⟨r,u⟩:=iZ b;rw[u];have w2:=ja s<|y9 a;have J:=(f.suV (v:=s) za w za).le (m:=n*n+n) za za za;have D:=mE 13 a s l za w za i.1 i.2.1<|yQ za _ i.2.2;have F:=h d (suT 0 (vN4 s) (y9 a) 0) (s+1) (l++[mkI 13 s]) (l.length+1) zb za J za za (by rw[tE];simp only[tC,tR];omega);rw[b];refine⟨by rw[<-b];exact r,(_,_,_),D,(_,_),F,uq rfl ?_⟩;show _=l++(mkI 13 s::(bodC n d (suT 0 (vN4 s) (y9 a) 0) (s+1)<|l.length+1).2);simp
 .have e:(zr t).1.s=nImp:=zp q;rw[tD<|zp o,tD<|zp y,tD<|zp A,tD<|zp E,tD<|zp I,tD<|zp K,tD<|zp T,tG e];obtain⟨a,c,b,i,wa,hc,j,L,Y⟩:=aR hn hw O e s w za;obtain⟨r,u,G,H⟩:=fK b;rw[G,H];have cP:=c_kparts n za a wa i;have U:xV n true a=(clsF false n true 0 [] a).2:=by unfold xV;rw[tG hc]
  have Z:=vz false n true 0 [] a;have M:∀x∈xV n true a,OKc n x s:=λx hx=>(Y x<|by rw[<-U];exact hx).1;have ci:=c_pimp za h a c s l (xV n true a) _ cP (by rw[U];have:=i.2.1;omega) M za j w za za;rw[b];exact⟨by rw[<-b];exact r,by rw[<-b];exact u,(_,_),ci,.refl _,rfl⟩
 .rw[tD<|zp o,tD<|zp y,tD<|zp A,tD<|zp E,tD<|zp I,tD<|zp K,tD<|zp T,tD<|zp V,tG<|zp q];exact⟨(_,_,_),c_pputL 5 0 (zr t).2 s l za,uq rfl rfl⟩
 .rw[tD<|zp o,tD<|zp y,tD<|zp A,tD<|zp E,tD<|zp I,tD<|zp K,tD<|zp T,tD<|zp V,tD<|zp q9];have g:numB (zr t).1.s=true->∃z:Int×Int×List In1,AC tB 69 [ep2,.agg [qi 6,qi 0,qi t.k,qf<|.str t.s,qi t.n,qf<|.sl false 4<|FTs t.l,qf .N,qf .N]] (stI s l) (ci z.1) (stO z.2.1 z.2.2)/\(TV.Le (.tup []) (.tup [])/\stO z.2.1 z.2.2=stO (if numB (zr t).1.s=true then(s,[In1.mk 6 0 t [] []]) else(s,[.mk (if d=true then 3 else 2) 0 t [] []])).1 (l++(if numB (zr t).1.s=true then(s,[In1.mk 6 0 t [] []]) else(s,[.mk (if d=true then 3 else 2) 0 t [] []])).2)):=λq=>by rw[tG q];exact⟨(_,_,_),WX 6 0 t s l za,uq rfl rfl⟩
  refine zu (λq=>g<|by rw[vN,q];rfl) (λr1=>zu (λq=>g<|by rw[vN,q];simp) λr2=>zu (λq=>g<|by rw[vN,q];simp) λr3=>zu (λq=>g<|by rw[vN,q];simp) λr4=>zu (λq=>g<|by rw[vN,q];simp) λr5=>?_);have S:numB (zr t).1.s=false:=by rw[vN,r1,r2,r3,r4,r5];rfl
  rw[tD<|by rw[S];simp];refine zu (λq=>?_) λq=>?_
  .rw[tG q];exact⟨(_,_,_),WX 3 0 t s l za,uq rfl rfl⟩
  .rw[tD<|by rw[q];simp];exact⟨(_,_,_),WX 2 0 t s l za,uq rfl rfl⟩
theorem bd_all:∀n:Nat,n<=10000->BdC n
 |0,_=>λb t s l p _ e _ _ _ _=>by have:=xz t;omega
 |n+1,d=>nK d<|bd_all n za
end Go.AM
