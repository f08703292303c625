/- Laws, part 4. No conditions. -/
import Derived.Test.YtiflgghnjkfblaaGreatPart3
set_option linter.all false
set_option maxRecDepth 100000
open Go Go.Proofs
open Go.IntKind (wrap)
open List (getD take drop)
open Int (toNat)
namespace Go.AM
theorem W9:∀ {l:List Tm},l≠[]->l=l.dropLast++[uA l]
 |[],h=>absurd rfl h
 |[a],_=>rfl
 |a::b::l,_=>by
  have:=W9 (l:=b::l) zb;show a::b::l=a::((b::l).dropLast++[uA<|b::l]);rw[<-this]
theorem XN {b:Tm}(hv:validB b=true)(h6:b.k=6):validB (uq b)=true/\toL b=.app (toL<|uq b) (toL<|uA b.l):=by
 obtain⟨k,s,n,l⟩:=b;have h6:k=6:=h6;subst h6;obtain⟨x,y,r,rfl,hx,_⟩:=okB6 (zG _ hv) rfl;have vl:=ym hv<|.inr rfl
 constructor
 .have ok:=k9 (f:=x) (args:=(y::r).dropLast) (zG _<|vl x r7)<|dO λu hu=>zG _<|vl u<|r9 _<|(List.dropLast_sublist _).subset hu
  have lv:=kF (f:=x) (args:=(y::r).dropLast) (vB<|vl x r7)<|cR λu hu=>vB<|vl u<|r9 _<|(List.dropLast_sublist _).subset hu
  show validB (applyF x (y::r).dropLast)=true;rw[wF,ok,lv];rfl
 .show _=La.app (toL<|applyF x (y::r).dropLast) (toL<|uA<|x::y::r);rw[wb,yL];show apps (toL x) (toLs<|y::r)=_;have e:y::r=(y::r).dropLast++[uA<|y::r]:=W9 zb;have e2:uA (x::y::r)=uA (y::r):=rfl;rw[e2]
  rw[show toLs (y::r)=toLs (y::r).dropLast++[toL<|uA<|y::r] by
   have:=t8 toLs e;rw[WJ] at this;exact this]
  rw[xx];rfl
mutual
theorem JZ:∀(t:Tm) (e:Nat),validB t=true->occF t (e:Int)=0->(toL<|shT 0 (-1) t (e:Int)).lift e=toL t
 |.mk k s n l,e,hv,ho=>by
  unfold shT;rw[yF];split
  .rename_i hk;have hk:k=5\/k=6:=zo hk
   rw[occF,oV<|by rcases hk with rfl|rfl<;>simp] at ho
   rw[toL_with (t:=.mk k s n l) hk];show(mkL k n s _).lift e=_;rw[mkL_map (λt=>t.lift e) (λt=>t.lift<|e+1) (λ_=>rfl) (λf l=>w8 e l f) rfl rfl hk,toL];congr 1;by_cases h5:k=5
   .rw[oX h5,oX<|zo h5];rw[oX<|zo h5] at ho;exact qT l (e+1) (ym hv hk) ho
   .rw[oV h5,oV<|zo h5,tu];rw[oV<|zo h5,tu] at ho;exact qT l e (ym hv hk) ho
  .rename_i hk;have hk:¬(k=5\/k=6):=zo hk
   rw[not_or] at hk;have hl:l=[]:=okB0 (zG _ hv) hk.1 hk.2;subst hl;unfold yh;by_cases h3:k=3
   .have hn:=fQ hv h3;subst h3;rw[occF] at ho;have hne:n≠(e:Int):=λq=>by rw[oX ⟨rfl,zo q⟩] at ho;cases ho
    by_cases q:(e:Int)+0<=n
    .rw[oX (show((Tm.mk 3 s n []).k==3)=true/\(e:Int)+0<=(Tm.mk 3 s n []).n from⟨rfl,q⟩)];show(toL<|.mk 3 s (n+ -1) []).lift e=_;rw[yY,yY,La.lift,oV za];congr 1;omega
    .rw[oV (show¬(((Tm.mk 3 s n []).k==3)=true/\(e:Int)+0<=(Tm.mk 3 s n []).n) from λe=>q e.2),yY,La.lift,oX za]
   .rw[oV (show¬(((Tm.mk k s n []).k==3)=true/\(e:Int)+0<=(Tm.mk k s n []).n) from λe=>h3<|rT.1 e.1)];rcases Z5 (k:=k) (n:=n) (s:=s) (l:=[]) hk.1 hk.2 h3 with e|e<;>rw[e]<;>rfl
theorem qT:∀(l:List Tm) (e:Nat),(∀u∈l,validB u=true)->occL l (e:Int)=0->(toLs<|yb (yh 0 (-1)) l (e:Int)).map (λt=>t.lift e)=toLs l
 |[],_,_,_=>rfl
 |t::l,e,h,ho=>by
  rw[occL] at ho;rw[yb,toLs,toLs,rO,qT l e (λu hu=>h u<|r9 _ hu) za];congr 1;exact JZ t e (h t r7) za
end
theorem xN {t:Tm}(hv:validB t=true):validB (zy t)=true:=by
 have so:=w6 t<|zG _ hv
 rw[wF,so.1,so.2.1<|vB hv];rfl
theorem lastv {t:Tm}(hv:validB t=true)(h3:t.k=3)(hn:t.n=0):toL t=.bv 0:=by
 obtain⟨k,s,n,l⟩:=t;have h3:k=3:=h3;have hn:n=0:=hn;subst h3;subst hn;rw[yY];rfl
mutual
theorem vn {V:Int->Option La}:∀t:Tm,validB t=true->Sts V (toL t) (toL<|zy t)
 |.mk k s n l,hv=>by
  rw[zy];split
  .rename_i h5;have h5:k=5:=zo h5
   subst h5;obtain⟨b,rfl,_⟩:=okB5 (zG _ hv) rfl;have vb:=ym hv (.inl rfl) b r7;have ih:=vn (V:=V) b vb;have vs:=xN vb;show Sts V _<|toL (if yT (zy b)=true then uJ (zy b) else .mk 5 [] 0 [zy b])
   rw[yQ];refine ih.lam.trans ?_;split
   .rename_i q;unfold uJ;rw[oX q];simp only[yT,oZ,rT] at q;obtain⟨⟨⟨q1,q2⟩,q3⟩,q4⟩:=q;have rv:=XN vs q1
    have vlast:validB (uA (zy b).l)=true:=by
     generalize zy b=w at*;obtain⟨wk,ws,wn,wl⟩:=w;obtain⟨x,y,r,rfl,_,_⟩:=okB6 (zG _ vs) q1;exact ym vs (.inr q1) _<|J6 zb
    have dl:=JZ (uq<|zy b) 0 rv.1 q4;rw[rv.2,lastv vlast q2 q3,<-dl];exact Sts.eta _
   .rw[yQ];exact .refl _
  .split
   .rename_i h6;have h6:k=6:=zo h6
    subst h6;rw[wb,yL];obtain⟨x,y,r,rfl,_,_⟩:=okB6 (zG _ hv) rfl;have vl:=ym hv<|.inr rfl
    have h1:=vn (V:=V) x<|vl x r7
    have h2:=XC (V:=V) (y::r) λu hu=>vl u<|r9 _ hu
    exact dJ _ _ _ _ h1<|cL h2
   .exact .refl _
theorem XC {V:Int->Option La}:∀l:List Tm,(∀u∈l,validB u=true)->All2 (λx y=>Sts V (toL x)<|toL y) l (zU l)
 |[],_=>trivial
 |t::l,h=>⟨vn t<|h t r7,XC l λu hu=>h u<|r9 _ hu⟩
end
def Neu (V:Int->Option La)(f:La):Prop:=(∀b,f ≠ .lam b)/\NfL V f
theorem Neu.app {V:Int->Option La}{f a:La}(h:Neu V f)(ha:NfL V a):Neu V (.app f a):=by
 refine⟨λb e=>(by cases e),λb hb=>?_⟩;rcases hb with hb|hb
 .rcases Zh hb with⟨f',a',rfl,h1,h2⟩|⟨s,s',a',rfl,_,_,_⟩
  .rw[h.2 f'<|.inl h1,ha a'<|.inl h2]
  .exact absurd rfl (h.1 s)
 .obtain⟨f',a',rfl,h1,h2⟩:=X8 hb;rw[h.2 f'<|.inr h1,ha a'<|.inr h2]
theorem Neu.apps {V:Int->Option La}:∀ {l:List La} {f:La},Neu V f->(∀a∈l,NfL V a)->Neu V (apps f l)
 |[],_,h,_=>h
 |a::l,_,h,hl=>Neu.apps (l:=l) (h.app<|hl a r7) λb hb=>hl b<|r9 _ hb
theorem dp {V:Int->Option La}(k n:Int)(s:List UInt8):Neu V (.con k n s):=⟨λb e=>(by cases e),λb h=>h.elim Wa W4⟩
theorem lm {V:Int->Option La}(n:Nat):Neu V (.bv n):=⟨λb e=>(by cases e),λb h=>h.elim Ws KK⟩
theorem neu_var {V:Int->Option La}{x:Int}(h:V x=none):Neu V (.var x):=⟨λb e=>(by cases e),λb hb=>by
 rcases hb with hb|hb
 .rcases KB hb with e|e
  .exact e
  .rw[h] at e;cases e
 .exact XW hb⟩
theorem kj (f:La):∀l:List La,l≠[]->∃l' a,l=l'++[a]/\apps f l=.app (apps f l') a:=λl h=>by
 obtain⟨l',a,rfl⟩:∃l' a,l=l'++[a]:=⟨l.dropLast,l.getLast h,(tz h).symm⟩;exact⟨l',a,rfl,by rw[xx];rfl⟩
theorem bg (i:Int):∀a b:List Tm,occL (a++b) i=occL a i+occL b i
 |[],b=>by rw[rH,occL];omega
 |t::a,b=>by rw[sk,occL,occL,bg i a b];omega
theorem KX (e:Nat)(x:Tm):∀(N:Nat) (m:List Tm) (w:La),m.length=N->(∀v∈x::m,∀u:La,toL v=u.lift e->occF v (e:Int)=0)->apps (toL x) (toLs m)=w.lift e->occF x (e:Int)+occL m (e:Int)=0
 |0,m,w,hlen,h,hw=>by
  have:m=[]:=rk hlen;subst this;rw[h x r7 w hw];rfl
 |N+1,m,w,hlen,h,hw=>by
  have hne:m≠[]:=λq=>by subst q;cases hlen
  obtain⟨m',a,rfl⟩:∃m' a,m=m'++[a]:=⟨m.dropLast,m.getLast hne,(tz hne).symm⟩;rw[WJ,xx] at hw;have hw:La.app (apps (toL x)<|toLs m') (toL a)=w.lift e:=hw;cases w with
  |con _ _ _=>cases hw
  |var _=>cases hw
  |bv m=>rw[La.lift] at hw;split at hw<;>cases hw
  |lam _=>cases hw
  |app f b=>
   rw[La.lift] at hw;injection hw with h1 h2
   have i1:=KX e x N m' f (zo hlen) (λv hv=>h v (by
    rcases rx.1 hv with rfl|hv
    .exact r7
    .exact r9 _ (sE _ hv))) h1
   have i2:=h a (r9 _ zb) b h2;rw[bg,occL,occL,i2];omega
theorem occ_lift:∀(t:Tm) (e:Nat) (u:La),validB t=true->toL t=u.lift e->occF t (e:Int)=0:=by
 refine Tm.ind λt ih=>?_;intro e u hv h;obtain⟨k,s,n,l⟩:=t;rw[occF];by_cases h3:k=3
 .have hn:=fQ hv h3;subst h3;have hl:l=[]:=okB0 (zG _ hv) zc zc;subst hl;rw[yY] at h
  have hne:n≠(e:Int):=λq=>by
   cases u with
   |con _ _ _=>cases h
   |var _=>cases h
   |lam _=>cases h
   |app _ _=>cases h
   |bv m=>
    rw[La.lift] at h;split at h<;>(injection h with h;omega)
  rw[oV λq=>hne<|zo q.2];rfl
 .rw[oV λq=>h3<|zo q.1];by_cases h5:k=5
  .subst h5;obtain⟨b,rfl,_⟩:=okB5 (zG _ hv) rfl;rw[yQ] at h;cases u with
   |con _ _ _=>cases h
   |var _=>cases h
   |bv m=>rw[La.lift] at h;split at h<;>cases h
   |app _ _=>cases h
   |lam w=>
    rw[La.lift] at h;injection h with h
    have:=ih b r7 (e+1) w (ym hv (.inl rfl) b r7) h;rw[oX zc,occL,occL];rw[show((e:Int)+1)=((e+1:Nat):Int) by omega,this]
  .rw[oV<|zo h5,tu];by_cases h6:k=6
   .subst h6;obtain⟨x,y,r,rfl,_,_⟩:=okB6 (zG _ hv) rfl;have vl:=ym hv<|.inr rfl
    rw[wb] at h;rw[occL];exact KX e x _ (y::r) u rfl (λv hv w hw=>ih v hv e w (vl v hv) hw) h
   .have hl:l=[]:=okB0 (zG _ hv) h5 h6;subst hl;rfl
theorem nf_of {s:Sto}{V:Int->Option La}(hV0:∀x,(iD s.V x).bd=false->V x=none):∀t:Tm,validB t=true->normB t=true->ubB s t=true->shB t=true->NfL V (toL t)/\(t.k≠5->Neu V (toL t)):=by
 refine Tm.ind λt ih=>?_;intro hv hn hu hs;obtain⟨k,str,n,l⟩:=t;rw[normB,oZ] at hn;rw[ubB,oZ] at hu;rw[shB,oZ] at hs;have nl:=mG.1 hn.2;have ul:=ubL_iff.1 hu.2;have kids:(k=5\/k=6)->∀u∈l,NfL V (toL u)/\(u.k≠5->Neu V (toL u)):=λhk u hm=>ih u hm (ym hv hk u hm) (nl u hm) (ul u hm)<|qP hs.2 hm
 by_cases h5:k=5
 .subst h5;obtain⟨b,rfl,_⟩:=okB5 (zG _ hv) rfl;have vb:=ym hv (.inl rfl) b r7;have kb:=(kids (.inl rfl) b r7).1;rw[yQ];show NfL _ (.lam<|toL b)/\_;refine⟨λc hc=>?_,λq=>absurd rfl q⟩;rcases hc with hc|hc
  .obtain⟨b',rfl,h1⟩:=Zj hc;rw[kb b'<|.inl h1]
  .rcases Yj hc with⟨b',rfl,h1⟩|⟨u,e,h1⟩
   .rw[kb b'<|.inr h1]
   .exfalso;have hd0:yT b=false:=by have h1:=hs.1;rw[oX zc] at h1;have h1:(!yT b)=true:=h1;exact zo h1
    have vb0:=vb
    have h6:b.k=6:=by
     obtain⟨bk,bs,bn,bl⟩:=b;by_cases g6:bk=6
     .exact g6
     .exfalso;by_cases g5:bk=5
      .subst g5;rw[yQ] at e;cases e
      .by_cases g3:bk=3
       .subst g3;rw[yY] at e;cases e
       .rcases Z5 (k:=bk) (n:=bn) (s:=bs) (l:=bl) g5 g6 g3 with q|q<;>(rw[q] at e;cases e)
    have rv:=XN vb h6;rw[rv.2] at e;injection e with e1 e2
    have vlast:validB (uA b.l)=true:=by
     obtain⟨wk,ws,wn,wl⟩:=b;obtain⟨x,y,r,rfl,_,_⟩:=okB6 (zG _ vb) h6;exact ym vb (.inr h6) _<|J6 zb
    have l3:(uA b.l).k=3/\(uA b.l).n=0:=by
     generalize uA b.l=w at*;obtain⟨wk,ws,wn,wl⟩:=w;by_cases g3:wk=3
     .subst g3;have:=fQ vlast rfl;rw[yY] at e2;injection e2 with e2
      exact⟨rfl,by show wn=0;omega⟩
     .exfalso;by_cases g5:wk=5
      .subst g5;rw[yQ] at e2;cases e2
      .by_cases g6:wk=6
       .subst g6;rw[wb] at e2;obtain⟨x,y,r,rfl,_,_⟩:=okB6 (zG _ vlast) rfl;obtain⟨l',a,_,h2⟩:=kj (toL x) (toLs<|y::r) (by simp[toLs]);rw[show(hd<|x::y::r)=x from rfl,show(x::y::r).tail=y::r from rfl,h2] at e2;cases e2
       .rcases Z5 (k:=wk) (n:=wn) (s:=ws) (l:=wl) g5 g6 g3 with q|q<;>(rw[q] at e2;cases e2)
    have ho:=occ_lift (uq b) 0 u rv.1 e1
    have:yT b=true:=by
     unfold yT;have ho:occF (uq b) 0=0:=ho;rw[h6,l3.1,l3.2,ho];rfl
    rw[this] at hd0;cases hd0
 .by_cases h6:k=6
  .subst h6;obtain⟨x,y,r,rfl,hx6,_⟩:=okB6 (zG _ hv) rfl;have kk:=kids<|.inr rfl
   have hx5:x.k≠5:=λq=>by
    have:=hn.1;unfold mi at this;rw[show(hd<|Tm.l<|.mk 6 str n<|x::y::r)=x from rfl,q] at this;simp[Tm.k] at this
   have N:=Neu.apps (l:=toLs<|y::r) ((kk x r7).2 hx5) λa ha=>by
    rw[y8] at ha;obtain⟨u,hu,rfl⟩:=rK.1 ha;exact(kk u<|r9 _ hu).1
   rw[wb];exact⟨N.2,λ_=>N⟩
  .have N:Neu V (toL<|.mk k str n l):=by
    by_cases h3:k=3
    .subst h3;rw[yY];exact lm _
    .by_cases h4:k=4
     .subst h4;rw[wO];refine neu_var ?_;have:=hu.1;exact hV0 _ (zo this)
     .have:toL (.mk k str n l)=.con k n str:=by rw[toL,mkL,oV h5,oV h6,oV h3,oV h4]
      rw[this];exact dp _ _ _
   exact⟨N.2,λ_=>N⟩
def spA:La->List La->La×List La
 |.app f a,acc=>spA f<|a::acc
 |t,acc=>(t,acc)
theorem spA_apps:∀(l:List La) (f:La) (acc:List La),spA (apps f l) acc=spA f (l++acc):=λl=>by
 induction l with
 |nil=>intro f acc;rfl
 |cons a l ih=>intro f acc;rw[w9,ih,spA];rfl
theorem aC {f g:La}{a b:List La}(hf:∀x y,f ≠ .app x y)(hg:∀x y,g ≠ .app x y)(h:apps f a=apps g b):f=g/\a=b:=by
 have:=t8 (λt=>spA t []) h;simp only[spA_apps,rp] at this
 have uf:∀ {f:La},(∀x y,f ≠ .app x y)->∀l,spA f l=(f,l):=λ{f} hf l=>by
  cases f with
  |app x y=>exact absurd rfl (hf x y)
  |_=>rfl
 rw[uf hf,uf hg] at this;injection this with h1 h2
 exact⟨h1,h2⟩
theorem uU {k n:Int}{s:List UInt8}{l:List Tm}(hv:validB (.mk k s n l)=true)(h:k=3\/k=4\/k=5\/k=6):s=[]/\(k=3\/k=4->0<=n)/\(k=5\/k=6->n=0):=by
 rcases h with rfl|rfl|rfl|rfl
 .rw[validB,oV zc,oV zc,oV zc,oX zc] at hv;simp only[oZ,rL,rT] at hv;exact⟨hv.1.1.2,λ_=>hv.1.1.1.1,λq=>za⟩
 .rw[validB,oV zc,oV zc,oV zc,oV zc,oX zc] at hv;simp only[oZ,rL,rT] at hv;exact⟨hv.1.1.2,λ_=>hv.1.1.1.1,λq=>za⟩
 .rw[validB,oV zc,oV zc,oV zc,oV zc,oV zc,oX zc] at hv;simp only[oZ,rL,rT] at hv;exact⟨hv.1.1.2,λq=>za,λ_=>hv.1.1.1⟩
 .rw[validB,oV zc,oV zc,oV zc,oV zc,oV zc,oV zc,oX zc] at hv;simp only[oZ,rL,rT] at hv;exact⟨hv.1.2,λq=>za,λ_=>hv.1.1.1.1⟩
theorem jd {s:List UInt8}{n:Int}{l:List Tm}(hv:validB (.mk 6 s n l)=true):∃f a,toL (.mk 6 s n l)=.app f a:=by
 obtain⟨x,y,r,rfl,_,_⟩:=okB6 (zG _ hv) rfl;rw[wb];obtain⟨l',a,_,h2⟩:=kj (toL x) (toLs<|y::r) (by simp[toLs]);exact⟨_,_,h2⟩
theorem ZJ {t:Tm}(h6:t.k≠6):∀x y,toL t ≠ .app x y:=λx y e=>by
 obtain⟨k,s,n,l⟩:=t;have h6:k≠6:=h6;by_cases h5:k=5
 .subst h5;rw[yQ] at e;cases e
 .by_cases h3:k=3
  .subst h3;rw[yY] at e;cases e
  .rcases Z5 (k:=k) (n:=n) (s:=s) (l:=l) h5 h6 h3 with q|q<;>(rw[q] at e;cases e)
theorem toL_inj:∀t u:Tm,validB t=true->validB u=true->toL t=toL u->t=u:=by
 refine Tm.ind λt ih=>?_;intro u hv hw h;obtain⟨k,s,n,l⟩:=t;obtain⟨j,q,m,r⟩:=u
 have lists:(k=5\/k=6)->(j=5\/j=6)->∀(a b:List Tm),(∀x∈a,x∈l)->(∀x∈b,x∈r)->toLs a=toLs b->a=b:=by
  intro hk hj a
  induction a with
  |nil=>intro b _ _ e;cases b with
   |nil=>rfl
   |cons _ _=>cases e
  |cons x a iha=>
   intro b ha hb e;cases b with
   |nil=>cases e
   |cons y b=>
    rw[toLs,toLs] at e;injection e with e1 e2
    rw[ih x (ha x r7) y (ym hv hk x<|ha x r7) (ym hw hj y<|hb y r7) e1,iha b (λz hz=>ha z<|r9 _ hz) (λz hz=>hb z<|r9 _ hz) e2]
 by_cases k6:k=6
 .subst k6;by_cases j6:j=6
  .subst j6;have s1:=uU hv za;have s2:=uU hw za;obtain⟨x,y,a,rfl,hx,_⟩:=okB6 (zG _ hv) rfl;obtain⟨x2,y2,a2,rfl,hx2,_⟩:=okB6 (zG _ hw) rfl;rw[wb,wb] at h;obtain⟨h1,h2⟩:=aC (ZJ hx) (ZJ hx2) h;have e1:=ih x r7 x2 (ym hv (.inr rfl) x r7) (ym hw (.inr rfl) x2 r7) h1;have e2:=lists (.inr rfl) (.inr rfl) (y::a) (y2::a2) (λz hz=>r9 _ hz) (λz hz=>r9 _ hz) h2;rw[e1,e2,s1.1,s2.1,s1.2.2 za,s2.2.2 za]
  .obtain⟨f,a,e⟩:=jd hv;rw[e] at h;exact absurd h.symm<|ZJ (t:=.mk j q m r) j6 f a
 .by_cases j6:j=6
  .subst j6;obtain⟨f,a,e⟩:=jd hw;rw[e] at h;exact absurd h<|ZJ (t:=.mk k s n l) k6 f a
  .by_cases k5:k=5
   .subst k5;by_cases j5:j=5
    .subst j5;have s1:=uU hv za;have s2:=uU hw za;obtain⟨b,rfl,_⟩:=okB5 (zG _ hv) rfl;obtain⟨c,rfl,_⟩:=okB5 (zG _ hw) rfl;rw[yQ,yQ] at h;injection h with h
     have e1:=ih b r7 c (ym hv (.inl rfl) b r7) (ym hw (.inl rfl) c r7) h;rw[e1,s1.1,s2.1,s1.2.2 za,s2.2.2 za]
    .rw[yQ] at h;exfalso;by_cases j3:j=3
     .subst j3;rw[yY] at h;cases h
     .rcases Z5 (k:=j) (n:=m) (s:=q) (l:=r) j5 j6 j3 with e|e<;>(rw[e] at h;cases h)
   .by_cases j5:j=5
    .subst j5;rw[yQ] at h;exfalso;by_cases k3:k=3
     .subst k3;rw[yY] at h;cases h
     .rcases Z5 (k:=k) (n:=n) (s:=s) (l:=l) k5 k6 k3 with e|e<;>(rw[e] at h;cases h)
    .have l0:l=[]:=okB0 (zG _ hv) k5 k6;have r0:r=[]:=okB0 (zG _ hw) j5 j6;subst l0;subst r0;rw[toL,mkL,oV k5,oV k6,toL,mkL,oV j5,oV j6] at h;by_cases k3:k=3
     .subst k3;rw[oX rfl] at h;by_cases j3:j=3
      .subst j3;rw[oX rfl] at h;injection h with h
       have s1:=uU hv za;have s2:=uU hw za;have:=s1.2.1 za;have:=s2.2.1 za;rw[s1.1,s2.1,(za:n=m)]
      .rw[oV j3] at h;split at h<;>cases h
     .rw[oV k3] at h;by_cases j3:j=3
      .rw[oX j3] at h;split at h<;>cases h
      .rw[oV j3] at h;by_cases k4:k=4
       .rw[oX k4] at h;by_cases j4:j=4
        .rw[oX j4] at h;injection h with h
         have s1:=uU hv za;have s2:=uU hw za;rw[s1.1,s2.1,h,k4,j4]
        .rw[oV j4] at h;cases h
       .rw[oV k4] at h;by_cases j4:j=4
        .rw[oX j4] at h;cases h
        .rw[oV j4] at h;injection h with h1 h2 h3
         rw[h1,h2,h3]
def La.wk (g:Nat->Nat->La):La->Nat->La
 |.con k n s,_=>.con k n s
 |.var x,_=>.var x
 |.bv n,d=>g n d
 |.lam b,d=>.lam<|La.wk g b<|d+1
 |.app f a,d=>.app (La.wk g f d)<|La.wk g a d
def gs (ys:List La)(n d:Nat):La:=if n<d then .bv n else if n<d+ys.length then(ys.getD (ys.length-1-(n-d)) laD).sh d 0 else .bv<|n-ys.length
theorem uT (g:Nat->Nat->La)(d:Nat):∀(l:List La) (f:La),(apps f l).wk g d=apps (f.wk g d) (l.map λa=>a.wk g d)
 |[],f=>rfl
 |a::l,f=>by rw[w9,uT g d l,rO,w9];rfl
theorem wk_sh (r:List La):∀(a:La) (d e:Nat),(a.sh (d+r.length) e).wk (gs r) (d+e)=a.sh d e
 |.con _ _ _,_,_=>rfl
 |.var _,_,_=>rfl
 |.bv n,d,e=>by
  by_cases h:n<e
  .rw[La.sh,oX h,La.wk,La.sh,oX h,gs,oX za]
  .rw[La.sh,oV h,La.wk,La.sh,oV h,gs,oV za,oV za];congr 1;omega
 |.lam b,d,e=>by rw[La.sh,La.wk,La.sh,(za:d+e+1=d+(e+1)),wk_sh r b d<|e+1]
 |.app f a,d,e=>by rw[La.sh,La.wk,La.sh,wk_sh r f d e,wk_sh r a d e]
theorem ao (a:La)(r:List La):∀(b:La) (d:Nat),(b.sub (a.sh (d+r.length) 0)<|d+r.length).wk (gs r) d=b.wk (gs<|a::r) d
 |.con _ _ _,_=>rfl
 |.var _,_=>rfl
 |.bv n,d=>by
  rw[La.sub,La.wk];by_cases h1:n<d+r.length
  .rw[oX h1,La.wk,gs,gs];by_cases h2:n<d
   .rw[oX h2,oX h2]
   .rw[oV h2,oV h2,oX h1,oX<|by rw[r5];omega];congr 1;rw[r5,show r.length+1-1-(n-d)=(r.length-1-(n-d))+1 by omega,List.getD_cons_succ]
  .rw[oV h1];by_cases h2:n=d+r.length
   .rw[oX h2,gs,oV za,oX<|by rw[r5];omega];have:=wk_sh r a d 0;rw[th] at this;rw[this,r5,(za:r.length+1-1-(n-d)=0),List.getD_cons_zero]
   .rw[oV h2,La.wk,gs,gs,oV za,oV za,oV za,oV<|by rw[r5];omega];congr 1;rw[r5];omega
 |.lam b,d=>by
  rw[La.sub,La.wk,La.wk,La.sh_succ a (d+r.length) 0 0 (r6 _) za];have:=ao a r b<|d+1
  rw[(za:d+1+r.length=d+r.length+1)] at this;rw[this]
 |.app f x,d=>by rw[La.sub,La.wk,La.wk,ao a r f d,ao a r x d]
theorem cX:∀(b:La) (d:Nat),b.wk (gs []) d=b
 |.con _ _ _,_=>rfl
 |.var _,_=>rfl
 |.bv n,d=>by
  rw[La.wk,gs];split
  .rfl
  .rw[oV zj];rfl
 |.lam b,d=>by rw[La.wk,cX b]
 |.app f a,d=>by rw[La.wk,cX f,cX a]
def yy:Nat->La->La
 |0,b=>b
 |n+1,b=>.lam<|yy n b
theorem Jp:∀(n:Nat) (b:La),yy n (.lam b)=.lam (yy n b)
 |0,_=>rfl
 |n+1,b=>by rw[yy,Jp n];rfl
theorem vI:∀(n:Nat) (t:Tm),toL (lamsF n t)=yy n (toL t)
 |0,_=>rfl
 |n+1,t=>by
  rw[lamsF,vI n,yQ,Jp];rfl
theorem dT (u:La):∀(m:Nat) (b:La) (k:Nat),(yy m b).sub (u.sh k 0) k=yy m (b.sub (u.sh (k+m) 0)<|k+m)
 |0,_,_=>rfl
 |m+1,b,k=>by
  rw[yy,La.sub,La.sh_succ u k 0 0 (r6 _) za,dT u m b<|k+1,yy];rw[(za:k+1+m=k+(m+1))]
theorem Yi {V:Int->Option La}:∀(ys:List La) (b:La),Sts V (apps (yy ys.length b) ys) (b.wk (gs ys) 0)
 |[],b=>by rw[cX];exact .refl _
 |a::r,b=>by
  have h1:Sts V (.app (.lam<|yy r.length b) a) (yy r.length<|b.sub (a.sh r.length 0) r.length):=by
   have:=Sts.beta (V:=V) (yy r.length b) a;have e:=dT a r.length b 0;rw[La.sh_zero,rB] at e;rw[e] at this;exact this
  have h2:=Yi (V:=V) r<|b.sub (a.sh r.length 0) r.length
  have e:=ao a r b 0;rw[rB] at e;rw[e] at h2;exact(Sts.apps r h1).trans h2
def SubV (V W:Int->Option La):Prop:=∀x v,V x=some v->W x=some v
theorem SubV.refl (V:Int->Option La):SubV V V:=λ_ _ h=>h
theorem SubV.trans {U V W:Int->Option La}(h1:SubV U V)(h2:SubV V W):SubV U W:=λx v h=>h2 x v<|h1 x v h
theorem Be.more {V W:Int->Option La}(h:SubV V W){a b:La}(hb:Be V a b):Be W a b:=by
 induction hb with
 |con=>exact .con _ _ _
 |var=>exact .var _
 |bv=>exact .bv _
 |del hx=>exact .del<|h _ _ hx
 |lam _ ih=>exact .lam ih
 |app _ _ h1 h2=>exact .app h1 h2
 |beta _ _ h1 h2=>exact .beta h1 h2
theorem Sts.more {V W:Int->Option La}(h:SubV V W){a b:La}(hs:Sts V a b):Sts W a b:=by
 induction hs with
 |refl=>exact .refl _
 |step h1 _ ih=>exact .step (h1.imp (λx=>x.more h) id) ih
theorem dD {S:Int->Option La}:∀(a b:List La) (f g:La),Eqv S f g->All2 (Eqv S) a b->Eqv S (apps f a) (apps g b)
 |[],[],_,_,h,_=>h
 |x::a,y::b,f,g,h,h2=>dD a b (.app f x) (.app g y) (h.app h2.1) h2.2
 |[],_::_,_,_,_,h2=>h2.elim
 |_::_,[],_,_,_,h2=>h2.elim
section
variable {V:Int->Option La}
theorem Sts.lift (hV:ClV V){a b:La}(h:Sts V a b)(k:Nat):Sts V (a.lift k) (b.lift k):=by
 induction h with
 |refl=>exact .refl _
 |step h _ ih=>exact .step (h.imp (λh=>f9 hV h k) λh=>oK h k) ih
theorem Eqv.lift (hV:ClV V){a b:La}(h:Eqv V a b)(k:Nat):Eqv V (a.lift k) (b.lift k):=let ⟨c,h1,h2⟩:=h;⟨c.lift k,h1.lift hV k,h2.lift hV k⟩
theorem Sts.pull (hV:ClV V){a n:La}(h:Sts V a n):∀ {u:La} {k:Nat},a=u.lift k->∃n',n=n'.lift k/\Sts V u n':=by
 induction h with
 |refl a=>intro u k e;exact⟨u,e,.refl _⟩
 |@step a b c h _ ih=>
  intro u k e;subst e
  obtain⟨n',e1,h1⟩:∃n',b=La.lift n' k/\St1 V u n':=by
   rcases h with h|h
   .obtain⟨n',e,h⟩:=uR hV u k _ h;exact⟨n',e,.inl h⟩
   .obtain⟨n',e,h⟩:=Z0 _ u k _ (r6 _) h;exact⟨n',e,.inr h⟩
  obtain⟨n2,e2,h2⟩:=ih e1;exact⟨n2,e2,.step h1 h2⟩
theorem Eqv.more {V W:Int->Option La}(h:SubV V W){a b:La}(he:Eqv V a b):Eqv W a b:=let ⟨c,h1,h2⟩:=he;⟨c,h1.more h,h2.more h⟩
theorem kL {α β:Type}{R:α->β->Prop}:∀ {a:List α} {b:List β},All2 R a b->a.length=b.length
 |[],[],_=>rfl
 |_::_,_::_,h=>by simp[kL h.2]
 |[],_::_,h=>h.elim
 |_::_,[],h=>h.elim
theorem db {α β γ:Type}{R:α->β->Prop}{S:γ->γ->Prop}(f:α->γ)(g:β->γ)(hRS:∀x y,R x y->S (f x) (g y)):∀ {a:List α} {b:List β},All2 R a b->All2 S (a.map f) (b.map g)
 |[],[],_=>trivial
 |_::_,_::_,h=>⟨hRS _ _ h.1,db f g hRS h.2⟩
 |[],_::_,h=>h.elim
 |_::_,[],h=>h.elim
theorem WL {α β:Type}{R S:α->β->Prop}(hRS:∀x y,R x y->S x y):∀ {a:List α} {b:List β},All2 R a b->All2 S a b
 |[],[],_=>trivial
 |_::_,_::_,h=>⟨hRS _ _ h.1,WL hRS h.2⟩
 |[],_::_,h=>h.elim
 |_::_,[],h=>h.elim
theorem uV {α β γ:Type}{R:α->β->Prop}{S:β->γ->Prop}{T:α->γ->Prop}(h:∀x y z,R x y->S y z->T x z):∀ {a:List α} {b:List β} {c:List γ},All2 R a b->All2 S b c->All2 T a c
 |[],[],[],_,_=>trivial
 |_::_,_::_,_::_,h1,h2=>⟨h _ _ _ h1.1 h2.1,uV h h1.2 h2.2⟩
 |[],_::_,_,h1,_=>h1.elim
 |_::_,[],_,h1,_=>h1.elim
 |[],[],_::_,_,h2=>h2.elim
 |_::_,_::_,[],_,h2=>h2.elim
theorem vW {α β:Type}{R:α->β->Prop}{S:β->α->Prop}(hRS:∀x y,R x y->S y x):∀ {a:List α} {b:List β},All2 R a b->All2 S b a
 |[],[],_=>trivial
 |_::_,_::_,h=>⟨hRS _ _ h.1,vW hRS h.2⟩
 |[],_::_,h=>h.elim
 |_::_,[],h=>h.elim
theorem ur {α:Type}{R:α->α->Prop}(h:∀x,R x x):∀a:List α,All2 R a a
 |[]=>trivial
 |x::a=>⟨h x,ur h a⟩
theorem qB {α β:Type}{R:α->β->Prop}{x:α}{y:β}(hx:R x y):∀ {a:List α} {b:List β},All2 R a b->All2 R (a++[x]) (b++[y])
 |[],[],_=>⟨hx,trivial⟩
 |_::_,_::_,h=>⟨h.1,qB hx h.2⟩
 |[],_::_,h=>h.elim
 |_::_,[],h=>h.elim
theorem fD {α β:Type}{R:α->β->Prop}:∀ {a:List α} {b:List β},All2 R a b->∀x∈a,∃y∈b,R x y
 |[],[],_,x,hx=>by cases hx
 |u::a,v::b,h,x,hx=>by
  rcases rx.1 hx with rfl|hx
  .exact⟨v,r7,h.1⟩
  .obtain⟨y,hy,hr⟩:=fD h.2 x hx;exact⟨y,r9 _ hy,hr⟩
 |[],_::_,h,_,_=>h.elim
 |_::_,[],h,_,_=>h.elim
def HdL (V:Int->Option La):La->Prop
 |.con _ _ _=>True
 |.bv _=>True
 |.var x=>V x=none
 |_=>False
theorem nD {h:La}(hh:∀b,h ≠ .lam b)(az:List La):∀b,apps h az ≠ .lam b:=λb e=>by
 by_cases ha:az=[]
 .subst ha;exact hh b e
 .obtain⟨l',a,_,h2⟩:=kj h az ha;rw[h2] at e;cases e
theorem HdL.nlam {h:La}(hh:HdL V h):∀b,h ≠ .lam b:=λb e=>by subst e;exact hh
theorem HdL.napp {h:La}(hh:HdL V h):∀x y,h ≠ .app x y:=λx y e=>by subst e;exact hh
theorem d6 {h:La}(hh:HdL V h):∀(n:Nat) (az:List La) {c:La},az.length=n->St1 V (apps h az) c->∃cs,c=apps h cs/\All2 (Sts V) az cs
 |0,az,c,hn,hs=>by
  have:az=[]:=rk hn;subst this;refine⟨[],?_,trivial⟩;cases h with
  |con=>exact hs.elim Wa W4
  |bv=>exact hs.elim Ws KK
  |var x=>
   rcases hs with hs|hs
   .rcases KB hs with e|e
    .exact e
    .rw[show V x=none from hh] at e;cases e
   .exact XW hs
  |lam=>exact hh.elim
  |app=>exact hh.elim
 |n+1,az,c,hn,hs=>by
  obtain⟨l,a,e1,e2⟩:=kj h az (λe=>by rw[e] at hn;cases hn);subst e1;rw[e2] at hs;have hl:l.length=n:=zo hn
  rcases hs with hs|hs
  .rcases Zh hs with⟨f',a',rfl,h1,h2⟩|⟨b,b',a',e,_,_,_⟩
   .obtain⟨cs,rfl,h3⟩:=d6 hh n l hl<|.inl h1
    exact⟨cs++[a'],by rw[xx];rfl,qB (.one<|.inl h2) h3⟩
   .exact absurd e<|nD hh.nlam l b
  .obtain⟨f',a',rfl,h1,h2⟩:=X8 hs;obtain⟨cs,rfl,h3⟩:=d6 hh n l hl<|.inr h1
   exact⟨cs++[a'],by rw[xx];rfl,qB (.one<|.inr h2) h3⟩
theorem cj {h:La}(hh:HdL V h){t c:La}(hs:Sts V t c):∀ {az:List La},t=apps h az->∃cs,c=apps h cs/\All2 (Sts V) az cs:=by
 induction hs with
 |refl a=>intro az e;exact⟨az,e,ur .refl az⟩
 |step h1 _ ih=>
  intro az e;subst e;obtain⟨ds,rfl,h2⟩:=d6 hh _ az rfl h1;obtain⟨cs,e,h3⟩:=ih rfl;exact⟨cs,e,uV (λ_ _ _ a b=>a.trans b) h2 h3⟩
theorem XQ {h g:La}(hh:HdL V h)(hg:HdL V g){az bs:List La}(he:Eqv V (apps h az)<|apps g bs):h=g/\All2 (Eqv V) az bs:=by
 obtain⟨c,h1,h2⟩:=he;obtain⟨xs,e1,a1⟩:=cj hh h1 rfl;obtain⟨ys,e2,a2⟩:=cj hg h2 rfl;rw[e1] at e2;obtain⟨e3,e4⟩:=aC hh.napp hg.napp e2;subst e4;exact⟨e3,uV (λx y z a b=>⟨y,a,b⟩) a1<|vW (λ_ _ a=>a) a2⟩
theorem HdL.lift {h:La}(hh:HdL V h)(k:Nat):HdL V (h.lift k):=by
 cases h with
 |con=>exact hh
 |bv=>rw[La.lift];split<;>trivial
 |var=>exact hh
 |lam=>exact hh.elim
 |app=>exact hh.elim
theorem HdL.unlift {h:La}{k:Nat}(hh:HdL V<|h.lift k):HdL V h:=by
 cases h with
 |con=>exact hh
 |bv=>trivial
 |var=>exact hh
 |lam=>exact hh.elim
 |app=>exact hh.elim
theorem uC {h:La}(hn:∀x y,h ≠ .app x y)(k:Nat):∀(n:Nat) (az:List La) (u:La),az.length=n->u.lift k=apps h az->∃h0 as0,u=apps h0 as0/\h=h0.lift k/\az=as0.map λa=>a.lift k
 |0,az,u,hl,e=>by
  have:az=[]:=rk hl;subst this;exact⟨u,[],rfl,e.symm,rfl⟩
 |n+1,az,u,hl,e=>by
  obtain⟨l,a,e1,e2⟩:=kj h az (λe=>by rw[e] at hl;cases hl);subst e1;rw[e2] at e;cases u with
  |con=>cases e
  |var=>cases e
  |lam=>cases e
  |bv m=>rw[La.lift] at e;split at e<;>cases e
  |app f x=>
   rw[La.lift] at e;injection e with e3 e4
   obtain⟨h0,as0,rfl,e5,e6⟩:=uC hn k n l f (zo hl) e3;exact⟨h0,as0++[x],by rw[xx];rfl,e5,by rw[e6,t7,e4.symm];rfl⟩
def lfQ (lv:Int)(q:Int->Prop):La->Prop
 |.bv _=>True
 |.con k n s=>k=1/\s=[]/\lv<n/\q n
 |_=>False
structure PatL (V:Int->Option La)(lv:Int)(q:Int->Prop)(az ls:List La):Prop where
 eq:All2 (Eqv V) az ls
 lf:∀l∈ls,lfQ lv q l
 nd:ls.Nodup
 c0:0<=lv
inductive Gd (V:Int->Option La)(lv:Int->Int)(p q:Int->Prop):La->Prop
 |lam {t b:La}:Eqv V t (.lam b)->Gd V lv p q b->Gd V lv p q t
 |rig {t h:La} {az:List La}:(∀x,h ≠ .var x)->HdL V h->Eqv V t (apps h az)->(∀a∈az,Gd V lv p q a)->Gd V lv p q t
 |flx {t:La} {x:Int} {az ls:List La}:V x=none->p x->Eqv V t (apps (.var x) az)->PatL V (lv x) q az ls->Gd V lv p q t
theorem lfQ.lift {c:Int}{q:Int->Prop}{l:La}(h:lfQ c q l)(k:Nat):lfQ c q (l.lift k):=by
 cases l with
 |con=>exact h
 |bv=>rw[La.lift];split<;>trivial
 |var=>exact h.elim
 |lam=>exact h.elim
 |app=>exact h.elim
theorem lfQ.unlift {c:Int}{q:Int->Prop}{l:La}{k:Nat}(h:lfQ c q<|l.lift k):lfQ c q l:=by
 cases l with
 |con=>exact h
 |bv=>trivial
 |var=>exact h.elim
 |lam=>exact h.elim
 |app=>exact h.elim
theorem lfQ.nf {c:Int}{q:Int->Prop}{l:La}(h:lfQ c q l){n:La}(hs:Sts V l n):n=l:=by
 refine NfL.sts ?_ hs;cases l with
 |con=>exact(dp _ _ _).2
 |bv=>exact(lm _).2
 |var=>exact h.elim
 |lam=>exact h.elim
 |app=>exact h.elim
theorem lfQ.hd {c:Int}{q:Int->Prop}{l:La}(h:lfQ c q l):HdL V l/\∀x,l ≠ .var x:=by
 cases l with
 |con=>exact⟨trivial,λx e=>by cases e⟩
 |bv=>exact⟨trivial,λx e=>by cases e⟩
 |var=>exact h.elim
 |lam=>exact h.elim
 |app=>exact h.elim
theorem lfQ.eq {c c':Int}{q q':Int->Prop}{l m:La}(h:lfQ c q l)(h':lfQ c' q' m)(he:Eqv V l m):l=m:=by
 obtain⟨n,h1,h2⟩:=he;rw[<-h.nf h1,<-h'.nf h2]
theorem KM {f:La->La}(hf:∀x y,f x=f y->x=y):∀ {l:List La},l.Nodup->(l.map f).Nodup
 |[],_=>zb
 |a::l,h=>by
  have h:=rY.1 h;rw[rO,rY];refine⟨λhm=>?_,KM hf h.2⟩;obtain⟨b,hb,e⟩:=rK.1 hm;rw[hf _ _ e] at hb;exact h.1 hb
theorem bv0_lift (a:La)(k:Nat)(h:a.lift k=.bv k):False:=by
 cases a with
 |con=>cases h
 |var=>cases h
 |lam=>cases h
 |app=>cases h
 |bv n=>
  rw[La.lift] at h;split at h<;>injection h with h<;>omega
theorem PatL.lift (hV:ClV V){c:Int}{q:Int->Prop}{az ls:List La}(h:PatL V c q az ls)(k:Nat):PatL V c q (az.map λa=>a.lift k) (ls.map λa=>a.lift k):=
 ⟨db _ _ (λ_ _ e=>e.lift hV k) h.eq,λl hl=>by obtain⟨m,hm,rfl⟩:=rK.1 hl;exact(h.lf m hm).lift k,KM (λ_ _ e=>La.lift_inj e) h.nd,h.c0⟩
theorem PatL.more0 (hV:ClV V){c:Int}{q:Int->Prop}{az ls:List La}(h:PatL V c q az ls):PatL V c q ((az.map λa=>a.lift 0)++[.bv 0]) ((ls.map λa=>a.lift 0)++[.bv 0]):=by
 have h1:=h.lift hV 0;refine⟨qB (.refl _) h1.eq,λl hl=>?_,?_,h.c0⟩
 .rcases rQ.1 hl with hl|hl
  .exact h1.lf l hl
  .rw[rJ.1 hl];trivial
 .rw[sq];refine⟨h1.nd,zb,λa ha b hb e=>?_⟩;rw[rJ.1 hb] at e;obtain⟨m,_,e2⟩:=rK.1 ha;exact bv0_lift m 0 (by rw[e2,e])
theorem PatL.unlift (hV:ClV V){c:Int}{q:Int->Prop}{k:Nat}:∀ {az ls:List La},PatL V c q (az.map λa=>a.lift k) ls->∃ls0,ls=ls0.map (λa=>a.lift k)/\PatL V c q az ls0
 |[],[],h=>⟨[],rfl,⟨trivial,λl hl=>(by cases hl),zb,h.c0⟩⟩
 |a::az,l::ls,h=>by
  obtain⟨ls0,e1,h1⟩:=PatL.unlift hV (az:=az) (ls:=ls) ⟨h.eq.2,λm hm=>h.lf m<|r9 _ hm,(rY.1 h.nd).2,h.c0⟩;obtain⟨n,h2,h3⟩:=h.eq.1;have hl:=h.lf l r7;have e:=hl.nf h3;subst e;obtain⟨n',e4,h4⟩:=h2.pull hV rfl;refine⟨n'::ls0,by rw[rO,<-e4,e1],⟨⟨⟨n',h4,.refl _⟩,h1.eq⟩,λm hm=>?_,?_,h.c0⟩⟩
  .rcases rx.1 hm with rfl|hm
   .rw[e4] at hl;exact hl.unlift
   .exact h1.lf m hm
  .have:=h.nd;rw[e4,e1] at this;have h5:=rY.1 this;exact rY.2 ⟨λhm=>h5.1<|rK.2 ⟨n',hm,rfl⟩,h1.nd⟩
 |[],_::_,h=>h.eq.elim
 |_::_,[],h=>h.eq.elim
theorem PatL.init {c:Int}{q:Int->Prop}{az:List La}{a:La}{ls:List La}(h:PatL V c q (az++[a]) ls):∃ms,PatL V c q az ms:=by
 have key:∀(az:List La) (a:La) (ls:List La),All2 (Eqv V) (az++[a]) ls->∃ms l,ls=ms++[l]/\All2 (Eqv V) az ms:=by
  intro az
  induction az with
  |nil=>intro a ls h;cases ls with
   |nil=>exact h.elim
   |cons l r=>cases r with
    |nil=>exact⟨[],l,rfl,trivial⟩
    |cons=>exact h.2.elim
  |cons b az ih=>intro a ls h;cases ls with
   |nil=>exact h.elim
   |cons l r=>
    obtain⟨ms,m,e,h2⟩:=ih a r h.2;exact⟨l::ms,m,by rw[e];rfl,h.1,h2⟩
 obtain⟨ms,l,rfl,h2⟩:=key az a ls h.eq;exact⟨ms,h2,λm hm=>h.lf m<|sE _ hm,(sq.1 h.nd).1,h.c0⟩
variable {lv:Int->Int} {p q:Int->Prop}
theorem Gd.eqv (hV:ClV V){t u:La}(h:Gd V lv p q t)(he:Eqv V t u):Gd V lv p q u:=by
 cases h with
 |lam h1 h2=>exact .lam (he.symm.trans hV h1) h2
 |rig hx hh h1 h2=>exact .rig hx hh (he.symm.trans hV h1) h2
 |flx hx hp h1 h2=>exact .flx hx hp (he.symm.trans hV h1) h2
theorem Gd.weak {p' q':Int->Prop}(hp:∀x,p x->p' x)(hq:∀n,q n->q' n){t:La}(h:Gd V lv p q t):Gd V lv p' q' t:=by
 induction h with
 |lam h1 _ ih=>exact .lam h1 ih
 |rig hx hh h1 _ ih=>exact .rig hx hh h1 ih
 |flx hx hpx h1 h2=>
  refine .flx hx (hp _ hpx) h1 ⟨h2.eq,λl hl=>?_,h2.nd,h2.c0⟩;have:=h2.lf l hl;cases l with
  |con=>exact⟨this.1,this.2.1,this.2.2.1,hq _ this.2.2.2⟩
  |bv=>trivial
  |var=>exact this.elim
  |lam=>exact this.elim
  |app=>exact this.elim
theorem Gd.lift (hV:ClV V){t:La}(h:Gd V lv p q t):∀k:Nat,Gd V lv p q (t.lift k):=by
 induction h with
 |lam h1 _ ih=>intro k;exact .lam (h1.lift hV k)<|ih<|k+1
 |@rig t h az hx hh h1 _ ih=>
  intro k;have:=h1.lift hV k;rw[w8] at this;refine .rig (h:=h.lift k) (λx e=>?_) (hh.lift k) this λa ha=>?_
  .cases h with
   |bv n=>rw[La.lift] at e;split at e<;>cases e
   |var y=>exact hx y rfl
   |con=>cases e
   |lam=>exact hh.elim
   |app=>exact hh.elim
  .obtain⟨b,hb,rfl⟩:=rK.1 ha;exact ih b hb k
 |@flx t x az ls hx hp h1 h2=>
  intro k;have:=h1.lift hV k;rw[w8] at this;exact .flx hx hp this (h2.lift hV k)
theorem gd_bv (n:Nat):Gd V lv p q (.bv n):=.rig (h:=.bv n) (az:=[]) (λx e=>by cases e) trivial (.refl _) λa ha=>by cases ha
theorem Gd.body (hV:ClV V){t:La}(h:Gd V lv p q t):Gd V lv p q (.app (t.lift 0)<|.bv 0):=by
 cases h with
 |@lam t b h1 h2=>
  refine h2.eqv hV ?_;have h3:=(h1.lift hV 0).app<|Eqv.refl (V:=V)<|.bv 0
  have h4:Sts V (.app (La.lift (.lam b) 0)<|.bv 0) b:=by
   have:=Sts.beta (V:=V) (b.lift 1)<|.bv 0
   rwa [La.sub_lift_bv b 0] at this
  exact((h3.trans hV<|Eqv.of h4)).symm
 |@rig t h az hx hh h1 h2=>
  have h3:=(h1.lift hV 0).app<|Eqv.refl (V:=V)<|.bv 0
  rw[w8] at h3;have e:La.app (apps (h.lift 0)<|az.map λa=>a.lift 0) (.bv 0)=apps (h.lift 0) ((az.map λa=>a.lift 0)++[.bv 0]):=by rw[xx];rfl
  rw[e] at h3;refine .rig (h:=h.lift 0) (λx e=>?_) (hh.lift 0) h3 λa ha=>?_
  .cases h with
   |bv n=>rw[La.lift] at e;split at e<;>cases e
   |var y=>exact hx y rfl
   |con=>cases e
   |lam=>exact hh.elim
   |app=>exact hh.elim
  .rcases rQ.1 ha with ha|ha
   .obtain⟨b,hb,rfl⟩:=rK.1 ha;exact(h2 b hb).lift hV 0
   .rw[rJ.1 ha];exact gd_bv 0
 |@flx t x az ls hx hp h1 h2=>
  have h3:=(h1.lift hV 0).app<|Eqv.refl (V:=V)<|.bv 0
  rw[w8] at h3;have e:La.app (apps (La.lift (.var x) 0)<|az.map λa=>a.lift 0) (.bv 0)=apps (.var x) ((az.map λa=>a.lift 0)++[.bv 0]):=by rw[xx];rfl
  rw[e] at h3;exact .flx hx hp h3<|h2.more0 hV
theorem Gd.unbody {t:La}(h:Gd V lv p q<|.app (t.lift 0)<|.bv 0):Gd V lv p q t:=.lam ⟨t,.refl _,.eta t⟩ h
theorem Gd.unlift (hV:ClV V){u:La}(h:Gd V lv p q u):∀ {t:La} {k:Nat},Eqv V u (t.lift k)->Gd V lv p q t:=by
 induction h with
 |@lam u b h1 _ ih=>
  intro t k he;refine Gd.unbody<|ih (k:=k+1) ?_
  have h3:Eqv V (.lam b) (t.lift k):=h1.symm.trans hV he;have h4:=(h3.lift hV 0).app<|Eqv.refl (V:=V)<|.bv 0
  have h5:Sts V (.app (La.lift (.lam b) 0)<|.bv 0) b:=by
   have:=Sts.beta (V:=V) (b.lift 1)<|.bv 0
   rwa [La.sub_lift_bv b 0] at this
  have e:La.lift (.app (t.lift 0)<|.bv 0) (k+1)=.app ((t.lift k).lift 0) (.bv 0):=by
   rw[La.lift,La.lift,oX za,La.lift_lift t 0 k za]
  rw[e];exact(Eqv.of h5).symm.trans hV h4
 |@rig u h az hx hh h1 _ ih=>
  intro t k he;obtain⟨c,c1,c2⟩:=h1.symm.trans hV he;obtain⟨cs,rfl,a1⟩:=cj hh c1 rfl;obtain⟨t',e,s1⟩:=c2.pull hV rfl;obtain⟨h0,as0,rfl,e1,e2⟩:=uC hh.napp k _ cs t' rfl e.symm;subst e1;subst e2;refine Gd.eqv hV (.rig (h:=h0) (az:=as0) (λx e=>hx x<|by rw[e];rfl) hh.unlift (.refl _) λa ha=>?_) (Eqv.of s1).symm;obtain⟨y,hy,r⟩:=fD (vW (S:=λy x=>Sts V x y) (λ_ _ a=>a) a1) (a.lift k)<|rK.2 ⟨a,ha,rfl⟩
  exact ih y hy<|Eqv.of r
 |@flx u x az ls hx hp h1 h2=>
  intro t k he;obtain⟨c,c1,c2⟩:=h1.symm.trans hV he;have hh:HdL V (.var x):=hx;obtain⟨cs,rfl,a1⟩:=cj hh c1 rfl;obtain⟨t',e,s1⟩:=c2.pull hV rfl;obtain⟨h0,as0,rfl,e1,e2⟩:=uC hh.napp k _ cs t' rfl e.symm;subst e2
  have e3:h0=.var x:=by
   cases h0 with
   |var y=>injection e1 with e1;rw[e1]
   |bv n=>rw[La.lift] at e1;split at e1<;>cases e1
   |con=>cases e1
   |lam=>cases e1
   |app=>cases e1
  subst e3;have hp2:PatL V (lv x) q (as0.map λa=>a.lift k) ls:=⟨uV (R:=λy x=>Sts V x y) (S:=Eqv V) (T:=Eqv V) (λa b c r1 r2=>(Eqv.of r1).symm.trans hV r2) (vW (S:=λy x=>Sts V x y) (λ_ _ a=>a) a1) h2.eq,h2.lf,h2.nd,h2.c0⟩;obtain⟨ls0,_,h3⟩:=hp2.unlift hV;exact .flx hx hp (Eqv.of s1) h3
theorem Gd.args (hV:ClV V){t:La}(h:Gd V lv p q t):∀ {g:La} {bs:List La},HdL V g->(∀x,g ≠ .var x)->Eqv V t (apps g bs)->∀b∈bs,Gd V lv p q b:=by
 induction h with
 |@lam t b h1 _ ih=>
  intro g bs hg hx he;have h3:Eqv V (.lam b) (apps g bs):=h1.symm.trans hV he;have h4:=(h3.lift hV 0).app<|Eqv.refl (V:=V)<|.bv 0
  have h5:Sts V (.app (La.lift (.lam b) 0)<|.bv 0) b:=by
   have:=Sts.beta (V:=V) (b.lift 1)<|.bv 0
   rwa [La.sub_lift_bv b 0] at this
  rw[w8] at h4;have e:La.app (apps (g.lift 0)<|bs.map λa=>a.lift 0) (.bv 0)=apps (g.lift 0) ((bs.map λa=>a.lift 0)++[.bv 0]):=by rw[xx];rfl
  rw[e] at h4;intro c hc;have:=ih (hg.lift 0) (λx e=>?_) ((Eqv.of h5).symm.trans hV h4) (c.lift 0)<|sE _<|rK.2 ⟨c,hc,rfl⟩
  .exact this.unlift hV<|.refl _
  .cases g with
   |bv n=>rw[La.lift] at e;split at e<;>cases e
   |var y=>exact hx y rfl
   |con=>cases e
   |lam=>exact hg.elim
   |app=>exact hg.elim
 |@rig t h az hx hh h1 h2 _=>
  intro g bs hg _ he b hb;obtain⟨_,a⟩:=XQ hh hg<|h1.symm.trans hV he
  obtain⟨y,hy,r⟩:=fD (vW (S:=λy x=>Eqv V x y) (λ_ _ a=>a) a) b hb;exact(h2 y hy).eqv hV r
 |@flx t x az ls hx hp h1 h2=>
  intro g bs hg hgx he;obtain⟨e,_⟩:=XQ (h:=.var x) hx hg<|h1.symm.trans hV he
  exact absurd e.symm<|hgx x
theorem Gd.pat (hV:ClV V){t:La}(h:Gd V lv p q t):∀ {y:Int} {bs:List La},V y=none->Eqv V t (apps (.var y) bs)->∃ls,PatL V (lv y) q bs ls:=by
 induction h with
 |@lam t b h1 _ ih=>
  intro y bs hy he;have h3:Eqv V (.lam b) (apps (.var y) bs):=h1.symm.trans hV he;have h4:=(h3.lift hV 0).app<|Eqv.refl (V:=V)<|.bv 0
  have h5:Sts V (.app (La.lift (.lam b) 0)<|.bv 0) b:=by
   have:=Sts.beta (V:=V) (b.lift 1)<|.bv 0
   rwa [La.sub_lift_bv b 0] at this
  rw[w8] at h4;have e:La.app (apps (La.lift (.var y) 0)<|bs.map λa=>a.lift 0) (.bv 0)=apps (.var y) ((bs.map λa=>a.lift 0)++[.bv 0]):=by rw[xx];rfl
  rw[e] at h4;obtain⟨ls,h6⟩:=ih hy<|(Eqv.of h5).symm.trans hV h4
  obtain⟨ms,h7⟩:=h6.init;obtain⟨ns,_,h8⟩:=h7.unlift hV;exact⟨ns,h8⟩
 |@rig t h az hx hh h1 h2 _=>
  intro y bs hy he;obtain⟨e,_⟩:=XQ hh (g:=.var y) hy<|h1.symm.trans hV he
  exact absurd e<|hx y
 |@flx t x az ls hx hp h1 h2=>
  intro y bs hy he;obtain⟨e,a⟩:=XQ (h:=.var x) hx (g:=.var y) hy<|h1.symm.trans hV he
  injection e with e
  subst e;exact⟨ls,uV (λ_ _ _ r1 r2=>r1.trans hV r2) (vW (S:=λy x=>Eqv V y x) (λ_ _ a=>a.symm) a) h2.eq,h2.lf,h2.nd,h2.c0⟩
def gz (σ:Nat->La)(n d:Nat):La:=if n<d then .bv n else(σ<|n-d).sh d 0
theorem ZS (σ:Nat->La):∀(t:La) (e d:Nat),e<=d->(t.lift e).wk (gz σ) (d+1)=(t.wk (gz σ) d).lift e
 |.con _ _ _,_,_,_=>rfl
 |.var _,_,_,_=>rfl
 |.bv n,e,d,h=>by
  rw[La.lift];by_cases h1:n<e
  .rw[oX h1,La.wk,La.wk,gz,gz,oX za,oX za,La.lift,oX h1]
  .rw[oV h1,La.wk,La.wk,gz,gz];by_cases h2:n<d
   .rw[oX za,oX h2,La.lift,oV h1]
   .rw[oV za,oV h2,La.sh_succ _ d 0 e za za,(za:n+1-(d+1)=n-d)]
 |.lam b,e,d,h=>by rw[La.lift,La.wk,La.wk,La.lift,ZS σ b (e+1) (d+1) za]
 |.app f a,e,d,h=>by rw[La.lift,La.wk,La.wk,La.lift,ZS σ f e d h,ZS σ a e d h]
theorem Wm (σ:Nat->La):∀(t u:La) (e d:Nat),e<=d->(t.sub u e).wk (gz σ) d=(t.wk (gz σ)<|d+1).sub (u.wk (gz σ) d) e
 |.con _ _ _,_,_,_,_=>rfl
 |.var _,_,_,_,_=>rfl
 |.bv n,u,e,d,h=>by
  rw[La.sub,La.wk];by_cases h1:n<e
  .rw[oX h1,La.wk,gz,gz,oX za,oX za,La.sub,oX h1]
  .by_cases h2:n=e
   .rw[oV h1,oX h2,gz,oX za,La.sub,oV h1,oX h2]
   .rw[oV h1,oV h2,La.wk,gz,gz];by_cases h3:n-1<d
    .rw[oX h3,oX za,La.sub,oV h1,oV h2]
    .rw[oV h3,oV za,<-La.sh_succ _ d 0 e za za,La.sub_lift,(za:n-(d+1)=n-1-d)]
 |.lam b,u,e,d,h=>by rw[La.sub,La.wk,La.wk,La.sub,Wm σ b (u.lift 0) (e+1) (d+1) za,ZS σ u 0 d za]
 |.app f a,u,e,d,h=>by rw[La.sub,La.wk,La.wk,La.sub,Wm σ f u e d h,Wm σ a u e d h]
theorem jN (σ:Nat->La):∀(t:La) (d:Nat),t.lift d=t->t.wk (gz σ) d=t
 |.con _ _ _,_,_=>rfl
 |.var _,_,_=>rfl
 |.bv n,d,h=>by
  rw[La.lift] at h;rw[La.wk,gz];split at h
  next q=>rw[oX q]
  .injection h with h;omega
 |.lam b,d,h=>by
  rw[La.lift] at h;injection h with h
  rw[La.wk,jN σ b (d+1) h]
 |.app f a,d,h=>by
  rw[La.lift] at h;injection h with h1 h2
  rw[La.wk,jN σ f d h1,jN σ a d h2]
theorem ZD (g h:Nat->Nat->La)(e:Nat)(hg:∀n d,n<d+e->g n d=h n d):∀(t:La) (d:Nat),t.lift (d+e)=t->t.wk g d=t.wk h d
 |.con _ _ _,_,_=>rfl
 |.var _,_,_=>rfl
 |.bv n,d,q=>by
  rw[La.lift] at q;split at q
  next q1=>exact hg n d q1
  .injection q with q;omega
 |.lam b,d,q=>by
  rw[La.lift] at q;injection q with q
  rw[La.wk,La.wk,ZD g h e hg b (d+1)<|by rw[(za:d+1+e=d+e+1)];exact q]
 |.app f a,d,q=>by
  rw[La.lift] at q;injection q with q1 q2
  rw[La.wk,La.wk,ZD g h e hg f d q1,ZD g h e hg a d q2]
theorem be_wk (hV:ClV V)(σ:Nat->La){a b:La}(h:Be V a b):∀d:Nat,Be V (a.wk (gz σ) d) (b.wk (gz σ) d):=by
 induction h with
 |con=>intro d;exact .con _ _ _
 |var=>intro d;exact .var _
 |bv n=>intro d;exact .refl _
 |@del x v h=>intro d;rw[jN σ v d<|hV x v h d];exact .del h
 |lam _ ih=>intro d;exact .lam<|ih<|d+1
 |app _ _ h1 h2=>intro d;exact .app (h1 d)<|h2 d
 |@beta b b' a a' _ _ h1 h2=>
  intro d;rw[Wm σ b' a' 0 d za];exact .beta (h1<|d+1)<|h2 d
theorem et_wk (σ:Nat->La){a b:La}(h:Et a b):∀d:Nat,Et (a.wk (gz σ) d) (b.wk (gz σ) d):=by
 induction h with
 |con=>intro d;exact .con _ _ _
 |var=>intro d;exact .var _
 |bv n=>intro d;exact .refl _
 |lam _ ih=>intro d;exact .lam<|ih<|d+1
 |app _ _ h1 h2=>intro d;exact .app (h1 d)<|h2 d
 |@eta u u' _ ih=>
  intro d
  have:La.wk (gz σ) (.lam<|.app (u.lift 0)<|.bv 0) d=.lam (.app ((u.wk (gz σ) d).lift 0)<|.bv 0):=by
   rw[La.wk,La.wk,ZS σ u 0 d za,La.wk,gz,oX za]
  rw[this];exact .eta<|ih d
theorem Eqv.wk (hV:ClV V)(σ:Nat->La){a b:La}(h:Eqv V a b)(d:Nat):Eqv V (a.wk (gz σ) d) (b.wk (gz σ) d):=by
 have key:∀ {a b:La},Sts V a b->Sts V (a.wk (gz σ) d) (b.wk (gz σ) d):=λh=>by
  induction h with
  |refl=>exact .refl _
  |step h _ ih=>exact .step (h.imp (λh=>be_wk hV σ h d) λh=>et_wk σ h d) ih
 obtain⟨c,h1,h2⟩:=h;exact⟨_,key h1,key h2⟩
structure Inj (c:Int)(q:Int->Prop)(σ:Nat->La):Prop where
 lf:∀n,lfQ c q<|σ n
 inj:∀n m,σ n=σ m->n=m
theorem lf_sh {c:Int}{q:Int->Prop}{l:La}(h:lfQ c q l)(d:Nat):lfQ c q (l.sh d 0):=by
 cases l with
 |con=>exact h
 |bv=>rw[La.sh,oV za];trivial
 |var=>exact h.elim
 |lam=>exact h.elim
 |app=>exact h.elim
theorem ma {c:Int}{q:Int->Prop}{l m:La}(h:lfQ c q l)(h':lfQ c q m){d:Nat}(e:l.sh d 0=m.sh d 0):l=m:=by
 cases l with
 |con=>cases m with
  |con=>exact e
  |bv=>rw[La.sh,La.sh,oV za] at e;cases e
  |var=>exact h'.elim
  |lam=>exact h'.elim
  |app=>exact h'.elim
 |bv=>cases m with
  |con=>rw[La.sh,La.sh,oV za] at e;cases e
  |bv=>
   rw[La.sh,La.sh,oV za,oV za] at e;injection e with e
   congr 1;omega
  |var=>exact h'.elim
  |lam=>exact h'.elim
  |app=>exact h'.elim
 |var=>exact h.elim
 |lam=>exact h.elim
 |app=>exact h.elim
theorem Inj.gz {c:Int}{q:Int->Prop}{σ:Nat->La}(h:Inj c q σ)(d:Nat):(∀n,lfQ c q<|Go.AM.gz σ n d)/\∀n m,Go.AM.gz σ n d=Go.AM.gz σ m d->n=m:=by
 refine⟨λn=>?_,λn m e=>?_⟩
 .rw[Go.AM.gz];split
  .trivial
  .exact lf_sh (h.lf _) d
 .have off:∀i:Nat,∀j,(σ i).sh d 0=.bv j->d<=j:=λi j e=>by
   have hl:=h.lf i;cases hs:σ i with
   |con=>rw[hs] at e;cases e
   |bv k=>rw[hs,La.sh,oV za] at e;injection e with e;omega
   |var=>rw[hs] at hl;exact hl.elim
   |lam=>rw[hs] at hl;exact hl.elim
   |app=>rw[hs] at hl;exact hl.elim
  rw[Go.AM.gz,Go.AM.gz] at e;by_cases h1:n<d
  .rw[oX h1] at e;by_cases h2:m<d
   .rw[oX h2] at e;injection e
   .rw[oV h2] at e;have:=off _ _ e.symm;omega
  .rw[oV h1] at e;by_cases h2:m<d
   .rw[oX h2] at e;have:=off _ _ e;omega
   .rw[oV h2] at e;have:=h.inj _ _<|ma (h.lf _) (h.lf _) e
    omega
theorem Gd.wk (hV:ClV V){c:Int}{p q Q:Int->Prop}(hp:∀x,p x->lv x<=c)(hq:∀n,q n->n<=c/\Q n){σ:Nat->La}(hσ:Inj c Q σ){t:La}(h:Gd V lv p q t):∀d:Nat,Gd V lv p Q (t.wk (gz σ) d):=by
 induction h with
 |lam h1 _ ih=>intro d;exact .lam (h1.wk hV σ d)<|ih<|d+1
 |@rig t h az hx hh h1 _ ih=>
  intro d;have e:=h1.wk hV σ d;rw[uT] at e
  have hd:HdL V (h.wk (Go.AM.gz σ) d)/\∀x,h.wk (Go.AM.gz σ) d ≠ .var x:=by
   cases h with
   |con=>exact⟨trivial,λx e=>by cases e⟩
   |bv n=>exact((hσ.gz d).1 n).hd
   |var x=>exact absurd rfl (hx x)
   |lam=>exact hh.elim
   |app=>exact hh.elim
  refine .rig hd.2 hd.1 e λa ha=>?_;obtain⟨b,hb,rfl⟩:=rK.1 ha;exact ih b hb d
 |@flx t x az ls hx hpx h1 h2=>
  intro d;have e:=h1.wk hV σ d;rw[uT] at e;have g:=hσ.gz d;have hc:=hp x hpx;refine .flx hx hpx e ⟨db _ _ (λ_ _ r=>r.wk hV σ d) h2.eq,λl hl=>?_,?_,h2.c0⟩
  .obtain⟨m,hm,rfl⟩:=rK.1 hl;have hl:=h2.lf m hm;cases m with
   |con=>exact⟨hl.1,hl.2.1,hl.2.2.1,(hq _ hl.2.2.2).2⟩
   |bv n=>
    have:=g.1 n;show lfQ (lv x) Q<|Go.AM.gz σ n d
    cases hs:Go.AM.gz σ n d with
    |con=>rw[hs] at this;exact⟨this.1,this.2.1,by have:=this.2.2.1;omega,this.2.2.2⟩
    |bv=>trivial
    |var=>rw[hs] at this;exact this.elim
    |lam=>rw[hs] at this;exact this.elim
    |app=>rw[hs] at this;exact this.elim
   |var=>exact hl.elim
   |lam=>exact hl.elim
   |app=>exact hl.elim
  .have key:∀(l:List La),(∀m∈l,lfQ (lv x) q m)->l.Nodup->(l.map λa=>a.wk (Go.AM.gz σ) d).Nodup:=by
    intro l
    induction l with
    |nil=>intro _ _;simp
    |cons m l ih=>
     intro hl hn;have hn:=rY.1 hn;rw[rO,rY];refine⟨λhm=>?_,ih (λz hz=>hl z<|r9 _ hz) hn.2⟩;obtain⟨z,hz,ez⟩:=rK.1 hm;have l1:=hl m r7;have l2:=hl z<|r9 _ hz
     refine hn.1 ?_
     have:m=z:=by
      cases m with
      |con k n s=>cases z with
       |con=>exact ez.symm
       |bv j=>
        have:=g.1 j;have ez:Go.AM.gz σ j d=.con k n s:=ez;rw[ez] at this;have h3:=this.2.2.1;have h4:=(hq _ l1.2.2.2).1;omega
       |var=>exact l2.elim
       |lam=>exact l2.elim
       |app=>exact l2.elim
      |bv i=>cases z with
       |con k n s=>
        have:=g.1 i;have ez:La.con k n s=Go.AM.gz σ i d:=ez;rw[<-ez] at this;have h3:=this.2.2.1;have h4:=(hq _ l2.2.2.2).1;omega
       |bv j=>
        have ez:Go.AM.gz σ j d=Go.AM.gz σ i d:=ez;rw[g.2 _ _ ez]
       |var=>exact l2.elim
       |lam=>exact l2.elim
       |app=>exact l2.elim
      |var=>exact l1.elim
      |lam=>exact l1.elim
      |app=>exact l1.elim
     rw[this];exact hz
   exact key ls h2.lf h2.nd
def GV (V:Int->Option La)(lv:Int->Int)(p:Int->Prop)(y:Int)(v:La):Prop:=∃(n:Nat) (b:La),v=yy n b/\Gd V lv (λz=>p z/\lv z<=lv y) (λm=>m<=lv y) b
theorem Yu:∀(n:Nat) (b:La) (k:Nat),(yy n b).lift k=yy n (b.lift<|k+n)
 |0,_,_=>rfl
 |n+1,b,k=>by rw[yy,La.lift,Yu n b<|k+1,yy,(za:k+1+n=k+(n+1))]
theorem WX:∀ {n:Nat} {a b:La},yy n a=yy n b->a=b
 |0,_,_,h=>h
 |n+1,_,_,h=>by
  rw[yy,yy] at h;injection h with h
  exact WX h
theorem Sts.lams:∀(n:Nat) {a b:La},Sts V a b->Sts V (yy n a) (yy n b)
 |0,_,_,h=>h
 |n+1,_,_,h=>(Sts.lams n h).lam
theorem bv_top:∀ls:List La,∃N:Nat,∀n,La.bv n∈ls->n<N
 |[]=>⟨0,λn h=>by cases h⟩
 |l::ls=>by
  obtain⟨N,h⟩:=bv_top ls;cases l with
  |bv m=>
   refine⟨N+m+1,λn hn=>?_⟩;rcases rx.1 hn with e|hn
   .injection e with e;omega
   .have:=h n hn;omega
  |_=>exact⟨N,λn hn=>by rcases rx.1 hn with e|hn; · cases e
                        .exact h n hn⟩
theorem gv_full (hV:ClV V){c:Int}{p q Q:Int->Prop}(hp:∀x,p x->lv x<=c)(hq:∀n,q n->n<=c/\Q n){b:La}(h:Gd V lv p q b){ls:List La}(hc:b.lift ls.length=b)(hl:∀l∈ls,lfQ c Q l)(hn:ls.Nodup):
  Gd V lv p Q (apps (yy ls.length b) ls):=by
 obtain⟨N,hN⟩:=bv_top ls;refine Gd.eqv hV (Gd.wk hV hp hq (σ:=λi=>if i<ls.length then ls.getD (ls.length-1-i) laD else .bv<|i+N) ⟨λi=>?_,λi j e=>?_⟩ h 0) ?_
 .split
  .rename_i q;have:ls.length-1-i<ls.length:=za
   rw[tF,rf this];exact hl _<|td this
  .trivial
 .have get:∀i,i<ls.length->ls.getD (ls.length-1-i) laD∈ls:=λi q=>by
   have:ls.length-1-i<ls.length:=za
   rw[tF,rf this];exact td this
  by_cases hi:i<ls.length
  .rw[oX hi] at e;by_cases hj:j<ls.length
   .rw[oX hj] at e;have q1:ls.length-1-i<ls.length:=za
    have q2:ls.length-1-j<ls.length:=za
    rw[tF,rf q1,tF,rf q2] at e;have:=(List.getElem_inj hn).1 e;omega
   .rw[oV hj] at e;have:=hN (j+N) (by rw[<-e];exact get i hi);omega
  .rw[oV hi] at e;by_cases hj:j<ls.length
   .rw[oX hj] at e;have:=hN (i+N) (by rw[e];exact get j hj);omega
   .rw[oV hj] at e;injection e with e
    omega
 .have e:=Yi (V:=V) ls b
  have e2:b.wk (gs ls) 0=b.wk (gz λi=>if i<ls.length then ls.getD (ls.length-1-i) laD else .bv<|i+N) 0:=by
   refine ZD _ _ ls.length (λn d hnd=>?_) b 0 (by rw[rB];exact hc);rw[gs,gz];split
   .rfl
   .rw[oX za]
  rw[<-e2];exact(Eqv.of e).symm
theorem gv_apply (hV:ClV V){y:Int}{v:La}(hy:V y=some v)(hv:GV V lv p y v)(c0:0<=lv y){Q:Int->Prop}(hQ:∀n,n<=lv y->Q n){ls:List La}(hl:∀l∈ls,lfQ (lv y) Q l)(hn:ls.Nodup):
  Gd V lv (λz=>p z/\lv z<=lv y) Q (apps v ls):=by
 obtain⟨n,b,e,hb⟩:=hv;have hc:=hV y v hy
 have up:∀(m n:Nat) (b:La),(yy n b).lift 0=yy n b->Gd V lv (λz=>p z/\lv z<=lv y) (λm=>m<=lv y) b->∃b',Sts V (yy (n+m) b') (yy n b)/\(yy (n+m) b').lift 0=yy (n+m) b'/\Gd V lv (λz=>p z/\lv z<=lv y) (λm=>m<=lv y) b':=by
  intro m
  induction m with
  |zero=>intro n b h1 h2;exact⟨b,.refl _,h1,h2⟩
  |succ m ih=>
   intro n b h1 h2;obtain⟨b',s1,s2,s3⟩:=ih n b h1 h2;refine⟨.app (b'.lift 0)<|.bv 0,?_,?_,s3.body hV⟩
   .refine Sts.trans ?_ s1;have:=Sts.lams (V:=V) (n+m)<|Sts.eta b'
    rw[Jp] at this;exact this
   .rw[Yu,rB] at s2 ⊢;have s2:=WX s2;rw[La.lift,La.lift,oX za,(za:n+(m+1)=n+m+1),La.lift_lift b' 0 (n+m) za,s2]
 have main:∀(k:Nat) (ls:List La) (n:Nat) (b:La),n-ls.length=k->(yy n b).lift 0=yy n b->Gd V lv (λz=>p z/\lv z<=lv y) (λm=>m<=lv y) b->(∀l∈ls,lfQ (lv y) Q l)->ls.Nodup->Gd V lv (λz=>p z/\lv z<=lv y) Q (apps (yy n b) ls):=by
  intro k
  induction k with
  |zero=>
   intro ls n b hk h1 h2 h3 h4;obtain⟨b',s1,s2,s3⟩:=up (ls.length-n) n b h1 h2;rw[(za:n+(ls.length-n)=ls.length)] at s1 s2;rw[Yu,rB] at s2;exact(gv_full hV (λx h=>h.2) (λm h=>⟨h,hQ m h⟩) s3 (WX s2) h3 h4).eqv hV<|Eqv.of<|Sts.apps ls s1
  |succ k ih=>
   intro ls n b hk h1 h2 h3 h4;refine Gd.unbody ?_;have h5:PatL V (lv y) Q ls ls:=⟨ur .refl ls,h3,h4,c0⟩;have h6:=h5.more0 hV;have:=ih ((ls.map λa=>a.lift 0)++[.bv 0]) n b zj h1 h2 h6.lf h6.nd;rw[xx] at this;rw[w8,h1];exact this
 subst e;exact main _ ls n b rfl (hc 0) hb hl hn
end
section
variable {V W:Int->Option La} {lv:Int->Int} {p q:Int->Prop}
theorem Gd.more (hW:ClV W)(hs:SubV V W)(hg:∀y v,V y=none->W y=some v->p y->GV W lv p y v)(hq:∀y,p y->∀n,n<=lv y->q n){t:La}(h:Gd V lv p q t):Gd W lv p q t:=by
 induction h with
 |lam h1 _ ih=>exact .lam (h1.more hs) ih
 |@rig t h az hx hh h1 _ ih=>
  refine .rig hx ?_ (h1.more hs) ih;cases h with
  |var x=>exact absurd rfl (hx x)
  |con=>trivial
  |bv=>trivial
  |lam=>exact hh.elim
  |app=>exact hh.elim
 |@flx t x az ls hx hp h1 h2=>
  cases hw:W x with
  |none=>exact .flx hw hp (h1.more hs) ⟨WL (λ_ _ r=>r.more hs) h2.eq,h2.lf,h2.nd,h2.c0⟩
  |some v=>
   have:=gv_apply hW hw (hg x v hx hw hp) h2.c0 (Q:=q) (hq x hp) h2.lf h2.nd;refine Gd.eqv hW (this.weak (λ_ h=>h.1) λ_ h=>h) ?_;have e1:=h1.more hs;have e2:Eqv W (apps (.var x) az) (apps v ls):=dD _ _ _ _ (Eqv.of<|Sts.del hw)<|WL (λ_ _ r=>r.more hs) h2.eq
   exact(e1.trans hW e2).symm
structure GX (lv:Int->Int)(p:Int->Prop)(V W:Int->Option La):Prop where
 sub:SubV V W
 new:∀y v,V y=none->W y=some v->GV W lv p y v
theorem GX.refl (V:Int->Option La):GX lv p V V:=⟨.refl _,λy v h1 h2=>by rw[h1] at h2;cases h2⟩
theorem GX.gd (hW:ClV W)(h:GX lv p V W)(hq:∀y,p y->∀n,n<=lv y->q n){t:La}(hg:Gd V lv p q t):Gd W lv p q t:=hg.more hW h.sub (λy v h1 h2 _=>h.new y v h1 h2) hq
theorem GV.more (hW:ClV W)(h:GX lv p V W){y:Int}{v:La}(hg:GV V lv p y v):GV W lv p y v:=by
 obtain⟨n,b,e,hb⟩:=hg;refine⟨n,b,e,hb.more hW h.sub (λz u h1 h2 hz=>?_) λz hz m hm=>by have:=hz.2;omega⟩;obtain⟨n',b',e',hb'⟩:=h.new z u h1 h2;exact⟨n',b',e',hb'.weak (λx hx=>⟨⟨hx.1,by have:=hx.2;have:=hz.2;omega⟩,hx.2⟩) λ_ h=>h⟩
theorem GX.trans {U:Int->Option La}(hW:ClV W)(h1:GX lv p U V)(h2:GX lv p V W):GX lv p U W:=by
 refine⟨h1.sub.trans h2.sub,λy w q1 q2=>?_⟩;cases hv:V y with
 |none=>exact h2.new y w hv q2
 |some v=>
  have:=h2.sub y v hv;rw[q2] at this;injection this with this
  subst this;exact(h1.new y w q1 hv).more hW h2
end
def upS (g:Nat->La):Nat->La
 |0=>.bv 0
 |n+1=>(g n).lift 0
def La.su:La->(Nat->La)->La
 |.con k n s,_=>.con k n s
 |.var x,_=>.var x
 |.bv n,g=>g n
 |.lam b,g=>.lam<|La.su b<|upS g
 |.app f a,g=>.app (La.su f g)<|La.su a g
theorem cZ:∀(t:La) {g h:Nat->La},(∀n,g n=h n)->t.su g=t.su h
 |.con _ _ _,_,_,_=>rfl
 |.var _,_,_,_=>rfl
 |.bv n,_,_,e=>e n
 |.lam b,_,_,e=>by
  rw[La.su,La.su,cZ b λn=>?_];cases n with
  |zero=>rfl
  |succ n=>rw[upS,upS,e n]
 |.app f a,_,_,e=>by rw[La.su,La.su,cZ f e,cZ a e]
theorem Jr:∀(t:La) (e:Nat) {g h:Nat->La},(∀n,h (if n<e then n else n+1)=(g n).lift e)->(t.lift e).su h=(t.su g).lift e
 |.con _ _ _,_,_,_,_=>rfl
 |.var _,_,_,_,_=>rfl
 |.bv n,e,g,h,q=>by
  have:=q n;rw[La.lift];split
  next c=>rw[oX c] at this;exact this
  next c=>rw[oV c] at this;exact this
 |.lam b,e,g,h,q=>by
  rw[La.lift,La.su,La.su,La.lift,Jr b (e+1) (g:=upS g) λn=>?_];cases n with
  |zero=>rw[oX<|Nat.succ_pos e,upS,upS,La.lift,oX<|Nat.succ_pos e]
  |succ n=>
   have:=q n;by_cases c:n<e
   .rw[oX c] at this;rw[oX za,upS,upS,this,La.lift_lift _ 0 e<|sY _]
   .rw[oV c] at this;rw[oV za,upS,upS,this,La.lift_lift _ 0 e<|sY _]
 |.app f a,e,g,h,q=>by rw[La.lift,La.su,La.su,La.lift,Jr f e q,Jr a e q]
theorem su_up (t:La)(g:Nat->La):(t.lift 0).su (upS g)=(t.su g).lift 0:=Jr t 0 λn=>by rw[oV za];rfl
theorem bj:∀(b a a':La) (e:Nat) {g h:Nat->La},(∀n,n<e->(g n).sub a' e=h n)->(g e).sub a' e=a.su h->(∀n,e<n->(g n).sub a' e=h (n-1))->(b.sub a e).su h=(b.su g).sub a' e
 |.con _ _ _,_,_,_,_,_,_,_,_=>rfl
 |.var _,_,_,_,_,_,_,_,_=>rfl
 |.bv n,a,a',e,g,h,q1,q2,q3=>by
  rw[La.sub];split
  next c=>exact(q1 n c).symm
  .split
   next c=>subst c;exact q2.symm
   .exact(q3 n za).symm
 |.lam b,a,a',e,g,h,q1,q2,q3=>by
  rw[La.sub,La.su,La.su,La.sub];refine t8 La.lam<|bj b (a.lift 0) (a'.lift 0) (e+1) (g:=upS g) (λn hn=>?_) ?_ λn hn=>?_
  .cases n with
   |zero=>rw[upS,upS,La.sub,oX<|Nat.succ_pos e]
   |succ n=>rw[upS,upS,<-q1 n za,La.lift_sub_lt _ _ 0 e<|sY _]
  .rw[upS,su_up,<-q2,La.lift_sub_lt _ _ 0 e<|sY _]
  .obtain⟨m,rfl⟩:∃m,n=m+2:=⟨n-2,za⟩;show(upS g<|m+1+1).sub (a'.lift 0) (e+1)=upS h (m+1);rw[upS,upS,<-La.lift_sub_lt _ _ 0 e<|sY _,q3 (m+1) za];rfl
 |.app f x,a,a',e,g,h,q1,q2,q3=>by rw[La.sub,La.su,La.su,La.sub,bj f a a' e q1 q2 q3,bj x a a' e q1 q2 q3]
theorem su_beta (b a:La)(g:Nat->La):(b.sub a 0).su g=(b.su<|upS g).sub (a.su g) 0:=
 bj b a (a.su g) 0 (λn h=>absurd h<|A1 n) (by rw[upS,La.sub,oV za,oX rfl]) λn h=>by
  obtain⟨m,rfl⟩:∃m,n=m+1:=⟨n-1,za⟩;rw[upS,La.sub_lift];rfl
theorem ac:∀(t a:La) (e:Nat) {g:Nat->La},(∀n,g n=(La.bv n).sub a e)->t.su g=t.sub a e
 |.con _ _ _,_,_,_,_=>rfl
 |.var _,_,_,_,_=>rfl
 |.bv n,a,e,g,q=>q n
 |.lam b,a,e,g,q=>by
  rw[La.su,La.sub,ac b (a.lift 0) (e+1) λn=>?_];cases n with
  |zero=>rw[upS,La.sub,oX<|Nat.succ_pos e]
  |succ n=>rw[upS,q n,La.lift_sub_lt _ _ 0 e<|sY _,La.lift,oV za]
 |.app f x,a,e,g,q=>by rw[La.su,La.sub,ac f a e q,ac x a e q]
theorem sh_su:∀(t:La) (j e:Nat) {g:Nat->La},(∀n,g n=(La.bv n).sh j e)->t.su g=t.sh j e
 |.con _ _ _,_,_,_,_=>rfl
 |.var _,_,_,_,_=>rfl
 |.bv n,j,e,g,q=>q n
 |.lam b,j,e,g,q=>by
  rw[La.su,La.sh,sh_su b j (e+1) λn=>?_];cases n with
  |zero=>rw[upS,La.sh,oX<|Nat.succ_pos e]
  |succ n=>
   rw[upS,q n,La.sh,La.sh];by_cases c:n<e
   .rw[oX c,oX za,La.lift,oV za]
   .rw[oV c,oV za,La.lift,oV za];congr 1;omega
 |.app f x,j,e,g,q=>by rw[La.su,La.sh,sh_su f j e q,sh_su x j e q]
section
variable {V:Int->Option La} (hV:ClV V)
include hV
theorem val_su {x:Int}{v:La}(h:V x=some v)(g:Nat->La):v.su g=v:=by
 have e:=hV x v h
 have key:∀(t:La) (k:Nat) (g:Nat->La),(∀e,k<=e->t.lift e=t)->(∀n,n<k->g n=.bv n)->t.su g=t:=by
  intro t
  induction t with
  |con _ _ _=>intros;rfl
  |var _=>intros;rfl
  |bv n=>
   intro k g h1 h2;have:=h1 k<|r6 _
   rw[La.lift] at this;split at this
   next c=>exact h2 n c
   .injection this with this;omega
  |lam b ih=>
   intro k g h1 h2;rw[La.su,ih (k+1) (upS g) (λe he=>?_) λn hn=>?_]
   .obtain⟨m,rfl⟩:∃m,e=m+1:=⟨e-1,za⟩;have:=h1 m za;rw[La.lift] at this;injection this
   .cases n with
    |zero=>rfl
    |succ n=>rw[upS,h2 n za,La.lift,oV za]
  |app f a ihf iha=>
   intro k g h1 h2;rw[La.su,ihf k g (λe he=>by have:=h1 e he;rw[La.lift] at this;injection this) h2,iha k g (λe he=>by have:=h1 e he;rw[La.lift] at this;injection this) h2]
 exact key v 0 g (λk _=>e k) λn hn=>absurd hn<|A1 n
theorem be_su {t t':La}(h:Be V t t'):∀g:Nat->La,Be V (t.su g) (t'.su g):=by
 induction h with
 |con k n s=>intro g;exact .con k n s
 |var x=>intro g;exact .var x
 |bv n=>intro g;exact Be.refl _
 |del q=>intro g;rw[val_su hV q];exact .del q
 |lam _ ih=>intro g;exact .lam<|ih _
 |app _ _ ih1 ih2=>intro g;exact .app (ih1 g)<|ih2 g
 |beta _ _ ih1 ih2=>intro g;rw[su_beta];exact .beta (ih1 _)<|ih2 g
omit hV in
theorem et_su {t t':La}(h:Et t t'):∀g:Nat->La,Et (t.su g) (t'.su g):=by
 induction h with
 |con k n s=>intro g;exact .con k n s
 |var x=>intro g;exact .var x
 |bv n=>intro g;exact Et.refl _
 |lam _ ih=>intro g;exact .lam<|ih _
 |app _ _ ih1 ih2=>intro g;exact .app (ih1 g)<|ih2 g
 |eta _ ih=>
  intro g;rw[La.su,La.su,su_up];exact .eta<|ih g
theorem Sts.su {t t':La}(h:Sts V t t')(g:Nat->La):Sts V (t.su g) (t'.su g):=by
 induction h with
 |refl a=>exact .refl _
 |step h _ ih=>exact .step (h.imp (λq=>be_su hV q g) λq=>et_su q g) ih
theorem Eqv.su {t t':La}(h:Eqv V t t')(g:Nat->La):Eqv V (t.su g) (t'.su g):=let ⟨c,h1,h2⟩:=h;⟨c.su g,h1.su hV g,h2.su hV g⟩
end
inductive Ent where
 |dum (l:Nat)
 |bnd (u:La) (l:Nat)
def sgE (E:List Ent)(D j:Nat):La:=match E[j]? with
 |some (.dum l)=>.bv<|D-1-l
 |some (.bnd u l)=>u.sh (D-l) 0
 |none=>.bv<|j-E.length+D
def RwOk (E:List Ent)(D:Nat):Prop:=∀e∈E,match e with|.dum l=>l<D|.bnd _ l=>l<=D
theorem sg_up {E:List Ent}{D:Nat}(h:RwOk E D)(n:Nat):upS (sgE E D) n=sgE (.dum D::E) (D+1) n:=by
 cases n with
 |zero=>show La.bv 0=La.bv (D+1-1-D);congr 1;omega
 |succ n=>
  rw[upS];unfold sgE;rw[sR];cases e:E[n]? with
  |none=>
   have hl:E.length<=n:=by rcases Nat.lt_or_ge n E.length with q|q;rw[rf q] at e;cases e;exact q
   show(La.bv<|n-E.length+D).lift 0=La.bv (n+1-(E.length+1)+(D+1));rw[La.lift,oV za];congr 1;omega
  |some x=>
   have hx:=h x<|rV e
   cases x with
   |dum l=>
    have hx:l<D:=hx;show(La.bv<|D-1-l).lift 0=La.bv (D+1-1-l);rw[La.lift,oV za];congr 1;omega
   |bnd u l=>
    have hx:l<=D:=hx;show(u.sh (D-l) 0).lift 0=u.sh (D+1-l) 0;rw[La.sh_succ u (D-l) 0 0 (r6 _) za];congr 1;omega
theorem rw_up {E:List Ent}{D:Nat}(h:RwOk E D):RwOk (.dum D::E) (D+1):=λe he=>by
 rcases rx.1 he with rfl|he
 .exact Nat.lt_succ_self D
 .have:=h e he;cases e with
  |dum l=>exact Nat.lt_succ_of_lt this
  |bnd u l=>exact Nat.le_succ_of_le this
theorem su_sgup {E:List Ent}{D:Nat}(h:RwOk E D)(b:La):b.su (upS<|sgE E D)=b.su (sgE (.dum D::E)<|D+1):=cZ b<|sg_up h
theorem su_nil (t:La)(D:Nat):t.su (sgE [] D)=t.sh D 0:=sh_su t D 0 λn=>by
 show La.bv (n-0+D)=_;rw[La.sh,oV za];rfl
theorem su_arg (t a:La):t.su (sgE [.bnd a 0] 0)=t.sub a 0:=ac t a 0 λn=>by
 cases n with
 |zero=>show a.sh (0-0) 0=_;rw[La.sub,oV za,oX rfl];exact La.sh_zero a 0
 |succ n=>show La.bv (n+1-1+0)=_;rw[La.sub,oV za,oV za];rfl
theorem su_none (t:La):t.su (sgE [] 0)=t:=by rw[su_nil,La.sh_zero]
theorem yR (l:List Cel):(CR l).length=l.length:=by simp[CR]
theorem vU (l:List Trl):(TR l).length=l.length:=by simp[TR]
theorem Yl (l:List<|List UInt8):(NR l).length=l.length:=by simp[NR]
theorem nB {l:List Cel}{i:Nat}(h:i<l.length):getD (CR l) i []=l[i].r:=by simp[CR,getD,h]
theorem NR_get {l:List (List UInt8)}{i:Nat}(h:i<l.length):getD (NR l) i []=[.str l[i]]:=by simp[NR,getD,h]
abbrev aH (o:Nat):TV:=.c<|.a<|.ep o 6 0 0
abbrev hp6 (a b d m:Nat)(s:Hp):AObj:=.arr 6 [[.a<|.osl a 5 0 s.C.length,.a<|.osl b 7 0 s.T.length,qi s.M,qi s.L,.a<|.osl d 1 0 s.N.length,.a<|.mp m]]
abbrev oH (s:Hp):List AObj:=[hp6 1 2 3 4 s,.arz 5<|CR s.C,.arz 7<|TR s.T,.arz 1<|NR s.N,.mapz<|NM s.N 0]
abbrev oH' (s:Hp):List AObj:=[hp6 5 6 7 4 s,.gone,.gone,.gone,.mapz<|NM s.N 0,.arz 5<|CR s.C,.arz 7<|TR s.T,.arz 1<|NR s.N]
abbrev aCe (c:Cel):TV:=.agg [qi c.t,qi c.a,qi c.b,qi c.c,qi c.d]
abbrev tCe (c:Cel)(b:Bool):TV:=.tup [(true,[qi c.t,qi c.a,qi c.b,qi c.c,qi c.d]),(false,[qf<|.bool b])]
abbrev t2 (x:Int×Int):TV:=.tup [(false,[qi x.1]),(false,[qi x.2])]
abbrev noC:Cel:=⟨0,0,0,0,0⟩
def rowB (c:Cel):Bool:=decide (9<=c.t)&&decide (c.t<=11)
def cellOf (C:List Cel)(x:Int):Cel:=if 0<=x/\x<(C.length:Int) then(C[x.toNat]?).getD noC else noC
def inC (C:List Cel)(x:Int):Bool:=decide (0<=x)&&decide (x<(C.length:Int))
theorem jO {C:List Cel}{x:Int}(h0:0<=x)(h1:x<(C.length:Int)):∃h:x.toNat<C.length,cellOf C x=C[x.toNat]:=by
 have h:x.toNat<C.length:=za
 exact⟨h,by rw[cellOf,oX ⟨h0,h1⟩,rf h];rfl⟩
theorem Wf {C:List Cel}{x:Int}(h:¬(0<=x/\x<(C.length:Int))):cellOf C x=noC:=oV h
theorem yV {x y:Bool}{Hs:List AObj}(h:x=y):TV.Le (cb x) (cb y)/\Hs=Hs:=⟨by rw[h];exact .refl _,rfl⟩
theorem nC (c t:Int):AC rc 11 [ci c,ci t] [] (aH 0) (oH ⟨[],[],zO [zE [c,0],1048576],zO [zE [t,0],1048576],[]⟩):=by
 refine acv (v11 ..) ?_;exact rrl
theorem aj (c:Cel):AC rc 80 [aCe c] [] (cb<|rowB c) []:=by
 refine acv (v80 ..) ?_;refine zu (λh=>zH ?_) (λh=>zH ?_)<;>simp_all[rowB]<;>omega
theorem vN (s:Hp)(x:Int):AC rc 28 [aH 0,ci x] (oH s) (tCe (cellOf s.C x)<|inC s.C x) (oH s):=by
 refine acv (v28 ..) ?_;refine zu (λh=>?_) λh=>zu (λh'=>?_) λh'=>?_
 .have h:=rA h;rw[Wf za,show inC s.C x=false by simp[inC];omega];exact rrl
 .have h':=rA h';rw[Wf za,show inC s.C x=false by simp[inC];omega];exact rrl
 .have h:=ri h;have h':=ri h';obtain⟨hl,e⟩:=jO (C:=s.C) (x:=x) za za;rw[e,show getD (CR s.C) (0+toNat x) []=s.C[x.toNat].r by rw[rB,nB hl],show inC s.C x=true by simp[inC];omega];refine⟨⟨za,za⟩,⟨by rw[yR];omega,rfl,rfl⟩,.refl _,rfl⟩
def isT (C:List Cel)(x:Int):Bool:=inC C x && !rowB (cellOf C x)
def isR (C:List Cel)(x:Int):Bool:=inC C x&&rowB (cellOf C x)
theorem kB (s:Hp)(x:Int):AC rc 58 [aH 0,ci x] (oH s) (cb<|isT s.C x) (oH s):=by
 refine acv (v58 ..) ?_;refine⟨_,_,_,_,_,_,vN s x,zu (λh=>⟨_,aj<|cellOf s.C x,yV ?_⟩) λh=>yV ?_⟩<;>simp[isT,h]
theorem c_hisr (s:Hp)(x:Int):AC rc 59 [aH 0,ci x] (oH s) (cb<|isR s.C x) (oH s):=by
 refine acv (v59 ..) ?_;refine⟨_,_,_,_,_,_,vN s x,zu (λh=>⟨_,aj<|cellOf s.C x,yV ?_⟩) λh=>yV ?_⟩<;>simp[isR,h]
def yC (s:Hp)(c:Cel):Bool:=
 if c.t=0 then decide (0<=c.a)&&decide (c.a<(s.N.length:Int))
 else if c.t=1 then decide (c.a>=1)
 else if c.t=2 then true
 else if c.t=9 then true
 else if c.t=3 then decide (c.a>=0)
 else if c.t=4 then decide (c.a>=0)
 else if c.t=5 then isT s.C c.a
 else if c.t=6 then isT s.C c.a
 else if c.t=7 then isT s.C c.a&&isT s.C c.b
 else if c.t=8 then isT s.C c.a&&isR s.C c.b&&decide (c.c>=0)&&decide (c.d>=0)
 else if c.t=10 then isR s.C c.a&&decide (c.b>=0)
 else if c.t=11 then isR s.C c.a&&isT s.C c.b&&decide (c.c>=0)
 else false
theorem zB {x n:Int}{A B:Prop}(h1:x=n->A)(h2:x≠n->B):br (x==n) A B:=zu (λh=>h1<|zo h) (λh=>h2<|zo h)
theorem mR (s:Hp)(c:Cel):AC rc 37 [aH 0,aCe c] (oH s) (cb<|yC s c) (oH s):=by
 have ta:=kB s c.a;have tb:=kB s c.b;have ra:=c_hisr s c.a;have rb:=c_hisr s c.b;refine acv (v37 ..) ?_;refine zB (λe0=>?_) λn0=>zB (λe1=>?_) λn1=>zB (λe2=>?_) λn2=>zB (λe9=>?_) λn9=>zB (λe3=>?_) λn3=>zB (λe4=>?_) λn4=>zB (λe5=>?_) λn5=>zB (λe6=>?_) λn6=>zB (λe7=>?_) λn7=>zB (λe8=>?_) λn8=>zB (λe10=>?_) λn10=>zB (λe11=>?_) λn11=>?_
 .refine zu (λh=>yV ?_) (λh=>yV ?_)<;>simp[yC,e0]<;>simp at h<;>omega
 .exact yV (by simp[yC,e1])
 .exact yV (by simp[yC,e2])
 .exact yV (by simp[yC,e9])
 .exact yV (by simp[yC,e3])
 .exact yV (by simp[yC,e4])
 .exact⟨_,ta,yV<|by simp[yC,e5]⟩
 .exact⟨_,ta,yV<|by simp[yC,e6]⟩
 .exact⟨_,ta,zu (λh=>⟨_,tb,yV<|by simp[yC,e7,h]⟩) λh=>yV<|by simp[yC,e7,h]⟩
 .exact⟨_,ta,zu (λh=>⟨_,rb,zu (λg=>zu (λq=>yV<|by simp[yC,e8,h,g];simp at q;omega) λq=>yV<|by simp[yC,e8,h,g];simp at q;omega) λg=>yV<|by simp[yC,e8,h,g]⟩) λh=>yV<|by simp[yC,e8,h]⟩
 .exact⟨_,ra,zu (λh=>yV<|by simp[yC,e10,h]) λh=>yV<|by simp[yC,e10,h]⟩
 .exact⟨_,ra,zu (λh=>⟨_,tb,zu (λg=>yV<|by simp[yC,e11,h,g]) λg=>yV<|by simp[yC,e11,h,g]⟩) λh=>yV<|by simp[yC,e11,h]⟩
 .exact yV (by simp[yC,n0,n1,n2,n9,n3,n4,n5,n6,n7,n8,n10,n11])
def putS (s:Hp)(c:Cel):(Int×Int)×Hp:=
 if yC s c=false then((0,1),s) else if s.M<=(s.C.length:Int) then((0,200),s) else(((s.C.length:Int),0),{s with C:=s.C++[c]})
theorem xE (s:Hp)(c:Cel)(hB:s.C.length<=1073741824):AC rc 22 [aH 0,aCe c] (oH s) (t2 (putS s c).1) (oH' (putS s c).2):=by
 refine acv (v22 ..) ?_;refine⟨_,mR s c,zu (λh=>?_) λh=>zu (λh2=>?_) λh2=>⟨r6 _,⟨by rw[yR];omega,?_⟩,?_⟩⟩
 .rw[putS,oX<|zo h];exact rrl
 .rw[putS,oV<|zo h,oX<|rA h2];exact rrl
 .simp only[zS];omega
 .have h2:¬s.M<=(s.C.length:Int):=ri h2;rw[putS,oV<|zo h,oV h2];have e1:(s.C++[c]).length=s.C.length+1:=zb
  have e2:CR (s.C++[c])=take s.C.length (CR s.C)++[c.r]:=by rw[ro<|by rw[yR];omega];simp[CR]
  have e3:wrap .i64 (((s.C.length+1:Nat):Int)-1)=(s.C.length:Int):=by rw[w64 za za];omega
  simp only[oH',hp6,e1,e2,e3];exact⟨.refl _,by first|exact trivial|rfl⟩
def Xn (nm:List UInt8):List (List UInt8)->Nat->Option Nat
 |[],_=>none
 |s::l,i=>if (((nm:List UInt8)==s)&&true)=true then some i else Xn nm l<|i+1
abbrev mN:(Bool×List EK)×(Bool×List WV):=((false,[EK.str]),(false,[qi 0]))
theorem findN (nm:List UInt8):∀(l:List<|List UInt8) (i j:Nat),(Xn nm l i=none->vj mN.1 [.str nm] ((NM l i).map thaw) j=some none)/\
  ∀x,Xn nm l i=some x->∃q,x=i+q/\l[q]?=some nm/\vj mN.1 [.str nm] ((NM l i).map thaw) j=some (some<|j+q)/\(NM l i)[q]?=some ((false,[.str nm]),(false,[.int .i64 (x:Int)]))
 |[],i,j=>⟨λ_=>rfl,λx h=>by cases h⟩
 |s::l,i,j=>by
  have ih:=findN nm l (i+1)<|j+1
  have hf:vj mN.1 [.str nm] ((NM (s::l) i).map thaw) j=if (((nm:List UInt8)==s)&&true)=true then some (some j) else vj mN.1 [.str nm] ((NM l<|i+1).map thaw) (j+1):=rfl
  rw[hf,Xn];by_cases q:(((nm:List UInt8)==s)&&true)=true
  .rw[oX q,oX q];have e:nm=s:=zo q
   exact⟨λh=>(by cases h),λx h=>⟨0,by injection h with h;omega,by rw[e];rfl,rfl,by injection h with h;rw[e,<-h];rfl⟩⟩
  .rw[oV q,oV q];refine⟨ih.1,λx h=>?_⟩;obtain⟨k,h1,h2,h3,h4⟩:=ih.2 x h;exact⟨k+1,za,zo h2,by rw[h3,(za:j+1+k=j+(k+1))],by simpa[NM] using h4⟩
theorem K6 (nm:List UInt8):∀(l:List<|List UInt8) (i:Nat),NM (l++[nm]) i=NM l i++[((false,[.str nm]),(false,[.int .i64 ((i+l.length:Nat):Int)]))]
 |[],i=>by simp[NM]
 |s::l,i=>by rw[sk,NM,NM,K6 nm l<|i+1,r5,(za:i+1+l.length=i+(l.length+1))];rfl
def symS (s:Hp)(nm:List UInt8):Int×Hp:=match Xn nm s.N 0 with|some i=>((i:Int),s)|none=>((s.N.length:Int),{s with N:=s.N++[nm]})
theorem lV (s:Hp)(nm:List UInt8)(hB:s.N.length<=200000000000):AC rc 42 [aH 0,cs nm] (oH s) (ci (symS s nm).1) (oH' (symS s nm).2):=by
 refine acv (v42 ..) ?_;have hf:=findN nm s.N 0 0
 match hn:Xn nm s.N 0 with
 |some i=>
  obtain⟨q,h1,_,h3,h4⟩:=hf.2 i hn;refine .inl ⟨(i:Int),?_,?_⟩
  .unfold gH;rw[h3];simp only[rB,h4,rG]
  .simp only[symS,hn];exact⟨.refl _,by first|exact trivial|rfl⟩
 |none=>
  have h1:=hf.1 hn;refine .inr ⟨by unfold gH;rw[h1],_,(by unfold updZ;rw[h1]),r6 _,⟨by rw[Yl];omega,by simp only[zS];omega⟩,?_⟩;simp only[symS,hn];have e1:(s.N++[nm]).length=s.N.length+1:=zb
  have e2:NR (s.N++[nm])=take s.N.length (NR s.N)++[[.str nm]]:=by rw[ro<|by rw[Yl];omega];simp[NR]
  have e3:=K6 nm s.N 0;rw[rB] at e3;simp only[oH',hp6,e1,e2,e3];exact⟨.refl _,by first|exact trivial|rfl⟩
def nameOf (N:List<|List UInt8)(i:Int):List UInt8:=if 0<=i/\i<(N.length:Int) then(N[i.toNat]?).getD [] else []
theorem pZ {N:List (List UInt8)}{x:Int}(h0:0<=x)(h1:x<(N.length:Int)):∃h:x.toNat<N.length,nameOf N x=N[x.toNat]:=by
 have h:x.toNat<N.length:=za
 exact⟨h,by rw[nameOf,oX ⟨h0,h1⟩,rf h];rfl⟩
theorem ret_sH {x y:List UInt8}{Hs:List AObj}(h:x=y):TV.Le (cs x) (cs y)/\Hs=Hs:=⟨by rw[h];exact .refl _,rfl⟩
theorem oy (s:Hp)(i:Int):AC rc 35 [aH 0,ci i] (oH s) (cs<|nameOf s.N i) (oH s):=by
 refine acv (v35 ..) ?_;refine zu (λh=>?_) λh=>zu (λh'=>?_) λh'=>?_
 .exact ret_sH (by simp at h;rw[nameOf,oV za])
 .exact ret_sH (by simp at h';rw[nameOf,oV za])
 .have h:=ri h;have h':=ri h';obtain⟨hl,e⟩:=pZ (N:=s.N) (x:=i) za za;rw[e,show getD (NR s.N) (0+toNat i) []=[.str s.N[i.toNat]] by rw[rB,NR_get hl]];exact⟨⟨za,za⟩,⟨by rw[Yl];omega,rfl,rfl⟩,.refl _,rfl⟩
theorem fmax0 {x:Int}(h:0<=x):zE [x,0]=x:=by
 simp only[zE,List.foldl,max,maxOfLe];split<;>omega
theorem fmax2 {x y z:Int}(h:zE [x,y]=z):z=x\/z=y:=by
 subst h;simp only[zE,List.foldl,max,maxOfLe];split<;>simp
theorem ik {l:List Trl}{i:Nat}(h:i<l.length):getD (TR l) i []=l[i].r:=by simp[TR,getD,h]
theorem nP (C:List Cel)(i:Nat)(c:Cel):CR (C.set i c)=List.set (CR C) i c.r:=by simp[CR,List.map_set]
theorem YD {n:Nat}{fs gs:List (List FV)}(hl:gs.length<=fs.length)(h:∀(i:Nat) (e e':List FV),fs[i]?=some e->gs[i]?=some e'->LeR e e'):OLe (.arz n fs) (.arz n gs):=
 .rows n fs gs hl (λi e e' he he'=>(h i e e' he he').length) λi j e e' f f' he he' hf hf'=>(h i e e' he he').get j f f' hf hf'
theorem c_hmark (s:Hp):AC rc 30 [aH 0] (oH s) (.agg [qi (s.C.length:Int),qi (s.T.length:Int)]) (oH s):=by
 refine acv (v30 ..) ?_;exact rrl
def topS (T:List Trl)(x:Int):Int:=if h:0<T.length then zE [x,T[T.length-1].top] else x
def setS (s:Hp)(x:Int)(c:Cel):Int×Hp:=
 if inC s.C x=false then(1,s) else if yC s c=false then(1,s) else if (rowB (cellOf s.C x)==rowB c)=false then(1,s) else if s.L<=(s.T.length:Int) then(201,s)
 else(0,{s with C:=s.C.set x.toNat c,T:=s.T++[⟨x,cellOf s.C x,topS s.T x⟩]})
theorem c_hset (s:Hp)(x:Int)(c:Cel)(hT:s.T.length<=1073741824):AC rc 77 [aH 0,ci x,aCe c] (oH s) (ci (setS s x c).1) (oH' (setS s x c).2):=by
 refine acv (v77 ..) ?_;refine⟨_,_,_,_,_,_,vN s x,zu (λh=>?_) λh=>⟨_,mR s c,zu (λh2=>?_) λh2=>⟨_,aj<|cellOf s.C x,_,aj c,zu (λh3=>?_) λh3=>zu (λh4=>?_) λh4=>?_⟩⟩⟩
 .rw[setS,oX<|zo h];exact rrl
 .rw[setS,oV<|zo h,oX<|zo h2];exact rrl
 .rw[setS,oV<|zo h,oV<|zo h2,oX<|zo h3];exact rrl
 .rw[setS,oV<|zo h,oV<|zo h2,oV<|zo h3,oX<|rA h4];exact rrl
 .have h4:¬s.L<=(s.T.length:Int):=ri h4;rw[setS,oV<|zo h,oV<|zo h2,oV<|zo h3,oV h4];have hin:inC s.C x=true:=zo h
  simp only[inC,oZ,rL] at hin;obtain⟨hl,_⟩:=jO hin.1 hin.2;have e1:(s.C.set x.toNat c).length=s.C.length:=zb
  have e2:∀e:Trl,(s.T++[e]).length=s.T.length+1:=zb
  have e3:∀e:Trl,TR (s.T++[e])=take s.T.length (TR s.T)++[e.r]:=λe=>by rw[ro<|by rw[vU];omega];simp[TR]
  have eC:=yR s.C;have eT:=vU s.T;have room:zS (s.T.length+1) 56:=by simp only[zS];omega
  have hg:(getD (CR s.C) (0+toNat x) []).length=5:=by rw[rB,nB hl];rfl
  refine zu (λh5=>?_) λh5=>?_
  .have h5:((s.T.length:Nat):Int)>0:=rA h5;have ew:wrap .i64 ((s.T.length:Int)-1)=((s.T.length-1:Nat):Int):=by rw[w64 za za];omega
   have eg:getD (TR s.T) (0+toNat ((s.T.length-1:Nat):Int)) []=(s.T[s.T.length-1]' za).r:=by rw[rB,rC,ik za]
   rw[ew,eg];refine⟨⟨za,za⟩,⟨za,rfl,rfl⟩,r6 _,⟨za,room⟩,hin,⟨za,hg⟩,?_⟩;simp only[oH',hp6,e1,e2,e3,topS,(za:0<s.T.length),dite_true,nP,rB];exact rrl
  .have h5:¬((s.T.length:Nat):Int)>0:=ri h5;refine⟨r6 _,⟨za,room⟩,hin,⟨za,hg⟩,?_⟩;simp only[oH',hp6,e1,e2,e3,topS,show¬0<s.T.length by omega,dite_false,nP,rB];exact⟨.refl _,by first|exact trivial|rfl⟩
def uL (T:List Trl)(C:List Cel):List Cel:=T.foldr (λe C=>C.set e.o.toNat e.x) C
theorem wD:∀(T:List Trl) (C:List Cel),(uL T C).length=C.length
 |[],_=>rfl
 |e::T,C=>by rw[uL,List.foldr_cons,rU];exact wD T C
theorem XY (T:List Trl)(e:Trl)(C:List Cel):uL (T++[e]) C=uL T (C.set e.o.toNat e.x):=by simp[uL]
abbrev stU (s:Hp)(C:List Cel)(j:Nat)(x n k:Int):St:=
 ⟨[(0,aH 0),(3,.c<|.a<|.ep 8 2 0 0),(4,ci x)],[(0,.arr 6 [[.a<|.osl 5 5 0 s.C.length,.a<|.osl 6 7 0 j,qi s.M,qi s.L,.a<|.osl 7 1 0 s.N.length,.a<|.mp 4]]),(1,.gone),(2,.gone),(3,.gone),(4,.mapz<|NM s.N 0),(5,.arz 5<|CR C),(6,.arz 7<|TR s.T),(7,.arz 1<|NR s.N),(8,.arr 2 [[qi n,qi k]])],9⟩
theorem nz (s:Hp)(n k:Nat)(hk:k<=s.T.length)(hB:s.T.length<=1073741824)(hn:n<=s.C.length)(hT:∀e∈s.T,0<=e.o/\e.o<(s.C.length:Int))(hp:∀e∈s.T.take k,e.top<(n:Int)):
  ∀(d j:Nat) (C:List Cel),j=k+d->j<=s.T.length->C.length=s.C.length->
  RPt rc 33 5 (.tup []) [.arr 6 [[.a<|.osl 5 5 0 n,.a<|.osl 6 7 0 k,qi s.M,qi s.L,.a<|.osl 7 1 0 s.N.length,.a<|.mp 4]],.gone,.gone,.gone,.mapz<|NM s.N 0,.arz 5<|CR<|uL ((s.T.take j).drop k) C,.arz 7<|TR s.T,.arz 1<|NR s.N] 1
   (stU s C j ((j:Int)-1) (n:Int) (k:Int))
 |0,j,C,hj,hl,hC=>by
  refine rpv (v33_1a ..) ?_;obtain rfl:j=k:=za
  rw[fmax0 (x:=(j:Int)) za,fmax0 (x:=(n:Int)) za,rC,show uL ((s.T.take j).drop j) C=C by rw[tK<|by rw[rM];omega];rfl];refine bF za<|zu (λh=>⟨⟨za,za,za⟩,zu (λh2=>?_) λ_=>rrl⟩) λh=>?_
  .have h2:((j:Nat):Int)>0:=rA h2;have ew:wrap .i64 ((j:Int)-1)=((j-1:Nat):Int):=by rw[w64 za za];omega
   have hlt:j-1<s.T.length:=za
   have eg:getD (TR s.T) (0+toNat ((j-1:Nat):Int)) []=s.T[j-1].r:=by rw[rB,rC,ik hlt]
   have ht:s.T[j-1].top<(n:Int):=hp _<|List.mem_take_iff_getElem.2 ⟨j-1,za,rfl⟩
   have eT:=vU s.T;rw[ew,eg];refine⟨⟨za,za⟩,⟨za,rfl,rfl⟩,bF (Int.not_le.2 ht) rrl⟩
  .have h:=ri h;have e:s.C.length=n:=za
   rw[e];exact rrl
 |d+1,j,C,hj,hl,hC=>by
  refine rpv (v33_1a ..) ?_;have hlt:j-1<s.T.length:=za
  have et:toNat ((j:Int)-1)=j-1:=za
  have eg:getD (TR s.T) (0+(j-1)) []=s.T[j-1].r:=by rw[rB,ik hlt]
  have eT:=vU s.T;have eC:=yR C;obtain⟨o1,o2⟩:=hT s.T[j-1]<|td hlt
  have hol:(s.T[j-1].o).toNat<C.length:=za
  have hg:(getD (CR C) (0+(s.T[j-1].o).toNat) []).length=5:=by rw[rB,nB hol];rfl
  rw[fmax0 (x:=(k:Int)) za,et,eg,w64 (x:=(j:Int)-1-1) za za];have nx:=nz s n k hk hB hn hT hp d (j-1) (C.set (s.T[j-1].o).toNat s.T[j-1].x) za za (by rw[rU];exact hC)
  have ed:(s.T.take j).drop k=(s.T.take<|j-1).drop k++[s.T[j-1]]:=by
   have e1:s.T.take j=s.T.take (j-1)++[s.T[j-1]]:=by
    have:=List.take_append_getElem (l:=s.T) (i:=j-1) hlt;rw[(za:j-1+1=j)] at this;exact this.symm
   rw[e1,List.drop_append_of_le_length<|by rw[rM];omega]
  simp only[stU] at nx;rw[<-XY,<-ed,nP,show((j-1:Nat):Int)=(j:Int)-1 by omega] at nx;refine zu (λ_=>⟨⟨za,za⟩,⟨za,rfl,rfl⟩,⟨o1,o2⟩,⟨by show 0+(s.T[j-1].o).toNat<(CR C).length;omega,hg⟩,⟨za,za,za⟩,?_⟩) (λh=>absurd (ri h) za);rw[rB];exact nx
def vH (s:Hp)(n k:Nat):Hp:={s with C:=(uL (s.T.drop k) s.C).take n,T:=s.T.take k}
theorem c_hundo (s:Hp)(n k:Nat)(hk:k<=s.T.length)(hB:s.T.length<=1073741824)(hn:n<=s.C.length)(hT:∀e∈s.T,0<=e.o/\e.o<(s.C.length:Int))(hp:∀e∈s.T.take k,e.top<(n:Int)):
  AC rc 33 [aH 0,.agg [qi (n:Int),qi (k:Int)]] (oH s) (.tup []) (oH'<|vH s n k):=by
 have e1:(vH s n k).C.length=n:=by simp only[vH,rM,wD];omega
 have e2:(vH s n k).T.length=k:=by simp only[vH,rM];omega
 have hl:=nz s n k hk hB hn hT hp (s.T.length-k) s.T.length s.C za (r6 _) rfl;rw[ro<|r6 _] at hl;refine AC.obj (Hs':=[.arr 6 [[.a<|.osl 5 5 0 n,.a<|.osl 6 7 0 k,qi s.M,qi s.L,.a<|.osl 7 1 0 s.N.length,.a<|.mp 4]],.gone,.gone,.gone,.mapz<|NM s.N 0,.arz 5<|CR<|uL (s.T.drop k) s.C,.arz 7<|TR s.T,.arz 1<|NR s.N]) ?_ ⟨?_,.refl _,.refl _,.refl _,.refl _,?_,?_,.refl _,trivial⟩
 .refine acv (v33 ..) ?_;rw[w64 (x:=(s.T.length:Int)-1) za za];exact hl
 .rw[hp6,e1,e2];exact .refl _
 .refine YD (by rw[yR,yR,e1,wD];exact hn) λi e e' he he'=>?_;rw[CR,rq] at he he';obtain⟨v,hv,rfl⟩:=oY.1 he';obtain⟨v2,hv2,rfl⟩:=oY.1 he;rw[vH,si] at hv;split at hv
  .rw[hv2] at hv;injection hv with hv;subst hv;exact LeR.refl _
  .cases hv
 .refine YD (by rw[vU,vU,e2];exact hk) λi e e' he he'=>?_;rw[TR,rq] at he he';obtain⟨v,hv,rfl⟩:=oY.1 he';obtain⟨v2,hv2,rfl⟩:=oY.1 he;rw[vH,si] at hv;split at hv
  .rw[hv2] at hv;injection hv with hv;subst hv;exact LeR.refl _
  .cases hv
abbrev wr (x:Int):Int:=wrap .i64 x
def yl (r:Rd)(e:Int):Rd:=⟨r.s,r.f,if r.e=0 then e else r.e⟩
def putR (r:Rd)(c:Cel):Int×Rd:=if r.e=0 then((putS r.s c).1.1,⟨(putS r.s c).2,r.f,(putS r.s c).1.2⟩) else(0,r)
def zI (r:Rd)(a b:Int):Rd:=if r.e=0/\a≠b then⟨(setS r.s a ⟨5,b,0,0,0⟩).2,r.f,(setS r.s a ⟨5,b,0,0,0⟩).1⟩ else r
def vk (C:List Cel):Nat->Int->Int
 |0,a=>a
 |n+1,a=>if inC C a=false then a else if (cellOf C a).t≠5 then a else vk C n (cellOf C a).a
def zX (C:List Cel)(a:Int):Int:=vk C C.length a
def zt (r:Rd)(a:Int):(Cel×Int)×Rd:=
 if inC r.s.C (zX r.s.C a)=false then((⟨2,0,0,0,0⟩,0),yl r 1)
 else if 9<=(cellOf r.s.C<|zX r.s.C a).t then((⟨2,0,0,0,0⟩,0),yl r 1)
 else if (cellOf r.s.C<|zX r.s.C a).t=5 then((⟨2,0,0,0,0⟩,0),yl r 1)
 else if r.f<=0 then((⟨2,0,0,0,0⟩,0),yl r 80)
 else if r.e≠0 then((⟨2,0,0,0,0⟩,0),r)
 else((cellOf r.s.C<|zX r.s.C a,zX r.s.C a),⟨r.s,r.f-1,r.e⟩)
def xC (r:Rd)(a u:Int):Int×Rd:=
 if u=0 then(a,r) else putR (putR r ⟨9,0,0,0,0⟩).2 ⟨8,a,(putR r ⟨9,0,0,0,0⟩).1,0,u⟩
def zR:Nat->Rd->Int->Int->(Cel×Bool)×Rd
 |0,r,_,_=>((noC,false),r)
 |n+1,r,row,j=>
  if inC r.s.C row=false then((noC,false),yl r 1)
  else if (cellOf r.s.C row).t<9 then((noC,false),yl r 1)
  else if (cellOf r.s.C row).t=9 then((noC,false),r)
  else if j=0 then((cellOf r.s.C row,true),r)
  else if r.f<=0 then((noC,false),yl r 80)
  else zR n ⟨r.s,r.f-1,r.e⟩ (cellOf r.s.C row).a<|wr<|j-1
def losR (n:Nat)(r:Rd)(s:Cel)(j:Int):Int×Rd:=
 if j<s.c then
  if (zR n r s.b j).1.2=true then
   if (zR n r s.b j).1.1.t=10 then putR (zR n r s.b j).2 ⟨3,wr<|wr (s.d-1)-(zR n r s.b j).1.1.b,0,0,0⟩ else xC (zR n r s.b j).2 (zR n r s.b j).1.1.b<|wr<|s.d-(zR n r s.b j).1.1.c
  else putR (zR n r s.b j).2 ⟨3,wr<|wr (j-s.c)+s.d,0,0,0⟩
 else putR r ⟨3,wr<|wr (j-s.c)+s.d,0,0,0⟩
def zY (r:Rd)(s:Cel)(a row more:Int):Int×Rd:=putR r ⟨8,a,row,wr<|s.c+more,wr<|s.d+more⟩
def lamR (r:Rd)(s:Cel)(b:Int):Int×Rd:=
 putR (zY (putR r ⟨10,s.b,s.d,0,0⟩).2 s b (putR r ⟨10,s.b,s.d,0,0⟩).1 1).2 ⟨6,(zY (putR r ⟨10,s.b,s.d,0,0⟩).2 s b (putR r ⟨10,s.b,s.d,0,0⟩).1 1).1,0,0,0⟩
def appR (r:Rd)(s:Cel)(f x:Int):Int×Rd:=
 putR (zY (zY r s f s.b 0).2 s x s.b 0).2 ⟨7,(zY r s f s.b 0).1,(zY (zY r s f s.b 0).2 s x s.b 0).1,0,0⟩
def xS (n:Nat)(c:Cel)(t:Int)(r:Rd)(s:Cel):Int×Rd:=
 if c.t=3 then losR n r s c.a else if c.t=6 then lamR r s c.a else if c.t=7 then appR r s c.a c.b else(t,r)
def vv (n:Nat)(v:(Cel×Int)×Rd)(s:Cel):Int×Rd:=
 if v.2.e≠0 then(v.1.2,v.2) else if s.c=0/\s.d=0 then(v.1.2,v.2) else xS n v.1.1 v.1.2 v.2 s
mutual
def zA:Nat->Rd->Cel->Int×Rd
 |0,r,_=>(0,r)
 |n+1,r,s=>vv (n+1) (yA n<|zt r s.a) s
def yA:Nat->(Cel×Int)×Rd->(Cel×Int)×Rd
 |0,v=>v
 |n+1,v=>if v.2.e=0/\v.1.1.t=8 then yA n (zt (zI (zA n v.2 v.1.1).2 v.1.2 (zA n v.2 v.1.1).1) (zA n v.2 v.1.1).1) else v
end
def wS (r:Rd)(b arg:Int):Int×Rd:=
 putR (putR (putR r ⟨9,0,0,0,0⟩).2 ⟨11,(putR r ⟨9,0,0,0,0⟩).1,arg,0,0⟩).2 ⟨8,b,(putR (putR r ⟨9,0,0,0,0⟩).2 ⟨11,(putR r ⟨9,0,0,0,0⟩).1,arg,0,0⟩).1,1,0⟩
structure OkH (s:Hp):Prop where
 C:s.C.length<=1048576
 M:s.M<=1048576
 T:s.T.length<=1048576
 L:s.L<=1048576
theorem OkH.put {s:Hp}(h:OkH s)(c:Cel):OkH (putS s c).2:=by
 unfold putS;split
 .exact h
 .split
  .exact h
  next _ q=>have:=h.M;exact⟨by simp only[re,rD];omega,h.M,h.T,h.L⟩
theorem OkH.set {s:Hp}(h:OkH s)(a:Int)(c:Cel):OkH (setS s a c).2:=by
 unfold setS;split
 .exact h
 .split
  .exact h
  .split
   .exact h
   .split
    .exact h
    next _ _ _ q=>have:=h.L;exact⟨by simp only[rU];exact h.C,h.M,by simp only[re,rD];omega,h.L⟩
structure OkR (r:Rd):Prop where
 h:OkH r.s
 f0:0-4611686018427387904<=r.f
 f1:r.f<=4611686018427387904
theorem OkR.fail {r:Rd}(h:OkR r)(e:Int):OkR (yl r e):=⟨h.h,h.f0,h.f1⟩
theorem OkR.put {r:Rd}(h:OkR r)(c:Cel):OkR (putR r c).2:=by
 unfold putR;split
 .exact⟨h.h.put c,h.f0,h.f1⟩
 .exact h
theorem OkR.keep {r:Rd}(h:OkR r)(a b:Int):OkR (zI r a b):=by
 unfold zI;split
 .exact⟨h.h.set a _,h.f0,h.f1⟩
 .exact h
theorem OkR.less {r:Rd}(h:OkR r)(h0:¬r.f<=0):OkR ⟨r.s,r.f-1,r.e⟩:=⟨h.h,by have:=h.f0;dsimp only;omega,by have:=h.f1;dsimp only;omega⟩
theorem OkR.visit {r:Rd}(h:OkR r)(a:Int):OkR (zt r a).2:=by
 unfold zt;split
 .exact h.fail 1
 .split
  .exact h.fail 1
  .split
   .exact h.fail 1
   .split
    .exact h.fail 80
    .split
     .exact h
     next q _=>exact h.less q
theorem OkR.lift {r:Rd}(h:OkR r)(a u:Int):OkR (xC r a u).2:=by
 unfold xC;split
 .exact h
 .exact(h.put _).put _
theorem OkR.entry:∀(n:Nat) {r:Rd} (row j:Int),OkR r->OkR (zR n r row j).2
 |0,_,_,_,h=>h
 |n+1,r,row,j,h=>by
  rw[zR];split
  .exact h.fail 1
  .split
   .exact h.fail 1
   .split
    .exact h
    .split
     .exact h
     .split
      .exact h.fail 80
      next q=>exact OkR.entry n _ _<|h.less q
theorem OkR.loose (n:Nat){r:Rd}(h:OkR r)(s:Cel)(j:Int):OkR (losR n r s j).2:=by
 have e:=OkR.entry n s.b j h;unfold losR;split
 .split
  .split
   .exact e.put _
   .exact e.lift _ _
  .exact e.put _
 .exact h.put _
theorem OkR.lam {r:Rd}(h:OkR r)(s:Cel)(b:Int):OkR (lamR r s b).2:=((h.put _).put _).put _
theorem OkR.app {r:Rd}(h:OkR r)(s:Cel)(f x:Int):OkR (appR r s f x).2:=((h.put _).put _).put _
theorem OkR.level (n:Nat){r:Rd}(h:OkR r)(c:Cel)(t:Int)(s:Cel):OkR (xS n c t r s).2:=by
 unfold xS;split
 .exact h.loose n s _
 .split
  .exact h.lam s _
  .split
   .exact h.app s _ _
   .exact h
theorem OkR.spun (n:Nat){v:(Cel×Int)×Rd}(h:OkR v.2)(s:Cel):OkR (vv n v s).2:=by
 unfold vv;split
 .exact h
 .split
  .exact h
  .exact h.level n _ _ s
mutual
theorem OkR.open:∀(n:Nat) {r:Rd} (s:Cel),OkR r->OkR (zA n r s).2
 |0,_,_,h=>h
 |n+1,r,s,h=>by
  rw[zA];exact OkR.spun (n+1) (OkR.spin n<|h.visit s.a) s
theorem OkR.spin:∀(n:Nat) {v:(Cel×Int)×Rd},OkR v.2->OkR (yA n v).2
 |0,_,h=>h
 |n+1,v,h=>by
  rw[yA];split
  .exact OkR.spin n<|((OkR.open n v.1.1 h).keep _ _).visit _
  .exact h
end
theorem OkR.beta {r:Rd}(h:OkR r)(b arg:Int):OkR (wS r b arg).2:=((h.put _).put _).put _
abbrev aRd:TV:=.c<|.a<|.ep 0 3 0 0
abbrev rd3 (o:Nat)(r:Rd):AObj:=.arr 3 [[.a<|.ep o 6 0 0,qi r.f,qi r.e]]
abbrev oRd (r:Rd):List AObj:=[rd3 1 r,hp6 2 3 4 5 r.s,.arz 5<|CR r.s.C,.arz 7<|TR r.s.T,.arz 1<|NR r.s.N,.mapz<|NM r.s.N 0]
abbrev oRd' (r:Rd):List AObj:=[rd3 1 r,hp6 6 7 8 5 r.s,.gone,.gone,.gone,.mapz<|NM r.s.N 0,.arz 5<|CR r.s.C,.arz 7<|TR r.s.T,.arz 1<|NR r.s.N]
abbrev tCI (x:Cel×Int):TV:=.tup [(true,[qi x.1.t,qi x.1.a,qi x.1.b,qi x.1.c,qi x.1.d]),(false,[qi x.2])]
theorem bne_of {x n:Int}(h:(x !=n)=true):x≠n:=zo h
theorem beq_of {x n:Int}(h:(x !=n)=false):x=n:=zo h
theorem zZ {x n:Int}{A B:Prop}(h1:x≠n->A)(h2:x=n->B):br (x !=n) A B:=zu (λh=>h1<|bne_of h) λh=>h2<|beq_of h
theorem ux (r:Rd)(e:Int):AC rc 74 [aRd,ci e] (oRd r) (ci 0) (oRd<|yl r e):=by
 refine acv (v74 ..) ?_;refine zB (λh=>?_) λh=>?_
 .rw[show yl r e=⟨r.s,r.f,e⟩ by rw[yl,oX h]];exact rrl
 .rw[show yl r e=r by rw[yl,oV h]];exact rrl
theorem vR (r:Rd)(c:Cel)(h:OkR r):AC rc 55 [aRd,aCe c] (oRd r) (ci (putR r c).1) (oRd' (putR r c).2):=by
 have hp:=xE r.s c (by have:=h.h.C;omega);have hf:=ux ⟨(putS r.s c).2,r.f,r.e⟩ (putS r.s c).1.2;unfold putR;refine AC.vc hP sh lv52 zb (by simp[isLive]) (by split<;>simp[isLive])<|Eq.mpr (v55 ..) ?_
 refine zZ (λh=>?_) λh=>?_
 .rw[oV h];exact rrl
 .rw[oX h];rw[show yl ⟨(putS r.s c).2,r.f,r.e⟩ (putS r.s c).1.2=⟨(putS r.s c).2,r.f,(putS r.s c).1.2⟩ from by rw[yl,oX h]] at hf;exact⟨putS r.s c,hp,(0,r.f,(putS r.s c).1.2),hf,.refl _,rfl⟩
theorem Wl (r:Rd)(a b:Int)(h:OkR r):AC rc 52 [aRd,ci a,ci b] (oRd r) (.tup []) (oRd'<|zI r a b):=by
 have hp:=c_hset r.s a ⟨5,b,0,0,0⟩ (by have:=h.h.T;omega);have hf:=ux ⟨(setS r.s a ⟨5,b,0,0,0⟩).2,r.f,r.e⟩ (setS r.s a ⟨5,b,0,0,0⟩).1;unfold zI;refine AC.vc hP sh lv52 zb (by simp[isLive]) (by split<;>simp[isLive])<|Eq.mpr (v52 ..) ?_
 refine zB (λh=>zZ (λh2=>?_) λh2=>?_) λh=>?_
 .rw[oX ⟨h,h2⟩];rw[show yl ⟨(setS r.s a ⟨5,b,0,0,0⟩).2,r.f,r.e⟩ (setS r.s a ⟨5,b,0,0,0⟩).1=⟨(setS r.s a ⟨5,b,0,0,0⟩).2,r.f,(setS r.s a ⟨5,b,0,0,0⟩).1⟩ from by rw[yl,oX h]] at hf;exact⟨setS r.s a ⟨5,b,0,0,0⟩,hp,(0,r.f,(setS r.s a ⟨5,b,0,0,0⟩).1),hf,.refl _,rfl⟩
 .rw[oV λq=>q.2 h2];exact rrl
 .rw[oV λq=>h q.1];exact rrl
abbrev stD (s:Hp)(a x y:Int):St:=⟨[(0,aH 0),(1,ci a),(11,ci x),(12,ci y)],[(0,hp6 1 2 3 4 s),(1,.arz 5<|CR s.C),(2,.arz 7<|TR s.T),(3,.arz 1<|NR s.N),(4,.mapz<|NM s.N 0)],5⟩
theorem aa (s:Hp)(hs:s.C.length<=1073741824):∀(n:Nat) (a:Int) (y:Nat),y+n=s.C.length->RPt rc 56 5 (ci<|vk s.C n a) (oH s) 1 (stD s a (s.C.length:Int) (y:Int))
 |0,a,y,hy=>by
  refine rpv (v56_1a ..) ?_;exact bF za rrl
 |n+1,a,y,hy=>by
  refine rpv (v56_1a ..) ?_;have nx:=aa s hs n (cellOf s.C a).a (y+1) za;rw[w64 za za];refine zu (λ_=>⟨_,_,_,_,_,_,vN s a,zu (λh=>?_) λh=>zZ (λh2=>?_) λh2=>?_⟩) (λh=>absurd (ri h) za)
  .rw[vk,oX<|zo h];exact rrl
  .rw[vk,oV<|zo h,oX h2];exact rrl
  .rw[vk,oV<|zo h,oV λq=>q h2];exact nx
theorem JA (s:Hp)(hs:s.C.length<=1073741824)(a:Int):AC rc 56 [aH 0,ci a] (oH s) (ci<|zX s.C a) (oH s):=by
 refine acv (v56 ..) ?_;exact aa s hs s.C.length a 0 za
theorem wT (r:Rd){e:Int}(h:e≠0):(yl r e).e≠0:=by
 show(if r.e=0 then e else r.e)≠0
 split
 .exact h
 .assumption
theorem Je (r:Rd)(a:Int)(h:OkR r):AC rc 50 [aRd,ci a] (oRd r) (tCI (zt r a).1) (oRd (zt r a).2):=by
 have hd:=JA r.s (by have:=h.h.C;omega) a;have f0:=h.f0;have f1:=h.f1
 have v0:zt r a=if inC r.s.C (zX r.s.C a)=false then((⟨2,0,0,0,0⟩,0),yl r 1)
  else if 9<=(cellOf r.s.C<|zX r.s.C a).t then((⟨2,0,0,0,0⟩,0),yl r 1)
  else if (cellOf r.s.C<|zX r.s.C a).t=5 then((⟨2,0,0,0,0⟩,0),yl r 1)
  else if r.f<=0 then((⟨2,0,0,0,0⟩,0),yl r 80)
  else if r.e≠0 then((⟨2,0,0,0,0⟩,0),r)
  else((cellOf r.s.C<|zX r.s.C a,zX r.s.C a),⟨r.s,r.f-1,r.e⟩):=rfl
 generalize zX r.s.C a=d at*;have hc:=vN r.s d
 have bad:∀(e:Int) (he:e≠0) {Q:Prop},zt r a=((⟨2,0,0,0,0⟩,0),yl r e)->br ((yl r e).e !=0) (TV.Le (tCI (⟨2,0,0,0,0⟩,0)) (tCI (zt r a).1)/\oRd (yl r e)=oRd (zt r a).2) Q:=λe he Q hv=>by
  rw[hv];exact zZ (λ_=>rrl) λh=>absurd h<|wT r he
 refine acv (v50 ..) ?_;refine⟨d,hd,_,_,_,_,_,_,hc,zu (λq=>?_) λq=>zu (λq2=>?_) λq2=>zB (λq3=>?_) λq3=>zu (λq4=>?_) λq4=>zZ (λq5=>?_) λq5=>?_⟩
 .rw[oX<|zo q] at v0;exact⟨(0,(yl r 1).f,(yl r 1).e),ux r 1,bad 1 zc v0⟩
 .rw[oV<|zo q,oX<|rA q2] at v0;exact⟨(0,(yl r 1).f,(yl r 1).e),ux r 1,bad 1 zc v0⟩
 .rw[oV<|zo q,oV<|ri q2,oX q3] at v0;exact⟨(0,(yl r 1).f,(yl r 1).e),ux r 1,bad 1 zc v0⟩
 .rw[oV<|zo q,oV<|ri q2,oV q3,oX<|rA q4] at v0;exact⟨(0,(yl r 80).f,(yl r 80).e),ux r 80,bad 80 zc v0⟩
 .rw[oV<|zo q,oV<|ri q2,oV q3,oV<|ri q4,oX q5] at v0;rw[v0];exact rrl
 .have q4:=ri q4;rw[oV<|zo q,oV<|ri q2,oV q3,oV q4,oV λw=>w q5] at v0;rw[v0,w64 za za];exact rrl
theorem nt (r:Rd)(a u:Int)(h:OkR r):AC rc 94 [aRd,ci a,ci u] (oRd r) (ci (xC r a u).1) (oRd' (xC r a u).2):=by
 have h1:=vR r ⟨9,0,0,0,0⟩ h;have h2:=vR (putR r ⟨9,0,0,0,0⟩).2 ⟨8,a,(putR r ⟨9,0,0,0,0⟩).1,0,u⟩<|h.put _
 unfold xC;refine AC.vc hP sh lv52 zb (by simp[isLive]) (by split<;>simp[isLive])<|Eq.mpr (v94 ..) ?_
 refine zB (λq=>?_) λq=>?_
 .rw[oX q];exact rrl
 .rw[oV q];exact⟨_,h1,_,h2,.refl _,rfl⟩
abbrev aCB (x:Cel×Bool):TV:=tCe x.1 x.2
abbrev stEn (r:Rd)(row j:Int)(c:Cel):St:=⟨[(0,aRd),(1,ci row),(2,ci j),(6,.c<|.a<|.ep 6 5 0 0)],[(0,rd3 1 r),(1,hp6 2 3 4 5 r.s),(2,.arz 5<|CR r.s.C),(3,.arz 7<|TR r.s.T),(4,.arz 1<|NR r.s.N),(5,.mapz<|NM r.s.N 0),(6,.arr 5 [[qi c.t,qi c.a,qi c.b,qi c.c,qi c.d]])],7⟩
theorem cF (c:Cel):∀(n:Nat) (r:Rd) (row j:Int),OkR r->r.f.toNat<n->RPt rc 93 6 (aCB (zR n r row j).1) (oRd (zR n r row j).2) 1 (stEn r row j c)
 |0,_,_,_,_,h=>absurd h za
 |n+1,r,row,j,ok,hn=>by
  have f0:=ok.f0;have f1:=ok.f1
  have v0:zR (n+1) r row j=if inC r.s.C row=false then((noC,false),yl r 1)
   else if (cellOf r.s.C row).t<9 then((noC,false),yl r 1)
   else if (cellOf r.s.C row).t=9 then((noC,false),r)
   else if j=0 then((cellOf r.s.C row,true),r)
   else if r.f<=0 then((noC,false),yl r 80)
   else zR n ⟨r.s,r.f-1,r.e⟩ (cellOf r.s.C row).a (wr<|j-1):=rfl
  have hc:=vN r.s row;have nx:=λq=>cF c n ⟨r.s,r.f-1,r.e⟩ (cellOf r.s.C row).a (wr<|j-1) (ok.less q) zm;refine rpv (v93_1a ..) ?_;refine⟨_,_,_,_,_,_,hc,zu (λq=>?_) λq=>zu (λq2=>?_) λq2=>zB (λq3=>?_) λq3=>zB (λq4=>?_) λq4=>zu (λq5=>?_) λq5=>?_⟩
  .rw[oX<|zo q] at v0;rw[v0];exact⟨(0,(yl r 1).f,(yl r 1).e),ux r 1,.refl _,rfl⟩
  .rw[oV<|zo q,oX<|rA q2] at v0;rw[v0];exact⟨(0,(yl r 1).f,(yl r 1).e),ux r 1,.refl _,rfl⟩
  .rw[oV<|zo q,oV<|ri q2,oX q3] at v0;rw[v0];exact rrl
  .rw[oV<|zo q,oV<|ri q2,oV q3,oX q4] at v0;rw[v0];exact rrl
  .rw[oV<|zo q,oV<|ri q2,oV q3,oV q4,oX<|rA q5] at v0;rw[v0];exact⟨(0,(yl r 80).f,(yl r 80).e),ux r 80,.refl _,rfl⟩
  .have q5:=ri q5;rw[oV<|zo q,oV<|ri q2,oV q3,oV q4,oV q5] at v0;rw[v0,w64 (x:=r.f-1) za za];exact nx q5
theorem c_rentry (n:Nat)(r:Rd)(row j:Int)(h:OkR r)(hn:r.f.toNat<n):AC rc 93 [aRd,ci row,ci j] (oRd r) (aCB (zR n r row j).1) (oRd (zR n r row j).2):=by
 refine acv (v93 ..) ?_;exact cF noC n r row j h hn
theorem c_slo (n:Nat)(r:Rd)(s:Cel)(j:Int)(h:OkR r)(hn:r.f.toNat<n):AC rc 76 [aRd,aCe s,ci j] (oRd r) (ci (losR n r s j).1) (oRd' (losR n r s j).2):=by
 have he:=c_rentry n r s.b j h hn
 have hs:(zR n r s.b j).2.s=r.s:=by
  have key:∀(n:Nat) (r:Rd) (row j:Int),(zR n r row j).2.s=r.s:=by
   intro n
   induction n with
   |zero=>intro r row j;rfl
   |succ n ih=>
    intro r row j;rw[zR];split
    .rfl
    .split
     .rfl
     .split
      .rfl
      .split
       .rfl
       .split
        .rfl
        .exact ih _ _ _
  exact key n r s.b j
 have oe:=OkR.entry n s.b j h
 have e0:losR n r s j=if j<s.c then
  if (zR n r s.b j).1.2=true then
   if (zR n r s.b j).1.1.t=10 then putR (zR n r s.b j).2 ⟨3,wr<|wr (s.d-1)-(zR n r s.b j).1.1.b,0,0,0⟩ else xC (zR n r s.b j).2 (zR n r s.b j).1.1.b<|wr<|s.d-(zR n r s.b j).1.1.c
  else putR (zR n r s.b j).2 ⟨3,wr<|wr (j-s.c)+s.d,0,0,0⟩
 else putR r ⟨3,wr<|wr (j-s.c)+s.d,0,0,0⟩:=rfl
 generalize zR n r s.b j=z at*;obtain⟨⟨c,b⟩,⟨zs,zf,ze⟩⟩:=z;obtain rfl:zs=r.s:=hs;have bnd:=vR ⟨r.s,zf,ze⟩ ⟨3,wr<|wr (j-s.c)+s.d,0,0,0⟩ oe;have lft:=nt ⟨r.s,zf,ze⟩ c.b (wr<|s.d-c.c) oe;have dum:=vR ⟨r.s,zf,ze⟩ ⟨3,wr<|wr (s.d-1)-c.b,0,0,0⟩ oe;have far:=vR r ⟨3,wr<|wr (j-s.c)+s.d,0,0,0⟩ h;refine acv (v76 ..) ?_;refine zu (λq=>⟨(c.t,c.a,c.b,c.c,c.d,b,zf,ze),he,?_⟩) λq=>?_
 .rw[oX<|rA q] at e0;have low:b=true->c.t≠10->losR n r s j=xC ⟨r.s,zf,ze⟩ c.b (wr<|s.d-c.c):=λhb h10=>by rw[e0,oX hb,oV h10]
  have out:b=false->losR n r s j=putR ⟨r.s,zf,ze⟩ ⟨3,wr<|wr (j-s.c)+s.d,0,0,0⟩:=λhb=>by rw[e0,oV<|by show¬b=true;rw[hb];decide]
  refine zu (λhb=>zB (λh10=>?_) λh10=>zu (λ_=>?_) λhb2=>absurd (show b=true from hb)<|by rw[show b=false from hb2];decide) (λhb=>zu (λhb2=>absurd (show b=true from hb2)<|by rw[show b=false from hb];decide) λ_=>?_)
  .have hb:b=true:=hb;rw[oX hb,oX h10] at e0;rw[e0];exact⟨_,dum,.refl _,rfl⟩
  .rw[low hb h10];exact⟨_,lft,.refl _,rfl⟩
  .rw[out hb];exact⟨_,bnd,.refl _,rfl⟩
 .rw[oV<|ri q] at e0;rw[e0];exact⟨_,far,.refl _,rfl⟩
abbrev oCl (r:Rd)(s:Cel):List AObj:=[.arr 1 [[.a<|.ep 1 3 0 0]],rd3 2 r,hp6 3 4 5 6 r.s,.arz 5<|CR r.s.C,.arz 7<|TR r.s.T,.arz 1<|NR r.s.N,.mapz<|NM r.s.N 0,.arr 5 [[qi s.t,qi s.a,qi s.b,qi s.c,qi s.d]]]
abbrev oCl' (r:Rd)(s:Cel):List AObj:=[.arr 1 [[.a<|.ep 1 3 0 0]],rd3 2 r,hp6 8 9 10 6 r.s,.gone,.gone,.gone,.mapz<|NM r.s.N 0,.arr 5 [[qi s.t,qi s.a,qi s.b,qi s.c,qi s.d]],.arz 5<|CR r.s.C,.arz 7<|TR r.s.T,.arz 1<|NR r.s.N]
theorem Yo (r:Rd)(s:Cel)(a row more:Int)(h:OkR r):AC rc 75 [ci a,ci row,ci more,.c<|.a<|.ep 0 1 0 0,.c<|.a<|.ep 7 5 0 0] (oCl r s) (ci (zY r s a row more).1) (oCl' (zY r s a row more).2 s):=by
 have h1:=vR r ⟨8,a,row,wr<|s.c+more,wr<|s.d+more⟩ h;refine acv (v75 ..) ?_;exact⟨_,h1,.refl _,rfl⟩
theorem c_rbeta (r:Rd)(c:Cel)(arg:Int)(h:OkR r):AC rc 53 [aRd,aCe c,ci arg] (oRd r) (ci (wS r c.a arg).1) (oRd' (wS r c.a arg).2):=by
 have h1:=vR r ⟨9,0,0,0,0⟩ h;have h2:=vR (putR r ⟨9,0,0,0,0⟩).2 ⟨11,(putR r ⟨9,0,0,0,0⟩).1,arg,0,0⟩<|h.put _
 have h3:=vR (putR (putR r ⟨9,0,0,0,0⟩).2 ⟨11,(putR r ⟨9,0,0,0,0⟩).1,arg,0,0⟩).2 ⟨8,c.a,(putR (putR r ⟨9,0,0,0,0⟩).2 ⟨11,(putR r ⟨9,0,0,0,0⟩).1,arg,0,0⟩).1,1,0⟩<|(h.put _).put _
 refine acv (v53 ..) ?_;exact⟨_,h1,_,h2,_,h3,.refl _,rfl⟩
abbrev stOp (r:Rd)(s c:Cel)(t:Int):St:=
 ⟨[(2,.c<|.a<|.ep 9 1 0 0),(3,.c<|.a<|.ep 10 5 0 0),(5,.c<|.a<|.ep 11 5 0 0),(6,ci t)],[(0,rd3 1 r),(1,hp6 6 7 8 5 r.s),(2,.gone),(3,.gone),(4,.gone),(5,.mapz<|NM r.s.N 0),(6,.arz 5<|CR r.s.C),(7,.arz 7<|TR r.s.T),(8,.arz 1<|NR r.s.N),(9,.arr 1 [[.a<|.ep 0 3 0 0]]),
  (10,.arr 5 [[qi s.t,qi s.a,qi s.b,qi s.c,qi s.d]]),(11,.arr 5 [[qi c.t,qi c.a,qi c.b,qi c.c,qi c.d]])],12⟩
theorem l_ropen8 (n:Nat)(r:Rd)(s c:Cel)(t:Int)(h:OkR r)(hn:r.f.toNat<n):RPt rc 51 6 (ci (xS n c t r s).1) (oRd' (xS n c t r s).2) 16 (stOp r s c t):=by
 have lo:=c_slo n r s c.a h hn;have p1:=vR r ⟨10,s.b,s.d,0,0⟩ h;have w1:=Yo (putR r ⟨10,s.b,s.d,0,0⟩).2 s c.a (putR r ⟨10,s.b,s.d,0,0⟩).1 1<|h.put _
 have q1:=vR (zY (putR r ⟨10,s.b,s.d,0,0⟩).2 s c.a (putR r ⟨10,s.b,s.d,0,0⟩).1 1).2 ⟨6,(zY (putR r ⟨10,s.b,s.d,0,0⟩).2 s c.a (putR r ⟨10,s.b,s.d,0,0⟩).1 1).1,0,0,0⟩<|(h.put _).put _
 have a1:=Yo r s c.a s.b 0 h;have a2:=Yo (zY r s c.a s.b 0).2 s c.b s.b 0<|h.put _
 have a3:=vR (zY (zY r s c.a s.b 0).2 s c.b s.b 0).2 ⟨7,(zY r s c.a s.b 0).1,(zY (zY r s c.a s.b 0).2 s c.b s.b 0).1,0,0⟩<|(h.put _).put _
 unfold xS;refine rpv (v51_16a ..) ?_;refine zB (λq=>?_) λq=>zB (λq2=>?_) λq2=>zB (λq3=>?_) λq3=>?_
 .rw[oX q];exact⟨_,lo,.refl _,rfl⟩
 .rw[oV q,oX q2];exact⟨_,p1,_,w1,_,q1,.refl _,rfl⟩
 .rw[oV q,oV q2,oX q3];exact⟨_,a1,_,a2,_,a3,.refl _,rfl⟩
 .rw[oV q,oV q2,oV q3];exact rrl
theorem WU (n:Nat)(r:Rd)(s c:Cel)(t:Int)(h:OkR r)(hn:r.f.toNat<n):RPt rc 51 6 (ci (vv n ((c,t),r) s).1) (oRd' (vv n ((c,t),r) s).2) 12 (stOp r s c t):=by
 have nx:=l_ropen8 n r s c t h hn;have e0:vv n ((c,t),r) s=if r.e≠0 then(t,r) else if s.c=0/\s.d=0 then(t,r) else xS n c t r s:=rfl
 rw[e0];refine rpv (v51_12a ..) ?_;refine zZ (λq=>?_) λq=>zB (λq2=>zB (λq3=>?_) λq3=>?_) λq2=>?_
 .rw[oX q];exact rrl
 .rw[oV λw=>w q,oX ⟨q2,q3⟩];exact rrl
 .rw[oV λw=>w q,oV λw=>q3 w.2];exact nx
 .rw[oV λw=>w q,oV λw=>q2 w.1];exact nx
theorem xr (r:Rd)(a:Int):(zt r a).2.f<=r.f/\((zt r a).2.e=0->0<r.f/\(zt r a).2.f=r.f-1):=by
 unfold zt;have ne:∀e:Int,e≠0->(yl r e).f<=r.f/\((yl r e).e=0->0<r.f/\(yl r e).f=r.f-1):=λe he=>⟨ru _,λq=>absurd q<|wT r he⟩;split
 .exact ne 1 zc
 .split
  .exact ne 1 zc
  .split
   .exact ne 1 zc
   .split
    .exact ne 80 zc
    .split
     next q=>exact⟨ru _,λw=>absurd w q⟩
     next q _=>exact⟨zm,λ_=>⟨za,rfl⟩⟩
theorem ZX (r:Rd)(c:Cel):(putR r c).2.f=r.f:=by unfold putR;split<;>rfl
theorem uF (r:Rd)(a b:Int):(zI r a b).f=r.f:=by unfold zI;split<;>rfl
theorem lift_f (r:Rd)(a u:Int):(xC r a u).2.f=r.f:=by unfold xC;split; · rfl
                                                      .rw[ZX,ZX]
theorem oG:∀(n:Nat) (r:Rd) (row j:Int),(zR n r row j).2.f<=r.f
 |0,_,_,_=>ru _
 |n+1,r,row,j=>by
  rw[zR];split
  .exact ru _
  .split
   .exact ru _
   .split
    .exact ru _
    .split
     .exact ru _
     .split
      .exact ru _
      .have:=oG n ⟨r.s,r.f-1,r.e⟩ (cellOf r.s.C row).a<|wr<|j-1
       dsimp only at this;omega
theorem level_f (n:Nat)(c:Cel)(t:Int)(r:Rd)(s:Cel):(xS n c t r s).2.f<=r.f:=by
 unfold xS;split
 .have:=oG n r s.b c.a;unfold losR;split
  .split
   .split
    .rw[ZX];exact this
    .rw[lift_f];exact this
   .rw[ZX];exact this
  .rw[ZX];exact ru _
 .split
  .simp only[lamR,zY,ZX];exact ru _
  .split
   .simp only[appR,zY,ZX];exact ru _
   .exact ru _
theorem spun_f (n:Nat)(v:(Cel×Int)×Rd)(s:Cel):(vv n v s).2.f<=v.2.f:=by
 unfold vv;split
 .exact ru _
 .split
  .exact ru _
  .exact level_f _ _ _ _ _
mutual
theorem kI:∀(n:Nat) (r:Rd) (s:Cel),(zA n r s).2.f<=r.f
 |0,_,_=>ru _
 |n+1,r,s=>by
  rw[zA];have:=spun_f (n+1) (yA n<|zt r s.a) s;have:=bo n<|zt r s.a
  have:=(xr r s.a).1;omega
theorem bo:∀(n:Nat) (v:(Cel×Int)×Rd),(yA n v).2.f<=v.2.f
 |0,_=>ru _
 |n+1,v=>by
  rw[yA];split
  .have:=bo n<|zt (zI (zA n v.2 v.1.1).2 v.1.2 (zA n v.2 v.1.1).1) (zA n v.2 v.1.1).1
   have:=(xr (zI (zA n v.2 v.1.1).2 v.1.2 (zA n v.2 v.1.1).1) (zA n v.2 v.1.1).1).1;have:=uF (zA n v.2 v.1.1).2 v.1.2 (zA n v.2 v.1.1).1;have:=kI n v.2 v.1.1;omega
  .exact ru _
end
abbrev OpenG (n:Nat):Prop:=∀(r:Rd) (s:Cel),OkR r->2*r.f.toNat+2<=n->AC rc 51 [aRd,aCe s] (oRd r) (ci (zA n r s).1) (oRd' (zA n r s).2)
theorem iB (N:Nat)(s:Cel):∀(n:Nat),(∀m,m<=n->OpenG m)->∀(c:Cel) (t:Int) (r:Rd),OkR r->2*r.f.toNat+3<=n->n<N->RPt rc 51 6 (ci (vv N (yA n ((c,t),r)) s).1) (oRd' (vv N (yA n ((c,t),r)) s).2) 1 (stOp r s c t)
 |n,hG,c,t,r,h,hn,hN=>by
  cases n with
  |zero=>omega
  |succ n=>
  have stop:=WU N r s c t h za;have ho:=hG n za r c h za;have hk:=Wl (zA n r c).2 t (zA n r c).1<|OkR.open n c h
  have hv:=Je (zI (zA n r c).2 t (zA n r c).1) (zA n r c).1<|(OkR.open n c h).keep _ _
  have ov:=((OkR.open n c h).keep t (zA n r c).1).visit (zA n r c).1;have f1:=kI n r c;have f2:=uF (zA n r c).2 t (zA n r c).1;have f3:=xr (zI (zA n r c).2 t (zA n r c).1) (zA n r c).1
  have hs:(zt (zI (zA n r c).2 t (zA n r c).1) (zA n r c).1).2.s=(zI (zA n r c).2 t (zA n r c).1).s:=by
   unfold zt;split
   .rfl
   .split
    .rfl
    .split
     .rfl
     .split
      .rfl
      .split<;>rfl
  have e0:yA (n+1) ((c,t),r)=if r.e=0/\c.t=8 then yA n (zt (zI (zA n r c).2 t (zA n r c).1) (zA n r c).1) else((c,t),r):=rfl
  rw[e0]
  have nx:r.e=0->c.t=8->RPt rc 51 6 (ci (vv N (yA n<|zt (zI (zA n r c).2 t (zA n r c).1) (zA n r c).1) s).1) (oRd' (vv N (yA n<|zt (zI (zA n r c).2 t (zA n r c).1) (zA n r c).1) s).2) 1
    (stOp (zt (zI (zA n r c).2 t (zA n r c).1) (zA n r c).1).2 s (zt (zI (zA n r c).2 t (zA n r c).1) (zA n r c).1).1.1 (zt (zI (zA n r c).2 t (zA n r c).1) (zA n r c).1).1.2):=λ_ _=>by
   by_cases q:(zt (zI (zA n r c).2 t (zA n r c).1) (zA n r c).1).2.e=0
   .have f4:=f3.2 q;exact iB N s n (λm hm=>hG m za) (zt (zI (zA n r c).2 t (zA n r c).1) (zA n r c).1).1.1 (zt (zI (zA n r c).2 t (zA n r c).1) (zA n r c).1).1.2 (zt (zI (zA n r c).2 t (zA n r c).1) (zA n r c).1).2 ov za za
   .have e1:yA n (zt (zI (zA n r c).2 t (zA n r c).1) (zA n r c).1)=zt (zI (zA n r c).2 t (zA n r c).1) (zA n r c).1:=by
     cases n with
     |zero=>rfl
     |succ n=>rw[yA,oV λw=>q w.1]
    rw[e1];have st:=WU N (zt (zI (zA n r c).2 t (zA n r c).1) (zA n r c).1).2 s (zt (zI (zA n r c).2 t (zA n r c).1) (zA n r c).1).1.1 (zt (zI (zA n r c).2 t (zA n r c).1) (zA n r c).1).1.2 ov za;refine rpv (oM ..) ?_;exact zB (λw=>absurd w q) λ_=>st
  generalize zt (zI (zA n r c).2 t (zA n r c).1) (zA n r c).1=v at*;generalize zI (zA n r c).2 t (zA n r c).1=k at*;generalize zA n r c=o at*;obtain⟨⟨vc,vt⟩,⟨vs,vf,ve⟩⟩:=v;dsimp only at hs;subst hs;refine rpv (oM ..) ?_;refine zB (λq=>zB (λq2=>?_) λq2=>?_) λq=>?_
  .rw[oX ⟨q,q2⟩];exact⟨o,ho,k,hk,(vc.t,vc.a,vc.b,vc.c,vc.d,vt,vf,ve),hv,nx q q2⟩
  .rw[oV λw=>q2 w.2];exact stop
  .rw[oV λw=>q w.1];exact stop
theorem wj (r:Rd)(a:Int):(zt r a).2.s=r.s:=by
 unfold zt;split
 .rfl
 .split
  .rfl
  .split
   .rfl
   .split
    .rfl
    .split<;>rfl
theorem c_ropen:∀n:Nat,∀m,m<=n->OpenG m:=by
 intro n
 induction n with
 |zero=>intro m hm r s _ h;omega
 |succ n ih=>
  intro m hm r s h hn;cases m with
  |zero=>omega
  |succ m=>
  have hv:=Je r s.a h;have ov:=h.visit s.a;have f1:=xr r s.a;have hs:=wj r s.a;rw[zA]
  have go:RPt rc 51 6 (ci (vv (m+1) (yA m<|zt r s.a) s).1) (oRd' (vv (m+1) (yA m<|zt r s.a) s).2) 1 (stOp (zt r s.a).2 s (zt r s.a).1.1 (zt r s.a).1.2):=by
   by_cases q:(zt r s.a).2.e=0
   .have f4:=f1.2 q;exact iB (m+1) s m (λk hk=>ih k za) (zt r s.a).1.1 (zt r s.a).1.2 (zt r s.a).2 ov za za
   .have e1:yA m (zt r s.a)=zt r s.a:=by
     cases m with
     |zero=>rfl
     |succ m=>rw[yA,oV λw=>q w.1]
    rw[e1];have st:=WU (m+1) (zt r s.a).2 s (zt r s.a).1.1 (zt r s.a).1.2 ov (by have:=f1.1;omega);refine rpv (oM ..) ?_;exact zB (λw=>absurd w q) λ_=>st
  generalize zt r s.a=v at*;obtain⟨⟨vc,vt⟩,⟨vs,vf,ve⟩⟩:=v;dsimp only at hs;subst hs;refine acv (v51 ..) ?_;exact⟨(vc.t,vc.a,vc.b,vc.c,vc.d,vt,vf,ve),hv,go⟩
theorem zF (l:List Int):(IR l).length=l.length:=by simp[IR]
theorem xY {l:List Int}{i:Nat}(h:i<l.length):getD (IR l) i []=[.int .i64 l[i]]:=by simp[IR,getD,h]
theorem Jb (a b:List Int):IR (a++b)=IR a++IR b:=by simp[IR]
theorem Jd (n:Nat)(l:List Int):take n (IR l)=IR (l.take n):=by simp[IR,List.map_take]
theorem lj (i:Nat)(l:List Int)(x:Int):List.set (IR l) i [.int .i64 x]=IR (l.set i x):=by simp[IR,List.map_set]
theorem aD (A:List Int)(x y:Int)(B:List Int):(A++x::B).set A.length y=A++y::B:=zb
theorem WD (A:List Int)(x:Int)(B:List Int):getD (IR<|A++x::B) A.length []=[.int .i64 x]:=by
 rw[xY zb];simp
theorem l_revi (n:Nat)(hn:n<=1073741824):∀(k:Nat) (m A Z:List Int),m.length<=k->A.length+m.length<=n->
  RPt rc 54 1 (.tup []) [.arz 1<|IR<|A++m.reverse++Z] 1 ⟨[(0,.c<|.a<|.osl 0 1 0 n),(2,ci (A.length:Int)),(3,ci<|(A.length:Int)+(m.length:Int)-1)],[(0,.arz 1<|IR<|A++m++Z)],1⟩:=by
 intro k
 induction k with
 |zero=>
  intro m A Z hm _;have:m=[]:=rk za;subst this;refine rpv (YZ ..) ?_;exact bF (by simp only[rt];omega) rrl
 |succ k ih=>
  intro m A Z hm hA;by_cases h2:m.length<=1
  .have e:m.reverse=m:=by
    match m,h2 with
    |[],_=>rfl
    |[x],_=>rfl
   rw[e];refine rpv (YZ ..) ?_;exact bF za rrl
  .obtain⟨x,m2,rfl⟩:∃x m2,m=x::m2:=by
    cases m with
    |nil=>simp at h2
    |cons x m2=>exact⟨x,m2,rfl⟩
   obtain⟨m',y,rfl⟩:∃m' y,m2=m'++[y]:=by
    have:m2≠[]:=λe=>by rw[e] at h2;simp at h2
    exact⟨m2.dropLast,m2.getLast this,(tz this).symm⟩
   simp only[r5,re,rt] at hm hA;have nx:=ih m' (A++[y]) (x::Z) za zj;have e1:A++(x::(m'++[y]))++Z=A++x::(m'++y::Z):=zb
   have e2:A++(x::(m'++[y]))++Z=(A++x::m')++y::Z:=zb
   have e3:(A++y::m')++y::Z=A++y::(m'++y::Z):=zb
   have l1:(A++x::m').length=A.length+m'.length+1:=zj
   have l1':(A++y::m').length=A.length+m'.length+1:=zj
   have t2:toNat (A.length:Int)=A.length:=za
   have t3:toNat ((A.length:Int)+(((x::(m'++[y])).length:Nat):Int)-1)=A.length+m'.length+1:=by simp only[r5,re,rt];omega
   have g2:getD (IR<|A++(x::(m'++[y]))++Z) (0+A.length) []=[.int .i64 x]:=by rw[rB,e1,WD]
   have g3:getD (IR<|A++(x::(m'++[y]))++Z) (0+(A.length+m'.length+1)) []=[.int .i64 y]:=by rw[rB,e2,<-l1,WD]
   have s1:List.set (IR<|A++(x::(m'++[y]))++Z) (0+A.length) [.int .i64 y]=IR ((A++y::m')++y::Z):=by rw[rB,e1,lj,aD,e3]
   have s2:List.set (IR<|(A++y::m')++y::Z) (0+(A.length+m'.length+1)) [.int .i64 x]=IR ((A++y::m')++x::Z):=by rw[rB,lj,<-l1',aD]
   have len0:(IR<|A++(x::(m'++[y]))++Z).length=A.length+m'.length+2+Z.length:=by rw[zF];simp;omega
   have len1:(IR<|(A++y::m')++y::Z).length=A.length+m'.length+2+Z.length:=by rw[zF];simp;omega
   have g4:(getD (IR<|(A++y::m')++y::Z) (0+(A.length+m'.length+1)) []).length=1:=by rw[rB,<-l1',WD];rfl
   refine rpv (YZ ..) ?_;rw[t2,t3,g2,g3];have a2:FV.I (getD [.int .i64 x] 0 FV.N)=x:=rfl;have a3:FV.I (getD [.int .i64 y] 0 FV.N)=y:=rfl;rw[a2,a3,s1,s2,w64 (x:=(A.length:Int)+1) za za,w64 (x:=(A.length:Int)+(((x::(m'++[y])).length:Nat):Int)-1-1) (by simp only[r5,re,rt];omega)<|by simp only[r5,re,rt];omega];have er:A++(x::(m'++[y])).reverse++Z=A++[y]++m'.reverse++(x::Z):=zb
   rw[er];have e5:A++[y]++m'++(x::Z)=(A++y::m')++x::Z:=zb
   rw[e5] at nx;have n1:(((A++[y]).length:Nat):Int)=(A.length:Int)+1:=zb
   have n2:(((A++[y]).length:Nat):Int)+(m'.length:Int)-1=(A.length:Int)+(((x::(m'++[y])).length:Nat):Int)-1-1:=by simp only[r5,re,rt];omega
   rw[n2,n1] at nx;have b3:(0:Int)<=(A.length:Int)+(((x::(m'++[y])).length:Nat):Int)-1/\(A.length:Int)+(((x::(m'++[y])).length:Nat):Int)-1<(n:Int):=by simp only[r5,re,rt];omega
   exact zu (λ_=>⟨b3,⟨za,rfl,rfl⟩,⟨za,za⟩,⟨za,rfl,rfl⟩,⟨za,za⟩,⟨za,rfl⟩,b3,⟨za,g4⟩,nx⟩) (λh=>absurd (ri h)<|by simp only[r5,re,rt];omega)
theorem c_revi (js:List Int)(n:Nat)(hn:n<=js.length)(hB:n<=1073741824):AC rc 54 [.c<|.a<|.osl 0 1 0 n] [.arz 1<|IR js] (.tup []) [.arz 1<|IR<|(js.take n).reverse++js.drop n]:=by
 have l:=l_revi n hB n (js.take n) [] (js.drop n) zj zj;rw[rH,rH,List.take_append_drop,rM,sU hn,rt] at l;refine acv (v54_i1 ..) ?_;rw[w64 za za];have e:(((0:Nat):Int)+(n:Int)-1)=(n:Int)-1:=za
 rw[e] at l;exact l
theorem c_revi0:AC rc 54 [.c<|qf .N] [] (.tup []) []:=by
 have h:AC rc 54 [.c<|qf<|.sl false 1 []] [] (.tup []) []:=by
  refine acv (v54 ..) ?_;refine⟨rfl,rpv (v54_1a ..) ?_⟩;exact bF zc rrl
 exact h.args ⟨le_c<|.N 1,trivial⟩
structure HdS where
 l:List Int
 b:Bool
 a:Int
 r:Rd
def headL:Nat->List Int->Bool->Int->Rd->HdS
 |0,l,b,a,r=>⟨l,b,a,r⟩
 |n+1,l,b,a,r=>
  if r.e≠0 then⟨l,b,a,r⟩
  else if (zt r a).2.e≠0 then⟨l,b,(zt r a).1.2,(zt r a).2⟩
  else if (zt r a).1.1.t=7 then headL n ((zt r a).1.1.b::l) b (zt r a).1.1.a (zt r a).2
  else if (zt r a).1.1.t=8 then headL n l b (zA n (zt r a).2 (zt r a).1.1).1<|zI (zA n (zt r a).2 (zt r a).1.1).2 (zt r a).1.2 (zA n (zt r a).2 (zt r a).1.1).1
  else if (zt r a).1.1.t=6 then
   if l=[] then⟨l,b,(zt r a).1.2,(zt r a).2⟩
   else headL n l.tail true (wS (zt r a).2 (zt r a).1.1.a<|l.headD 0).1 (wS (zt r a).2 (zt r a).1.1.a<|l.headD 0).2
  else⟨l,b,(zt r a).1.2,(zt r a).2⟩
def yB:List Int->Int->Rd->Int×Rd
 |[],f,r=>(f,r)
 |x::l,f,r=>yB l (putR r ⟨7,f,x,0,0⟩).1 (putR r ⟨7,f,x,0,0⟩).2
def vr (root:Int)(h:HdS):(Int×List Int)×Rd:=
 ((h.a,h.l),if h.b=true then zI (yB h.l h.a h.r).2 (zX (yB h.l h.a h.r).2.s.C root) (yB h.l h.a h.r).1 else h.r)
def zK (n:Nat)(r:Rd)(root:Int):(Int×List Int)×Rd:=vr root<|headL n [] false root r
theorem OkR.apps:∀(l:List Int) (f:Int) {r:Rd},OkR r->OkR (yB l f r).2
 |[],_,_,h=>h
 |x::l,f,r,h=>by rw[yB];exact OkR.apps l _<|h.put _
theorem OkR.headL:∀(n:Nat) (l:List Int) (b:Bool) (a:Int) {r:Rd},OkR r->OkR (Go.AM.headL n l b a r).r
 |0,_,_,_,_,h=>h
 |n+1,l,b,a,r,h=>by
  have v:=h.visit a;rw[Go.AM.headL];split
  .exact h
  .split
   .exact v
   .split
    .exact OkR.headL n _ _ _ v
    .split
     .exact OkR.headL n _ _ _<|(OkR.open _ _ v).keep _ _
     .split
      .split
       .exact v
       .exact OkR.headL n _ _ _<|v.beta _ _
      .exact v
theorem OkR.head (n:Nat){r:Rd}(root:Int)(h:OkR r):OkR (zK n r root).2:=by
 have h1:=OkR.headL n [] false root h;show OkR (if _ then _ else _)
 split
 .exact(OkR.apps _ _ h1).keep _ _
 .exact h1
abbrev aSpn (x:Int×List Int):TV:=.agg [qi x.1,qf<|.sl false 1<|IR x.2]
abbrev hpH (r:Rd)(z:Int)(more:List<|Nat×AObj):AHeap:=[(0,rd3 1 r),(1,hp6 6 7 8 5 r.s),(2,.gone),(3,.gone),(4,.gone),(5,.mapz<|NM r.s.N 0),(6,.arz 5<|CR r.s.C),(7,.arz 7<|TR r.s.T),(8,.arz 1<|NR r.s.N),(9,.arr 2 [[qi z,qf .N]])]++more
abbrev stA (r:Rd)(root a z:Int)(b:Bool):St:=⟨[(0,aRd),(1,ci root),(4,.c<|.a<|.ep 9 2 0 0),(5,.c<|qf .N),(6,cb b),(7,ci a)],hpH r z [],10⟩
abbrev stB (r:Rd)(root a z:Int)(b:Bool)(n:Nat)(js:List Int):St:=⟨[(0,aRd),(1,ci root),(4,.c<|.a<|.ep 9 2 0 0),(5,.c<|.a<|.osl 10 1 0 n),(6,cb b),(7,ci a)],hpH r z [(10,.arz 1<|IR js)],11⟩
theorem KP (root h z:Int)(l0 js:List Int)(hjs:js.take l0.length=l0)(hl0:l0.length<=1073741824):∀(l pre:List Int) (f:Int) (r:Rd),l0=pre++l->OkR r->
  RPt rc 34 6 (aSpn (h,l0)) (oRd'<|zI (yB l f r).2 (zX (yB l f r).2.s.C root) (yB l f r).1) 7
   ⟨[(0,aRd),(1,ci root),(4,.c<|.a<|.ep 9 2 0 0),(5,.c<|.a<|.osl 10 1 0 l0.length),(7,ci h),(10,ci f),(81,.c<|.a<|.osl 10 1 0 l0.length),(82,ci (l0.length:Int)),(83,ci (pre.length:Int))],hpH r z [(10,.arz 1<|IR js)],11⟩
 |[],pre,f,r,hl,ok=>by
  have hd:=JA r.s (by have:=ok.h.C;omega) root;have hk:=Wl r (zX r.s.C root) f ok;rw[rp] at hl
  have len:l0.length<=js.length:=by
   have:=t8 List.length hjs;rw[rM] at this;omega
  refine rpv (v34_7b ..) ?_;refine bF (by rw[hl];omega) ⟨_,hd,_,hk,⟨rfl,by rw[zF];omega⟩,?_,rfl⟩;rw[sH,Jd,hjs];exact .refl _
 |x::l,pre,f,r,hl,ok=>by
  have hp:=vR r ⟨7,f,x,0,0⟩ ok;have nx:=KP root h z l0 js hjs hl0 l (pre++[x]) (putR r ⟨7,f,x,0,0⟩).1 (putR r ⟨7,f,x,0,0⟩).2 (by rw[hl];simp)<|ok.put _
  have hlen:l0.length=pre.length+(l.length+1):=by rw[hl];simp
  have len:l0.length<=js.length:=by
   have:=t8 List.length hjs;rw[rM] at this;omega
  have hg:getD (IR js) (0+toNat (pre.length:Int)) []=[.int .i64 x]:=by
   rw[rB,(za:toNat (pre.length:Int)=pre.length)];have h1:(js.take l0.length)[pre.length]?=some x:=by rw[hjs,hl];simp
   rw[hU za] at h1;have hlt:pre.length<js.length:=za
   rw[rf hlt] at h1;injection h1 with h1
   rw[xY hlt,h1]
  rw[show(((pre++[x]).length:Nat):Int)=(pre.length:Int)+1 by simp] at nx;refine rpv (v34_7b ..) ?_;rw[hg,w64 (x:=(pre.length:Int)+1) za za];exact zu (λ_=>⟨⟨za,za⟩,⟨by rw[zF];omega,rfl,rfl⟩,_,hp,nx⟩) (λq=>absurd (ri q) za)
theorem aN (root z:Int)(l js:List Int)(hjs:js.take l.length=l.reverse)(hl:l.length<=1073741824)(b:Bool)(a:Int)(r:Rd)(ok:OkR r):
  RPt rc 34 6 (aSpn (vr root ⟨l,b,a,r⟩).1) (oRd' (vr root ⟨l,b,a,r⟩).2) 36 (stB r root a z b l.length js):=by
 have len:l.length<=js.length:=by
  have:=t8 List.length hjs;rw[rM,tJ] at this;omega
 have hr:=c_revi js l.length len hl;rw[hjs,List.reverse_reverse] at hr;have e0:vr root ⟨l,b,a,r⟩=((a,l),if b=true then zI (yB l a r).2 (zX (yB l a r).2.s.C root) (yB l a r).1 else r):=rfl
 rw[e0];have nx:=KP root a z l (l++js.drop l.length) (List.take_left ..) hl l [] a r rfl ok;refine rpv (v34_36b ..) ?_;refine⟨_,hr,zu (λq=>?_) λq=>⟨⟨rfl,by rw[zF,re];omega⟩,?_,?_⟩⟩
 .rw[oX (show b=true from q)];exact nx
 .rw[sH,Jd,List.take_left];exact .refl _
 .rw[oV (show¬b=true by rw[show b=false from q];decide)]
theorem pG (root z:Int)(b:Bool)(a:Int)(r:Rd)(ok:OkR r):
  RPt rc 34 6 (aSpn (vr root ⟨[],b,a,r⟩).1) (oRd' (vr root ⟨[],b,a,r⟩).2) 36 (stA r root a z b):=by
 have hd:=JA r.s (by have:=ok.h.C;omega) root;have hk:=Wl r (zX r.s.C root) a ok;have e0:vr root ⟨[],b,a,r⟩=((a,[]),if b=true then zI r (zX r.s.C root) a else r):=rfl
 rw[e0];have le:TV.Le (.agg [qi a,qf .N]) (aSpn (a,[])):=le_agg (a:=[.int .i64 a,.N]) (b:=[.int .i64 a,.sl false 1<|IR []]) ⟨.refl _,.N 1,trivial⟩;refine rpv (v34_36a ..) ?_;refine⟨[],c_revi0,zu (λq=>⟨rfl,?_⟩) λq=>⟨le,?_⟩⟩
 .rw[oX (show b=true from q)];refine rpv (v34_7a ..) ?_;exact bF zc ⟨_,hd,_,hk,le,rfl⟩
 .rw[oV (show¬b=true by rw[show b=false from q];decide)]
theorem nW (r:Rd)(b x:Int):(wS r b x).2.f=r.f:=by simp only[wS,ZX]
theorem JI (root z:Int):∀(n:Nat) (l:List Int) (b:Bool) (a:Int) (r:Rd),OkR r->2*r.f.toNat+2<=n->l.length+r.f.toNat<=1000000000->
  (l=[]->RPt rc 34 6 (aSpn (vr root<|headL n l b a r).1) (oRd' (vr root<|headL n l b a r).2) 1 (stA r root a z b))/\
  (∀js:List Int,js.take l.length=l.reverse->RPt rc 34 6 (aSpn (vr root<|headL n l b a r).1) (oRd' (vr root<|headL n l b a r).2) 1 (stB r root a z b l.length js))
 |0,_,_,_,_,_,h,_=>absurd h za
 |n+1,l,b,a,r,ok,hn,hl=>by
  have hv:=Je r a ok;have ov:=ok.visit a;have vf:=xr r a;have vs:=wj r a
  have e0:headL (n+1) l b a r=if r.e≠0 then⟨l,b,a,r⟩
   else if (zt r a).2.e≠0 then⟨l,b,(zt r a).1.2,(zt r a).2⟩
   else if (zt r a).1.1.t=7 then headL n ((zt r a).1.1.b::l) b (zt r a).1.1.a (zt r a).2
   else if (zt r a).1.1.t=8 then headL n l b (zA n (zt r a).2 (zt r a).1.1).1<|zI (zA n (zt r a).2 (zt r a).1.1).2 (zt r a).1.2 (zA n (zt r a).2 (zt r a).1.1).1
   else if (zt r a).1.1.t=6 then
    if l=[] then⟨l,b,(zt r a).1.2,(zt r a).2⟩
    else headL n l.tail true (wS (zt r a).2 (zt r a).1.1.a<|l.headD 0).1 (wS (zt r a).2 (zt r a).1.1.a<|l.headD 0).2
   else⟨l,b,(zt r a).1.2,(zt r a).2⟩:=rfl
  generalize hvr:zt r a=v at*;obtain⟨⟨c,t⟩,⟨vs',vf',ve'⟩⟩:=v;dsimp only at vs vf e0 ov hv;subst vs
  have fin:∀(l:List Int) (b:Bool) (a:Int) (r:Rd),OkR r->l.length<=1000000000->headL (n+1) l b a r=headL (n+1) l b a r->
   (l=[]->RPt rc 34 6 (aSpn (vr root ⟨l,b,a,r⟩).1) (oRd' (vr root ⟨l,b,a,r⟩).2) 36 (stA r root a z b))/\(∀js:List Int,js.take l.length=l.reverse->RPt rc 34 6 (aSpn (vr root ⟨l,b,a,r⟩).1) (oRd' (vr root ⟨l,b,a,r⟩).2) 36 (stB r root a z b l.length js)):=
   λl b a r ok hl _=>⟨λe=>by subst e;exact pG root z b a r ok,λjs hjs=>aN root z l js hjs za b a r ok⟩
  by_cases q0:r.e=0
  .rw[oV λw=>w q0] at e0;have f1:=vf.1;by_cases q1:ve'=0
   .rw[oV λw=>w q1] at e0;obtain⟨f2,f3⟩:=vf.2 q1;by_cases q2:c.t=7
    .rw[oX q2] at e0;have ih:=JI root z n (c.b::l) b c.a ⟨r.s,vf',ve'⟩ ov zm (by simp only[r5];omega);rw[e0];refine⟨λe=>?_,λjs hjs=>?_⟩
     .subst e;have:=ih.2 [c.b] rfl;refine rpv (We ..) ?_;exact zB (λ_=>⟨(c.t,c.a,c.b,c.c,c.d,t,vf',ve'),hv,zZ (λw=>absurd q1 w) λ_=>zB (λ_=>⟨r6 _,by simp only[zS];omega,this⟩) λw=>absurd q2 w⟩) λw=>absurd q0 w
     .have len:l.length<=js.length:=by
       have:=t8 List.length hjs;rw[rM,tJ] at this;omega
      have:=ih.2 (js.take l.length++[c.b]) (by rw[hjs,tU];exact ro zb);have e9:IR (js.take l.length++[c.b])=take l.length (IR js)++[[.int .i64 c.b]]:=by rw[Jb,<-Jd];rfl
      simp only[stB,hpH] at this;rw[e9] at this;refine rpv (ZZ ..) ?_;exact zB (λ_=>⟨(c.t,c.a,c.b,c.c,c.d,t,vf',ve'),hv,zZ (λw=>absurd q1 w) λ_=>zB (λ_=>⟨r6 _,⟨by rw[zF];omega,by simp only[zS];omega⟩,this⟩) λw=>absurd q2 w⟩) λw=>absurd q0 w
    .rw[oV q2] at e0;by_cases q3:c.t=8
     .rw[oX q3] at e0;have ho:=c_ropen n n (r6 _) ⟨r.s,vf',ve'⟩ c ov zm;have oo:=OkR.open n c ov;have hk:=Wl (zA n ⟨r.s,vf',ve'⟩ c).2 t (zA n ⟨r.s,vf',ve'⟩ c).1 oo;have g1:=kI n ⟨r.s,vf',ve'⟩ c;have g2:=uF (zA n ⟨r.s,vf',ve'⟩ c).2 t (zA n ⟨r.s,vf',ve'⟩ c).1;dsimp only at g1;have ih:=JI root z n l b (zA n ⟨r.s,vf',ve'⟩ c).1 (zI (zA n ⟨r.s,vf',ve'⟩ c).2 t (zA n ⟨r.s,vf',ve'⟩ c).1) (oo.keep _ _) (by rw[g2];omega) (by rw[g2];omega);rw[e0];refine⟨λe=>?_,λjs hjs=>?_⟩
      .have:=ih.1 e;refine rpv (We ..) ?_;exact zB (λ_=>⟨(c.t,c.a,c.b,c.c,c.d,t,vf',ve'),hv,zZ (λw=>absurd q1 w) λ_=>zB (λw=>absurd w q2) λ_=>zB (λ_=>⟨_,ho,_,hk,this⟩) λw=>absurd q3 w⟩) λw=>absurd q0 w
      .have:=ih.2 js hjs;refine rpv (ZZ ..) ?_;exact zB (λ_=>⟨(c.t,c.a,c.b,c.c,c.d,t,vf',ve'),hv,zZ (λw=>absurd q1 w) λ_=>zB (λw=>absurd w q2) λ_=>zB (λ_=>⟨_,ho,_,hk,this⟩) λw=>absurd q3 w⟩) λw=>absurd q0 w
     .rw[oV q3] at e0;have stop:=fin l b t ⟨r.s,vf',ve'⟩ ov za rfl;by_cases q4:c.t=6
      .rw[oX q4] at e0;by_cases q5:l=[]
       .rw[oX q5] at e0;rw[e0];refine⟨λe=>?_,λjs hjs=>?_⟩
        .have:=stop.1 e;refine rpv (We ..) ?_;exact zB (λ_=>⟨(c.t,c.a,c.b,c.c,c.d,t,vf',ve'),hv,zZ (λw=>absurd q1 w) λ_=>zB (λw=>absurd w q2) λ_=>zB (λw=>absurd w q3) λ_=>zB (λ_=>⟨rfl,this⟩) λw=>absurd q4 w⟩) λw=>absurd q0 w
        .have:=stop.2 js hjs;refine rpv (ZZ ..) ?_;exact zB (λ_=>⟨(c.t,c.a,c.b,c.c,c.d,t,vf',ve'),hv,zZ (λw=>absurd q1 w) λ_=>zB (λw=>absurd w q2) λ_=>zB (λw=>absurd w q3) λ_=>zB (λ_=>bF (by rw[q5];simp) this) λw=>absurd q4 w⟩) λw=>absurd q0 w
       .rw[oV q5] at e0
        obtain⟨x,l',rfl⟩:∃x l',l=x::l':=by
         cases l with
         |nil=>exact absurd rfl q5
         |cons x l'=>exact⟨x,l',rfl⟩
        simp only[r5] at hl;have hb:=c_rbeta ⟨r.s,vf',ve'⟩ c x ov;have bf:=nW ⟨r.s,vf',ve'⟩ c.a x;dsimp only at bf;have ih:=JI root z n l' true (wS ⟨r.s,vf',ve'⟩ c.a x).1 (wS ⟨r.s,vf',ve'⟩ c.a x).2 (ov.beta _ _) (by rw[bf];omega) (by rw[bf];omega);refine⟨λe=>(by cases e),λjs hjs=>?_⟩;have e1:headL (n+1) (x::l') b a r=headL n l' true (wS ⟨r.s,vf',ve'⟩ c.a x).1 (wS ⟨r.s,vf',ve'⟩ c.a x).2:=e0;rw[e1]
        have len:l'.length+1<=js.length:=by
         have:=t8 List.length hjs;rw[rM,tJ,r5] at this;omega
        have hjs':js.take l'.length=l'.reverse/\js[l'.length]?=some x:=by
         have h1:js.take (l'.length+1)=l'.reverse++[x]:=by rw[r5] at hjs;rw[hjs,tU]
         refine⟨?_,?_⟩
         .have:=t8 (take l'.length) h1;rw[List.take_take,sU za,List.take_left' zb] at this;exact this
         .have:(js.take<|l'.length+1)[l'.length]?=some x:=by rw[h1];simp
          rwa [hU za] at this
        have:=ih.2 js hjs'.1
        have ew:wr ((((x::l').length:Nat):Int)-1)=(l'.length:Int):=by
         rw[wr,w64 (by simp only[r5];omega)<|by simp only[r5];omega];simp only[r5];omega
        have hlt:l'.length<js.length:=za
        have hg:getD (IR js) (0+toNat (l'.length:Int)) []=[.int .i64 x]:=by
         rw[rB,rC,xY hlt];have h2:=hjs'.2;rw[rf hlt] at h2;injection h2 with h2
         rw[h2]
        refine rpv (ZZ ..) ?_;have ew:wrap .i64 ((((x::l').length:Nat):Int)-1)=(l'.length:Int):=ew;rw[ew,hg];refine zB (λ_=>⟨(c.t,c.a,c.b,c.c,c.d,t,vf',ve'),hv,zZ (λw=>absurd q1 w) λ_=>zB (λw=>absurd w q2) λ_=>zB (λw=>absurd w q3) λ_=>zB (λ_=>zu (λ_=>?_) λw=>absurd (ri w)<|by simp only[r5];omega) λw=>absurd q4 w⟩) λw=>absurd q0 w;refine⟨⟨za,by simp only[r5];omega⟩,⟨by rw[zF,rC];omega,rfl,rfl⟩,wS ⟨r.s,vf',ve'⟩ c.a x,hb,⟨za,za,by simp only[r5];omega⟩,?_⟩;rw[rC];exact this
      .rw[oV q4] at e0;rw[e0];refine⟨λe=>?_,λjs hjs=>?_⟩
       .have:=stop.1 e;refine rpv (We ..) ?_;exact zB (λ_=>⟨(c.t,c.a,c.b,c.c,c.d,t,vf',ve'),hv,zZ (λw=>absurd q1 w) λ_=>zB (λw=>absurd w q2) λ_=>zB (λw=>absurd w q3) λ_=>zB (λw=>absurd w q4) λ_=>this⟩) λw=>absurd q0 w
       .have:=stop.2 js hjs;refine rpv (ZZ ..) ?_;exact zB (λ_=>⟨(c.t,c.a,c.b,c.c,c.d,t,vf',ve'),hv,zZ (λw=>absurd q1 w) λ_=>zB (λw=>absurd w q2) λ_=>zB (λw=>absurd w q3) λ_=>zB (λw=>absurd w q4) λ_=>this⟩) λw=>absurd q0 w
   .rw[oX q1] at e0;have stop:=fin l b t ⟨r.s,vf',ve'⟩ ov za rfl;rw[e0];refine⟨λe=>?_,λjs hjs=>?_⟩
    .have:=stop.1 e;refine rpv (We ..) ?_;exact zB (λ_=>⟨(c.t,c.a,c.b,c.c,c.d,t,vf',ve'),hv,zZ (λ_=>this) λw=>absurd w q1⟩) λw=>absurd q0 w
    .have:=stop.2 js hjs;refine rpv (ZZ ..) ?_;exact zB (λ_=>⟨(c.t,c.a,c.b,c.c,c.d,t,vf',ve'),hv,zZ (λ_=>this) λw=>absurd w q1⟩) λw=>absurd q0 w
  .rw[oX q0] at e0;have stop:=fin l b a r ok za rfl;rw[e0];refine⟨λe=>?_,λjs hjs=>?_⟩
   .have:=stop.1 e;refine rpv (We ..) ?_;exact zB (λw=>absurd w q0) λ_=>this
   .have:=stop.2 js hjs;refine rpv (ZZ ..) ?_;exact zB (λw=>absurd w q0) λ_=>this
theorem iI (n:Nat)(r:Rd)(root:Int)(ok:OkR r)(hn:2*r.f.toNat+2<=n)(hf:r.f<=1000000000):AC rc 34 [aRd,ci root] (oRd r) (aSpn (zK n r root).1) (oRd' (zK n r root).2):=by
 have h:=(JI root 0 n [] false root r ok hn<|by simp only[rt];omega).1 rfl;unfold zK;refine acv (v34 ..) ?_;exact h
abbrev t0:Tm:=.mk 0 [] 0 []
def leafR (s:Hp)(a:Int):Tm:=
 if (cellOf s.C a).t=0 then .mk 0 (nameOf s.N (cellOf s.C a).a) 0 []
 else if (cellOf s.C a).t=1 then .mk 1 [] (cellOf s.C a).a []
 else if (cellOf s.C a).t=2 then .mk 2 [] (cellOf s.C a).a []
 else if (cellOf s.C a).t=3 then .mk 3 [] (cellOf s.C a).a []
 else if (cellOf s.C a).t=4 then .mk 4 [] a []
 else t0
def zW (F:Rd->Int->Tm×Rd):List Int->Tm->Rd->Tm×Rd
 |[],t,r=>(t,r)
 |x::l,t,r=>zW F l (applyF t [(F r x).1]) (F r x).2
def Zv (F:Rd->Int->Tm×Rd)(h:(Int×List Int)×Rd):Tm×Rd:=
 if h.2.e≠0 then(t0,h.2)
 else if (cellOf h.2.s.C h.1.1).t=6 then(lamsF 1 (F h.2 (cellOf h.2.s.C h.1.1).a).1,(F h.2 (cellOf h.2.s.C h.1.1).a).2)
 else zW F h.1.2 (leafR h.2.s h.1.1) h.2
def fulR (N:Nat):Nat->Rd->Int->Tm×Rd
 |0,r,_=>(t0,r)
 |n+1,r,a=>Zv (fulR N n)<|zK N r a
theorem wt:∀(l:List Int) (f:Int) (r:Rd),r.e≠0->(yB l f r).2=r
 |[],_,_,_=>rfl
 |x::l,f,r,h=>by
  have:(putR r ⟨7,f,x,0,0⟩).2=r:=by rw[putR,oV h]
  rw[yB,this];exact wt l _ r h
theorem apps_f:∀(l:List Int) (f:Int) (r:Rd),(yB l f r).2.f=r.f
 |[],_,_=>rfl
 |x::l,f,r=>by rw[yB,apps_f l,ZX]
theorem uu {r:Rd}{a b:Int}(h:r.e≠0):zI r a b=r:=by rw[zI,oV λq=>h q.1]
theorem WG:∀(n:Nat) (l:List Int) (b:Bool) (a:Int) (r:Rd),2*r.f.toNat+2<=n->((headL n l b a r).r.f:Int)+(headL n l b a r).l.length<=r.f+l.length/\(headL n l b a r).r.f<=r.f/\
  ((headL n l b a r).r.e=0->(headL n l b a r).r.f+(headL n l b a r).l.length+1<=r.f+l.length/\0<=(headL n l b a r).r.f)
 |0,_,_,_,_,h=>absurd h za
 |n+1,l,b,a,r,hn=>by
  have vf:=xr r a;rw[headL];split
  next q=>exact⟨ru _,ru _,λw=>absurd w q⟩
  .split
   next q=>exact⟨by have:=vf.1;dsimp only;omega,vf.1,λw=>absurd w q⟩
   .rename_i q;obtain⟨f1,f2⟩:=vf.2 (zo q);split
    .have ih:=WG n ((zt r a).1.1.b::l) b (zt r a).1.1.a (zt r a).2 za;simp only[r5] at ih;exact⟨za,za,λw=>by have:=ih.2.2 w;omega⟩
    .split
     .have g1:=kI n (zt r a).2 (zt r a).1.1;have g2:=uF (zA n (zt r a).2 (zt r a).1.1).2 (zt r a).1.2 (zA n (zt r a).2 (zt r a).1.1).1;have ih:=WG n l b (zA n (zt r a).2 (zt r a).1.1).1 (zI (zA n (zt r a).2 (zt r a).1.1).2 (zt r a).1.2 (zA n (zt r a).2 (zt r a).1.1).1) za;exact⟨za,za,λw=>by have:=ih.2.2 w;omega⟩
     .split
      .split
       .exact⟨zm,vf.1,λ_=>⟨zm,zm⟩⟩
       .rename_i hl;have g:=nW (zt r a).2 (zt r a).1.1.a<|l.headD 0
        have ih:=WG n l.tail true (wS (zt r a).2 (zt r a).1.1.a<|l.headD 0).1 (wS (zt r a).2 (zt r a).1.1.a<|l.headD 0).2 za;have:l.tail.length<=l.length:=zb
        exact⟨za,za,λw=>by have:=ih.2.2 w;omega⟩
      .exact⟨zm,vf.1,λ_=>⟨zm,zm⟩⟩
theorem uE (n:Nat)(r:Rd)(a:Int)(hn:2*r.f.toNat+2<=n):(zK n r a).2.f<=r.f/\((zK n r a).2.e=0->(zK n r a).2.f+(zK n r a).1.2.length+1<=r.f/\0<=(zK n r a).2.f):=by
 have h:=WG n [] false a r hn;simp only[rt] at h;unfold zK vr;generalize headL n [] false a r=z at*;obtain⟨l,b,a',r'⟩:=z;dsimp only at h ⊢;split
 .by_cases q:r'.e=0
  .have:=h.2.2 q;rw[uF,apps_f];exact⟨h.2.1,λ_=>⟨za,this.2⟩⟩
  .rw[wt _ _ _ q,uu q];exact⟨h.2.1,λw=>absurd w q⟩
 .exact⟨h.2.1,λw=>⟨by have:=(h.2.2 w).1;omega,(h.2.2 w).2⟩⟩
theorem vZ (t u:Tm):(applyF t [u]).sz<=1+t.sz+u.sz:=by
 have:=xX t [u];simp only[Tm.szs] at this;omega
def pF (F:Rd->Int->Tm×Rd)(m:Int):Prop:=∀(r:Rd) (a:Int),OkR r->r.f<=m->OkR (F r a).2/\(F r a).2.f<=r.f/\(F r a).1.sz+3*(F r a).2.f.toNat<=3*r.f.toNat+1
theorem dQ {F:Rd->Int->Tm×Rd}{m:Int}(hF:pF F m):∀(l:List Int) (t:Tm) (r:Rd),OkR r->r.f<=m->OkR (zW F l t r).2/\(zW F l t r).2.f<=r.f/\(zW F l t r).1.sz+3*(zW F l t r).2.f.toNat<=3*r.f.toNat+t.sz+2*l.length
 |[],t,r,ok,_=>⟨ok,ru _,by simp only[zW,rt];omega⟩
 |x::l,t,r,ok,hm=>by
  obtain⟨a1,a2,a3⟩:=hF r x ok hm;have ih:=dQ hF l (applyF t [(F r x).1]) (F r x).2 a1 za;have:=vZ t (F r x).1;rw[zW];simp only[r5];exact⟨ih.1,za,za⟩
theorem leafR_sz (s:Hp)(a:Int):(leafR s a).sz=1/\(leafR s a).l=[]:=by
 unfold leafR;split
 .exact⟨rfl,rfl⟩
 .split
  .exact⟨rfl,rfl⟩
  .split
   .exact⟨rfl,rfl⟩
   .split
    .exact⟨rfl,rfl⟩
    .split<;>exact⟨rfl,rfl⟩
theorem JH (N:Nat):∀(n:Nat) (m:Int),2*m.toNat+2<=N->m.toNat<n->pF (fulR N n) m
 |0,_,_,h=>absurd h za
 |n+1,m,hN,hm=>λr a ok hr=>by
  have hf:=uE N r a za;have oh:=OkR.head N a ok;rw[fulR];unfold Zv;split
  .exact⟨oh,hf.1,by show(t0.sz)+_<=_;have:t0.sz=1:=rfl;rw[this];have:=hf.1;dsimp only;omega⟩
  .rename_i q;obtain⟨g1,g2⟩:=hf.2 (zo q)
   have ih:m-1<0\/pF (fulR N n) (m-1):=by
    by_cases h:m-1<0
    .exact .inl h
    .exact .inr<|JH N n (m-1) za za
   rcases ih with ih|ih
   .omega
   split
   .obtain⟨a1,a2,a3⟩:=ih (zK N r a).2 (cellOf (zK N r a).2.s.C (zK N r a).1.1).a oh za;refine⟨a1,zm,?_⟩
    have e:(lamsF 1 (fulR N n (zK N r a).2 (cellOf (zK N r a).2.s.C (zK N r a).1.1).a).1).sz=1+(fulR N n (zK N r a).2 (cellOf (zK N r a).2.s.C (zK N r a).1.1).a).1.sz:=by
     simp only[lamsF,Tm.sz,Tm.szs];omega
    dsimp only;rw[e];omega
   .have:=dQ ih (zK N r a).1.2 (leafR (zK N r a).2.s (zK N r a).1.1) (zK N r a).2 oh za;have e:=(leafR_sz (zK N r a).2.s (zK N r a).1.1).1;exact⟨this.1,za,za⟩
abbrev FullC (F:Rd->Int->Tm×Rd)(m:Int):Prop:=∀(r:Rd) (a:Int),OkR r->r.f<=m->AC rc 20 [aRd,ci a] (oRd r) (aT (F r a).1) (oRd' (F r a).2)
abbrev stFu (r:Rd)(l:List Int)(z t:Tm)(x:FV)(i:Int):St:=
 ⟨[(0,aRd),(4,.c<|.a<|.ep 9 4 0 0),(8,.c<|.a<|.ep 10 4 0 0),(71,.c<|qf<|.sl false 1<|IR l),(72,ci (l.length:Int)),(73,ci i)],
  [(0,rd3 1 r),(1,hp6 6 7 8 5 r.s),(2,.gone),(3,.gone),(4,.gone),(5,.mapz<|NM r.s.N 0),(6,.arz 5<|CR r.s.C),(7,.arz 7<|TR r.s.T),(8,.arz 1<|NR r.s.N),(9,.arr 4 [[qi z.k,qf<|.str z.s,qi z.n,qf .N]]),(10,.arr 4 [[qi t.k,qf<|.str t.s,qi t.n,qf x]])],11⟩
theorem cD {F:Rd->Int->Tm×Rd}{m:Int}(hC:FullC F m)(hG:pF F m)(z:Tm)(l0:List Int)(hl0:l0.length<=1000000000):∀(l pre:List Int) (t:Tm) (r:Rd),l0=pre++l->OkR r->r.f<=m->t.sz+3*r.f.toNat+2*l.length<=1000000000->
  RPt rc 20 6 (aT (zW F l t r).1) (oRd' (zW F l t r).2) 3 (stFu r l0 z t (.sl false 4<|FTs t.l) (pre.length:Int))
 |[],pre,t,r,hl,ok,_,_=>by
  rw[rp] at hl;obtain⟨tk,ts,tn,tl⟩:=t;refine rpv (v20_3b ..) ?_;exact bF (by rw[hl];omega) rrl
 |x::l,pre,t,r,hl,ok,hr,hz=>by
  have hx:=hC r x ok hr;obtain⟨a1,a2,a3⟩:=hG r x ok hr;have hlen:l0.length=pre.length+(l.length+1):=by rw[hl];simp
  simp only[r5] at hz;have tl:=t.sz_eq;have tl2:=Tm.szs_length t.l;have ha:=wX t [(F r x).1] (by simp only[rD];omega);have hs:=vZ t (F r x).1;have hlt:pre.length<l0.length:=za
  have hg:getD (IR l0) (toNat (pre.length:Int)) []=[.int .i64 x]:=by
   rw[rC,xY hlt];simp[hl]
  rw[zW];have nx:=cD hC hG z l0 hl0 l (pre++[x]) (applyF t [(F r x).1]) (F r x).2 (by rw[hl];simp) a1 za za;rw[show(((pre++[x]).length:Nat):Int)=(pre.length:Int)+1 by simp] at nx;refine rpv (v20_3b ..) ?_;rw[hg,w64 (x:=(pre.length:Int)+1) za za];refine zu (λ_=>⟨⟨rfl,za,by rw[zF];omega,rfl⟩,_,hx,⟨rfl,r6 _⟩,applyF t [(F r x).1],?_,nx⟩) (λw=>absurd (ri w) za);obtain⟨tk,ts,tn,tl⟩:=t;rw[show [FT4 (F r x).1]=FTs [(F r x).1] by rw[vT];rfl];exact ha
theorem l_rfulla {F:Rd->Int->Tm×Rd}{m:Int}(hC:FullC F m)(hG:pF F m)(z:Tm)(l:List Int)(hl:l.length<=1000000000)(k n:Int)(s:List UInt8)(r:Rd)(ok:OkR r)(hr:r.f<=m)(hz:1+3*r.f.toNat+2*l.length<=1000000000):
  RPt rc 20 6 (aT (zW F l (.mk k s n []) r).1) (oRd' (zW F l (.mk k s n []) r).2) 3 (stFu r l z (.mk k s n []) .N 0):=by
 cases l with
 |nil=>
  refine rpv (v20_3a ..) ?_;exact bF zc ⟨leT (l:=[]) xU,rfl⟩
 |cons x l=>
  have hx:=hC r x ok hr;obtain⟨a1,a2,a3⟩:=hG r x ok hr;simp only[r5] at hz hl;have ha:=(wX (.mk k s n []) [(F r x).1]<|by simp only[rD,Tm.l,rt];omega).args (args:=[.agg [qi k,qf<|.str s,qi n,qf .N],aL [(F r x).1]]) ⟨leT xU,.refl _,trivial⟩;have hs:=vZ (.mk k s n []) (F r x).1;have h1:(Tm.mk k s n []).sz=1:=rfl;have nx:=cD hC hG z (x::l) (by simp only[r5];omega) l [x] (applyF (.mk k s n []) [(F r x).1]) (F r x).2 rfl a1 za za;rw[zW];refine rpv (v20_3a ..) ?_;have hg:getD (IR<|x::l) (toNat 0) []=[.int .i64 x]:=rfl;rw[hg,show wrap .i64 ((0:Int)+1)=1 from w64 za za];refine zu (λ_=>⟨⟨rfl,ru _,by rw[zF];simp only[r5];omega,rfl⟩,_,hx,⟨rfl,r6 _⟩,applyF (.mk k s n []) [(F r x).1],?_,nx⟩) (λw=>absurd (ri w)<|by simp only[r5];omega);rw[show [FT4 (F r x).1]=FTs [(F r x).1] by rw[vT];rfl];exact ha
theorem iF (N:Nat):∀(n:Nat) (m:Int),2*m.toNat+2<=N->m.toNat<n->m<=100000000->FullC (fulR N n) m
 |0,_,_,h,_=>absurd h za
 |n+1,m,hN,hm,hB=>λr a ok hr=>by
  have hf:=uE N r a za;have oh:=OkR.head N a ok;have hh:=iI N r a ok za za;have cc:=vN (zK N r a).2.s (zK N r a).1.1;have nm:=oy (zK N r a).2.s (cellOf (zK N r a).2.s.C (zK N r a).1.1).a
  have e0:fulR N (n+1) r a=if (zK N r a).2.e≠0 then(t0,(zK N r a).2)
   else if (cellOf (zK N r a).2.s.C (zK N r a).1.1).t=6 then(lamsF 1 (fulR N n (zK N r a).2 (cellOf (zK N r a).2.s.C (zK N r a).1.1).a).1,(fulR N n (zK N r a).2 (cellOf (zK N r a).2.s.C (zK N r a).1.1).a).2)
   else zW (fulR N n) (zK N r a).1.2 (leafR (zK N r a).2.s (zK N r a).1.1) (zK N r a).2:=rfl
  have ih:m-1<0\/FullC (fulR N n) (m-1)/\pF (fulR N n) (m-1):=by
   by_cases h:m-1<0
   .exact .inl h
   .exact .inr ⟨iF N n (m-1) za za za,JH N n (m-1) za za⟩
  unfold leafR at e0;generalize zK N r a=h at*;obtain⟨⟨hd,xs⟩,⟨hs,hf',he⟩⟩:=h;dsimp only at*;refine acv (v20 ..) ?_;refine⟨(hd,xs,⟨hs,hf',he⟩),hh,zZ (λq=>?_) λq=>⟨_,_,_,_,_,_,cc,?_⟩⟩
  .rw[oX q] at e0;rw[e0];exact⟨leT (l:=[]) xU,rfl⟩
  .rw[oV λw=>w q] at e0;obtain⟨g1,g2⟩:=hf.2 q;rcases ih with ih|⟨ihC,ihG⟩
   .omega
   have go:∀(k v:Int) (str:List UInt8),RPt rc 20 6 (aT (zW (fulR N n) xs (.mk k str v []) ⟨hs,hf',he⟩).1) (oRd' (zW (fulR N n) xs (.mk k str v []) ⟨hs,hf',he⟩).2) 3 (stFu ⟨hs,hf',he⟩ xs t0 (.mk k str v []) .N 0):=
    λk v str=>l_rfulla ihC ihG t0 xs za k v str ⟨hs,hf',he⟩ oh zm zm
   have el:(((IR xs).length:Nat):Int)=(xs.length:Int):=by rw[zF]
   refine zB (λq6=>?_) λq6=>?_
   .rw[oX q6] at e0;have hx:=ihC ⟨hs,hf',he⟩ (cellOf hs.C hd).a oh zm;have hl:=Yw 1 (fulR N n ⟨hs,hf',he⟩ (cellOf hs.C hd).a).1 za;rw[e0];exact⟨_,hx,_,hl,.refl _,rfl⟩
   .rw[oV q6] at e0;rw[el];refine zB (λq0=>?_) λq0=>zB (λq1=>?_) λq1=>zB (λq2=>?_) λq2=>zB (λq3=>?_) λq3=>zB (λq4=>?_) λq4=>?_
    .rw[oX q0] at e0;rw[e0];exact⟨_,nm,rfl,go 0 0 _⟩
    .rw[oV q0,oX q1] at e0;rw[e0];exact⟨rfl,go 1 _ []⟩
    .rw[oV q0,oV q1,oX q2] at e0;rw[e0];exact⟨rfl,go 2 _ []⟩
    .rw[oV q0,oV q1,oV q2,oX q3] at e0;rw[e0];exact⟨rfl,go 3 _ []⟩
    .rw[oV q0,oV q1,oV q2,oV q3,oX q4] at e0;rw[e0];exact⟨rfl,go 4 _ []⟩
    .rw[oV q0,oV q1,oV q2,oV q3,oV q4] at e0;rw[e0];exact⟨rfl,go 0 0 []⟩
abbrev M62:Int:=4611686018427387904
theorem nj (fr by_ d:Int)(u:Tm)(hb:u.k=3->0-M62<=u.n/\u.n<=M62)(hd0:0<=d)(hd1:d<=M61)(hf0:0<=fr)(hf1:fr<=M61)(hb0:0-1<=by_)(hb1:by_<=M61):
  AC rc 96 [aT u,ci d,.c<|.a<|.ep 0 1 0 0,.c<|.a<|.ep 1 1 0 0] [obj1 fr,obj1 by_] (aT<|yh fr by_ u d) [obj1 fr,obj1 by_]:=by
 obtain⟨k,s,n,l⟩:=u;simp only[M62,M61,Tm.k,Tm.n] at*;refine acv (v96 k s n (FTs l) d fr by_ _ _) ?_;rw[w64 za za];refine zu (λh=>zu (λh2=>?_) λh2=>?_) λh=>?_
 .have hk:k=3:=zo h
  have h3:d+fr<=n:=rA h2;have:=hb hk;have e:yh fr by_ (.mk k s n l) d=.mk k s (n+by_) l:=oX ⟨h,h3⟩;rw[e];exact⟨_,c_moved (.mk k s n l) by_ (by simp only[Tm.n];omega)<|by simp only[Tm.n];omega,.refl _,rfl⟩
 .have h3:¬d+fr<=n:=ri h2;have e:yh fr by_ (.mk k s n l) d=.mk k s n l:=oV λe=>h3 e.2;rw[e];exact rrl
 .have e:yh fr by_ (.mk k s n l) d=.mk k s n l:=oV λe=>by have:=e.1;rw[show Tm.k (.mk k s n l)=k from rfl,h] at this;cases this
  rw[e];exact rrl
theorem c_shiftW (t:Tm)(fr by_:Int)(hs:t.sz<=B)(hb:bd M62 t)(hf0:0<=fr)(hf1:fr<=M61)(hb0:0-1<=by_)(hb1:by_<=M61):
  AC rc 79 [aT t,ci fr,ci by_] [] (aT<|shT fr by_ t 0) []:=by
 have h:=c_wSh fr by_ (yh fr by_) (λu _=>bd M62 u/\u.sz<=B) (λkd s n l d hq hk u hu=>⟨Y6 hq.1.2 hu,by have:=Tm.szs_mem hu;have:=hq.2;simp only[Tm.sz] at this;omega⟩)
  (λu d hk hq h0 h1=>nj fr by_ d u (by obtain⟨k,s,n,l⟩:=u;exact hq.1.1) h0 h1 hf0 hf1 hb0 hb1)
  (λu d hq=>by have:=shT_sz fr by_ u d;have h1:=(shT fr by_ u d).sz_eq;have:=Tm.szs_length (shT fr by_ u d).l;have:=hq.2;show(shT fr by_ u d).l.length<=_;omega)
  t hs 0 ⟨hb,hs⟩ (ru _) (by simp only[B] at hs;omega)
 obtain⟨k,s,n,l⟩:=t;refine acv (v79 k s n (FTs l) fr by_ _ _) ?_;exact⟨_,h,.refl _,rfl⟩
theorem c_edropW (b:Tm)(ho:okB b=true)(hl:lvB b=true)(hs:b.sz<=SZ)(hb:bd M62 b):AC rc 57 [aT b] [] (.tup [(true,cT<|uJ b),(false,[qf<|.bool<|yT b])]) []:=by
 have no:yT b=false->uJ b=noT:=λh=>oV (by rw[h];simp);obtain⟨k,s,n,l⟩:=b;have hlen:=Tm.szs_length l;simp only[Tm.sz,SZ] at hs;refine acv (v57 k s n (FTs l) _ _) ?_;refine⟨rfl,zu (λh=>?_) λh=>?_⟩
 .have hd:yT (.mk k s n l)=false:=by
   have h:(k !=6)=true:=h;rw[yT,show(Tm.k (.mk k s n l)==6)=false by show(k==6)=false;exact zo h];rfl
  rw[no hd,hd];exact⟨leTB (l:=[]) xU,rfl⟩
 .have h6:k=6:=zo h
  subst h6;obtain⟨x,a,z,rfl,hx6,hx,ha,hz⟩:=vS ho rfl;obtain⟨r1,r2,r3,r4⟩:=Wq ho rfl
  have hd:yT (.mk 6 s n<|x::a++[z])=(z.k==3&&z.n==0&&occF (applyF x a) 0==0):=by
   rw[yT,vJ,show Tm.l (.mk 6 s n<|x::a++[z])=x::a++[z] from rfl,cM];rfl
  have hdF:yT (.mk 6 s n<|x::a++[z])=true->uJ (.mk 6 s n<|x::a++[z])=shT 0 (-1) (applyF x a) 0:=λh=>by rw[uJ,oX h,vJ]
  rw[vJ] at r1 r2 r3 r4;have hal:a.length<=130000000:=by rw[re,r5] at hlen;omega
  rw[lastI x a z hal];have el:FV.L 4 (.sl false 4<|FTs<|x::a++[z])=true/\((0:Int)<=((x::a).length:Int)/\(((x::a).length:Int)<(((FTs<|x::a++[z]).length:Nat):Int)/\(rE (getD (FTs<|x::a++[z]) (toNat ((x::a).length:Int)) []):List FV)=getD (FTs<|x::a++[z]) (toNat ((x::a).length:Int)) [])):=⟨rfl,za,ltI' (x::a) z [],XI (x::a) z []⟩;have ez:getD (FTs<|x::a++[z]) (toNat ((x::a).length:Int)) []=FT z:=midI (x::a) z [];have ek:FV.I (getD (getD (FTs<|x::a++[z]) (toNat ((x::a).length:Int)) []) 0 FV.N)=z.k:=by rw[ez];cases z;rfl
  have en:FV.I (getD (getD (FTs<|x::a++[z]) (toNat ((x::a).length:Int)) []) 2 FV.N)=z.n:=by rw[ez];cases z;rfl
  rw[ek,en];refine⟨el,zu (λh1=>?_) λh1=>⟨el,zu (λh2=>?_) λh2=>⟨el0 x<|a++[z],rfl,⟨za,by simp only[r5];omega,by rw[lenI,re];omega⟩,?_⟩⟩⟩
  .have hd':yT (.mk 6 s n<|x::a++[z])=false:=by
    have h1:(z.k !=3)=true:=h1;rw[hd,show(z.k==3)=false by simpa using h1];rfl
   rw[no hd',hd'];exact⟨leTB (l:=[]) xU,rfl⟩
  .have hd':yT (.mk 6 s n<|x::a++[z])=false:=by
    have h2:(z.n !=0)=true:=h2;rw[hd,show(z.n==0)=false by simpa using h2];simp
   rw[no hd',hd'];exact⟨leTB (l:=[]) xU,rfl⟩
  .have e1:aE (getD (FTs<|x::a++[z]) 0 [])=aT x:=vP x
   have e2:drop 1 (take (toNat ((x::a).length:Int))<|FTs<|x::a++[z])=FTs a:=by
    rw[X3,FTs_take,bZ,List.take_left];rfl
   rw[e1,e2];have hxs:x.l.length<=x.sz:=by have:=x.sz_eq;have:=Tm.szs_length x.l;omega
   have hxz:x.sz<=130000000:=by simp only[sk,Tm.szs] at hs;omega
   have hap:=wX x a za;have hrz:(applyF x a).sz<=SZ:=by simp only[Tm.sz] at r3;simp only[SZ];omega
   have hfr:=c_efree (applyF x a) 0 (by simp only[SZ,B] at*;omega) za (by simp only[SZ] at hrz;omega);have hva:validB (applyF x a)=true:=by rw[wF,r1,r2 hl];rfl
   rw[hva,sr] at hfr;have hsh:=c_shiftW (applyF x a) 0 (-1) (by simp only[SZ,B] at*;omega) (r4 _ hb) (ru _) (by simp only[M61];omega) za (by simp only[M61];omega)
   have hz3:(z.k==3)=true:=by
    have h1:(z.k !=3)=false:=h1;exact zo h1
   have hz0:(z.n==0)=true:=by
    have h2:(z.n !=0)=false:=h2;exact zo h2
   refine⟨_,hap,_,hfr,zu (λh3=>?_) λh3=>?_⟩
   .have hd':yT (.mk 6 s n<|x::a++[z])=false:=by
     have h3:=rA h3;rw[hd,show(occF (applyF x a) 0==0)=false by simp;omega,tv]
    rw[no hd',hd'];exact⟨leTB (l:=[]) xU,rfl⟩
   .have hd':yT (.mk 6 s n<|x::a++[z])=true:=by
     have h3:=ri h3;rw[hd,hz3,hz0,show(occF (applyF x a) 0==0)=true by simp;omega];rfl
    rw[hdF hd',hd'];exact⟨_,hsh,.refl _,rfl⟩
theorem KQ:∀t:Tm,okB t=true->lvB t=true->t.sz<=SZ->bd M62 t->AC rc 36 [aT t] [] (aT<|zy t) []:=by
 refine Tm.ind λt ih ho hl hs hb=>?_;have hlen:=Tm.szs_length t.l;have hol:=Ky ho;obtain⟨k,s,n,l⟩:=t;simp only[Tm.sz,Tm.l,SZ] at hs hlen hol;refine acv (v36 k s n (FTs l) _ _) ?_;refine zu (λh=>?_) λh=>zu (λh'=>⟨rfl,?_⟩) λh'=>?_
 .have h5:k=5:=zo h
  subst h5;obtain⟨x,rfl,hx⟩:=okB5 ho rfl;rw[vz<|.inl rfl] at hl;have hlx:lvB x=true:=by simpa[lvL] using hl
  simp only[Tm.szs] at hs;obtain⟨g1,g2,g3,g4⟩:=w6 x hx;have h1:=ih x (rJ.2 rfl) hx hlx (by simp only[SZ];omega) hb.2.1;have h2:=c_edropW (zy x) g1 (g2 hlx) (by simp only[SZ];omega)<|g4 _ (by simp only[M62];omega) hb.2.1
  have h3:=Yw 1 (zy x) za;have e:zy (.mk 5 s n [x])=if yT (zy x)=true then uJ (zy x) else .mk 5 [] 0 [zy x]:=by rw[zy,oX (show((5:Int)==5)=true from rfl)];rfl
  rw[show aE (getD (FTs [x]) 0 [])=aT x from vP x,e];refine⟨el0 x [],_,h1,(uJ<|zy x,yT<|zy x),h2,zu (λhd=>?_) λhd=>⟨_,h3,?_⟩⟩
  .have hd:yT (zy x)=true:=hd;rw[oX hd];exact rrl
  .rw[oV<|by rw[show yT (zy x)=false from hd];simp];exact rrl
 .have h6:k=6:=zo h'
  subst h6;obtain⟨x,y,r,rfl,hx6,_⟩:=okB6 ho rfl;rw[vz<|.inr rfl] at hl;have ihl:∀u∈x::y::r,AC rc 36 [aT u] [] (aT<|zy u) []:=λu hu=>ih u hu (um hol hu) (je hl hu) (by have:=Tm.szs_mem hu;simp only[SZ];omega)<|Y6 hb.2 hu
  have hx:=(w6 x<|um hol r7).2.2.1
  have hxl:(zy x).l.length<=B:=by
   have h1:=(zy x).sz_eq;have h2:=Tm.szs_length (zy x).l;simp only[Tm.szs] at hs;simp only[B];omega
  have loop:=KJ (y::r) [x] [zy x] zb rfl (λu hu=>ihl u<|r9 _ hu) (show(x::y::r).length<=SZ by simp only[SZ];omega) hxl;have h1:=ihl x r7;have h3:=ltI' [] x<|y::r
  refine rpv (v36_3a ..) ?_;rw[show aE (getD (FTs<|x::y::r) (toNat 0) [])=aT x from vP x,w64 za za];refine bT h3 ⟨⟨rfl,za,h3,uI x⟩,zy x,h1,r6 _,uc za,?_⟩;rw[vT];exact loop
 .have h:(k==5)=false:=h;have h':(k==6)=false:=h';rw[zy,oV<|by rw[h];simp,oV<|by rw[h'];simp];exact rrl
theorem XV:∀t:Tm,validB t=true->bd M62 t:=by
 refine Tm.ind λt ih=>?_;intro hv;obtain⟨k,s,n,l⟩:=t
 have kids:yp l=true->bds M62 l:=λh=>by
  have key:∀(l':List Tm),(∀u∈l',u∈l)->yp l'=true->bds M62 l':=by
   intro l'
   induction l' with
   |nil=>intro _ _;trivial
   |cons u l' ih2=>
    intro hm h;rw[yp,oZ] at h;exact⟨ih u (hm u r7) h.1,ih2 (λw hw=>hm w<|r9 _ hw) h.2⟩
  exact key l (λu hu=>hu) h
 rw[validB] at hv;have nil:(((FTs l).length:Nat):Int)=0->l=[]:=λh=>rk (by rw[zq] at h;omega);show(k=3->0-M62<=n/\n<=M62)/\bds M62 l;split at hv
 .rename_i h;have h:k=0:=zo h
  simp only[oZ,rT] at hv;rw[nil hv.2];exact⟨λe=>za,trivial⟩
 .split at hv
  .rename_i h;have h:k=1:=zo h
   simp only[oZ] at hv;exact⟨λe=>za,kids hv.2⟩
  .split at hv
   .rename_i h;have h:k=2:=zo h
    simp only[oZ] at hv;exact⟨λe=>za,kids hv.2⟩
   .split at hv
    .simp only[oZ,rL] at hv;exact⟨λ_=>⟨by simp only[M62];omega,hv.1.1.1.2⟩,kids hv.2⟩
    .rename_i h3;split at hv
     .simp only[oZ] at hv;exact⟨λe=>by rw[e] at h3;exact absurd rfl h3,kids hv.2⟩
     .split at hv
      .simp only[oZ] at hv;exact⟨λe=>by rw[e] at h3;exact absurd rfl h3,kids hv.2⟩
      .split at hv
       .simp only[oZ] at hv;exact⟨λe=>by rw[e] at h3;exact absurd rfl h3,kids hv.2⟩
       .cases hv
theorem ie (t:Tm)(hs:t.sz<=SZ):AC rc 21 [aT t] [] (aT (if validB t=true then zy t else t)) []:=by
 have h1:=qH t (by simp only[SZ,B] at*;omega);have h2:=λh=>KQ t (zG t h) (vB h) hs<|XV t h
 obtain⟨k,s,n,l⟩:=t;refine acv (v21 k s n (FTs l) _ _) ?_;refine⟨_,h1,zu (λh=>?_) λh=>?_⟩
 .rw[oV<|by rw[not_t h];simp];exact rrl
 .rw[oX<|pH h];exact⟨_,h2<|pH h,.refl _,rfl⟩
theorem ZP:∀ {xs ys:List (Bool×List FV)},All2 (λp q=>p.1=q.1/\LeR p.2 q.2) xs ys->TV.Le (.tup<|xs.map λp=>(p.1,fzs p.2)) (.tup<|ys.map λp=>(p.1,fzs p.2)):=λ{xs ys} h=>by
 have key:∀(xs ys:List<|Bool×List FV),All2 (λp q=>p.1=q.1/\LeR p.2 q.2) xs ys->xs.length=ys.length/\∀(i:Nat) (p q:Bool×List FV),xs[i]?=some p->ys[i]?=some q->p.1=q.1/\LeR p.2 q.2:=by
  intro xs
  induction xs with
  |nil=>intro ys h;cases ys with
   |nil=>exact⟨rfl,λi p q hp=>by simp at hp⟩
   |cons=>exact h.elim
  |cons x xs ih=>intro ys h;cases ys with
   |nil=>exact h.elim
   |cons y ys=>
    obtain⟨h1,h2⟩:=ih ys h.2;refine⟨by simp[h1],λi p q hp hq=>?_⟩;cases i with
    |zero=>simp at hp hq;subst hp;subst hq;exact h.1
    |succ i=>exact h2 i p q (zo hp) (zo hq)
 obtain⟨h1,h2⟩:=key xs ys h;refine .tup _ _ (by simp[h1]) λi p q hp hq=>?_;rw[rq] at hp hq;obtain⟨p',hp',rfl⟩:=oY.1 hp;obtain⟨q',hq',rfl⟩:=oY.1 hq;obtain⟨e1,e2⟩:=h2 i p' q' hp' hq';refine⟨e1,by simp[fzs,e2.length],λj x y hx hy=>?_⟩;dsimp only at hx hy;rw[fzs,rq] at hx hy;obtain⟨x',hx',rfl⟩:=oY.1 hx;obtain⟨y',hy',rfl⟩:=oY.1 hy;exact .a _ _<|.fz _ _<|e2.get j x' y' hx' hy'
def xw (s:Hp)(a f:Int):((Int×List Int)×Int×Int)×Hp:=
 (if (zK (2*f.toNat+2) ⟨s,f,0⟩ a).2.e≠0 then((0,[]),0,(zK (2*f.toNat+2) ⟨s,f,0⟩ a).2.e) else((zK (2*f.toNat+2) ⟨s,f,0⟩ a).1,(zK (2*f.toNat+2) ⟨s,f,0⟩ a).2.f,0),(zK (2*f.toNat+2) ⟨s,f,0⟩ a).2.s)
abbrev tHd (x:(Int×List Int)×Int×Int):TV:=.tup [(true,[qi x.1.1,qf<|.sl false 1<|IR x.1.2]),(false,[qi x.2.1]),(false,[qi x.2.2])]
theorem c_pHead (s:Hp)(a f:Int)(h:OkH s)(f0:0-4611686018427387904<=f)(f1:f<=100000000):AC rc 85 [aH 0,ci a,ci f] (oH s) (tHd (xw s a f).1) (oH' (xw s a f).2):=by
 have ok:OkR ⟨s,f,0⟩:=⟨h,f0,zm⟩;have hh:=iI (2*f.toNat+2) ⟨s,f,0⟩ a ok (r6 _) zm;unfold xw;generalize zK (2*f.toNat+2) ⟨s,f,0⟩ a=z at*;obtain⟨⟨hd,xs⟩,⟨zs,zf,ze⟩⟩:=z;refine acv (v85 ..) ?_;refine⟨(hd,xs,⟨zs,zf,ze⟩),hh,zZ (λq=>?_) λq=>?_⟩
 .dsimp only at q ⊢;rw[oX q];exact⟨ZP (xs:=[(true,[.int .i64 0,.N]),(false,[.int .i64 0]),(false,[.int .i64 ze])]) (ys:=[(true,[.int .i64 0,.sl false 1<|IR []]),(false,[.int .i64 0]),(false,[.int .i64 ze])]) ⟨⟨rfl,.refl _,.N 1,trivial⟩,⟨rfl,.refl _⟩,⟨rfl,.refl _⟩,trivial⟩,rfl⟩
 .dsimp only at q ⊢;rw[oV λw=>w q];exact rrl
def zQ (s:Hp)(a f:Int):(Tm×Int×Int)×Hp:=
 (if (fulR (2*f.toNat+2) (f.toNat+1) ⟨s,f,0⟩ a).2.e≠0 then(t0,0,(fulR (2*f.toNat+2) (f.toNat+1) ⟨s,f,0⟩ a).2.e)
  else(if validB (fulR (2*f.toNat+2) (f.toNat+1) ⟨s,f,0⟩ a).1=true then zy (fulR (2*f.toNat+2) (f.toNat+1) ⟨s,f,0⟩ a).1 else(fulR (2*f.toNat+2) (f.toNat+1) ⟨s,f,0⟩ a).1,(fulR (2*f.toNat+2) (f.toNat+1) ⟨s,f,0⟩ a).2.f,0),(fulR (2*f.toNat+2) (f.toNat+1) ⟨s,f,0⟩ a).2.s)
abbrev tFu (x:Tm×Int×Int):TV:=.tup [(true,cT x.1),(false,[qi x.2.1]),(false,[qi x.2.2])]
theorem Yv (s:Hp)(a f:Int)(h:OkH s)(f0:0-4611686018427387904<=f)(f1:f<=40000000):AC rc 9 [aH 0,ci a,ci f] (oH s) (tFu (zQ s a f).1) (oH' (zQ s a f).2):=by
 have ok:OkR ⟨s,f,0⟩:=⟨h,f0,zm⟩;have hh:=iF (2*f.toNat+2) (f.toNat+1) f (r6 _) za za ⟨s,f,0⟩ a ok<|ru _
 have hg:=JH (2*f.toNat+2) (f.toNat+1) f (r6 _) za ⟨s,f,0⟩ a ok<|ru _
 unfold zQ;generalize fulR (2*f.toNat+2) (f.toNat+1) ⟨s,f,0⟩ a=z at*;obtain⟨t,⟨zs,zf,ze⟩⟩:=z;have hs:=ie t (by have:=hg.2.2;simp only[SZ];dsimp only at this;omega);refine acv (v9 ..) ?_;refine⟨(t,⟨zs,zf,ze⟩),hh,zZ (λq=>?_) λq=>?_⟩
 .dsimp only at q ⊢;rw[oX q];exact⟨ZP (xs:=[(true,[.int .i64 0,.str [],.int .i64 0,.N]),(false,[.int .i64 0]),(false,[.int .i64 ze])]) (ys:=[(true,[.int .i64 0,.str [],.int .i64 0,.sl false 4<|FTs []]),(false,[.int .i64 0]),(false,[.int .i64 ze])]) ⟨⟨rfl,.refl _,.refl _,.refl _,.N 4,trivial⟩,⟨rfl,.refl _⟩,⟨rfl,.refl _⟩,trivial⟩,rfl⟩
 .dsimp only at q ⊢;rw[oV λw=>w q];exact⟨_,hs,.refl _,rfl⟩
def yw (s:Hp)(a u:Int):(Int×Int)×Hp:=
 if inC s.C a=false\/9<=(cellOf s.C a).t\/u<0 then((0,1),s)
 else(if (xC ⟨s,0,0⟩ a u).2.e≠0 then(0,(xC ⟨s,0,0⟩ a u).2.e) else((xC ⟨s,0,0⟩ a u).1,0),(xC ⟨s,0,0⟩ a u).2.s)
theorem c_pLift (s:Hp)(a u:Int)(h:OkH s):AC rc 101 [aH 0,ci a,ci u] (oH s) (t2 (yw s a u).1) (oH' (yw s a u).2):=by
 have ok:OkR ⟨s,0,0⟩:=⟨h,zm,zm⟩;have c1:=vN s a;have hb:=nt ⟨s,0,0⟩ a u ok
 have e0:yw s a u=if inC s.C a=false\/9<=(cellOf s.C a).t\/u<0 then((0,1),s)
  else(if (xC ⟨s,0,0⟩ a u).2.e≠0 then(0,(xC ⟨s,0,0⟩ a u).2.e) else((xC ⟨s,0,0⟩ a u).1,0),(xC ⟨s,0,0⟩ a u).2.s):=rfl
 generalize xC ⟨s,0,0⟩ a u=z at*;obtain⟨zr,⟨zs,zf,ze⟩⟩:=z;dsimp only at e0 hb;refine acv (v101 ..) ?_;refine⟨_,_,_,_,_,_,c1,zu (λq=>?_) λq=>zu (λq2=>?_) λq2=>zu (λq3=>?_) λq3=>⟨(zr,⟨zs,zf,ze⟩),hb,zZ (λq5=>?_) λq5=>?_⟩⟩
 .rw[oX<|.inl<|zo q] at e0;rw[e0];exact rrl
 .rw[oX<|.inr<|.inl<|rA q2] at e0;rw[e0];exact rrl
 .rw[oX<|.inr<|.inr<|rA q3] at e0;rw[e0];exact rrl
 all_goals
  have no:¬(inC s.C a=false\/9<=(cellOf s.C a).t\/u<0):=by
   rintro (w|w|w)
   .rw[w] at q;exact absurd q zc
   .exact absurd w<|ri q2
   .exact absurd w<|ri q3
  rw[oV no] at e0
 .rw[oX q5] at e0;rw[e0];exact rrl
 .rw[oV λw=>w q5] at e0;rw[e0];exact rrl
theorem headS_ok (s:Hp)(a f:Int)(h:OkH s)(f0:0<=f)(f1:f<=100000000):OkH (xw s a f).2/\((xw s a f).1.2.2=0\/(xw s a f).1.2.1=0)/\(xw s a f).1.2.1<=f:=by
 have ok:OkR ⟨s,f,0⟩:=⟨h,zm,zm⟩;have o:=OkR.head (2*f.toNat+2) a ok;have g:=uE (2*f.toNat+2) ⟨s,f,0⟩ a<|r6 _
 unfold xw;split
 .exact⟨o.h,.inr rfl,f0⟩
 .exact⟨o.h,.inl rfl,g.1⟩
inductive Mv (b:Bool):Hp->Hp->Prop
 |refl (s:Hp):Mv b s s
 |put {s t:Hp} (c:Cel):Mv b s t->Mv b s (putS t c).2
 |set {s t:Hp} (a:Int) (c:Cel):Mv b s t->Mv b s (setS t a c).2
 |names {s t:Hp} (e:List (List UInt8)):b=true->Mv b s t->Mv b s {t with N:=t.N++e}
theorem Mv.trans {b:Bool}{s t u:Hp}(h:Mv b s t)(g:Mv b t u):Mv b s u:=by
 induction g with
 |refl=>exact h
 |put c _ ih=>exact ih.put c
 |set a c _ ih=>exact ih.set a c
 |names e hb _ ih=>exact ih.names e hb
theorem Mv.up {b:Bool}{s t:Hp}(h:Mv false s t):Mv b s t:=by
 induction h with
 |refl=>exact .refl _
 |put c _ ih=>exact ih.put c
 |set a c _ ih=>exact ih.set a c
 |names e hb _ ih=>cases hb
theorem Mv.ok {b:Bool}{s t:Hp}(h:Mv b s t)(g:OkH s):OkH t:=by
 induction h with
 |refl=>exact g
 |put c _ ih=>exact ih.put c
 |set a c _ ih=>exact ih.set a c
 |names e _ _ ih=>exact⟨ih.C,ih.M,ih.T,ih.L⟩
theorem Wc (s:Hp)(c:Cel):(putS s c).2.N=s.N/\(putS s c).2.M=s.M/\(putS s c).2.L=s.L/\s.C.length<=(putS s c).2.C.length/\(putS s c).2.T=s.T:=by
 unfold putS;split
 .exact⟨rfl,rfl,rfl,r6 _,rfl⟩
 .split
  .exact⟨rfl,rfl,rfl,r6 _,rfl⟩
  .exact⟨rfl,rfl,rfl,zb,rfl⟩
theorem cp (s:Hp)(a:Int)(c:Cel):(setS s a c).2.N=s.N/\(setS s a c).2.M=s.M/\(setS s a c).2.L=s.L/\s.C.length<=(setS s a c).2.C.length:=by
 unfold setS;split
 .exact⟨rfl,rfl,rfl,r6 _⟩
 .split
  .exact⟨rfl,rfl,rfl,r6 _⟩
  .split
   .exact⟨rfl,rfl,rfl,r6 _⟩
   .split
    .exact⟨rfl,rfl,rfl,r6 _⟩
    .exact⟨rfl,rfl,rfl,zb⟩
theorem Mv.len {b:Bool}{s t:Hp}(h:Mv b s t):s.C.length<=t.C.length/\t.M=s.M/\t.L=s.L:=by
 induction h with
 |refl=>exact⟨r6 _,rfl,rfl⟩
 |put c _ ih=>have:=Wc ‹Hp› c;exact⟨rS ih.1 this.2.2.2.1,by rw[this.2.1];exact ih.2.1,by rw[this.2.2.1];exact ih.2.2⟩
 |set a c _ ih=>have:=cp ‹Hp› a c;exact⟨rS ih.1 this.2.2.2,by rw[this.2.1];exact ih.2.1,by rw[this.2.2.1];exact ih.2.2⟩
 |names e _ _ ih=>exact ih
theorem Mv.N {s t:Hp}(h:Mv false s t):t.N=s.N:=by
 induction h with
 |refl=>rfl
 |put c _ ih=>rw[(Wc _ c).1];exact ih
 |set a c _ ih=>rw[(cp _ a c).1];exact ih
 |names e hb _ ih=>cases hb
def Mvr (s0:Hp)(r:Rd):Prop:=Mv false s0 r.s/\0<=r.f
variable {s0:Hp}
theorem Mvr.fail {r:Rd}(h:Mvr s0 r)(e:Int):Mvr s0 (yl r e):=h
theorem Mvr.put {r:Rd}(h:Mvr s0 r)(c:Cel):Mvr s0 (putR r c).2:=by
 unfold putR;split
 .exact⟨Mv.put c h.1,h.2⟩
 .exact h
theorem Mvr.keep {r:Rd}(h:Mvr s0 r)(a b:Int):Mvr s0 (zI r a b):=by
 unfold zI;split
 .exact⟨Mv.set a _ h.1,h.2⟩
 .exact h
theorem Mvr.less {r:Rd}(h:Mvr s0 r)(h0:¬r.f<=0):Mvr s0 ⟨r.s,r.f-1,r.e⟩:=⟨h.1,zm⟩
theorem Mvr.visit {r:Rd}(h:Mvr s0 r)(a:Int):Mvr s0 (zt r a).2:=by
 unfold zt;split
 .exact h.fail 1
 .split
  .exact h.fail 1
  .split
   .exact h.fail 1
   .split
    .exact h.fail 80
    .split
     .exact h
     next q _=>exact h.less q
theorem Mvr.lift {r:Rd}(h:Mvr s0 r)(a u:Int):Mvr s0 (xC r a u).2:=by
 unfold xC;split
 .exact h
 .exact(h.put _).put _
theorem Mvr.entry:∀(n:Nat) {r:Rd} (row j:Int),Mvr s0 r->Mvr s0 (zR n r row j).2
 |0,_,_,_,h=>h
 |n+1,r,row,j,h=>by
  rw[zR];split
  .exact h.fail 1
  .split
   .exact h.fail 1
   .split
    .exact h
    .split
     .exact h
     .split
      .exact h.fail 80
      next q=>exact Mvr.entry n _ _<|h.less q
theorem Mvr.loose (n:Nat){r:Rd}(h:Mvr s0 r)(s:Cel)(j:Int):Mvr s0 (losR n r s j).2:=by
 have e:=Mvr.entry n s.b j h;unfold losR;split
 .split
  .split
   .exact e.put _
   .exact e.lift _ _
  .exact e.put _
 .exact h.put _
theorem Mvr.lam {r:Rd}(h:Mvr s0 r)(s:Cel)(b:Int):Mvr s0 (lamR r s b).2:=((h.put _).put _).put _
theorem Mvr.app {r:Rd}(h:Mvr s0 r)(s:Cel)(f x:Int):Mvr s0 (appR r s f x).2:=((h.put _).put _).put _
theorem Mvr.level (n:Nat){r:Rd}(h:Mvr s0 r)(c:Cel)(t:Int)(s:Cel):Mvr s0 (xS n c t r s).2:=by
 unfold xS;split
 .exact h.loose n s _
 .split
  .exact h.lam s _
  .split
   .exact h.app s _ _
   .exact h
theorem Mvr.spun (n:Nat){v:(Cel×Int)×Rd}(h:Mvr s0 v.2)(s:Cel):Mvr s0 (vv n v s).2:=by
 unfold vv;split
 .exact h
 .split
  .exact h
  .exact h.level n _ _ s
mutual
theorem Mvr.open:∀(n:Nat) {r:Rd} (s:Cel),Mvr s0 r->Mvr s0 (zA n r s).2
 |0,_,_,h=>h
 |n+1,r,s,h=>by
  rw[zA];exact Mvr.spun (n+1) (Mvr.spin n<|h.visit s.a) s
theorem Mvr.spin:∀(n:Nat) {v:(Cel×Int)×Rd},Mvr s0 v.2->Mvr s0 (yA n v).2
 |0,_,h=>h
 |n+1,v,h=>by
  rw[yA];split
  .exact Mvr.spin n<|((Mvr.open n v.1.1 h).keep _ _).visit _
  .exact h
end
theorem Mvr.beta {r:Rd}(h:Mvr s0 r)(b arg:Int):Mvr s0 (wS r b arg).2:=((h.put _).put _).put _
theorem Mvr.apps:∀(l:List Int) (f:Int) {r:Rd},Mvr s0 r->Mvr s0 (yB l f r).2
 |[],_,_,h=>h
 |x::l,f,r,h=>by rw[yB];exact Mvr.apps l _<|h.put _
theorem Mvr.headL:∀(n:Nat) (l:List Int) (b:Bool) (a:Int) {r:Rd},Mvr s0 r->Mvr s0 (Go.AM.headL n l b a r).r
 |0,_,_,_,_,h=>h
 |n+1,l,b,a,r,h=>by
  have v:=h.visit a;rw[Go.AM.headL];split
  .exact h
  .split
   .exact v
   .split
    .exact Mvr.headL n _ _ _ v
    .split
     .exact Mvr.headL n _ _ _<|(Mvr.open _ _ v).keep _ _
     .split
      .split
       .exact v
       .exact Mvr.headL n _ _ _<|v.beta _ _
      .exact v
theorem Mvr.head (n:Nat){r:Rd}(root:Int)(h:Mvr s0 r):Mvr s0 (zK n r root).2:=by
 have h1:=Mvr.headL n [] false root h;show Mvr s0 (if _ then _ else _)
 split
 .exact(Mvr.apps _ _ h1).keep _ _
 .exact h1
theorem Mvr.leaf {F:Rd->Int->Tm×Rd}(hF:∀(r:Rd) (a:Int),Mvr s0 r->Mvr s0 (F r a).2):∀(l:List Int) (t:Tm) (r:Rd),Mvr s0 r->Mvr s0 (zW F l t r).2
 |[],_,_,h=>h
 |x::l,t,r,h=>Mvr.leaf hF l _ _<|hF r x h
theorem Mvr.full (N:Nat):∀(n:Nat) (r:Rd) (a:Int),Mvr s0 r->Mvr s0 (fulR N n r a).2
 |0,_,_,h=>h
 |n+1,r,a,h=>by
  have oh:=Mvr.head N a h;rw[fulR];unfold Zv;split
  .exact oh
  .split
   .exact Mvr.full N n _ _ oh
   .exact Mvr.leaf (Mvr.full N n) _ _ _ oh
theorem headS_mv (s:Hp)(a f:Int)(f0:0<=f):Mv false s (xw s a f).2:=(Mvr.head (s0:=s) (2*f.toNat+2) (r:=⟨s,f,0⟩) a ⟨.refl s,f0⟩).1
theorem kT (s:Hp)(a f:Int)(f0:0<=f):Mv false s (zQ s a f).2/\0<=(zQ s a f).1.2.1:=by
 have h:=Mvr.full (s0:=s) (2*f.toNat+2) (f.toNat+1) ⟨s,f,0⟩ a ⟨.refl s,f0⟩;refine⟨h.1,?_⟩;unfold zQ;split
 .exact ru _
 .exact h.2
theorem ZK (s:Hp)(a u:Int):Mv false s (yw s a u).2:=by
 unfold yw;split
 .exact .refl s
 .exact(Mvr.lift (s0:=s) (r:=⟨s,0,0⟩) ⟨.refl s,ru _⟩ a u).1
def varE (V:Option<|List Int)(C:List Cel)(n:Int):Int×Int:=
 match V with
 |none=>if isT C n=true then(n,0) else(0,1)
 |some l=>if (l.length:Int)<=n then(0,1) else if isT C (l.getD n.toNat 0)=true then(l.getD n.toNat 0,0) else(0,1)
mutual
def encE (V:Option<|List Int):Tm->Hp->(Int×Int)×Hp
 |.mk k s n l,h=>
  if k=0 then putS (symS h s).2 ⟨0,(symS h s).1,0,0,0⟩
  else if k=1 then putS h ⟨1,n,0,0,0⟩
  else if k=2 then putS h ⟨2,n,0,0,0⟩
  else if k=3 then putS h ⟨3,n,0,0,0⟩
  else if k=4 then(varE V h.C n,h)
  else encL V k l h
def encL (V:Option<|List Int)(k:Int):List Tm->Hp->(Int×Int)×Hp
 |[],h=>((0,0),h)
 |u::l,h=>
  if (encE V u h).1.2≠0 then((0,(encE V u h).1.2),(encE V u h).2)
  else if k=5 then putS (encE V u h).2 ⟨6,(encE V u h).1.1,0,0,0⟩
  else encR V l (encE V u h).1.1 (encE V u h).2
def encR (V:Option<|List Int):List Tm->Int->Hp->(Int×Int)×Hp
 |[],f,h=>((f,0),h)
 |u::l,f,h=>
  if (encE V u h).1.2≠0 then((0,(encE V u h).1.2),(encE V u h).2)
  else if (putS (encE V u h).2 ⟨7,f,(encE V u h).1.1,0,0⟩).1.2≠0 then((0,(putS (encE V u h).2 ⟨7,f,(encE V u h).1.1,0,0⟩).1.2),(putS (encE V u h).2 ⟨7,f,(encE V u h).1.1,0,0⟩).2)
  else encR V l (putS (encE V u h).2 ⟨7,f,(encE V u h).1.1,0,0⟩).1.1 (putS (encE V u h).2 ⟨7,f,(encE V u h).1.1,0,0⟩).2
end
def encS (V:Option<|List Int)(s:Hp)(t:Tm):(Int×Int)×Hp:=
 if validB t=false then((0,1),s)
 else if (encE V t s).1.2≠0 then((0,(encE V t s).1.2),⟨(encE V t s).2.C.take s.C.length,(encE V t s).2.T,(encE V t s).2.M,(encE V t s).2.L,(encE V t s).2.N⟩)
 else encE V t s
def Gw (s:Hp)(z:(Int×Int)×Hp):Prop:=(OkH s->OkH z.2)/\∃d e,z.2=⟨s.C++d,s.T,s.M,s.L,s.N++e⟩/\e.length<=d.length+if z.1.2=0 then 0 else 1
theorem Gw.nil (s:Hp)(x:Int×Int):Gw s (x,s):=⟨λh=>h,[],[],zb,zb⟩
theorem Gw.put (s:Hp)(c:Cel):Gw s (putS s c):=by
 refine⟨λh=>h.put c,?_⟩;unfold putS;split
 .exact⟨[],[],zb,zb⟩
 .split
  .exact⟨[],[],zb,zb⟩
  .exact⟨[c],[],zb,zb⟩
theorem Gw.seq {s:Hp}{z y:(Int×Int)×Hp}(h:Gw s z)(h0:z.1.2=0)(g:Gw z.2 y):Gw s y:=by
 obtain⟨a,d,e,h1,h2⟩:=h;obtain⟨b,d',e',g1,g2⟩:=g;rw[oX h0] at h2;refine⟨λo=>b<|a o,d++d',e++e',?_,by simp only[re];omega⟩;rw[g1,h1];simp
theorem Gw.err {s:Hp}{z:(Int×Int)×Hp}(h:Gw s z)(h0:z.1.2≠0):Gw s ((0,z.1.2),z.2):=by
 obtain⟨a,d,e,h1,h2⟩:=h;exact⟨a,d,e,h1,h2⟩
theorem dL (s:Hp)(c:Cel):(putS s c).1.2=0/\(putS s c).2.C=s.C++[c]\/(putS s c).1.2≠0/\(putS s c).2=s:=by
 unfold putS;split
 .exact .inr ⟨by show(1:Int)≠0;decide,rfl⟩
 .split
  .exact .inr ⟨by show(200:Int)≠0;decide,rfl⟩
  .exact .inl ⟨rfl,rfl⟩
theorem Gw.con (s:Hp)(nm:List UInt8):Gw s (putS (symS s nm).2 ⟨0,(symS s nm).1,0,0,0⟩):=by
 have hs:∃e,(symS s nm).2=⟨s.C,s.T,s.M,s.L,s.N++e⟩/\e.length<=1:=by
  unfold symS;split
  .exact⟨[],zb,zb⟩
  .exact⟨[nm],rfl,zb⟩
 obtain⟨e,h1,h2⟩:=hs;rcases dL (symS s nm).2 ⟨0,(symS s nm).1,0,0,0⟩ with⟨g1,g2⟩|⟨g1,g2⟩
 .obtain⟨g3,g4,g5,_,g6⟩:=Wc (symS s nm).2 ⟨0,(symS s nm).1,0,0,0⟩;refine⟨λo=>OkH.put (by rw[h1];exact⟨o.C,o.M,o.T,o.L⟩) _,[⟨0,(symS s nm).1,0,0,0⟩],e,?_,by rw[oX g1];exact zo h2⟩;generalize (putS (symS s nm).2 ⟨0,(symS s nm).1,0,0,0⟩)=z at*;generalize (symS s nm).1=x at*;rw[h1] at g2 g3 g4 g5 g6;obtain⟨zx,⟨zC,zT,zM,zL,zN⟩⟩:=z;dsimp only at*;rw[g2,g3,g4,g5,g6]
 .refine⟨λo=>OkH.put (by rw[h1];exact⟨o.C,o.M,o.T,o.L⟩) _,[],e,by rw[g2,h1];simp,by rw[oV g1];exact zo h2⟩
theorem lD (V:Option<|List Int):∀(l:List Tm),(∀u∈l,∀s,Gw s<|encE V u s)->∀(f:Int) (s:Hp),Gw s (encR V l f s)
 |[],_,f,s=>by rw[encR];exact Gw.nil s _
 |u::l,h,f,s=>by
  have h1:=h u r7 s;rw[encR];split
  next q=>exact h1.err q
  .rename_i q;have q:(encE V u s).1.2=0:=zo q
   have h2:=Gw.put (encE V u s).2 ⟨7,f,(encE V u s).1.1,0,0⟩;split
   next q2=>exact h1.seq q<|h2.err q2
   next q2=>exact h1.seq q<|h2.seq (zo q2)<|lD V l (λv hv=>h v<|r9 _ hv) _ _
theorem wN (V:Option<|List Int):∀(t:Tm) (s:Hp),Gw s (encE V t s):=by
 refine Tm.ind λt ih=>?_;obtain⟨k,nm,n,l⟩:=t;intro s;rw[encE];split
 .exact Gw.con s nm
 .split
  .exact Gw.put s _
  .split
   .exact Gw.put s _
   .split
    .exact Gw.put s _
    .split
     .exact Gw.nil s _
     .match l with
      |[]=>rw[encL];exact Gw.nil s _
      |u::l=>
       have h1:=ih u r7 s;rw[encL];split
       next q=>exact h1.err q
       .rename_i q;have q:(encE V u s).1.2=0:=zo q
        split
        .exact h1.seq q<|Gw.put _ _
        .exact h1.seq q<|lD V l (λv hv=>ih v<|r9 _ hv) _ _
def NmB (K:Nat)(s:Hp):Prop:=s.N.length<=s.C.length+K
theorem lS (V:Option<|List Int)(s:Hp)(t:Tm)(h:(encS V s t).1.2≠0):∃e,(encS V s t).2={s with N:=s.N++e}:=by
 unfold encS at h ⊢;split
 .exact⟨[],zb⟩
 .rename_i q;rw[oV q] at h;obtain⟨_,d,e,h1,_⟩:=wN V t s;split
  .exact⟨e,by rw[h1];simp⟩
  next q2=>rw[oV q2] at h;exact absurd h q2
theorem YE:∀ {l:List Tm} {u:Tm},yp l=true->u∈l->validB u=true
 |x::l,u,h,hu=>by
  rw[yp,oZ] at h;rcases rx.1 hu with rfl|hu
  .exact h.1
  .exact YE h.2 hu
theorem vL_of {k n:Int}{s:List UInt8}{l:List Tm}(h:validB (.mk k s n l)=true)(hk:k=5\/k=6):yp l=true:=by
 rw[validB] at h;rcases hk with rfl|rfl<;>simp at h<;>simp[h]
theorem Gw.nm {s:Hp}{z:(Int×Int)×Hp}{K:Nat}(h:Gw s z)(h0:z.1.2=0)(g:NmB K s):NmB K z.2:=by
 obtain⟨_,d,e,h1,h2⟩:=h;rw[oX h0] at h2;unfold NmB at*;rw[h1];simp only[re];omega
theorem NmB.put {K:Nat}{s:Hp}(g:NmB K s)(c:Cel):NmB K (putS s c).2:=by
 obtain⟨h1,_,_,h2,_⟩:=Wc s c;unfold NmB at*;rw[h1];omega
theorem NmB.set {K:Nat}{s:Hp}(g:NmB K s)(a:Int)(c:Cel):NmB K (setS s a c).2:=by
 obtain⟨h1,_,_,h2⟩:=cp s a c;unfold NmB at*;rw[h1];omega
theorem k56 {k n:Int}{s:List UInt8}{l:List Tm}(h:validB (.mk k s n l)=true)(n0:k≠0)(n1:k≠1)(n2:k≠2)(n3:k≠3)(n4:k≠4):k=5\/k=6:=by
 rw[validB] at h;by_cases h5:k=5
 .exact .inl h5
 .by_cases h6:k=6
  .exact .inr h6
  .simp[n0,n1,n2,n3,n4,h5,h6] at h
abbrev oHv (vs:List Int)(s:Hp):List AObj:=[hp6 1 2 3 4 s,.arz 5<|CR s.C,.arz 7<|TR s.T,.arz 1<|NR s.N,.mapz<|NM s.N 0,.arz 1<|IR vs]
abbrev oHv' (vs:List Int)(s:Hp):List AObj:=[hp6 6 7 8 4 s,.gone,.gone,.gone,.mapz<|NM s.N 0,.arz 1<|IR vs,.arz 5<|CR s.C,.arz 7<|TR s.T,.arz 1<|NR s.N]
theorem c_hvarA  (s:Hp) (n:Int) (h0:0<=n):AC rc 43 [aH 0,ci n,.c<|qf .N] (oH s) (t2<|varE none s.C n) (oH s):=by
 refine acv (v43_i1 ..) ?_
 first
 |(have hi:=kB s n
   exact⟨_,hi,zu (λh=>⟨by rw[varE,oV<|zo h];exact .refl _,rfl⟩) λh=>⟨by rw[varE,oX<|zo h];exact .refl _,rfl⟩⟩)
 |(have hl:=zF vs
   refine⟨rfl,zu (λh=>⟨?_,rfl⟩) λh=>?_⟩
   .have h:=rA h;rw[varE,oX za];exact .refl _
   .have h:=ri h;have hlt:n.toNat<vs.length:=za
    rw[xY hlt];have hi:=kB s (vs[n.toNat]);have e:vs.getD n.toNat 0=vs[n.toNat]:=by simp[getD,hlt]
    refine⟨⟨rfl,h0,za,rfl⟩,_,hi,zu (λh2=>⟨?_,rfl⟩) λh2=>⟨?_,rfl⟩⟩
    .rw[varE,oV za,e,oV<|zo h2];exact .refl _
    .rw[varE,oV za,e,oX<|zo h2];exact .refl _)
 |(have hl:=zF (v0::vs)
   refine zu (λh=>⟨?_,rfl⟩) (λh=>?_)
   .have h:=rA h;rw[varE,oX<|by simp only[r5];omega];exact .refl _
   .have h:=ri h;have hlt:n.toNat<(v0::vs).length:=by simp only[r5];omega
    rw[rB,xY hlt];have hi:=kB s ((v0::vs)[n.toNat]);have e:(v0::vs).getD n.toNat 0=(v0::vs)[n.toNat]:=by rw[getD,rf hlt];rfl
    refine⟨⟨h0,za⟩,⟨za,rfl,rfl⟩,_,hi,zu (λh2=>⟨?_,rfl⟩) λh2=>⟨?_,rfl⟩⟩
    .rw[varE,oV<|by simp only[r5];omega,e,oV<|zo h2];exact .refl _
    .rw[varE,oV<|by simp only[r5];omega,e,oX<|zo h2];exact .refl _)
abbrev stEnA  (f:Int) (x:List Tm) (n i:Int) (s:Hp):St:=
 ⟨[(0,aH 0),(2,.c<|qf .N),(8,ci f),(89,aL x),(90,ci n),(91,ci i)],[(0,hp6 5 6 7 4 s),(1,.gone),(2,.gone),(3,.gone),(4,.mapz<|NM s.N 0),(5,.arz 5<|CR s.C),(6,.arz 7<|TR s.T),(7,.arz 1<|NR s.N)],8⟩
theorem l_encA (K:Nat)(hK:K<=100000000000)  :∀(b pre:List Tm) (f:Int) (s:Hp),(∀u∈b,∀s,OkH s->NmB K s->AC rc 24 [aH 0,aT u,.c<|qf .N] (oH s) (t2 (encE none u s).1) (oH' (encE none u s).2))->(pre++b).length<=B->OkH s->NmB K s->
  RPt rc 24 5 (t2 (encR none b f s).1) (oH' (encR none b f s).2) 5 (stEnA  f (pre++b) ((pre++b).length:Int) (pre.length:Int) s)
 |[],pre,f,s,_,_,_,_=>by
  refine rpv (gT ..) ?_;exact bF (by simp only[rp];omega) ⟨by rw[encR];exact .refl _,by rw[encR]⟩
 |u::b,pre,f,s,hu,hl,ok,nm=>by
  have hlen:=zq<|pre++u::b
  have hla:pre.length<(pre++u::b).length:=zb
  have a1:=hu u r7 s ok nm;have g1:=wN none u s
  have hE:encR none (u::b) f s=if (encE none u s).1.2≠0 then((0,(encE none u s).1.2),(encE none u s).2)
   else if (putS (encE none u s).2 ⟨7,f,(encE none u s).1.1,0,0⟩).1.2≠0 then((0,(putS (encE none u s).2 ⟨7,f,(encE none u s).1.1,0,0⟩).1.2),(putS (encE none u s).2 ⟨7,f,(encE none u s).1.1,0,0⟩).2)
   else encR none b (putS (encE none u s).2 ⟨7,f,(encE none u s).1.1,0,0⟩).1.1 (putS (encE none u s).2 ⟨7,f,(encE none u s).1.1,0,0⟩).2:=by rw[encR]
  have ok1:=g1.1 ok;have nm1:=λh=>g1.nm (K:=K) h nm;generalize encE none u s=z at*;have hp:=xE z.2 ⟨7,f,z.1.1,0,0⟩ (by have:=ok1.C;omega);have nx:=λ(h:z.1.2=0)=>l_encA K hK  b (pre++[u]) (putS z.2 ⟨7,f,z.1.1,0,0⟩).1.1 (putS z.2 ⟨7,f,z.1.1,0,0⟩).2 (λv hv=>hu v<|r9 _ hv) (zo hl) (ok1.put _)<|(nm1 h).put _
  rw[show(pre++[u])++b=pre++u::b by simp,show(((pre++[u]).length:Nat):Int)=(pre.length:Int)+1 by simp] at nx;generalize putS z.2 ⟨7,f,z.1.1,0,0⟩=y at*;simp only[B] at hl;refine rpv (gT ..) ?_;rw[Kc,w64 (x:=(pre.length:Int)+1) za za,hE];refine zu (λ_=>⟨⟨rfl,za,by rw[hlen];omega,XI pre u b⟩,z,a1,zZ (λq=>?_) λq=>⟨y,hp,zZ (λq2=>?_) λq2=>?_⟩⟩) (λq=>absurd (ri q) za)
  .rw[oX q];exact rrl
  .rw[oV λw=>w q,oX q2];exact rrl
  .rw[oV λw=>w q,oV λw=>w q2];exact nx q
theorem c_encA (K:Nat)(hK:K<=100000000000)  :∀t:Tm,validB t=true->t.sz<=B->∀s,OkH s->NmB K s->AC rc 24 [aH 0,aT t,.c<|qf .N] (oH s) (t2 (encE none t s).1) (oH' (encE none t s).2):=by
 refine Tm.ind λt ih=>?_;obtain⟨k,nm0,n,l⟩:=t;intro hv hz s ok nm;have hsz:Tm.szs l+1<=B:=by simp only[Tm.sz] at hz;omega
 have hsl:=Tm.szs_length l;refine acv (v24_i1 k nm0 n (FTs l)  ..) ?_;have hok:=ok.C;have hnm:s.N.length<=s.C.length+K:=nm;refine zB (λe0=>?_) λn0=>zB (λe1=>?_) λn1=>zB (λe2=>?_) λn2=>zB (λe3=>?_) λn3=>zB (λe4=>?_) λn4=>?_
 .have hs:=lV s nm0 za;have hp:=xE (symS s nm0).2 ⟨0,(symS s nm0).1,0,0,0⟩ (by unfold symS;split<;>simp only<;>omega);exact⟨symS s nm0,hs,_,hp,by rw[encE,oX e0];exact .refl _,by rw[encE,oX e0]⟩
 .exact⟨_,xE s ⟨1,n,0,0,0⟩ za,by rw[encE,oV n0,oX e1];exact .refl _,by rw[encE,oV n0,oX e1]⟩
 .exact⟨_,xE s ⟨2,n,0,0,0⟩ za,by rw[encE,oV n0,oV n1,oX e2];exact .refl _,by rw[encE,oV n0,oV n1,oX e2]⟩
 .exact⟨_,xE s ⟨3,n,0,0,0⟩ za,by rw[encE,oV n0,oV n1,oV n2,oX e3];exact .refl _,by rw[encE,oV n0,oV n1,oV n2,oX e3]⟩
 .have h4:0<=n:=by
   subst e4;rw[validB] at hv;simp at hv;exact hv.1.1.1.1
  exact⟨_,c_hvarA  s n h4,by rw[encE,oV n0,oV n1,oV n2,oV n3,oX e4];exact .refl _,by rw[encE,oV n0,oV n1,oV n2,oV n3,oX e4]⟩
 .have h56:=k56 hv n0 n1 n2 n3 n4;have hvl:=vL_of hv h56;have hE:encE none (.mk k nm0 n l) s=encL none k l s:=by rw[encE,oV n0,oV n1,oV n2,oV n3,oV n4]
  rw[hE]
  have hne:l≠[]:=by
   intro e;subst e;rcases h56 with rfl|rfl<;>simp[validB,zq] at hv
  match l,hne with
  |u::l,_=>
   have hlen:=zq<|u::l
   have a1:=ih u r7 (YE hvl r7) (by have:=Tm.szs_mem (t:=u) (l:=u::l) r7;omega) s ok nm;have g1:=wN none u s
   have hL:encL none k (u::l) s=if (encE none u s).1.2≠0 then((0,(encE none u s).1.2),(encE none u s).2)
    else if k=5 then putS (encE none u s).2 ⟨6,(encE none u s).1.1,0,0,0⟩ else encR none l (encE none u s).1.1 (encE none u s).2:=by rw[encL]
   rw[hL];have ok1:=g1.1 ok;have nm1:=λh=>g1.nm (K:=K) h nm;generalize encE none u s=z at*;have hp:=xE z.2 ⟨6,z.1.1,0,0,0⟩ (by have:=ok1.C;omega);have lp:=λ(h:z.1.2=0)=>l_encA K hK  l [] z.1.1 z.2 (λv hv s o m=>ih v (r9 _ hv) (YE hvl<|r9 _ hv) (by have:=Tm.szs_mem (t:=v) (l:=u::l) (r9 _ hv);omega) s o m) (by simp only[rH];simp only[r5] at hsl;omega) ok1<|nm1 h
   have et:drop 1 (take (toNat (((FTs<|u::l).length:Nat):Int))<|FTs<|u::l)=FTs l:=by rw[rC,ro<|r6 _];rfl
   have el:aE (getD (FTs<|u::l) 0 [])=aT u:=vP u;rw[el,et];refine⟨⟨rfl,ru _,by rw[hlen];simp only[r5];omega,uI u⟩,z,a1,zZ (λq=>?_) λq=>zB (λe5=>?_) λn5=>⟨rfl,⟨za,by rw[hlen];simp only[r5];omega,ru _⟩,rfl,?_⟩⟩
   .rw[oX q];exact rrl
   .rw[oV λw=>w q,oX e5];exact⟨_,hp,.refl _,rfl⟩
   .rw[oV λw=>w q,oV n5,zq];exact lp q
theorem lB (K:Nat)(hK:K<=100000000000)  (t:Tm)(hz:t.sz<=B)(s:Hp)(ok:OkH s)(nm:NmB K s):AC rc 13 [aH 0,aT t,.c<|qf .N] (oH s) (t2 (encS none s t).1) (oH' (encS none s t).2):=by
 have hv:=qH t hz;have he:=λh=>c_encA K hK  t h hz s ok nm;obtain⟨_,d,e,g1,_⟩:=wN none t s
 have e0:encS none s t=if validB t=false then((0,1),s)
  else if (encE none t s).1.2≠0 then((0,(encE none t s).1.2),⟨(encE none t s).2.C.take s.C.length,(encE none t s).2.T,(encE none t s).2.M,(encE none t s).2.L,(encE none t s).2.N⟩)
  else encE none t s:=rfl
 rw[e0];have hlen:s.C.length<=(encE none t s).2.C.length:=by rw[g1];simp
 generalize encE none t s=z at*;by_cases hb:validB t=false
 .rw[oX hb];obtain⟨k,nm0,n,l⟩:=t;refine acv (lU k nm0 n (FTs l)  ..) ?_;exact⟨_,hv,zu (λ_=>rrl) λh=>by rw[hb] at h;cases h⟩
 .rw[oV hb];have hb:validB t=true:=zo hb
  have he:=he hb;by_cases q:z.1.2=0
  .rw[oV λw=>w q];obtain⟨k,nm0,n,l⟩:=t;refine acv (lU k nm0 n (FTs l)  ..) ?_;refine⟨_,hv,zu (λh=>by rw[hb] at h;cases h) λ_=>⟨z,he,zZ (λw=>absurd q w) λ_=>?_⟩⟩;obtain⟨⟨z1,z2⟩,zs⟩:=z;dsimp only at q;subst q;exact rrl
  .rw[oX q];refine AC.obj (Hs':=[.arr 6 [[.a<|.osl 5 5 0 s.C.length,.a<|.osl 6 7 0 z.2.T.length,qi z.2.M,qi z.2.L,.a<|.osl 7 1 0 z.2.N.length,.a<|.mp 4]],.gone,.gone,.gone,.mapz<|NM z.2.N 0,  .arz 5<|CR z.2.C,.arz 7<|TR z.2.T,.arz 1<|NR z.2.N]) ?_ ⟨?_,.refl _,.refl _,.refl _,.refl _,?_,.refl _,.refl _,trivial⟩
   .obtain⟨k,nm0,n,l⟩:=t;refine acv (lU k nm0 n (FTs l)  ..) ?_;refine⟨_,hv,zu (λh=>by rw[hb] at h;cases h) λ_=>⟨z,he,zZ (λw=>⟨⟨ru _,za,za⟩,.refl _,?_⟩) λw=>absurd w q⟩⟩;rw[rC]
   .rw[hp6];simp only[rM,sU hlen];exact .refl _
   .refine YD (by rw[yR,yR,rM];omega) λi e e' he he'=>?_;rw[CR,rq] at he he';obtain⟨v,hv,rfl⟩:=oY.1 he';obtain⟨v2,hv2,rfl⟩:=oY.1 he;rw[si] at hv;split at hv
    .rw[hv2] at hv;injection hv with hv;subst hv;exact LeR.refl _
    .cases hv
theorem c_hvarC (v0:Int)(vs:List Int)(s:Hp)(n:Int)(h0:0<=n):AC rc 43 [aH 0,ci n,.c<|.a<|.osl 5 1 0<|vs.length+1] (oHv (v0::vs) s) (t2<|varE (some<|v0::vs) s.C n) (oHv (v0::vs) s):=by
 refine acv (v43 ..) ?_
 first
 |(have hi:=kB s n
   exact⟨_,hi,zu (λh=>⟨by rw[varE,oV<|zo h];exact .refl _,rfl⟩) λh=>⟨by rw[varE,oX<|zo h];exact .refl _,rfl⟩⟩)
 |(have hl:=zF vs
   refine⟨rfl,zu (λh=>⟨?_,rfl⟩) λh=>?_⟩
   .have h:=rA h;rw[varE,oX za];exact .refl _
   .have h:=ri h;have hlt:n.toNat<vs.length:=za
    rw[xY hlt];have hi:=kB s (vs[n.toNat]);have e:vs.getD n.toNat 0=vs[n.toNat]:=by simp[getD,hlt]
    refine⟨⟨rfl,h0,za,rfl⟩,_,hi,zu (λh2=>⟨?_,rfl⟩) λh2=>⟨?_,rfl⟩⟩
    .rw[varE,oV za,e,oV<|zo h2];exact .refl _
    .rw[varE,oV za,e,oX<|zo h2];exact .refl _)
 |(have hl:=zF (v0::vs)
   refine zu (λh=>⟨?_,rfl⟩) (λh=>?_)
   .have h:=rA h;rw[varE,oX<|by simp only[r5];omega];exact .refl _
   .have h:=ri h;have hlt:n.toNat<(v0::vs).length:=by simp only[r5];omega
    rw[rB,xY hlt];have hi:=kB s ((v0::vs)[n.toNat]);have e:(v0::vs).getD n.toNat 0=(v0::vs)[n.toNat]:=by rw[getD,rf hlt];rfl
    refine⟨⟨h0,za⟩,⟨za,rfl,rfl⟩,_,hi,zu (λh2=>⟨?_,rfl⟩) λh2=>⟨?_,rfl⟩⟩
    .rw[varE,oV<|by simp only[r5];omega,e,oV<|zo h2];exact .refl _
    .rw[varE,oV<|by simp only[r5];omega,e,oX<|zo h2];exact .refl _)
abbrev stEnC (v0:Int)(vs:List Int)(f:Int)(x:List Tm)(n i:Int)(s:Hp):St:=
 ⟨[(0,aH 0),(2,.c<|.a<|.osl 5 1 0<|vs.length+1),(8,ci f),(89,aL x),(90,ci n),(91,ci i)],[(0,hp6 6 7 8 4 s),(1,.gone),(2,.gone),(3,.gone),(4,.mapz<|NM s.N 0),(5,.arz 1<|IR<|v0::vs),(6,.arz 5<|CR s.C),(7,.arz 7<|TR s.T),(8,.arz 1<|NR s.N)],9⟩
theorem l_encC (K:Nat)(hK:K<=100000000000)(v0:Int)(vs:List Int):∀(b pre:List Tm) (f:Int) (s:Hp),(∀u∈b,∀s,OkH s->NmB K s->AC rc 24 [aH 0,aT u,.c<|.a<|.osl 5 1 0<|vs.length+1] (oHv (v0::vs) s) (t2 (encE (some<|v0::vs) u s).1) (oHv' (v0::vs) (encE (some<|v0::vs) u s).2))->(pre++b).length<=B->OkH s->NmB K s->
  RPt rc 24 6 (t2 (encR (some<|v0::vs) b f s).1) (oHv' (v0::vs) (encR (some<|v0::vs) b f s).2) 5 (stEnC v0 vs f (pre++b) ((pre++b).length:Int) (pre.length:Int) s)
 |[],pre,f,s,_,_,_,_=>by
  refine rpv (v24_5a ..) ?_;exact bF (by simp only[rp];omega) ⟨by rw[encR];exact .refl _,by rw[encR]⟩
 |u::b,pre,f,s,hu,hl,ok,nm=>by
  have hlen:=zq<|pre++u::b
  have hla:pre.length<(pre++u::b).length:=zb
  have a1:=hu u r7 s ok nm;have g1:=wN (some<|v0::vs) u s
  have hE:encR (some<|v0::vs) (u::b) f s=if (encE (some<|v0::vs) u s).1.2≠0 then((0,(encE (some<|v0::vs) u s).1.2),(encE (some<|v0::vs) u s).2)
   else if (putS (encE (some<|v0::vs) u s).2 ⟨7,f,(encE (some<|v0::vs) u s).1.1,0,0⟩).1.2≠0 then((0,(putS (encE (some<|v0::vs) u s).2 ⟨7,f,(encE (some<|v0::vs) u s).1.1,0,0⟩).1.2),(putS (encE (some<|v0::vs) u s).2 ⟨7,f,(encE (some<|v0::vs) u s).1.1,0,0⟩).2)
   else encR (some<|v0::vs) b (putS (encE (some<|v0::vs) u s).2 ⟨7,f,(encE (some<|v0::vs) u s).1.1,0,0⟩).1.1 (putS (encE (some<|v0::vs) u s).2 ⟨7,f,(encE (some<|v0::vs) u s).1.1,0,0⟩).2:=by rw[encR]
  have ok1:=g1.1 ok;have nm1:=λh=>g1.nm (K:=K) h nm;generalize encE (some<|v0::vs) u s=z at*;have hp:=xE z.2 ⟨7,f,z.1.1,0,0⟩ (by have:=ok1.C;omega);have nx:=λ(h:z.1.2=0)=>l_encC K hK v0 vs b (pre++[u]) (putS z.2 ⟨7,f,z.1.1,0,0⟩).1.1 (putS z.2 ⟨7,f,z.1.1,0,0⟩).2 (λv hv=>hu v<|r9 _ hv) (zo hl) (ok1.put _)<|(nm1 h).put _
  rw[show(pre++[u])++b=pre++u::b by simp,show(((pre++[u]).length:Nat):Int)=(pre.length:Int)+1 by simp] at nx;generalize putS z.2 ⟨7,f,z.1.1,0,0⟩=y at*;simp only[B] at hl;refine rpv (v24_5a ..) ?_;rw[Kc,w64 (x:=(pre.length:Int)+1) za za,hE];refine zu (λ_=>⟨⟨rfl,za,by rw[hlen];omega,XI pre u b⟩,z,a1,zZ (λq=>?_) λq=>⟨y,hp,zZ (λq2=>?_) λq2=>?_⟩⟩) (λq=>absurd (ri q) za)
  .rw[oX q];exact rrl
  .rw[oV λw=>w q,oX q2];exact rrl
  .rw[oV λw=>w q,oV λw=>w q2];exact nx q
theorem c_encC (K:Nat)(hK:K<=100000000000)(v0:Int)(vs:List Int):∀t:Tm,validB t=true->t.sz<=B->∀s,OkH s->NmB K s->AC rc 24 [aH 0,aT t,.c<|.a<|.osl 5 1 0<|vs.length+1] (oHv (v0::vs) s) (t2 (encE (some<|v0::vs) t s).1) (oHv' (v0::vs) (encE (some<|v0::vs) t s).2):=by
 refine Tm.ind λt ih=>?_;obtain⟨k,nm0,n,l⟩:=t;intro hv hz s ok nm;have hsz:Tm.szs l+1<=B:=by simp only[Tm.sz] at hz;omega
 have hsl:=Tm.szs_length l;refine acv (v24 k nm0 n (FTs l) vs.length ..) ?_;have hok:=ok.C;have hnm:s.N.length<=s.C.length+K:=nm;refine zB (λe0=>?_) λn0=>zB (λe1=>?_) λn1=>zB (λe2=>?_) λn2=>zB (λe3=>?_) λn3=>zB (λe4=>?_) λn4=>?_
 .have hs:=lV s nm0 za;have hp:=xE (symS s nm0).2 ⟨0,(symS s nm0).1,0,0,0⟩ (by unfold symS;split<;>simp only<;>omega);exact⟨symS s nm0,hs,_,hp,by rw[encE,oX e0];exact .refl _,by rw[encE,oX e0]⟩
 .exact⟨_,xE s ⟨1,n,0,0,0⟩ za,by rw[encE,oV n0,oX e1];exact .refl _,by rw[encE,oV n0,oX e1]⟩
 .exact⟨_,xE s ⟨2,n,0,0,0⟩ za,by rw[encE,oV n0,oV n1,oX e2];exact .refl _,by rw[encE,oV n0,oV n1,oX e2]⟩
 .exact⟨_,xE s ⟨3,n,0,0,0⟩ za,by rw[encE,oV n0,oV n1,oV n2,oX e3];exact .refl _,by rw[encE,oV n0,oV n1,oV n2,oX e3]⟩
 .have h4:0<=n:=by
   subst e4;rw[validB] at hv;simp at hv;exact hv.1.1.1.1
  exact⟨_,c_hvarC v0 vs s n h4,by rw[encE,oV n0,oV n1,oV n2,oV n3,oX e4];exact .refl _,by rw[encE,oV n0,oV n1,oV n2,oV n3,oX e4]⟩
 .have h56:=k56 hv n0 n1 n2 n3 n4;have hvl:=vL_of hv h56;have hE:encE (some<|v0::vs) (.mk k nm0 n l) s=encL (some<|v0::vs) k l s:=by rw[encE,oV n0,oV n1,oV n2,oV n3,oV n4]
  rw[hE]
  have hne:l≠[]:=by
   intro e;subst e;rcases h56 with rfl|rfl<;>simp[validB,zq] at hv
  match l,hne with
  |u::l,_=>
   have hlen:=zq<|u::l
   have a1:=ih u r7 (YE hvl r7) (by have:=Tm.szs_mem (t:=u) (l:=u::l) r7;omega) s ok nm;have g1:=wN (some<|v0::vs) u s
   have hL:encL (some<|v0::vs) k (u::l) s=if (encE (some<|v0::vs) u s).1.2≠0 then((0,(encE (some<|v0::vs) u s).1.2),(encE (some<|v0::vs) u s).2)
    else if k=5 then putS (encE (some<|v0::vs) u s).2 ⟨6,(encE (some<|v0::vs) u s).1.1,0,0,0⟩ else encR (some<|v0::vs) l (encE (some<|v0::vs) u s).1.1 (encE (some<|v0::vs) u s).2:=by rw[encL]
   rw[hL];have ok1:=g1.1 ok;have nm1:=λh=>g1.nm (K:=K) h nm;generalize encE (some<|v0::vs) u s=z at*;have hp:=xE z.2 ⟨6,z.1.1,0,0,0⟩ (by have:=ok1.C;omega);have lp:=λ(h:z.1.2=0)=>l_encC K hK v0 vs l [] z.1.1 z.2 (λv hv s o m=>ih v (r9 _ hv) (YE hvl<|r9 _ hv) (by have:=Tm.szs_mem (t:=v) (l:=u::l) (r9 _ hv);omega) s o m) (by simp only[rH];simp only[r5] at hsl;omega) ok1<|nm1 h
   have et:drop 1 (take (toNat (((FTs<|u::l).length:Nat):Int))<|FTs<|u::l)=FTs l:=by rw[rC,ro<|r6 _];rfl
   have el:aE (getD (FTs<|u::l) 0 [])=aT u:=vP u;rw[el,et];refine⟨⟨rfl,ru _,by rw[hlen];simp only[r5];omega,uI u⟩,z,a1,zZ (λq=>?_) λq=>zB (λe5=>?_) λn5=>⟨rfl,⟨za,by rw[hlen];simp only[r5];omega,ru _⟩,rfl,?_⟩⟩
   .rw[oX q];exact rrl
   .rw[oV λw=>w q,oX e5];exact⟨_,hp,.refl _,rfl⟩
   .rw[oV λw=>w q,oV n5,zq];exact lp q
theorem c_EncC (K:Nat)(hK:K<=100000000000)(v0:Int)(vs:List Int)(t:Tm)(hz:t.sz<=B)(s:Hp)(ok:OkH s)(nm:NmB K s):AC rc 13 [aH 0,aT t,.c<|.a<|.osl 5 1 0<|vs.length+1] (oHv (v0::vs) s) (t2 (encS (some<|v0::vs) s t).1) (oHv' (v0::vs) (encS (some<|v0::vs) s t).2):=by
 have hv:=qH t hz;have he:=λh=>c_encC K hK v0 vs t h hz s ok nm;obtain⟨_,d,e,g1,_⟩:=wN (some<|v0::vs) t s
 have e0:encS (some<|v0::vs) s t=if validB t=false then((0,1),s)
  else if (encE (some<|v0::vs) t s).1.2≠0 then((0,(encE (some<|v0::vs) t s).1.2),⟨(encE (some<|v0::vs) t s).2.C.take s.C.length,(encE (some<|v0::vs) t s).2.T,(encE (some<|v0::vs) t s).2.M,(encE (some<|v0::vs) t s).2.L,(encE (some<|v0::vs) t s).2.N⟩)
  else encE (some<|v0::vs) t s:=rfl
 rw[e0];have hlen:s.C.length<=(encE (some<|v0::vs) t s).2.C.length:=by rw[g1];simp
 generalize encE (some<|v0::vs) t s=z at*;by_cases hb:validB t=false
 .rw[oX hb];obtain⟨k,nm0,n,l⟩:=t;refine acv (v13 k nm0 n (FTs l) vs.length ..) ?_;exact⟨_,hv,zu (λ_=>rrl) λh=>by rw[hb] at h;cases h⟩
 .rw[oV hb];have hb:validB t=true:=zo hb
  have he:=he hb;by_cases q:z.1.2=0
  .rw[oV λw=>w q];obtain⟨k,nm0,n,l⟩:=t;refine acv (v13 k nm0 n (FTs l) vs.length ..) ?_;refine⟨_,hv,zu (λh=>by rw[hb] at h;cases h) λ_=>⟨z,he,zZ (λw=>absurd q w) λ_=>?_⟩⟩;obtain⟨⟨z1,z2⟩,zs⟩:=z;dsimp only at q;subst q;exact rrl
  .rw[oX q];refine AC.obj (Hs':=[.arr 6 [[.a<|.osl 6 5 0 s.C.length,.a<|.osl 7 7 0 z.2.T.length,qi z.2.M,qi z.2.L,.a<|.osl 8 1 0 z.2.N.length,.a<|.mp 4]],.gone,.gone,.gone,.mapz<|NM z.2.N 0,.arz 1<|IR<|v0::vs,.arz 5<|CR z.2.C,.arz 7<|TR z.2.T,.arz 1<|NR z.2.N]) ?_ ⟨?_,.refl _,.refl _,.refl _,.refl _,.refl _,?_,.refl _,.refl _,trivial⟩
   .obtain⟨k,nm0,n,l⟩:=t;refine acv (v13 k nm0 n (FTs l) vs.length ..) ?_;refine⟨_,hv,zu (λh=>by rw[hb] at h;cases h) λ_=>⟨z,he,zZ (λw=>⟨⟨ru _,za,za⟩,.refl _,?_⟩) λw=>absurd w q⟩⟩;rw[rC]
   .rw[hp6];simp only[rM,sU hlen];exact .refl _
   .refine YD (by rw[yR,yR,rM];omega) λi e e' he he'=>?_;rw[CR,rq] at he he';obtain⟨v,hv,rfl⟩:=oY.1 he';obtain⟨v2,hv2,rfl⟩:=oY.1 he;rw[si] at hv;split at hv
    .rw[hv2] at hv;injection hv with hv;subst hv;exact LeR.refl _
    .cases hv
theorem c_hvarB  (s:Hp) (n:Int) (h0:0<=n):AC rc 43 [aH 0,ci n,.c<|qf<|.z0 true] (oH s) (t2<|varE (some []) s.C n) (oH s):=by
 refine acv (v43_i2 ..) ?_
 first
 |(have hi:=kB s n
   exact⟨_,hi,zu (λh=>⟨by rw[varE,oV<|zo h];exact .refl _,rfl⟩) λh=>⟨by rw[varE,oX<|zo h];exact .refl _,rfl⟩⟩)
 |(have hl:=zF vs
   refine⟨rfl,zu (λh=>⟨?_,rfl⟩) λh=>?_⟩
   .have h:=rA h;rw[varE,oX za];exact .refl _
   .have h:=ri h;have hlt:n.toNat<vs.length:=za
    rw[xY hlt];have hi:=kB s (vs[n.toNat]);have e:vs.getD n.toNat 0=vs[n.toNat]:=by simp[getD,hlt]
    refine⟨⟨rfl,h0,za,rfl⟩,_,hi,zu (λh2=>⟨?_,rfl⟩) λh2=>⟨?_,rfl⟩⟩
    .rw[varE,oV za,e,oV<|zo h2];exact .refl _
    .rw[varE,oV za,e,oX<|zo h2];exact .refl _)
 |(have hl:=zF (v0::vs)
   refine zu (λh=>⟨?_,rfl⟩) (λh=>?_)
   .have h:=rA h;rw[varE,oX<|by simp only[r5];omega];exact .refl _
   .have h:=ri h;have hlt:n.toNat<(v0::vs).length:=by simp only[r5];omega
    rw[rB,xY hlt];have hi:=kB s ((v0::vs)[n.toNat]);have e:(v0::vs).getD n.toNat 0=(v0::vs)[n.toNat]:=by rw[getD,rf hlt];rfl
    refine⟨⟨h0,za⟩,⟨za,rfl,rfl⟩,_,hi,zu (λh2=>⟨?_,rfl⟩) λh2=>⟨?_,rfl⟩⟩
    .rw[varE,oV<|by simp only[r5];omega,e,oV<|zo h2];exact .refl _
    .rw[varE,oV<|by simp only[r5];omega,e,oX<|zo h2];exact .refl _)
 |exact⟨rfl,zu (λ_=>⟨by rw[varE,oX (zo h0)];exact .refl _,rfl⟩) (λh=>absurd (ri h) za)⟩
abbrev stEnB  (f:Int) (x:List Tm) (n i:Int) (s:Hp):St:=
 ⟨[(0,aH 0),(2,.c<|qf<|.z0 true),(8,ci f),(89,aL x),(90,ci n),(91,ci i)],[(0,hp6 5 6 7 4 s),(1,.gone),(2,.gone),(3,.gone),(4,.mapz<|NM s.N 0),(5,.arz 5<|CR s.C),(6,.arz 7<|TR s.T),(7,.arz 1<|NR s.N)],8⟩
theorem l_encB (K:Nat)(hK:K<=100000000000)  :∀(b pre:List Tm) (f:Int) (s:Hp),(∀u∈b,∀s,OkH s->NmB K s->AC rc 24 [aH 0,aT u,.c<|qf<|.z0 true] (oH s) (t2 (encE (some []) u s).1) (oH' (encE (some []) u s).2))->(pre++b).length<=B->OkH s->NmB K s->
  RPt rc 24 5 (t2 (encR (some []) b f s).1) (oH' (encR (some []) b f s).2) 5 (stEnB  f (pre++b) ((pre++b).length:Int) (pre.length:Int) s)
 |[],pre,f,s,_,_,_,_=>by
  refine rpv (Kq ..) ?_;exact bF (by simp only[rp];omega) ⟨by rw[encR];exact .refl _,by rw[encR]⟩
 |u::b,pre,f,s,hu,hl,ok,nm=>by
  have hlen:=zq<|pre++u::b
  have hla:pre.length<(pre++u::b).length:=zb
  have a1:=hu u r7 s ok nm;have g1:=wN (some []) u s
  have hE:encR (some []) (u::b) f s=if (encE (some []) u s).1.2≠0 then((0,(encE (some []) u s).1.2),(encE (some []) u s).2)
   else if (putS (encE (some []) u s).2 ⟨7,f,(encE (some []) u s).1.1,0,0⟩).1.2≠0 then((0,(putS (encE (some []) u s).2 ⟨7,f,(encE (some []) u s).1.1,0,0⟩).1.2),(putS (encE (some []) u s).2 ⟨7,f,(encE (some []) u s).1.1,0,0⟩).2)
   else encR (some []) b (putS (encE (some []) u s).2 ⟨7,f,(encE (some []) u s).1.1,0,0⟩).1.1 (putS (encE (some []) u s).2 ⟨7,f,(encE (some []) u s).1.1,0,0⟩).2:=by rw[encR]
  have ok1:=g1.1 ok;have nm1:=λh=>g1.nm (K:=K) h nm;generalize encE (some []) u s=z at*;have hp:=xE z.2 ⟨7,f,z.1.1,0,0⟩ (by have:=ok1.C;omega);have nx:=λ(h:z.1.2=0)=>l_encB K hK  b (pre++[u]) (putS z.2 ⟨7,f,z.1.1,0,0⟩).1.1 (putS z.2 ⟨7,f,z.1.1,0,0⟩).2 (λv hv=>hu v<|r9 _ hv) (zo hl) (ok1.put _)<|(nm1 h).put _
  rw[show(pre++[u])++b=pre++u::b by simp,show(((pre++[u]).length:Nat):Int)=(pre.length:Int)+1 by simp] at nx;generalize putS z.2 ⟨7,f,z.1.1,0,0⟩=y at*;simp only[B] at hl;refine rpv (Kq ..) ?_;rw[Kc,w64 (x:=(pre.length:Int)+1) za za,hE];refine zu (λ_=>⟨⟨rfl,za,by rw[hlen];omega,XI pre u b⟩,z,a1,zZ (λq=>?_) λq=>⟨y,hp,zZ (λq2=>?_) λq2=>?_⟩⟩) (λq=>absurd (ri q) za)
  .rw[oX q];exact rrl
  .rw[oV λw=>w q,oX q2];exact rrl
  .rw[oV λw=>w q,oV λw=>w q2];exact nx q
theorem c_encB (K:Nat)(hK:K<=100000000000)  :∀t:Tm,validB t=true->t.sz<=B->∀s,OkH s->NmB K s->AC rc 24 [aH 0,aT t,.c<|qf<|.z0 true] (oH s) (t2 (encE (some []) t s).1) (oH' (encE (some []) t s).2):=by
 refine Tm.ind λt ih=>?_;obtain⟨k,nm0,n,l⟩:=t;intro hv hz s ok nm;have hsz:Tm.szs l+1<=B:=by simp only[Tm.sz] at hz;omega
 have hsl:=Tm.szs_length l;refine acv (v24_i2 k nm0 n (FTs l)  ..) ?_;have hok:=ok.C;have hnm:s.N.length<=s.C.length+K:=nm;refine zB (λe0=>?_) λn0=>zB (λe1=>?_) λn1=>zB (λe2=>?_) λn2=>zB (λe3=>?_) λn3=>zB (λe4=>?_) λn4=>?_
 .have hs:=lV s nm0 za;have hp:=xE (symS s nm0).2 ⟨0,(symS s nm0).1,0,0,0⟩ (by unfold symS;split<;>simp only<;>omega);exact⟨symS s nm0,hs,_,hp,by rw[encE,oX e0];exact .refl _,by rw[encE,oX e0]⟩
 .exact⟨_,xE s ⟨1,n,0,0,0⟩ za,by rw[encE,oV n0,oX e1];exact .refl _,by rw[encE,oV n0,oX e1]⟩
 .exact⟨_,xE s ⟨2,n,0,0,0⟩ za,by rw[encE,oV n0,oV n1,oX e2];exact .refl _,by rw[encE,oV n0,oV n1,oX e2]⟩
 .exact⟨_,xE s ⟨3,n,0,0,0⟩ za,by rw[encE,oV n0,oV n1,oV n2,oX e3];exact .refl _,by rw[encE,oV n0,oV n1,oV n2,oX e3]⟩
 .have h4:0<=n:=by
   subst e4;rw[validB] at hv;simp at hv;exact hv.1.1.1.1
  exact⟨_,c_hvarB  s n h4,by rw[encE,oV n0,oV n1,oV n2,oV n3,oX e4];exact .refl _,by rw[encE,oV n0,oV n1,oV n2,oV n3,oX e4]⟩
 .have h56:=k56 hv n0 n1 n2 n3 n4;have hvl:=vL_of hv h56;have hE:encE (some []) (.mk k nm0 n l) s=encL (some []) k l s:=by rw[encE,oV n0,oV n1,oV n2,oV n3,oV n4]
  rw[hE]
  have hne:l≠[]:=by
   intro e;subst e;rcases h56 with rfl|rfl<;>simp[validB,zq] at hv
  match l,hne with
  |u::l,_=>
   have hlen:=zq<|u::l
   have a1:=ih u r7 (YE hvl r7) (by have:=Tm.szs_mem (t:=u) (l:=u::l) r7;omega) s ok nm;have g1:=wN (some []) u s
   have hL:encL (some []) k (u::l) s=if (encE (some []) u s).1.2≠0 then((0,(encE (some []) u s).1.2),(encE (some []) u s).2)
    else if k=5 then putS (encE (some []) u s).2 ⟨6,(encE (some []) u s).1.1,0,0,0⟩ else encR (some []) l (encE (some []) u s).1.1 (encE (some []) u s).2:=by rw[encL]
   rw[hL];have ok1:=g1.1 ok;have nm1:=λh=>g1.nm (K:=K) h nm;generalize encE (some []) u s=z at*;have hp:=xE z.2 ⟨6,z.1.1,0,0,0⟩ (by have:=ok1.C;omega);have lp:=λ(h:z.1.2=0)=>l_encB K hK  l [] z.1.1 z.2 (λv hv s o m=>ih v (r9 _ hv) (YE hvl<|r9 _ hv) (by have:=Tm.szs_mem (t:=v) (l:=u::l) (r9 _ hv);omega) s o m) (by simp only[rH];simp only[r5] at hsl;omega) ok1<|nm1 h
   have et:drop 1 (take (toNat (((FTs<|u::l).length:Nat):Int))<|FTs<|u::l)=FTs l:=by rw[rC,ro<|r6 _];rfl
   have el:aE (getD (FTs<|u::l) 0 [])=aT u:=vP u;rw[el,et];refine⟨⟨rfl,ru _,by rw[hlen];simp only[r5];omega,uI u⟩,z,a1,zZ (λq=>?_) λq=>zB (λe5=>?_) λn5=>⟨rfl,⟨za,by rw[hlen];simp only[r5];omega,ru _⟩,rfl,?_⟩⟩
   .rw[oX q];exact rrl
   .rw[oV λw=>w q,oX e5];exact⟨_,hp,.refl _,rfl⟩
   .rw[oV λw=>w q,oV n5,zq];exact lp q
theorem c_EncB (K:Nat)(hK:K<=100000000000)  (t:Tm)(hz:t.sz<=B)(s:Hp)(ok:OkH s)(nm:NmB K s):AC rc 13 [aH 0,aT t,.c<|qf<|.z0 true] (oH s) (t2 (encS (some []) s t).1) (oH' (encS (some []) s t).2):=by
 have hv:=qH t hz;have he:=λh=>c_encB K hK  t h hz s ok nm;obtain⟨_,d,e,g1,_⟩:=wN (some []) t s
 have e0:encS (some []) s t=if validB t=false then((0,1),s)
  else if (encE (some []) t s).1.2≠0 then((0,(encE (some []) t s).1.2),⟨(encE (some []) t s).2.C.take s.C.length,(encE (some []) t s).2.T,(encE (some []) t s).2.M,(encE (some []) t s).2.L,(encE (some []) t s).2.N⟩)
  else encE (some []) t s:=rfl
 rw[e0];have hlen:s.C.length<=(encE (some []) t s).2.C.length:=by rw[g1];simp
 generalize encE (some []) t s=z at*;by_cases hb:validB t=false
 .rw[oX hb];obtain⟨k,nm0,n,l⟩:=t;refine acv (lR k nm0 n (FTs l)  ..) ?_;exact⟨_,hv,zu (λ_=>rrl) λh=>by rw[hb] at h;cases h⟩
 .rw[oV hb];have hb:validB t=true:=zo hb
  have he:=he hb;by_cases q:z.1.2=0
  .rw[oV λw=>w q];obtain⟨k,nm0,n,l⟩:=t;refine acv (lR k nm0 n (FTs l)  ..) ?_;refine⟨_,hv,zu (λh=>by rw[hb] at h;cases h) λ_=>⟨z,he,zZ (λw=>absurd q w) λ_=>?_⟩⟩;obtain⟨⟨z1,z2⟩,zs⟩:=z;dsimp only at q;subst q;exact rrl
  .rw[oX q];refine AC.obj (Hs':=[.arr 6 [[.a<|.osl 5 5 0 s.C.length,.a<|.osl 6 7 0 z.2.T.length,qi z.2.M,qi z.2.L,.a<|.osl 7 1 0 z.2.N.length,.a<|.mp 4]],.gone,.gone,.gone,.mapz<|NM z.2.N 0,  .arz 5<|CR z.2.C,.arz 7<|TR z.2.T,.arz 1<|NR z.2.N]) ?_ ⟨?_,.refl _,.refl _,.refl _,.refl _,?_,.refl _,.refl _,trivial⟩
   .obtain⟨k,nm0,n,l⟩:=t;refine acv (lR k nm0 n (FTs l)  ..) ?_;refine⟨_,hv,zu (λh=>by rw[hb] at h;cases h) λ_=>⟨z,he,zZ (λw=>⟨⟨ru _,za,za⟩,.refl _,?_⟩) λw=>absurd w q⟩⟩;rw[rC]
   .rw[hp6];simp only[rM,sU hlen];exact .refl _
   .refine YD (by rw[yR,yR,rM];omega) λi e e' he he'=>?_;rw[CR,rq] at he he';obtain⟨v,hv,rfl⟩:=oY.1 he';obtain⟨v2,hv2,rfl⟩:=oY.1 he;rw[si] at hv;split at hv
    .rw[hv2] at hv;injection hv with hv;subst hv;exact LeR.refl _
    .cases hv
structure Wp where
 s:Hp
 f:Int
structure Sd where
 h:Int
 js:List Int
 c:Cel
abbrev noS:Sd:=⟨0,[],noC⟩
def lookW (w:Wp)(a:Int):(Sd×Int)×Wp:=
 if (xw w.s a w.f).1.2.2≠0 then((noS,(xw w.s a w.f).1.2.2),⟨(xw w.s a w.f).2,w.f⟩)
 else((⟨(xw w.s a w.f).1.1.1,(xw w.s a w.f).1.1.2,cellOf (xw w.s a w.f).2.C (xw w.s a w.f).1.1.1⟩,0),⟨(xw w.s a w.f).2,(xw w.s a w.f).1.2.1⟩)
def yg (w:Wp)(a:Int):(Tm×Int)×Wp:=
 (((zQ w.s a w.f).1.1,(zQ w.s a w.f).1.2.2),⟨(zQ w.s a w.f).2,if (zQ w.s a w.f).1.2.2=0 then(zQ w.s a w.f).1.2.1 else w.f⟩)
def lfZ (a b:Tm):Bool:=a.k==b.k&&a.n==b.n
def xK (t:Tm):Tm×Bool:=if validB t=true then(if (zy t).k=3\/(zy t).k=1 then(zy t,true) else(noT,false)) else(noT,false)
def badZ (lv:Int)(out:List Tm)(u:Tm):Bool:= !(xK u).2||((xK u).1.k==1&&decide ((xK u).1.n<=lv))||out.any λv=>lfZ v (xK u).1
def zw (lv:Int):List Int->List Tm->Wp->(List Tm×Int)×Wp
 |[],out,w=>((out,0),w)
 |a::l,out,w=>
  if (yg w a).1.2≠0 then(([],(yg w a).1.2),(yg w a).2)
  else if badZ lv out (yg w a).1.1=true then(([],171),(yg w a).2)
  else zw lv l (out++[(xK (yg w a).1.1).1]) (yg w a).2
abbrev bndT (n:Int):Tm:=.mk 3 [] n []
def setW (w:Wp)(x:Int)(t:Tm):Int×Wp:=
 if (encS none w.s t).1.2≠0 then((encS none w.s t).1.2,⟨(encS none w.s t).2,w.f⟩)
 else((setS (encS none w.s t).2 x ⟨5,(encS none w.s t).1.1,0,0,0⟩).1,⟨(setS (encS none w.s t).2 x ⟨5,(encS none w.s t).1.1,0,0,0⟩).2,w.f⟩)
def zD (s:Hp)(lv:Int):(Int×Int)×Hp:=putS s ⟨4,zE [lv,0],0,0,0⟩
def yP (w:Wp)(x lv:Int)(lams:Nat)(on:List Tm):(Tm×Int)×Wp:=
 if (zD w.s lv).1.2≠0 then((noT,(zD w.s lv).1.2),⟨(zD w.s lv).2,w.f⟩)
 else((.mk 4 [] (zD w.s lv).1.1 [],(setW ⟨(zD w.s lv).2,w.f⟩ x<|lamsF lams<|applyF (.mk 4 [] (zD w.s lv).1.1 []) on).1),(setW ⟨(zD w.s lv).2,w.f⟩ x<|lamsF lams<|applyF (.mk 4 [] (zD w.s lv).1.1 []) on).2)
def onZ:List Tm->List Tm->List Tm
 |a::l,b::m=>(if lfZ a b=true then [bndT (l.length:Int)] else [])++onZ l m
 |_,_=> []
def xD (w:Wp)(x y:Sd):Int×Wp:=
 if (zw x.c.a x.js [] w).1.2≠0 then((zw x.c.a x.js [] w).1.2,(zw x.c.a x.js [] w).2)
 else if (zw y.c.a y.js [] (zw x.c.a x.js [] w).2).1.2≠0 then((zw y.c.a y.js [] (zw x.c.a x.js [] w).2).1.2,(zw y.c.a y.js [] (zw x.c.a x.js [] w).2).2)
 else if (zw x.c.a x.js [] w).1.1.length≠(zw y.c.a y.js [] (zw x.c.a x.js [] w).2).1.1.length then(171,(zw y.c.a y.js [] (zw x.c.a x.js [] w).2).2)
 else if (onZ (zw x.c.a x.js [] w).1.1 (zw y.c.a y.js [] (zw x.c.a x.js [] w).2).1.1).length=(zw x.c.a x.js [] w).1.1.length then(0,(zw y.c.a y.js [] (zw x.c.a x.js [] w).2).2)
 else((yP (zw y.c.a y.js [] (zw x.c.a x.js [] w).2).2 x.h x.c.a (zw x.c.a x.js [] w).1.1.length<|onZ (zw x.c.a x.js [] w).1.1 (zw y.c.a y.js [] (zw x.c.a x.js [] w).2).1.1).1.2,
  (yP (zw y.c.a y.js [] (zw x.c.a x.js [] w).2).2 x.h x.c.a (zw x.c.a x.js [] w).1.1.length<|onZ (zw x.c.a x.js [] w).1.1 (zw y.c.a y.js [] (zw x.c.a x.js [] w).2).1.1).2)
structure Iv where
 x:Int
 lv:Int
 l:List Tm
def ixZ (o:Tm):List Tm->Option Nat
 |[]=>none
 |u::l=>if lfZ u o=true then some l.length else ixZ o l
def outZ (t:Tm)(k:Int):Tm:=if t.k=3 then .mk t.k t.s (wr<|t.n-k) t.l else t
def yZ (v:Iv)(t:Tm)(k:Int):Tm×Bool:=
 if t.k=3/\t.n<k then(t,true)
 else match ixZ (outZ t k) v.l with
  |some r=>(bndT<|k+r,true)
  |none=>(t,t.k==1&&decide (t.n<=v.lv))
def im1 (v:Iv)(k:Int):List Tm->List Tm×List Tm
 |[]=>([],[])
 |t::l=>if (yZ v t k).2=true then(bndT (l.length:Int)::(im1 v k l).1,(yZ v t k).1::(im1 v k l).2) else im1 v k l
def im2 (lv vlv k:Int):List Tm->List Tm×List Tm
 |[]=>([],[])
 |t::l=>if lv>vlv/\t.k=1/\t.n<=lv then(t::(im2 lv vlv k l).1,bndT (k+(l.length:Int))::(im2 lv vlv k l).2) else im2 lv vlv k l
def Zd (v:Iv)(y:Sd)(k:Int)(z:(List Tm×Int)×Wp):(Tm×Int)×Wp:=
 if z.1.2≠0 then((noT,z.1.2),z.2)
 else if (im1 v k z.1.1).1.length=z.1.1.length/\y.c.a<=v.lv then((applyF (.mk 4 [] y.h []) (im1 v k z.1.1).2,0),z.2)
 else((applyF (yP z.2 y.h (zO [v.lv,y.c.a]) z.1.1.length<|(im1 v k z.1.1).1++(im2 y.c.a v.lv k v.l).1).1.1<|(im1 v k z.1.1).2++(im2 y.c.a v.lv k v.l).2,
  (yP z.2 y.h (zO [v.lv,y.c.a]) z.1.1.length<|(im1 v k z.1.1).1++(im2 y.c.a v.lv k v.l).1).1.2),
  (yP z.2 y.h (zO [v.lv,y.c.a]) z.1.1.length<|(im1 v k z.1.1).1++(im2 y.c.a v.lv k v.l).1).2)
def vX (v:Iv)(y:Sd)(k:Int)(w:Wp):(Tm×Int)×Wp:=Zd v y k<|zw y.c.a y.js [] w
def xJ (v:Iv)(N:List<|List UInt8)(x:Sd)(k:Int):Tm×Bool:=
 if x.c.t=0 then(.mk 0 (nameOf N x.c.a) 0 [],true)
 else if x.c.t=2 then(.mk 2 [] x.c.a [],true)
 else if x.c.t=1 then yZ v (.mk 1 [] x.c.a []) k
 else yZ v (bndT x.c.a) k
def wx (F:Int->Wp->(Tm×Int)×Wp):List Int->Tm->Wp->(Tm×Int)×Wp
 |[],t,w=>((t,0),w)
 |b::l,t,w=>if (F b w).1.2≠0 then((noT,(F b w).1.2),(F b w).2) else wx F l (applyF t [(F b w).1.1]) (F b w).2
def nV (v:Iv)(F:Int->Int->Wp->(Tm×Int)×Wp)(k:Int)(z:(Sd×Int)×Wp):(Tm×Int)×Wp:=
 if z.1.2≠0 then((noT,z.1.2),z.2)
 else if z.1.1.c.t=6 then((lamsF 1 (F z.1.1.c.a (k+1) z.2).1.1,(F z.1.1.c.a (k+1) z.2).1.2),(F z.1.1.c.a (k+1) z.2).2)
 else if z.1.1.c.t=4 then(if z.1.1.h=v.x then((noT,170),z.2) else vX v z.1.1 k z.2)
 else if (xJ v z.2.s.N z.1.1 k).2=false then((noT,170),z.2)
 else wx (λb w=>F b k w) z.1.1.js (xJ v z.2.s.N z.1.1 k).1 z.2
def yz (v:Iv):Nat->Int->Int->Wp->(Tm×Int)×Wp
 |0,_,_,w=>((noT,80),w)
 |n+1,a,k,w=>nV v (yz v n) k<|lookW w a
def Xm (x:Sd)(a:Int)(z:(List Tm×Int)×Wp):Int×Wp:=
 if z.1.2≠0 then(z.1.2,z.2)
 else if (yz ⟨x.h,x.c.a,z.1.1⟩ (z.2.f.toNat+1) a 0 z.2).1.2≠0 then((yz ⟨x.h,x.c.a,z.1.1⟩ (z.2.f.toNat+1) a 0 z.2).1.2,(yz ⟨x.h,x.c.a,z.1.1⟩ (z.2.f.toNat+1) a 0 z.2).2)
 else setW (yz ⟨x.h,x.c.a,z.1.1⟩ (z.2.f.toNat+1) a 0 z.2).2 x.h<|lamsF z.1.1.length (yz ⟨x.h,x.c.a,z.1.1⟩ (z.2.f.toNat+1) a 0 z.2).1.1
def wL (w:Wp)(x:Sd)(a:Int):Int×Wp:=Xm x a<|zw x.c.a x.js [] w
def yd (w:Wp)(x:Sd)(a:Int):(Int×Int)×Wp:=
 if x.c.t=6 then((x.c.a,0),w)
 else if (yw w.s a 1).1.2≠0 then((0,(yw w.s a 1).1.2),⟨(yw w.s a 1).2,w.f⟩)
 else if (putS (yw w.s a 1).2 ⟨3,0,0,0,0⟩).1.2≠0 then((0,(putS (yw w.s a 1).2 ⟨3,0,0,0,0⟩).1.2),⟨(putS (yw w.s a 1).2 ⟨3,0,0,0,0⟩).2,w.f⟩)
 else((putS (putS (yw w.s a 1).2 ⟨3,0,0,0,0⟩).2 ⟨7,(yw w.s a 1).1.1,(putS (yw w.s a 1).2 ⟨3,0,0,0,0⟩).1.1,0,0⟩).1,
  ⟨(putS (putS (yw w.s a 1).2 ⟨3,0,0,0,0⟩).2 ⟨7,(yw w.s a 1).1.1,(putS (yw w.s a 1).2 ⟨3,0,0,0,0⟩).1.1,0,0⟩).2,w.f⟩)
abbrev Ow:=(Int×List (Int×Int))×Wp
def xV (w:Wp)(x y:Sd)(p:Int×Int):Ow:=
 if (yd w x p.1).1.2≠0 then(((yd w x p.1).1.2,[]),(yd w x p.1).2)
 else if (yd (yd w x p.1).2 y p.2).1.2≠0 then(((yd (yd w x p.1).2 y p.2).1.2,[]),(yd (yd w x p.1).2 y p.2).2)
 else((0,[((yd w x p.1).1.1,(yd (yd w x p.1).2 y p.2).1.1)]),(yd (yd w x p.1).2 y p.2).2)
def YU (x y:Sd):Bool:=x.c.t !=y.c.t||x.c.a !=y.c.a||x.js.length !=y.js.length
def oneG (p:Int×Int)(x y:Sd)(w:Wp):Ow:=
 if x.c.t=6\/y.c.t=6 then xV w x y p
 else if x.c.t=4/\y.c.t=4/\x.h=y.h then(((xD w x y).1,[]),(xD w x y).2)
 else if x.c.t=4 then(((wL w x p.2).1,[]),(wL w x p.2).2)
 else if y.c.t=4 then(((wL w y p.1).1,[]),(wL w y p.1).2)
 else if YU x y=true then((170,[]),w)
 else((0,x.js.zip y.js),w)
def oneW (w:Wp)(p:Int×Int):Ow:=
 if (lookW w p.1).1.2≠0 then(((lookW w p.1).1.2,[]),(lookW w p.1).2)
 else if (lookW (lookW w p.1).2 p.2).1.2≠0 then(((lookW (lookW w p.1).2 p.2).1.2,[]),(lookW (lookW w p.1).2 p.2).2)
 else oneG p (lookW w p.1).1.1 (lookW (lookW w p.1).2 p.2).1.1 (lookW (lookW w p.1).2 p.2).2
def runZ:Nat->Wp->List (Int×Int)->Int×Wp
 |_,w,[]=>(0,w)
 |0,w,_::_=>(80,w)
 |n+1,w,p::st=>
  if w.f<=0 then(80,w)
  else if (oneW ⟨w.s,w.f-1⟩ p).1.1≠0 then((oneW ⟨w.s,w.f-1⟩ p).1.1,(oneW ⟨w.s,w.f-1⟩ p).2)
  else runZ n (oneW ⟨w.s,w.f-1⟩ p).2<|(oneW ⟨w.s,w.f-1⟩ p).1.2++st
def oddZ (C:List Cel)(x:Int):Bool:= !inC C x||decide (9<=(cellOf C x).t)
def allZ (s:Hp)(a b:List Int)(f:Int):(Int×Int)×Hp:=
 if a.length≠b.length\/a.any (oddZ s.C)=true\/b.any (oddZ s.C)=true then((0,1),s)
 else if (runZ f.toNat ⟨s,f⟩<|a.zip b).1≠0 then((0,(runZ f.toNat ⟨s,f⟩<|a.zip b).1),vH (runZ f.toNat ⟨s,f⟩<|a.zip b).2.s s.C.length s.T.length)
 else(((runZ f.toNat ⟨s,f⟩<|a.zip b).2.f,0),(runZ f.toNat ⟨s,f⟩<|a.zip b).2.s)
abbrev aWk:TV:=.c<|.a<|.ep 0 3 0 0
abbrev wk3 (o r:Nat)(f:Int)(n:Nat):AObj:=.arr 3 [[.a<|.ep o 6 0 0,.a<|.osl r 2 0 n,qi f]]
abbrev oWk (w:Wp)(n:Nat)(R:List<|List FV):List AObj:=[wk3 1 6 w.f n,hp6 2 3 4 5 w.s,.arz 5<|CR w.s.C,.arz 7<|TR w.s.T,.arz 1<|NR w.s.N,.mapz<|NM w.s.N 0,.arz 2 R]
abbrev oWk' (w:Wp)(n:Nat)(R:List<|List FV):List AObj:=[wk3 1 10 w.f n,hp6 7 8 9 5 w.s,.gone,.gone,.gone,.mapz<|NM w.s.N 0,.gone,.arz 5<|CR w.s.C,.arz 7<|TR w.s.T,.arz 1<|NR w.s.N,.arz 2 R]
abbrev aSd (x:Sd):TV:=.agg [qi x.h,qf<|.sl false 1<|IR x.js,qi x.c.t,qi x.c.a,qi x.c.b,qi x.c.c,qi x.c.d]
abbrev tSd (x:Sd×Int):TV:=.tup [(true,[qi x.1.h,qf<|.sl false 1<|IR x.1.js,qi x.1.c.t,qi x.1.c.a,qi x.1.c.b,qi x.1.c.c,qi x.1.c.d]),(false,[qi x.2])]
abbrev tTE (x:Tm×Int):TV:=.tup [(true,cT x.1),(false,[qi x.2])]
structure OkW (K:Nat)(w:Wp):Prop where
 h:OkH w.s
 f0:0<=w.f
 f1:w.f<=3000000
 n:NmB K w.s
theorem noTE (e:Int):TV.Le (.tup [(true,[qi 0,qf<|.str [],qi 0,qf .N]),(false,[qi e])]) (tTE (noT,e)):=leTE (l:=[]) xU
theorem ft (a b:Tm):AC rc 88 [aT a,aT b] [] (cb<|lfZ a b) []:=by
 obtain⟨k,s,n,l⟩:=a;obtain⟨k',s',n',l'⟩:=b;refine acv (v88 k s n (FTs l) k' s' n' (FTs l') _ _) ?_;have e:lfZ (.mk k s n l) (.mk k' s' n' l')=(k==k'&&n==n'):=rfl;refine zu (λh=>?_) λh=>?_
 .have h:(k==k')=true:=h;rw[e,h,sr];exact rrl
 .have h:(k==k')=false:=h;rw[e,h,sQ];exact rrl
theorem ju (n:Int):AC rc 89 [ci n] [] (aT<|bndT n) []:=by
 refine acv (v89 ..) ?_;exact⟨leT xU,rfl⟩
theorem dq (x:Sd):AC rc 69 [aSd x] [] (cb<|x.c.t==4) []:=by
 refine acv (v69 ..) ?_;exact rrl
theorem c_hclash (x y:Sd):AC rc 72 [aSd x,aSd y] [] (cb<|YU x y) []:=by
 have e:YU x y=(x.c.t !=y.c.t||x.c.a !=y.c.a||x.js.length !=y.js.length):=rfl;refine acv (v72 ..) ?_;rw[zF,zF];refine zu (λh=>?_) λh=>zu (λh2=>?_) λh2=>⟨rfl,rfl,?_⟩
 .rw[e,show(x.c.t !=y.c.t)=true from h];exact zH rfl
 .rw[e,show(x.c.t !=y.c.t)=false from h,show(x.c.a !=y.c.a)=true from h2];exact zH rfl
 .rw[e,show(x.c.t !=y.c.t)=false from h,show(x.c.a !=y.c.a)=false from h2];refine zH ?_;by_cases q:x.js.length=y.js.length
  .simp[q]
  .have:(x.js.length:Int)≠(y.js.length:Int):=za
   rw[show((x.js.length:Int) !=(y.js.length:Int))=true from bne_iff_ne.2 this,show(x.js.length !=y.js.length)=true from bne_iff_ne.2 q];rfl
theorem c_hLeaf (t:Tm)(hs:t.sz<=SZ):AC rc 103 [aT t] [] (.tup [(true,cT (xK t).1),(false,[qf<|.bool (xK t).2])]) []:=by
 have h0:=qH t (by simp only[SZ,B] at*;omega);have h:=λh=>KQ t (zG t h) (vB h) hs<|XV t h
 have e:xK t=if validB t=true then(if (zy t).k=3\/(zy t).k=1 then(zy t,true) else(noT,false)) else(noT,false):=rfl
 rw[e];generalize zy t=z at*;obtain⟨k,s,n,l⟩:=t;refine acv (v103 k s n (FTs l) _ _) ?_;refine⟨_,h0,zu (λhv=>?_) λhv=>⟨_,h<|pH hv,zu (λh3=>?_) λh3=>zu (λh1=>?_) λh1=>?_⟩⟩
 .rw[oV<|by rw[not_t hv];simp];exact⟨leTB (l:=[]) xU,rfl⟩
 .have h3:(z.k==3)=true:=h3;rw[oX<|pH hv,oX<|.inl<|zo h3];exact rrl
 .have h1:(z.k==1)=true:=h1;rw[oX<|pH hv,oX<|.inr<|zo h1];exact rrl
 .have h3:(z.k==3)=false:=h3;have h1:(z.k==1)=false:=h1;rw[oX<|pH hv,oV<|by simp at h3 h1;rintro (q|q)<;>contradiction];exact⟨leTB (l:=[]) xU,rfl⟩
theorem dv (K:Nat)(w:Wp)(n:Nat)(R:List<|List FV)(ok:OkW K w)(a:Int):AC rc 67 [aWk,ci a] (oWk w n R) (tSd (lookW w a).1) (oWk' (lookW w a).2 n R):=by
 have hh:=c_pHead w.s a w.f ok.h (by have:=ok.f0;omega) (by have:=ok.f1;omega)
 have e:lookW w a=if (xw w.s a w.f).1.2.2≠0 then((noS,(xw w.s a w.f).1.2.2),⟨(xw w.s a w.f).2,w.f⟩)
  else((⟨(xw w.s a w.f).1.1.1,(xw w.s a w.f).1.1.2,cellOf (xw w.s a w.f).2.C (xw w.s a w.f).1.1.1⟩,0),⟨(xw w.s a w.f).2,(xw w.s a w.f).1.2.1⟩):=rfl
 rw[e];generalize xw w.s a w.f=z at*;obtain⟨⟨⟨hd,xs⟩,zf,ze⟩,zs⟩:=z;have hc:=vN zs hd;dsimp only at*;refine acv (v67 ..) ?_;refine⟨(hd,xs,zf,ze,zs),hh,zZ (λq=>?_) λq=>?_⟩
 .rw[oX q];exact⟨ZP (xs:=[(true,[.int .i64 0,.N,.int .i64 0,.int .i64 0,.int .i64 0,.int .i64 0,.int .i64 0]),(false,[.int .i64 ze])]) (ys:=[(true,[.int .i64 0,.sl false 1<|IR [],.int .i64 0,.int .i64 0,.int .i64 0,.int .i64 0,.int .i64 0]),(false,[.int .i64 ze])]) ⟨⟨rfl,.refl _,.N 1,.refl _,.refl _,.refl _,.refl _,.refl _,trivial⟩,⟨rfl,.refl _⟩,trivial⟩,rfl⟩
 .rw[oV λw=>w q];exact⟨_,_,_,_,_,_,hc,.refl _,rfl⟩
theorem c_wfull (K:Nat)(w:Wp)(n:Nat)(R:List<|List FV)(ok:OkW K w)(a:Int):AC rc 102 [aWk,ci a] (oWk w n R) (tTE (yg w a).1) (oWk' (yg w a).2 n R):=by
 have hh:=Yv w.s a w.f ok.h (by have:=ok.f0;omega) (by have:=ok.f1;omega);have e:yg w a=(((zQ w.s a w.f).1.1,(zQ w.s a w.f).1.2.2),⟨(zQ w.s a w.f).2,if (zQ w.s a w.f).1.2.2=0 then(zQ w.s a w.f).1.2.1 else w.f⟩):=rfl
 rw[e];generalize zQ w.s a w.f=z at*;obtain⟨⟨t,zf,ze⟩,zs⟩:=z;dsimp only at*;refine acv (v102 ..) ?_;refine⟨(t,zf,ze,zs),hh,zB (λq=>?_) λq=>?_⟩
 .rw[oX q];exact rrl
 .rw[oV q];exact rrl
theorem ZC (s:Hp)(ok:OkH s)(lv:Int):AC rc 12 [aH 0,ci lv] (oH s) (t2 (zD s lv).1) (oH' (zD s lv).2):=by
 have hp:=xE s ⟨4,zE [lv,0],0,0,0⟩ (by have:=ok.C;omega);refine acv (v12 ..) ?_;exact⟨zD s lv,hp,.refl _,rfl⟩
structure Rs (K:Nat)(w:Wp)(e:Int)(v:Wp):Prop where
 h:OkH v.s
 f0:0<=v.f
 f1:v.f<=w.f
 mv:Mv true w.s v.s
 n:e=0->NmB K v.s
 m:NmB (K+1048577) v.s
theorem OkW.refl {K:Nat}{w:Wp}(h:OkW K w)(e:Int):Rs K w e w:=⟨h.h,h.f0,ru _,.refl _,λ_=>h.n,by have:=h.n;unfold NmB at*;omega⟩
theorem Rs.ok {K:Nat}{w v:Wp}{e:Int}(h:Rs K w e v)(ok:OkW K w)(h0:e=0):OkW K v:=⟨h.h,h.f0,by have:=h.f1;have:=ok.f1;omega,h.n h0⟩
theorem Rs.trans {K:Nat}{w v u:Wp}{e d:Int}(h:Rs K w e v)(g:Rs K v d u):Rs K w d u:=⟨g.h,g.f0,by have:=h.f1;have:=g.f1;omega,h.mv.trans g.mv,g.n,g.m⟩
theorem Rs.same {K:Nat}{w v:Wp}{e d:Int}(h:Rs K w e v)(h0:d=0->e=0):Rs K w d v:=⟨h.h,h.f0,h.f1,h.mv,λq=>h.n<|h0 q,h.m⟩
theorem Mv.nm {s t:Hp}{K:Nat}(h:Mv false s t)(g:NmB K s):NmB K t:=by
 have h1:=h.N;have h2:=h.len.1;unfold NmB at*;rw[h1];omega
theorem OkW.mv {K:Nat}{w v:Wp}(ok:OkW K w)(h:Mv false w.s v.s)(f0:0<=v.f)(f1:v.f<=w.f)(e:Int):Rs K w e v:=
 ⟨h.ok ok.h,f0,f1,h.up,λ_=>h.nm ok.n,by have:=h.nm ok.n;unfold NmB at*;omega⟩
theorem xf {K:Nat}{w:Wp}(ok:OkW K w)(a:Int):Rs K w (lookW w a).1.2 (lookW w a).2/\Mv false w.s (lookW w a).2.s/\
  ((lookW w a).1.2=0->(lookW w a).2.f+(lookW w a).1.1.js.length+1<=w.f):=by
 have g:=uE (2*w.f.toNat+2) ⟨w.s,w.f,0⟩ a<|r6 _
 have hm:=headS_mv w.s a w.f ok.f0;have o:=headS_ok w.s a w.f ok.h ok.f0 (by have:=ok.f1;omega);have hf0:=ok.f0
 have key:(lookW w a).2.s=(xw w.s a w.f).2/\((lookW w a).1.2≠0/\(lookW w a).2.f=w.f\/(lookW w a).1.2=0/\0<=(lookW w a).2.f/\(lookW w a).2.f+(lookW w a).1.1.js.length+1<=w.f):=by
  unfold lookW;split
  next q=>exact⟨rfl,.inl ⟨q,rfl⟩⟩
  .rename_i q;refine⟨rfl,.inr ⟨rfl,?_⟩⟩;have q:(xw w.s a w.f).1.2.2=0:=zo q
   revert q;unfold xw;split
   next h=>exact λq=>absurd q h
   next h=>intro _;have:=g.2 (zo h);exact⟨this.2,this.1⟩
 obtain⟨k1,k2⟩:=key;have mv:Mv false w.s (lookW w a).2.s:=by rw[k1];exact hm
 rcases k2 with⟨q,e⟩|⟨q,e1,e2⟩
 .exact⟨ok.mv mv za za _,mv,λh=>absurd h q⟩
 .exact⟨ok.mv mv e1 za _,mv,λ_=>e2⟩
theorem m6 (t:Tm):(if validB t=true then zy t else t).sz<=t.sz:=by
 split
 next h=>exact(w6 t<|zG t h).2.2.1
 .exact r6 _
theorem Ja {K:Nat}{w:Wp}(ok:OkW K w)(a:Int):Rs K w (yg w a).1.2 (yg w a).2/\Mv false w.s (yg w a).2.s/\(yg w a).1.1.sz<=10000000:=by
 obtain⟨hm,hnn⟩:=kT w.s a w.f ok.f0;have hf0:=ok.f0;have hf1:=ok.f1;have okr:OkR ⟨w.s,w.f,0⟩:=⟨ok.h,zm,zm⟩;have g:=JH (2*w.f.toNat+2) (w.f.toNat+1) w.f (r6 _) za ⟨w.s,w.f,0⟩ a okr<|ru _
 have sz:=m6 (fulR (2*w.f.toNat+2) (w.f.toNat+1) ⟨w.s,w.f,0⟩ a).1
 have nn:(zQ w.s a w.f).1.2.2=0->(zQ w.s a w.f).1.2.1<=w.f:=by
  unfold zQ;split
  next h=>exact λq=>absurd q h
  next h=>intro _;exact g.2.1
 have zz:(zQ w.s a w.f).1.1.sz<=10000000:=by
  have g3:=g.2.2;unfold zQ;split
  .show t0.sz<=_;decide
  .show(if _ then _ else _:Tm).sz<=_
   dsimp only at g3;omega
 have e2:(yg w a).2.s=(zQ w.s a w.f).2:=rfl;have mv:Mv false w.s (yg w a).2.s:=hm;refine⟨ok.mv mv ?_ ?_ _,mv,zz⟩
 .show 0<=(if _ then _ else _:Int)
  split
  .exact hnn
  .exact hf0
 .show(if _ then _ else _:Int)<=_
  split
  next q=>exact nn q
  .exact ru _
theorem leaf_nil {k n:Int}{s:List UInt8}{l:List Tm}(h:validB (.mk k s n l)=true)(h5:k=3\/k=1):l=[]:=by
 rw[validB] at h;rcases h5 with rfl|rfl
 .simp[zq] at h;exact h.1.2
 .simp[zq] at h;exact h.1.2
def LfZ (t:Tm):Prop:=(t.k=3\/t.k=1)/\t.l=[]/\validB t=true
theorem leafZ_ok (t:Tm)(h:(xK t).2=true):LfZ (xK t).1:=by
 unfold xK at h ⊢;split
 .rename_i hv;rw[oX hv] at h;split
  .rename_i q;have so:=w6 t<|zG t hv
   have hvs:validB (zy t)=true:=by rw[wF,so.1,so.2.1<|vB hv];rfl
   refine⟨q,?_,hvs⟩;generalize zy t=z at*;obtain⟨k,s,n,l⟩:=z;exact leaf_nil hvs q
  next q=>rw[oV q] at h;cases h
 next hv=>rw[oV hv] at h;cases h
theorem LfZ.sz {t:Tm}(h:LfZ t):t.sz=1:=by
 obtain⟨k,s,n,l⟩:=t;have e:l=[]:=h.2.1;rw[e];rfl
theorem yU {K:Nat}(lv:Int):∀(l:List Int) (out:List Tm) {w:Wp},OkW K w->(∀t∈out,LfZ t)->Rs K w (zw lv l out w).1.2 (zw lv l out w).2/\Mv false w.s (zw lv l out w).2.s/\
  (zw lv l out w).1.1.length<=out.length+l.length/\(∀t∈(zw lv l out w).1.1,LfZ t)
 |[],out,w,ok,ho=>⟨ok.refl _,.refl _,by simp[zw],ho⟩
 |a::l,out,w,ok,ho=>by
  obtain⟨h1,h2,_⟩:=Ja ok a;rw[zw];split
  .exact⟨h1,h2,zb,λt ht=>by cases ht⟩
  .rename_i q;have q:(yg w a).1.2=0:=zo q
   split
   .exact⟨h1.same λ_=>q,h2,zb,λt ht=>by cases ht⟩
   .rename_i q2
    have hl:(xK (yg w a).1.1).2=true:=by
     cases e:(xK (yg w a).1.1).2 with
     |true=>rfl
     |false=>exact absurd (by unfold badZ;rw[e];rfl) q2
    have ih:=yU lv l (out++[(xK (yg w a).1.1).1]) (h1.ok ok q) (λt ht=>by
     rcases rQ.1 ht with ht|ht
     .exact ho t ht
     .rw[rJ.1 ht];exact leafZ_ok _ hl)
    refine⟨h1.trans ih.1,h2.trans ih.2.1,?_,ih.2.2.2⟩;have:=ih.2.2.1;simp only[re,r5,rt] at this ⊢;omega
theorem mq (V:Option<|List Int):∀(l:List Tm),(∀u∈l,∀s,Mv true s (encE V u s).2)->∀(f:Int) (s:Hp),Mv true s (encR V l f s).2
 |[],_,f,s=>by rw[encR];exact .refl _
 |u::l,h,f,s=>by
  have h1:=h u r7 s;rw[encR];split
  .exact h1
  .split
   .exact h1.put _
   .exact(h1.put _).trans<|mq V l (λv hv=>h v<|r9 _ hv) _ _
theorem sym_mv (s:Hp)(nm:List UInt8):Mv true s (symS s nm).2:=by
 unfold symS;split
 .exact .refl _
 .exact .names [nm] rfl (.refl s)
theorem encE_mv (V:Option<|List Int):∀(t:Tm) (s:Hp),Mv true s (encE V t s).2:=by
 refine Tm.ind λt ih=>?_;obtain⟨k,nm,n,l⟩:=t;intro s;rw[encE];split
 .exact(sym_mv s nm).put _
 .split
  .exact(Mv.refl s).put _
  .split
   .exact(Mv.refl s).put _
   .split
    .exact(Mv.refl s).put _
    .split
     .exact .refl s
     .match l with
      |[]=>rw[encL];exact .refl s
      |u::l=>
       have h1:=ih u r7 s;rw[encL];split
       .exact h1
       .split
        .exact h1.put _
        .exact h1.trans<|mq V l (λv hv=>ih v<|r9 _ hv) _ _
theorem jq (V:Option<|List Int)(s:Hp)(t:Tm):Mv true s (encS V s t).2:=by
 by_cases h:(encS V s t).1.2=0
 .unfold encS at h ⊢;split
  .exact .refl s
  .split
   next q1 q2=>rw[oV q1,oX q2] at h;exact absurd h q2
   .exact encE_mv V t s
 .obtain⟨e,he⟩:=lS V s t h;rw[he];exact .names e rfl (.refl s)
theorem Z8 (V:Option<|List Int){K:Nat}{s:Hp}(t:Tm)(ok:OkH s)(g:NmB K s):((encS V s t).1.2=0->NmB K (encS V s t).2)/\NmB (K+1048577) (encS V s t).2:=by
 have gw:=wN V t s;unfold encS;split
 .exact⟨λ_=>g,by unfold NmB at*;dsimp only;omega⟩
 .split
  next q=>refine⟨λh=>absurd h q,?_⟩;have o:=(gw.1 ok).C;obtain⟨_,d,e,h1,h2⟩:=gw;rw[oV q] at h2;rw[h1] at o ⊢;unfold NmB at*;simp only[re,rM] at*;omega
  next q=>have:=gw.nm (K:=K) (zo q) g;exact⟨λ_=>this,by unfold NmB at*;omega⟩
theorem lc {K:Nat}{w:Wp}(ok:OkW K w)(x:Int)(t:Tm):Rs K w (setW w x t).1 (setW w x t).2:=by
 have mv:=jq none w.s t;have nm:=Z8 none t ok.h ok.n;unfold setW;split
 next q=>exact⟨mv.ok ok.h,ok.f0,ru _,mv,nm.1,nm.2⟩
 next q=>have n1:=(nm.1<|zo q).set x ⟨5,(encS none w.s t).1.1,0,0,0⟩;exact⟨(mv.set x _).ok ok.h,ok.f0,ru _,mv.set x _,λ_=>n1,by unfold NmB at*;dsimp only;omega⟩
theorem OkW.fresh {K:Nat}{w:Wp}(ok:OkW K w)(lv:Int):Rs K w (zD w.s lv).1.2 ⟨(zD w.s lv).2,w.f⟩:=by
 have mv:Mv false w.s (zD w.s lv).2:=.put _<|.refl _
 exact ok.mv (v:=⟨(zD w.s lv).2,w.f⟩) mv ok.f0 (ru _) _
theorem Wv {K:Nat}{w:Wp}(ok:OkW K w)(x lv:Int)(lams:Nat)(on:List Tm):Rs K w (yP w x lv lams on).1.2 (yP w x lv lams on).2/\(yP w x lv lams on).1.1.sz=1:=by
 have h1:=ok.fresh lv;unfold yP;split
 .exact⟨h1,rfl⟩
 next q=>exact⟨h1.trans<|lc (h1.ok ok<|zo q) x _,rfl⟩
theorem YH (v:Iv)(t:Tm)(k:Int)(h:t.sz=1):(yZ v t k).1.sz=1:=by
 unfold yZ;split
 .exact h
 .split
  .rfl
  .exact h
def ones (l:List Tm):Prop:=∀t:Tm,t∈l->t.sz=1
theorem vC:∀ {l:List Tm},ones l->Tm.szs l=l.length
 |[],_=>rfl
 |t::l,h=>by
  have ih:=vC (l:=l) λu hu=>h u<|r9 _ hu
  have:=h t r7;simp only[Tm.szs,r5];omega
theorem cQ (v:Iv)(k:Int):∀(l:List Tm),ones l->ones (im1 v k l).2/\(im1 v k l).2.length<=l.length/\(im1 v k l).1.length=(im1 v k l).2.length/\ones (im1 v k l).1
 |[],_=>⟨(λt ht=>nomatch ht),r6 _,rfl,(λt ht=>nomatch ht)⟩
 |t::l,h=>by
  obtain⟨h1,h2,h3,h4⟩:=cQ v k l λu hu=>h u<|r9 _ hu
  rw[im1];split
  .refine⟨λu hu=>?_,zj,by simp[h3],λu hu=>?_⟩
   .rcases rx.1 hu with rfl|hu
    .exact YH v _ k<|h _ r7
    .exact h1 u hu
   .rcases rx.1 hu with rfl|hu
    .rfl
    .exact h4 u hu
  .exact⟨h1,zj,h3,h4⟩
theorem m8 (lv vlv k:Int):∀(l:List Tm),ones l->ones (im2 lv vlv k l).2/\(im2 lv vlv k l).2.length<=l.length/\(im2 lv vlv k l).1.length=(im2 lv vlv k l).2.length/\ones (im2 lv vlv k l).1
 |[],_=>⟨(λt ht=>nomatch ht),r6 _,rfl,(λt ht=>nomatch ht)⟩
 |t::l,h=>by
  obtain⟨h1,h2,h3,h4⟩:=m8 lv vlv k l λu hu=>h u<|r9 _ hu
  rw[im2];split
  .refine⟨λu hu=>?_,zj,by simp[h3],λu hu=>?_⟩
   .rcases rx.1 hu with rfl|hu
    .rfl
    .exact h1 u hu
   .rcases rx.1 hu with rfl|hu
    .exact h _ r7
    .exact h4 u hu
  .exact⟨h1,zj,h3,h4⟩
theorem jA {a b:List Tm}(ha:ones a)(hb:ones b):ones (a++b):=λu hu=>(rQ.1 hu).elim (λh=>ha u h) λh=>hb u h
theorem flexG_ok {K:Nat}(v:Iv)(y:Sd)(k:Int){z:(List Tm×Int)×Wp}(ok:z.1.2=0->OkW K z.2)(hv:ones v.l)(hz:ones z.1.1):
  (z.1.2=0->Rs K z.2 (Zd v y k z).1.2 (Zd v y k z).2)/\(z.1.2≠0->(Zd v y k z).1.2=z.1.2/\(Zd v y k z).2=z.2)/\(Zd v y k z).1.1.sz<=2+z.1.1.length+v.l.length:=by
 obtain⟨a1,a2,a3,_⟩:=cQ v k z.1.1 hz;obtain⟨b1,b2,b3,_⟩:=m8 y.c.a v.lv k v.l hv;unfold Zd;split
 next q=>exact⟨λh=>absurd h q,λ_=>⟨rfl,rfl⟩,by show(noT:Tm).sz<=_;have:(noT:Tm).sz=1:=rfl;omega⟩
 .rename_i q;have q:z.1.2=0:=zo q
  split
  .refine⟨λ_=>(ok q).refl _,λh=>absurd q h,?_⟩;have:=xX (.mk 4 [] y.h []) (im1 v k z.1.1).2;rw[vC a1] at this;have e:(Tm.mk 4 [] y.h []).sz=1:=rfl;dsimp only;omega
  .have hh:=Wv (ok q) y.h (zO [v.lv,y.c.a]) z.1.1.length<|(im1 v k z.1.1).1++(im2 y.c.a v.lv k v.l).1
   refine⟨λ_=>hh.1,λh=>absurd q h,?_⟩;have:=xX (yP z.2 y.h (zO [v.lv,y.c.a]) z.1.1.length<|(im1 v k z.1.1).1++(im2 y.c.a v.lv k v.l).1).1.1<|(im1 v k z.1.1).2++(im2 y.c.a v.lv k v.l).2
   rw[vC<|jA a1 b1,re] at this;have:=hh.2;dsimp only;omega
def TrG (K:Nat)(w:Wp)(z:(Tm×Int)×Wp):Prop:=Rs K w z.1.2 z.2/\z.1.1.sz<=1+100004*(w.f-z.2.f).toNat
theorem bL {K:Nat}{F:Int->Wp->(Tm×Int)×Wp}{m:Int}(hF:∀b w,OkW K w->w.f<=m->TrG K w (F b w)):∀(l:List Int) (t:Tm) {w:Wp},OkW K w->w.f<=m->
  Rs K w (wx F l t w).1.2 (wx F l t w).2/\(wx F l t w).1.1.sz<=t.sz+2*l.length+100004*(w.f-(wx F l t w).2.f).toNat
 |[],t,w,ok,_=>⟨ok.refl _,by simp[wx]⟩
 |b::l,t,w,ok,hm=>by
  obtain⟨h1,h2⟩:=hF b w ok hm;rw[wx];split
  .refine⟨h1,?_⟩;have:(noT:Tm).sz=1:=rfl;have:=t.sz_eq;dsimp only;omega
  next q=>have ok1:=h1.ok ok (zo q);obtain⟨g1,g2⟩:=bL hF l (applyF t [(F b w).1.1]) ok1 (by have:=h1.f1;omega);refine⟨h1.trans g1,?_⟩;have:=vZ t (F b w).1.1;have:=h1.f1;have:=g1.f1;simp only[r5];omega
theorem Yn (v:Iv)(N:List<|List UInt8)(x:Sd)(k:Int):(xJ v N x k).1.sz=1:=by
 unfold xJ;split
 .rfl
 .split
  .rfl
  .split
   .exact YH _ _ _ rfl
   .exact YH _ _ _ rfl
theorem jQ {l:List Tm}(h:∀t∈l,LfZ t):ones l:=λt ht=>(h t ht).sz
theorem qu {K:Nat}(v:Iv)(hv:ones v.l)(hl:v.l.length<=100000):∀(n:Nat) (a k:Int) {w:Wp},OkW K w->w.f.toNat<n->TrG K w (yz v n a k w)
 |0,_,_,_,_,h=>absurd h za
 |n+1,a,k,w,ok,hn=>by
  obtain⟨h1,_,h3⟩:=xf ok a;have hf:=ok.f0;rw[yz];generalize lookW w a=z at*;unfold nV;have n1:(noT:Tm).sz=1:=rfl;have f1:=h1.f1;split
  .exact⟨h1,zm⟩
  .rename_i q;have q:z.1.2=0:=zo q
   have ok1:=h1.ok ok q;have h3:=h3 q;have f2:=h1.f0;split
   .obtain⟨g1,g2⟩:=qu v hv hl n z.1.1.c.a (k+1) ok1 za;refine⟨h1.trans g1,?_⟩;have:=g1.f1;have e:(lamsF 1 (yz v n z.1.1.c.a (k+1) z.2).1.1).sz=1+(yz v n z.1.1.c.a (k+1) z.2).1.1.sz:=by simp only[lamsF,Tm.sz,Tm.szs];omega
    dsimp only;rw[e];omega
   .split
    .split
     .exact⟨h1.same λ_=>q,zm⟩
     .obtain⟨l1,_,l3,l4⟩:=yU (K:=K) z.1.1.c.a z.1.1.js [] ok1 (λt ht=>by cases ht);simp only[rt] at l3;have g:=flexG_ok (K:=K) v z.1.1 k (z:=zw z.1.1.c.a z.1.1.js [] z.2) (λh=>l1.ok ok1 h) hv<|jQ l4
      unfold vX;generalize zw z.1.1.c.a z.1.1.js [] z.2=y at*
      have rs:Rs K z.2 (Zd v z.1.1 k y).1.2 (Zd v z.1.1 k y).2:=by
       by_cases e:y.1.2=0
       .exact l1.trans<|g.1 e
       .rw[(g.2.1 e).1,(g.2.1 e).2];exact l1
      refine⟨h1.trans rs,?_⟩;have:=rs.f1;have:=g.2.2;omega
    .split
     .exact⟨h1.same λ_=>q,zm⟩
     .obtain⟨g1,g2⟩:=bL (K:=K) (F:=λb w=>yz v n b k w) (m:=z.2.f) (λb w o hm=>qu v hv hl n b k o<|by have:=o.f0;omega) z.1.1.js (xJ v z.2.s.N z.1.1 k).1 ok1<|ru _
      refine⟨h1.trans g1,?_⟩;rw[Yn] at g2;have:=g1.f1;omega
theorem bindG_ok {K:Nat}(x:Sd)(a:Int){z:(List Tm×Int)×Wp}(ok:z.1.2=0->OkW K z.2)(hz:ones z.1.1)(hl:z.1.1.length<=100000):
  (z.1.2=0->Rs K z.2 (Xm x a z).1 (Xm x a z).2)/\(z.1.2≠0->(Xm x a z).1=z.1.2/\(Xm x a z).2=z.2):=by
 unfold Xm;split
 next q=>exact⟨λh=>absurd h q,λ_=>⟨rfl,rfl⟩⟩
 .rename_i q;have q:z.1.2=0:=zo q
  have t:=qu ⟨x.h,x.c.a,z.1.1⟩ hz hl (z.2.f.toNat+1) a 0 (ok q) za;split
  .exact⟨λ_=>t.1,λh=>absurd q h⟩
  next q2=>exact⟨λ_=>t.1.trans<|lc (t.1.ok (ok q)<|zo q2) _ _,λh=>absurd q h⟩
theorem au {K:Nat}{w:Wp}(ok:OkW K w)(x:Sd)(a:Int)(hl:x.js.length<=100000):Rs K w (wL w x a).1 (wL w x a).2:=by
 obtain⟨l1,_,l3,l4⟩:=yU (K:=K) x.c.a x.js [] ok (λt ht=>by cases ht);simp only[rt] at l3;have g:=bindG_ok (K:=K) x a (z:=zw x.c.a x.js [] w) (λh=>l1.ok ok h) (jQ l4) za;unfold wL;by_cases e:(zw x.c.a x.js [] w).1.2=0
 .exact l1.trans<|g.1 e
 .rw[(g.2 e).1,(g.2 e).2];exact l1
theorem ii {K:Nat}{w:Wp}(ok:OkW K w)(x y:Sd):Rs K w (xD w x y).1 (xD w x y).2:=by
 obtain⟨a1,_,_,_⟩:=yU (K:=K) x.c.a x.js [] ok (λt ht=>by cases ht);unfold xD;generalize zw x.c.a x.js [] w=z at*;split
 .exact a1
 .rename_i q;have q:z.1.2=0:=zo q
  have ok1:=a1.ok ok q;obtain⟨b1,_,_,_⟩:=yU (K:=K) y.c.a y.js [] ok1 (λt ht=>by cases ht);generalize zw y.c.a y.js [] z.2=u at*;split
  .exact a1.trans b1
  .rename_i q2;have q2:u.1.2=0:=zo q2
   split
   .exact a1.trans<|b1.same λ_=>q2
   .split
    .exact a1.trans<|b1.same λ_=>q2
    .exact a1.trans<|b1.trans (Wv (b1.ok ok1 q2) _ _ _ _).1
theorem Jg {K:Nat}{w:Wp}(ok:OkW K w)(x:Sd)(a:Int):Rs K w (yd w x a).1.2 (yd w x a).2:=by
 have hm:=ZK w.s a 1;unfold yd;split
 .exact ok.refl _
 .split
  .exact ok.mv (v:=⟨(yw w.s a 1).2,w.f⟩) hm ok.f0 (ru _) _
  .split
   .exact ok.mv (v:=⟨(putS (yw w.s a 1).2 ⟨3,0,0,0,0⟩).2,w.f⟩) (hm.put _) ok.f0 (ru _) _
   .exact ok.mv (v:=⟨_,w.f⟩) ((hm.put _).put _) ok.f0 (ru _) _
theorem lN {K:Nat}{w:Wp}(ok:OkW K w)(x y:Sd)(p:Int×Int):Rs K w (xV w x y p).1.1 (xV w x y p).2/\(xV w x y p).1.2.length<=1:=by
 have h1:=Jg ok x p.1;unfold xV;split
 .exact⟨h1,sY _⟩
 .rename_i q;have q:(yd w x p.1).1.2=0:=zo q
  have h2:=Jg (h1.ok ok q) y p.2;split
  .exact⟨h1.trans h2,sY _⟩
  next q2=>exact⟨h1.trans<|h2.same λ_=>zo q2,r6 _⟩
theorem iX {K:Nat}{w:Wp}(ok:OkW K w)(p:Int×Int)(j1:(lookW w p.1).1.1.js.length<=100000)(j2:(lookW (lookW w p.1).2 p.2).1.1.js.length<=100000):Rs K w (oneW w p).1.1 (oneW w p).2/\((oneW w p).1.1=0->(oneW w p).1.2.length+(oneW w p).2.f<=w.f):=by
 obtain⟨h1,_,h3⟩:=xf ok p.1;unfold oneW;split
 next q=>exact⟨h1,λh=>absurd h q⟩
 .rename_i q;have q:(lookW w p.1).1.2=0:=zo q
  have ok1:=h1.ok ok q;have h3:=h3 q;obtain⟨g1,_,g3⟩:=xf ok1 p.2;generalize lookW w p.1=z at*;generalize lookW z.2 p.2=u at*;split
  next q2=>exact⟨h1.trans g1,λh=>absurd h q2⟩
  .rename_i q2;have q2:u.1.2=0:=zo q2
   have ok2:=g1.ok ok1 q2;have g3:=g3 q2;have b:=(h1.trans g1);have f1:=g1.f1;have f0:=g1.f0;unfold oneG;split
   .have r:=lN ok2 z.1.1 u.1.1 p;exact⟨b.trans r.1,λ_=>by have:=r.2;have:=r.1.f1;omega⟩
   .split
    .have r:=ii ok2 z.1.1 u.1.1;exact⟨b.trans r,λ_=>by have:=r.f1;simp only[rt];omega⟩
    .split
     .have r:=au ok2 z.1.1 p.2 za;exact⟨b.trans r,λ_=>by have:=r.f1;simp only[rt];omega⟩
     .split
      .have r:=au ok2 u.1.1 p.1 za;exact⟨b.trans r,λ_=>by have:=r.f1;simp only[rt];omega⟩
      .split
       .exact⟨b.same λ_=>q2,λh=>by cases h⟩
       .refine⟨b.same λ_=>q2,λ_=>?_⟩;simp only[List.length_zip];omega
theorem qE {K:Nat}{w:Wp}(ok:OkW K w)(a:Int)(h:w.f<=100000):(lookW w a).1.1.js.length<=100000:=by
 obtain⟨h1,_,h3⟩:=xf ok a;by_cases q:(lookW w a).1.2=0
 .have:=h3 q;have:=h1.f0;omega
 .unfold lookW at q ⊢;split
  .exact sY _
  next q2=>rw[oV q2] at q;exact absurd rfl q
theorem ZB {K:Nat}{w:Wp}(ok:OkW K w)(p:Int×Int)(h:w.f<=100000):Rs K w (oneW w p).1.1 (oneW w p).2/\((oneW w p).1.1=0->(oneW w p).1.2.length+(oneW w p).2.f<=w.f):=by
 by_cases q:(lookW w p.1).1.2=0
 .have h1:=(xf ok p.1).1;exact iX ok p (qE ok p.1 h)<|qE (h1.ok ok q) p.2<|by have:=h1.f1;omega
 .have e:oneW w p=(((lookW w p.1).1.2,[]),(lookW w p.1).2):=by unfold oneW;rw[oX q]
  rw[e];exact⟨(xf ok p.1).1,λh=>absurd h q⟩
theorem YO {K:Nat}:∀(n:Nat) {w:Wp} (st:List<|Int×Int),OkW K w->w.f<=100000->Rs K w (runZ n w st).1 (runZ n w st).2
 |n,w,[],ok,_=>by
  have e:runZ n w []=(0,w):=by cases n<;>rfl
  rw[e];exact ok.refl _
 |0,w,p::st,ok,_=>ok.refl _
 |n+1,w,p::st,ok,hf=>by
  rw[runZ];split
  .exact ok.refl _
  .rename_i q;have ok1:OkW K ⟨w.s,w.f-1⟩:=⟨ok.h,by have:=ok.f0;dsimp only;omega,by have:=ok.f1;dsimp only;omega,ok.n⟩;have h1:=(ZB ok1 p zm).1;have up:∀ {e:Int} {v:Wp},Rs K ⟨w.s,w.f-1⟩ e v->Rs K w e v:=λr=>⟨r.h,r.f0,by have:=r.f1;dsimp only at this;omega,r.mv,r.n,r.m⟩;split
   .exact up h1
   next q2=>have:=h1.f1;dsimp only at this;exact up<|h1.trans<|YO n _ (h1.ok ok1<|zo q2) za
def ixQ (p:Tm->Bool):List Tm->Nat->Int
 |[],_=> -1
 |t::l,i=>if p t=true then(i:Int) else ixQ p l<|i+1
theorem nQ (p:Tm->Bool):∀(l:List Tm) (i:Nat),decide (ixQ p l i>=0)=l.any p
 |[],_=>rfl
 |t::l,i=>by
  rw[ixQ,List.any_cons];split
  next h=>rw[h];simp
  next h=>rw[nQ p l,show p t=false by simpa using h,tS]
abbrev obQ (t:Tm):AObj:=.arr 4 [cT t]
theorem aF (a o:Tm):AC rc 104 [aT a,.c<|.a<|.ep 0 4 0 0] [obQ o] (cb<|lfZ a o) [obQ o]:=by
 have h:=ft a o;obtain⟨k,s,n,l⟩:=a;obtain⟨k',s',n',l'⟩:=o;refine acv (v104 k s n (FTs l) k' s' n' (FTs l') _ _) ?_;exact⟨_,h,.refl _,rfl⟩
theorem l_ixQ (o:Tm)(b:List Tm):∀a:List Tm,(a++b).length<=B->
  RPt rc 66 2 (ci<|ixQ (λu=>lfZ u o) b a.length) [.arz 4<|FTs<|a++b,obQ o] 1 ⟨[(0,.c<|.a<|.osl 0 4 0 (a++b).length),(1,.c<|.fn (.func 104) [] [(false,[.ep 1 4 0 0])]),(7,ci ((a++b).length:Int)),(8,ci (a.length:Int))],[(0,.arz 4<|FTs<|a++b),(1,obQ o)],2⟩:=by
 induction b with
 |nil=>
  intro a hs;obtain⟨ok,os,on,ol⟩:=o;refine rpv (kW ..) ?_;exact bF zb rrl
 |cons t b ihb=>
  intro a hs;have h3:=ltI' a t b;have h1:=aF t o;have h2:=ihb (a++[t]) (zo hs);rw[rh,t9,show(((a++[t]).length:Nat):Int)=(a.length:Int)+1 by simp,show(a++[t]).length=a.length+1 by simp] at h2;rw[ixQ];simp only[re,r5,B] at hs;have h4:(a.length:Int)<((a++t::b).length:Int):=by simp only[re,r5];omega
  have em:=XI a t b;obtain⟨ok,os,on,ol⟩:=o;refine rpv (kW ..) ?_;rw[w64 za za];refine bT h4 ⟨by simp only[re,r5];omega,⟨by rw[rB];omega,by rw[rB,em,midI,sH,ro<|by rw[Xb];exact r6 _],rfl⟩,lfZ t<|.mk ok os on ol,by rw[rB,Kc];exact h1,zu (λh=>?_) λh=>?_⟩
  .rw[oX h];exact rrl
  .rw[oV<|by rw[h];simp];exact h2
theorem c_anyQ (o:Tm)(l:List Tm)(hl:l.length<=B):AC rc 40 [.c<|.a<|.osl 0 4 0 l.length,.c<|.fn (.func 104) [] [(false,[.ep 1 4 0 0])]] [.arz 4<|FTs l,obQ o] (cb<|l.any λu=>lfZ u o) [.arz 4<|FTs l,obQ o]:=by
 have h:AC rc 66 [.c<|.a<|.osl 0 4 0 l.length,.c<|.fn (.func 104) [] [(false,[.ep 1 4 0 0])]] [.arz 4<|FTs l,obQ o] (ci<|ixQ (λu=>lfZ u o) l 0) [.arz 4<|FTs l,obQ o]:=by
  have:=l_ixQ o l [] hl;obtain⟨ok,os,on,ol⟩:=o;refine acv (dk ..) ?_;exact this
 have e:=nQ (λu=>lfZ u o) l 0;obtain⟨ok,os,on,ol⟩:=o;refine acv (fe ..) ?_;exact⟨_,h,by rw[<-e];exact .refl _,rfl⟩
theorem c_anyQN (o:Tm):AC rc 40 [.c<|qf .N,.c<|.fn (.func 104) [] [(false,[.ep 0 4 0 0])]] [obQ o] (cb false) [obQ o]:=by
 have hh:AC rc 40 [aL [],.c<|.fn (.func 104) [] [(false,[.ep 0 4 0 0])]] [obQ o] (cb false) [obQ o]:=by
  have h:AC rc 66 [aL [],.c<|.fn (.func 104) [] [(false,[.ep 0 4 0 0])]] [obQ o] (ci (-1)) [obQ o]:=by
   obtain⟨ok,os,on,ol⟩:=o;refine acv (v66_F104 ..) ?_;refine⟨rfl,rpv (dh ..) ?_⟩;exact bF (by simp[FTs]) rrl
  obtain⟨ok,os,on,ol⟩:=o;refine acv (v40_F104 ..) ?_;exact⟨_,h,.refl _,rfl⟩
 exact hh.args ⟨.c _ _<|.a _ _<|.fz _ _ xU,.refl _,trivial⟩
abbrev tLs (x:List Tm×Int):TV:=.tup [(false,[qf<|.sl false 4<|FTs x.1]),(false,[qi x.2])]
theorem leLs (e:Int):TV.Le (.tup [(false,[qf .N]),(false,[qi e])]) (tLs ([],e)):=
 ZP (xs:=[(false,[.N]),(false,[.int .i64 e])]) (ys:=[(false,[.sl false 4<|FTs []]),(false,[.int .i64 e])]) ⟨⟨rfl,xU,trivial⟩,⟨rfl,.refl _⟩,trivial⟩
abbrev wkH (w:Wp)(n:Nat)(R:List<|List FV):AHeap:=[(0,wk3 1 10 w.f n),(1,hp6 7 8 9 5 w.s),(2,.gone),(3,.gone),(4,.gone),(5,.mapz<|NM w.s.N 0),(6,.gone),(7,.arz 5<|CR w.s.C),(8,.arz 7<|TR w.s.T),(9,.arz 1<|NR w.s.N),(10,.arz 2 R)]
abbrev aIs (l:List Int):TV:=.c<|qf<|.sl false 1<|IR l
abbrev stLv (lv:Int)(l:List Int)(out:List Tm)(w:Wp)(n:Nat)(R:List<|List FV)(i:Int):St:=
 if out=[] then⟨[(0,aWk),(1,ci lv),(8,.c<|qf .N),(16,aIs l),(17,ci (l.length:Int)),(18,ci i)],wkH w n R,11⟩
 else⟨[(0,aWk),(1,ci lv),(8,.c<|.a<|.osl 11 4 0 out.length),(16,aIs l),(17,ci (l.length:Int)),(18,ci i)],wkH w n R++[(11,.arz 4<|FTs out)],12⟩
theorem bi (a:List Int)(x:Int)(b:List Int):getD (IR<|a++x::b) (toNat (a.length:Int)) []=[.int .i64 x]:=by rw[rC];exact WD a x b
theorem IR_lt (a:List Int)(x:Int)(b:List Int):(a.length:Int)<(((IR<|a++x::b).length:Nat):Int):=by rw[zF];simp;omega
theorem ug {α:Type}(l:List α)(a:α):l++[a]≠[]:=zb
theorem JV (K:Nat)(lv:Int)(n:Nat)(R:List<|List FV)(l0:List Int)(hl0:l0.length<=1000000000):∀(b pre:List Int) (out:List Tm) (w:Wp),l0=pre++b->out.length<=pre.length->OkW K w->
  RPt rc 87 7 (tLs (zw lv b out w).1) (oWk' (zw lv b out w).2 n R) 1 (stLv lv l0 out w n R (pre.length:Int))
 |[],pre,out,w,hl,_,ok=>by
  rw[rp] at hl;subst hl;unfold stLv;by_cases hn:out=[]
  .subst hn;rw[oX rfl];refine rpv (v87_1a ..) ?_;exact bF za ⟨leLs 0,rfl⟩
  .rw[oV hn];refine rpv (v87_1b ..) ?_;refine bF za ⟨⟨rfl,by rw[zq];omega⟩,?_,rfl⟩;rw[sH,ro<|by rw[zq];exact r6 _];exact .refl _
 |a::b,pre,out,w,hl,ho,ok=>by
  have hF:=c_wfull K w n R ok a;obtain⟨g1,_,g3⟩:=Ja ok a
  have eA:zw lv (a::b) out w=if (yg w a).1.2≠0 then(([],(yg w a).1.2),(yg w a).2)
   else if badZ lv out (yg w a).1.1=true then(([],171),(yg w a).2) else zw lv b (out++[(xK (yg w a).1.1).1]) (yg w a).2:=rfl
  have hm:getD (IR l0) (toNat (pre.length:Int)) []=[.int .i64 a]:=by rw[hl];exact bi pre a b
  have h3:(pre.length:Int)<(((IR l0).length:Nat):Int):=by rw[hl];exact IR_lt pre a b
  have h4:(pre.length:Int)<((l0.length:Nat):Int):=by rw[zF] at h3;exact h3
  have next:=λ(o:List Tm) (v:Wp) (h1:o.length<=pre.length+1) (h2:OkW K v)=>JV K lv n R l0 hl0 b (pre++[a]) o v (by rw[hl];simp) (zo h1) h2;rw[show(((pre++[a]).length:Nat):Int)=(pre.length:Int)+1 by simp] at next;rw[eA];have okn:=λh=>g1.ok ok h;generalize yg w a=z at*;obtain⟨⟨t,e⟩,v⟩:=z;dsimp only at hF g3 okn ⊢;have hleaf:=c_hLeaf t (by simp only[SZ];omega);have eb:badZ lv out t=(!(xK t).2||((xK t).1.k==1&&decide ((xK t).1.n<=lv))||out.any λx=>lfZ x (xK t).1):=rfl;generalize xK t=y at*;obtain⟨y1,y2⟩:=y;dsimp only at hleaf eb ⊢;have hany:=c_anyQ y1 out (by simp only[B];omega);have hnil:=c_anyQN y1;unfold stLv at next ⊢;have i1:e≠0->(if e≠0 then(([],e),v) else if badZ lv out t=true then(([],171),v) else zw lv b (out++[y1]) v)=(([],e),v):=λh=>oX h
  have i2:e=0->badZ lv out t=true->(if e≠0 then(([],e),v) else if badZ lv out t=true then(([],171),v) else zw lv b (out++[y1]) v)=(([],171),v):=λh g=>by rw[oV λw=>w h,oX g]
  have i3:e=0->badZ lv out t=false->(if e≠0 then(([],e),v) else if badZ lv out t=true then(([],171),v) else zw lv b (out++[y1]) v)=zw lv b (out++[y1]) v:=λh g=>by rw[oV λw=>w h,oV<|by rw[g];simp]
  generalize (if e≠0 then(([],e),v) else if badZ lv out t=true then(([],171),v) else zw lv b (out++[y1]) v)=Z at*
  have take:e=0->badZ lv out t=false->RPt rc 87 7 (tLs Z.1) (oWk' Z.2 n R) 1
    ⟨[(0,aWk),(1,ci lv),(8,.c<|.a<|.osl 11 4 0<|out.length+1),(16,aIs l0),(17,ci (l0.length:Int)),(18,ci<|(pre.length:Int)+1)],wkH v n R++[(11,.arz 4<|FTs out++[FT4 y1])],12⟩:=λh0 h=>by
   have:=next (out++[y1]) v zj (okn h0);rw[oV<|ug _ _,xB,re] at this;rw[i3 h0 h,vT];exact this
  have bad:e=0->badZ lv out t=true->TV.Le (.tup [(false,[qf .N]),(false,[qi 171])]) (tLs Z.1)/\oWk' v n R=oWk' Z.2 n R:=λh0 h=>by
   rw[i2 h0 h];exact⟨leLs 171,rfl⟩
  by_cases hn:out=[]
  .subst hn;rw[oX rfl];refine rpv (v87_1a ..) ?_;rw[hm,w64 (x:=(pre.length:Int)+1) za za];have hnb:(([]:List Tm).any λx=>lfZ x y1)=false:=rfl;refine bT h4 ⟨⟨rfl,za,h3,rfl⟩,(t,e,⟨v.s,v.f,n,R⟩),hF,zZ (λq=>?_) λq=>⟨(y1,y2),hleaf,zB (λk1=>zu (λb2=>bad q ?_) λb2=>zu (λb3=>bad q ?_) λb3=>⟨false,hnil,bN ⟨r6 _,uc za,take q ?_⟩⟩) λk1=>zu (λb2=>bad q ?_) λb2=>⟨false,hnil,bN ⟨r6 _,uc za,take q ?_⟩⟩⟩⟩
   .rw[i1 q];exact⟨leLs e,rfl⟩
   .have b2:(!y2)=true:=b2;rw[eb,b2];rfl
   .have b3:decide (y1.n<=lv)=true:=b3;have k1:y1.k=1:=k1;rw[eb,b3,k1];simp
   .have b2:(!y2)=false:=b2;have b3:decide (y1.n<=lv)=false:=b3;rw[eb,b2,b3,hnb,tv];rfl
   .have b2:(!y2)=true:=b2;rw[eb,b2];rfl
   .have b2:(!y2)=false:=b2;have k1:¬y1.k=1:=k1;rw[eb,b2,hnb,show(y1.k==1)=false by simpa using k1];rfl
  .rw[oV hn];refine rpv (v87_1b ..) ?_;rw[hm,w64 (x:=(pre.length:Int)+1) za za,ro (l:=FTs out)<|by rw[zq];exact r6 _];have room:out.length<=(FTs out).length/\zS (out.length+1) 56:=⟨by rw[zq];exact r6 _,uc za⟩;refine bT h4 ⟨⟨rfl,za,h3,rfl⟩,(t,e,⟨v.s,v.f,n,R⟩),hF,zZ (λq=>?_) λq=>⟨(y1,y2),hleaf,zB (λk1=>zu (λb2=>bad q ?_) λb2=>zu (λb3=>bad q ?_) λb3=>⟨_,hany,zu (λh=>bad q ?_) λh=>⟨r6 _,room,take q ?_⟩⟩) λk1=>zu (λb2=>bad q ?_) λb2=>⟨_,hany,zu (λh=>bad q ?_) λh=>⟨r6 _,room,take q ?_⟩⟩⟩⟩
   .rw[i1 q];exact⟨leLs e,rfl⟩
   .have b2:(!y2)=true:=b2;rw[eb,b2];rfl
   .have b3:decide (y1.n<=lv)=true:=b3;have k1:y1.k=1:=k1;rw[eb,b3,k1];simp
   .rw[eb,h,Bool.or_true]
   .have b2:(!y2)=false:=b2;have b3:decide (y1.n<=lv)=false:=b3;rw[eb,b2,b3,h,tv];rfl
   .have b2:(!y2)=true:=b2;rw[eb,b2];rfl
   .rw[eb,h,Bool.or_true]
   .have b2:(!y2)=false:=b2;have k1:¬y1.k=1:=k1;rw[eb,b2,h,show(y1.k==1)=false by simpa using k1];rfl
theorem jZ (K:Nat)(lv:Int)(n:Nat)(R:List<|List FV)(l:List Int)(hl:l.length<=1000000000)(w:Wp)(ok:OkW K w):AC rc 87 [aWk,ci lv,aIs l] (oWk w n R) (tLs (zw lv l [] w).1) (oWk' (zw lv l [] w).2 n R):=by
 have h:=JV K lv n R l hl l [] [] w rfl (r6 _) ok;refine acv (v87 ..) ?_;rw[zF];exact⟨rfl,h⟩
theorem c_wset (K:Nat)(hK:K<=100000000000)(w:Wp)(n:Nat)(R:List<|List FV)(ok:OkW K w)(x:Int)(t:Tm)(hz:t.sz<=B):AC rc 92 [aWk,ci x,aT t] (oWk w n R) (ci (setW w x t).1) (oWk' (setW w x t).2 n R):=by
 have hE:=lB K hK t hz w.s ok.h ok.n;have mv:=jq none w.s t
 have e0:setW w x t=if (encS none w.s t).1.2≠0 then((encS none w.s t).1.2,⟨(encS none w.s t).2,w.f⟩)
  else((setS (encS none w.s t).2 x ⟨5,(encS none w.s t).1.1,0,0,0⟩).1,⟨(setS (encS none w.s t).2 x ⟨5,(encS none w.s t).1.1,0,0,0⟩).2,w.f⟩):=rfl
 rw[e0];generalize encS none w.s t=z at*;have hs:=c_hset z.2 x ⟨5,z.1.1,0,0,0⟩ (by have:=(mv.ok ok.h).T;omega);obtain⟨k,s,m,l⟩:=t;refine acv (v92 x k s m (FTs l) ..) ?_;refine⟨z,hE,zZ (λq=>?_) λq=>?_⟩
 .rw[oX q];exact rrl
 .rw[oV λw=>w q];exact⟨_,hs,.refl _,rfl⟩
theorem YQ:∀(n:Nat) (f:Tm),(lamsF n f).sz=n+f.sz
 |0,f=>by rw[lamsF];omega
 |n+1,f=>by
  rw[lamsF,YQ n];simp only[Tm.sz,Tm.szs];omega
theorem mZ (K:Nat)(hK:K<=100000000000)(w:Wp)(n:Nat)(R:List<|List FV)(ok:OkW K w)(x lv:Int)(lams:Nat)(on:List Tm)(hl:lams<=1000000000)(hz:Tm.szs on<=1000000000):AC rc 90 [aWk,ci x,ci lv,ci (lams:Int),aL on] (oWk w n R) (tTE (yP w x lv lams on).1) (oWk' (yP w x lv lams on).2 n R):=by
 have hf:=ZC w.s ok.h lv;have f1:=ok.fresh lv
 have e0:yP w x lv lams on=if (zD w.s lv).1.2≠0 then((noT,(zD w.s lv).1.2),⟨(zD w.s lv).2,w.f⟩)
  else((.mk 4 [] (zD w.s lv).1.1 [],(setW ⟨(zD w.s lv).2,w.f⟩ x<|lamsF lams<|applyF (.mk 4 [] (zD w.s lv).1.1 []) on).1),(setW ⟨(zD w.s lv).2,w.f⟩ x<|lamsF lams<|applyF (.mk 4 [] (zD w.s lv).1.1 []) on).2):=rfl
 rw[e0];have okn:=λh=>f1.ok ok h;generalize zD w.s lv=z at*;obtain⟨⟨a,e⟩,zs⟩:=z;dsimp only at*;have hon:=Tm.szs_length on;have ha:=(wX (.mk 4 [] a []) on<|by simp only[Tm.l,rt];omega).args (args:=[.agg [qi 4,qf<|.str [],qi a,qf .N],aL on]) ⟨leT xU,.refl _,trivial⟩;have hl2:=Yw lams (applyF (.mk 4 [] a []) on) za;have hsz:=xX (.mk 4 [] a []) on;have e1:(Tm.mk 4 [] a []).sz=1:=rfl;have hset:=λh=>c_wset K hK ⟨zs,w.f⟩ n R (okn h) x (lamsF lams<|applyF (.mk 4 [] a []) on) (by rw[YQ];simp only[B];omega);refine acv (v90 x lv (lams:Int) (FTs on) ..) ?_;refine⟨(a,e,zs),hf,zZ (λq=>?_) λq=>?_⟩
 .rw[oX q];exact⟨noTE e,rfl⟩
 .rw[oV λw=>w q];exact⟨_,ha,_,hl2,((setW ⟨zs,w.f⟩ x<|lamsF lams<|applyF (.mk 4 [] a []) on).1,⟨(setW ⟨zs,w.f⟩ x<|lamsF lams<|applyF (.mk 4 [] a []) on).2.s,(setW ⟨zs,w.f⟩ x<|lamsF lams<|applyF (.mk 4 [] a []) on).2.f,n,R⟩),hset q,leTE (l:=[]) xU,rfl⟩
abbrev aIv (v:Iv):TV:=.agg [.a<|.ep 0 3 0 0,qi v.x,qi v.lv,qf<|.sl false 4<|FTs v.l]
abbrev obIv (v:Iv):AObj:=.arr 4 [[.a<|.ep 0 3 0 0,qi v.x,qi v.lv,qf<|.sl false 4<|FTs v.l]]
abbrev zT4:AObj:=.arr 4 [[qi 0,qf<|.str [],qi 0,qf .N]]
abbrev tTB (x:Tm×Bool):TV:=.tup [(true,cT x.1),(false,[qf<|.bool x.2])]
abbrev wkI (w:Wp)(n:Nat)(R:List<|List FV):AHeap:=[(0,wk3 1 6 w.f n),(1,hp6 2 3 4 5 w.s),(2,.arz 5<|CR w.s.C),(3,.arz 7<|TR w.s.T),(4,.arz 1<|NR w.s.N),(5,.mapz<|NM w.s.N 0),(6,.arz 2 R)]
def aW (v:Iv)(t out:Tm)(k:Int)(b:List Tm):Tm×Bool:=
 match ixZ out b with
 |some r=>(bndT<|k+r,true)
 |none=>(t,t.k==1&&decide (t.n<=v.lv))
theorem bz (v:Iv)(t out:Tm)(k:Int)(w:Wp)(n:Nat)(R:List<|List FV)(hk0:0<=k)(hk1:k<=1000000000)(hl:v.l.length<=1000000000):∀(b pre:List Tm),v.l=pre++b->
  RPt rc 113 7 (tTB<|aW v t out k b) (oWk w n R) 1 ⟨[(2,ci k),(3,.c<|.a<|.ep 7 4 0 0),(4,.c<|.a<|.ep 8 4 0 0),(6,.c<|.a<|.ep 9 4 0 0),(8,.c<|.a<|.ep 10 4 0 0),(31,aL v.l),(32,ci (v.l.length:Int)),(33,ci (pre.length:Int))],wkI w n R++[(7,obIv v),(8,.arr 4 [cT t]),(9,zT4),(10,.arr 4 [cT out])],11⟩
 |[],pre,hp=>by
  rw[rp] at hp;have e:aW v t out k []=(t,t.k==1&&decide (t.n<=v.lv)):=rfl;rw[e];obtain⟨tk,ts,tn,tl⟩:=t;obtain⟨ok,os,on,ol⟩:=out;refine rpv (oC ..) ?_;refine bF (by rw[hp];omega)<|zu (λh=>?_) λh=>?_
  .have h:(tk==1)=true:=h;simp only[Tm.k,Tm.n];rw[h,sr];exact rrl
  .have h:(tk==1)=false:=h;simp only[Tm.k,Tm.n];rw[h,sQ];exact rrl
 |u::b,pre,hp=>by
  have ih:=bz v t out k w n R hk0 hk1 hl b (pre++[u]) (by rw[hp];simp);rw[show(((pre++[u]).length:Nat):Int)=(pre.length:Int)+1 by simp] at ih;have hlen:v.l.length=pre.length+(b.length+1):=by rw[hp];simp
  have em:getD (FTs v.l) (toNat (pre.length:Int)) []=FT u:=by rw[hp];exact midI pre u b
  have h3:((pre.length:Nat):Int)<(((FTs v.l).length:Nat):Int):=by rw[zq];omega
  have hs:=ft u out;have hb:=ju<|k+(b.length:Int)
  have e:aW v t out k (u::b)=if lfZ u out=true then(bndT<|k+(b.length:Int),true) else aW v t out k b:=by
   unfold aW;rw[ixZ];cases lfZ u out<;>rfl
  rw[e];generalize lfZ u out=c at*
  have ww:wrap .i64 (wrap .i64 (wrap .i64 (k+(((FTs v.l).length:Nat):Int))-1)-(pre.length:Int))=k+(b.length:Int):=by
   rw[zq,w64 (x:=k+(v.l.length:Int)) za za,w64 (x:=k+(v.l.length:Int)-1) za za,w64 za za];omega
  obtain⟨tk,ts,tn,tl⟩:=t;obtain⟨ok,os,on,ol⟩:=out;refine rpv (oC ..) ?_;rw[em,ww,w64 (x:=(pre.length:Int)+1) za za];refine zu (λ_=>⟨⟨rfl,za,h3,uI u⟩,c,by rw[vP];exact hs,zu (λh=>?_) λh=>?_⟩) (λh=>absurd (ri h) za)
  .rw[oX h];exact⟨rfl,_,hb,.refl _,rfl⟩
  .rw[oV<|by rw[h];simp];exact ih
theorem J2 (v:Iv)(t:Tm)(k:Int)(w:Wp)(n:Nat)(R:List<|List FV)(hk0:0<=k)(hk1:k<=1000000000)(hl:v.l.length<=1000000000):AC rc 113 [aIv v,aT t,ci k] (oWk w n R) (tTB<|yZ v t k) (oWk w n R):=by
 have hl2:=bz v t (outZ t k) k w n R hk0 hk1 hl v.l [] rfl;have e:yZ v t k=if t.k=3/\t.n<k then(t,true) else aW v t (outZ t k) k v.l:=rfl
 rw[e];obtain⟨tk,ts,tn,tl⟩:=t;refine acv (v113 v.x v.lv (FTs v.l) tk ts tn (FTs tl) k ..) ?_;unfold w113_0;rw[zq];refine zB (λh3=>zu (λh4=>?_) λh4=>zB (λ_=>⟨rfl,?_⟩) λh=>absurd h3 h) λh3=>zB (λh=>absurd h h3) λ_=>⟨rfl,?_⟩
 .have h4:=rA h4;rw[oX ⟨h3,h4⟩];exact rrl
 .have h4:=ri h4;rw[oV λq=>h4 q.2];have eo:outZ (.mk tk ts tn tl) k=.mk tk ts (wr<|tn-k) tl:=oX h3;rw[eo] at hl2 ⊢;exact hl2
 .rw[oV λq=>h3 q.1];have eo:outZ (.mk tk ts tn tl) k=.mk tk ts tn tl:=oV h3;rw[eo] at hl2 ⊢;exact hl2
theorem c_wrigid (v:Iv)(x:Sd)(k:Int)(w:Wp)(n:Nat)(R:List<|List FV)(hk0:0<=k)(hk1:k<=1000000000)(hl:v.l.length<=1000000000):AC rc 106 [aIv v,aSd x,ci k] (oWk w n R) (tTB<|xJ v w.s.N x k) (oWk w n R):=by
 have hn:=oy w.s x.c.a;have h1:=(J2 v (.mk 1 [] x.c.a []) k w n R hk0 hk1 hl).args (args:=[aIv v,.agg [qi 1,qf<|.str [],qi x.c.a,qf .N],ci k]) ⟨.refl _,leT xU,.refl _,trivial⟩;have h2:=J2 v (bndT x.c.a) k w n R hk0 hk1 hl;have hb:=ju x.c.a
 have e:xJ v w.s.N x k=if x.c.t=0 then(.mk 0 (nameOf w.s.N x.c.a) 0 [],true) else if x.c.t=2 then(.mk 2 [] x.c.a [],true)
  else if x.c.t=1 then yZ v (.mk 1 [] x.c.a []) k else yZ v (bndT x.c.a) k:=rfl
 rw[e];refine acv (v106 v.x v.lv (FTs v.l) ..) ?_;refine zB (λe0=>⟨_,hn,?_⟩) λe0=>zB (λe2=>?_) λe2=>zB (λe1=>⟨_,h1,?_⟩) λe1=>⟨_,hb,_,h2,?_⟩
 .rw[oX e0];exact⟨leTB (l:=[]) xU,rfl⟩
 .rw[oV e0,oX e2];exact⟨leTB (l:=[]) xU,rfl⟩
 .rw[oV e0,oV e2,oX e1];exact rrl
 .rw[oV e0,oV e2,oV e1];exact rrl
abbrev fxW (v:Iv)(y:Sd)(w:Wp)(n:Nat)(R:List<|List FV):AHeap:=wkH w n R++[(11,obIv v),(12,.arr 7 [[qi y.h,qf<|.sl false 1<|IR y.js,qi y.c.t,qi y.c.a,qi y.c.b,qi y.c.c,qi y.c.d]]),(13,zT4)]
abbrev fxT (v:Iv)(y:Sd)(w:Wp)(n:Nat)(R:List<|List FV)(k:Int)(ls on im l:List Tm)(a b c:Nat)(j:Int):St:=
 if on=[] then⟨[(2,ci k),(3,.c<|.a<|.ep 11 4 0 0),(4,.c<|.a<|.ep 12 7 0 0),(6,.c<|.a<|.ep 13 4 0 0),(8,aL ls),(10,ci y.c.a),(11,.c<|qf .N),(12,.c<|qf .N),(a,aL l),(b,ci (l.length:Int)),(c,ci j)],fxW v y w n R,14⟩
 else⟨[(2,ci k),(3,.c<|.a<|.ep 11 4 0 0),(4,.c<|.a<|.ep 12 7 0 0),(6,.c<|.a<|.ep 13 4 0 0),(8,aL ls),(10,ci y.c.a),(11,.c<|.a<|.osl 14 4 0 on.length),(12,.c<|.a<|.osl 15 4 0 im.length),(a,aL l),(b,ci (l.length:Int)),(c,ci j)],fxW v y w n R++[(14,.arz 4<|FTs on),(15,.arz 4<|FTs im)],16⟩
theorem leNs:TV.Le (.c<|qf .N) (aL []):=.c _ _<|.a _ _<|.fz _ _ xU
abbrev hgZ (v:Iv)(y:Sd)(w:Wp)(m:Nat)(on im:List Tm):(Tm×Int)×Wp:=
 ((applyF (yP w y.h (zO [v.lv,y.c.a]) m on).1.1 im,(yP w y.h (zO [v.lv,y.c.a]) m on).1.2),(yP w y.h (zO [v.lv,y.c.a]) m on).2)
theorem bW (K:Nat)(hK:K<=100000000000)(v:Iv)(y:Sd)(w:Wp)(n:Nat)(R:List<|List FV)(ok:OkW K w)(k:Int)(hk0:0<=k)(hk1:k<=1000000000)(ls:List Tm)(hls:ls.length<=10000000)(hl:v.l.length<=10000000)(hv:ones v.l):
  ∀(b pre on im:List Tm),v.l=pre++b->on.length=im.length->ones on->ones im->on.length+b.length<=100000000->
  RPt rc 105 7 (tTE (hgZ v y w ls.length (on++(im2 y.c.a v.lv k b).1)<|im++(im2 y.c.a v.lv k b).2).1) (oWk' (hgZ v y w ls.length (on++(im2 y.c.a v.lv k b).1)<|im++(im2 y.c.a v.lv k b).2).2 n R) 5 (fxT v y w n R k ls on im v.l 86 87 88 (pre.length:Int))
 |[],pre,on,im,hp,ho,o1,o2,hz=>by
  rw[rp] at hp;have e1:(im2 y.c.a v.lv k []).1=[]:=rfl;have e2:(im2 y.c.a v.lv k []).2=[]:=rfl;rw[e1,e2,rp,rp];simp only[rt] at hz;have hh:=mZ K hK w n R ok y.h (zO [v.lv,y.c.a]) ls.length on za (by rw[vC o1];omega);have hsz:=(Wv ok y.h (zO [v.lv,y.c.a]) ls.length on).2;unfold hgZ;generalize yP w y.h (zO [v.lv,y.c.a]) ls.length on=z at*;obtain⟨⟨t,e⟩,u⟩:=z;dsimp only at hsz hh ⊢;have hll:t.l.length<=1:=by have:=t.sz_eq;have:=Tm.szs_length t.l;omega
  have ha:=wX t im za;unfold fxT;by_cases hn:on=[]
  .subst hn;have:im=[]:=rk ho.symm;subst this;rw[oX rfl];refine rpv (mr ..) ?_;refine bF (by rw[hp];omega) ⟨rfl,?_⟩;rw[zq];exact⟨(t,e,⟨u.s,u.f,n,R⟩),hh.args ⟨.refl _,.refl _,.refl _,.refl _,leNs,trivial⟩,_,ha.args ⟨.refl _,leNs,trivial⟩,.refl _,rfl⟩
  .rw[oV hn];refine rpv (lE ..) ?_;refine bF (by rw[hp];omega) ⟨rfl,⟨rfl,by rw[zq];omega⟩,?_⟩;rw[zq,sH,ro (l:=FTs on)<|by rw[zq];exact r6 _,sH,ro (l:=FTs im)<|by rw[zq];exact r6 _];exact⟨(t,e,⟨u.s,u.f,n,R⟩),hh,⟨rfl,by rw[zq];omega⟩,_,ha,.refl _,rfl⟩
 |t::b,pre,on,im,hp,ho,o1,o2,hz=>by
  have hlen:v.l.length=pre.length+(b.length+1):=by rw[hp];simp
  have em:getD (FTs v.l) (toNat (pre.length:Int)) []=FT t:=by rw[hp];exact midI pre t b
  have h3:((pre.length:Nat):Int)<(((FTs v.l).length:Nat):Int):=by rw[zq];omega
  have ek:FV.I (getD (FT t) 0 FV.N)=t.k:=by cases t;rfl
  have en:FV.I (getD (FT t) 2 FV.N)=t.n:=by cases t;rfl
  have t1:t.sz=1:=hv t (by rw[hp];simp);simp only[r5] at hz;have hb:=ju<|k+(b.length:Int)
  have ww:wrap .i64 (wrap .i64 (wrap .i64 (k+(((FTs v.l).length:Nat):Int))-1)-(pre.length:Int))=k+(b.length:Int):=by
   rw[zq,w64 (x:=k+(v.l.length:Int)) za za,w64 (x:=k+(v.l.length:Int)-1) za za,w64 za za];omega
  have nx:=λ(on' im':List Tm) h1 h2 h3 h4=>bW K hK v y w n R ok k hk0 hk1 ls hls hl hv b (pre++[t]) on' im' (by rw[hp];simp) h1 h2 h3 h4;rw[show(((pre++[t]).length:Nat):Int)=(pre.length:Int)+1 by simp] at nx;have i1:y.c.a>v.lv/\t.k=1/\t.n<=y.c.a->(im2 y.c.a v.lv k<|t::b).1=t::(im2 y.c.a v.lv k b).1/\(im2 y.c.a v.lv k<|t::b).2=bndT (k+(b.length:Int))::(im2 y.c.a v.lv k b).2:=λh=>by rw[im2,oX h];exact⟨rfl,rfl⟩
  have i2:¬(y.c.a>v.lv/\t.k=1/\t.n<=y.c.a)->im2 y.c.a v.lv k (t::b)=im2 y.c.a v.lv k b:=λh=>by rw[im2,oV h]
  have one1:∀(l:List Tm) (u:Tm),ones l->u.sz=1->ones (l++[u]):=λl u h1 h2=>jA h1 (λx hx=>by rw[rJ.1 hx];exact h2)
  have skip:¬(y.c.a>v.lv/\t.k=1/\t.n<=y.c.a)->RPt rc 105 7 (tTE (hgZ v y w ls.length (on++(im2 y.c.a v.lv k<|t::b).1)<|im++(im2 y.c.a v.lv k<|t::b).2).1) (oWk' (hgZ v y w ls.length (on++(im2 y.c.a v.lv k<|t::b).1)<|im++(im2 y.c.a v.lv k<|t::b).2).2 n R) 5 (fxT v y w n R k ls on im v.l 86 87 88<|(pre.length:Int)+1):=λh=>by
   rw[i2 h];exact nx on im ho o1 o2 za
  have take:y.c.a>v.lv/\t.k=1/\t.n<=y.c.a->RPt rc 105 7 (tTE (hgZ v y w ls.length (on++(im2 y.c.a v.lv k<|t::b).1)<|im++(im2 y.c.a v.lv k<|t::b).2).1) (oWk' (hgZ v y w ls.length (on++(im2 y.c.a v.lv k<|t::b).1)<|im++(im2 y.c.a v.lv k<|t::b).2).2 n R) 5 (fxT v y w n R k ls (on++[t]) (im++[bndT<|k+(b.length:Int)]) v.l 86 87 88<|(pre.length:Int)+1):=λh=>by
   obtain⟨a1,a2⟩:=i1 h;have:=nx (on++[t]) (im++[bndT<|k+(b.length:Int)]) (by simp[ho]) (one1 _ _ o1 t1) (one1 _ _ o2 rfl) (by simp only[re,r5,rt];omega);rw[rh,rh,t9,t9,<-a1,<-a2] at this;exact this
  generalize hgZ v y w ls.length (on++(im2 y.c.a v.lv k<|t::b).1) (im++(im2 y.c.a v.lv k<|t::b).2)=Z at*;have op:FV.L 4 (.sl false 4<|FTs v.l)=true/\((0:Int)<=(pre.length:Int)/\(((pre.length:Int)<(((FTs v.l).length:Nat):Int))/\((rE (FT t):List FV)=FT t))):=⟨rfl,za,h3,uI t⟩;clear nx i1 i2;unfold fxT at skip take ⊢;rw[oV<|ug on t] at take;by_cases hn:on=[]
  .subst hn;have:im=[]:=rk ho.symm;subst this;rw[oX rfl] at skip ⊢;refine rpv (mr ..) ?_;rw[em,ek,en,w64 (x:=(pre.length:Int)+1) za za,ww];refine zu (λ_=>⟨op,zu (λc1=>zB (λc2=>zu (λc3=>⟨r6 _,uc za,rfl,_,hb,r6 _,uc za,?_⟩) λc3=>skip λq=>ri c3 q.2.2) λc2=>skip λq=>c2 q.2.1) λc1=>skip λq=>ri c1 q.1⟩) (λh=>absurd (ri h) za);rw[uI];exact take ⟨rA c1,c2,rA c3⟩
  .rw[oV hn] at skip ⊢;refine rpv (lE ..) ?_;rw[em,ek,en,w64 (x:=(pre.length:Int)+1) za za,ww];have r1:on.length<=(FTs on).length/\zS (on.length+1) 56:=⟨by rw[zq];exact r6 _,uc za⟩;have r2:im.length<=(FTs im).length/\zS (im.length+1) 56:=⟨by rw[zq];exact r6 _,uc za⟩;refine zu (λ_=>⟨op,zu (λc1=>zB (λc2=>zu (λc3=>⟨r6 _,r1,rfl,_,hb,r6 _,r2,?_⟩) λc3=>skip λq=>ri c3 q.2.2) λc2=>skip λq=>c2 q.2.1) λc1=>skip λq=>ri c1 q.1⟩) (λh=>absurd (ri h) za);rw[uI,ro (l:=FTs on)<|by rw[zq];exact r6 _,ro (l:=FTs im)<|by rw[zq];exact r6 _,vT];have:=take ⟨rA c1,c2,rA c3⟩;rw[xB,xB,re,re] at this;exact this
theorem bH (K:Nat) (hK:K<=100000000000) (v:Iv) (y:Sd) (w:Wp) (n:Nat) (R:List<|List FV) (ok:OkW K w) (k:Int) (hk0:0<=k) (hk1:k<=1000000000) (ls:List Tm) (hls:ls.length<=10000000) (hl:v.l.length<=10000000) (hv:ones v.l) (ho:ones ls) (Z:(Tm×Int)×Wp)
  (full:(im1 v k ls).1.length=ls.length->y.c.a<=v.lv->Z=((applyF (.mk 4 [] y.h []) (im1 v k ls).2,0),w))
  (part:¬((im1 v k ls).1.length=ls.length/\y.c.a<=v.lv)->Z=hgZ v y w ls.length ((im1 v k ls).1++(im2 y.c.a v.lv k v.l).1) ((im1 v k ls).2++(im2 y.c.a v.lv k v.l).2)):
  ∀(b pre on im:List Tm),ls=pre++b->on.length=im.length->on.length<=pre.length->(im1 v k ls).1=on++(im1 v k b).1->(im1 v k ls).2=im++(im1 v k b).2->
  RPt rc 105 7 (tTE Z.1) (oWk' Z.2 n R) 1 (fxT v y w n R k ls on im ls 39 40 41 (pre.length:Int))
 |[],pre,on,im,hp,hoi,hop,q1,q2=>by
  rw[rp] at hp;have hpl:ls.length=pre.length:=by rw[hp]
  have e1:(im1 v k []).1=[]:=rfl;have e2:(im1 v k []).2=[]:=rfl;rw[e1,rp] at q1;rw[e2,rp] at q2;obtain⟨a1,a2,a3,a4⟩:=cQ v k ls ho;rw[q1] at full part a3 a4;rw[q2] at full part a1 a2 a3
  have l5:¬(on.length=ls.length/\y.c.a<=v.lv)->RPt rc 105 7 (tTE Z.1) (oWk' Z.2 n R) 5 (fxT v y w n R k ls on im v.l 86 87 88 0):=λh=>by
   have:=bW K hK v y w n R ok k hk0 hk1 ls hls hl hv v.l [] on im rfl a3 a4 a1 za;rw[<-part h] at this;exact this
  have ha:=(wX (.mk 4 [] y.h []) im<|by simp only[Tm.l,rt];omega).args (args:=[.agg [qi 4,qf<|.str [],qi y.h,qf .N],aL im]) ⟨leT xU,.refl _,trivial⟩;unfold fxT at l5 ⊢;by_cases hn:on=[]
  .subst hn;have:im=[]:=rk hoi.symm;subst this;rw[oX rfl] at l5 ⊢;refine rpv (ir ..) ?_;simp only[zq];refine bF za ⟨rfl,rfl,zu (λc1=>zu (λc2=>?_) λc2=>⟨rfl,l5 λq=>ri c2 q.2⟩) λc1=>⟨rfl,l5 λq=>?_⟩⟩
   .have c1:(0:Int)=(ls.length:Int):=by have c1:((0:Int)==(ls.length:Int))=true:=c1;exact zo c1
    rw[full (by simp only[rt];omega)<|rA c2];exact⟨_,ha.args ⟨.refl _,leNs,trivial⟩,.refl _,rfl⟩
   .have c1:((0:Int)==(ls.length:Int))=false:=c1;have:=q.1;simp only[rt] at this;rw[<-this] at c1;simp at c1
  .rw[oV hn] at l5 ⊢;refine rpv (iK ..) ?_;simp only[zq];refine bF za ⟨rfl,zu (λc1=>zu (λc2=>?_) λc2=>⟨rfl,l5 λq=>ri c2 q.2⟩) λc1=>⟨rfl,l5 λq=>?_⟩⟩
   .have c1:(on.length:Int)=(ls.length:Int):=by have c1:((on.length:Int)==(ls.length:Int))=true:=c1;exact zo c1
    rw[full za<|rA c2];rw[sH,ro (l:=FTs im)<|by rw[zq];exact r6 _];exact⟨⟨by trivial,by first|omega|(rw[zq];omega)⟩,_,ha,.refl _,rfl⟩
   .have c1:((on.length:Int)==(ls.length:Int))=false:=c1;rw[q.1] at c1;simp at c1
 |t::b,pre,on,im,hp,hoi,hop,q1,q2=>by
  have hlen:ls.length=pre.length+(b.length+1):=by rw[hp];simp
  have em:getD (FTs ls) (toNat (pre.length:Int)) []=FT t:=by rw[hp];exact midI pre t b
  have h3:((pre.length:Nat):Int)<(((FTs ls).length:Nat):Int):=by rw[zq];omega
  have hi:=J2 v t k w n R hk0 hk1 za;have hb:=ju (b.length:Int)
  have ww:wrap .i64 (wrap .i64 ((((FTs ls).length:Nat):Int)-1)-(pre.length:Int))=(b.length:Int):=by
   rw[zq,w64 (x:=(ls.length:Int)-1) za za,w64 za za];omega
  have nx:=λ(on' im':List Tm) h1 h2 h3 h4=>bH K hK v y w n R ok k hk0 hk1 ls hls hl hv ho Z full part b (pre++[t]) on' im' (by rw[hp];simp) h1 h2 h3 h4;rw[show(((pre++[t]).length:Nat):Int)=(pre.length:Int)+1 by simp] at nx;have e0:im1 v k (t::b)=if (yZ v t k).2=true then(bndT (b.length:Int)::(im1 v k b).1,(yZ v t k).1::(im1 v k b).2) else im1 v k b:=rfl
  rw[e0] at q1 q2;generalize yZ v t k=z at*;obtain⟨z1,z2⟩:=z;dsimp only at q1 q2 hi
  have skip:z2=false->RPt rc 105 7 (tTE Z.1) (oWk' Z.2 n R) 1 (fxT v y w n R k ls on im ls 39 40 41<|(pre.length:Int)+1):=λh=>by
   rw[h,oV zb] at q1 q2;exact nx on im hoi zj q1 q2
  have take:z2=true->RPt rc 105 7 (tTE Z.1) (oWk' Z.2 n R) 1 (fxT v y w n R k ls (on++[bndT (b.length:Int)]) (im++[z1]) ls 39 40 41<|(pre.length:Int)+1):=λh=>by
   rw[oX h] at q1 q2;exact nx (on++[bndT (b.length:Int)]) (im++[z1]) (by simp[hoi]) zj (by rw[q1];simp) (by rw[q2];simp)
  clear nx full part;have op:FV.L 4 (.sl false 4<|FTs ls)=true/\((0:Int)<=(pre.length:Int)/\(((pre.length:Int)<(((FTs ls).length:Nat):Int))/\((rE (FT t):List FV)=FT t))):=⟨rfl,za,h3,uI t⟩;unfold fxT at skip take ⊢;rw[oV<|ug on _] at take;by_cases hn:on=[]
  .subst hn;have:im=[]:=rk hoi.symm;subst this;rw[oX rfl] at skip ⊢;refine rpv (ir ..) ?_;rw[em,w64 (x:=(pre.length:Int)+1) za za,ww,vP];exact zu (λ_=>⟨op,(z1,z2),hi,zu (λc=>⟨rfl,_,hb,r6 _,uc za,r6 _,uc za,by rw[vT,vT];exact take c⟩) λc=>skip c⟩) (λh=>absurd (ri h) za)
  .rw[oV hn] at skip ⊢;refine rpv (iK ..) ?_;rw[em,w64 (x:=(pre.length:Int)+1) za za,ww,vP];have r1:on.length<=(FTs on).length/\zS (on.length+1) 56:=⟨by rw[zq];exact r6 _,uc za⟩;have r2:im.length<=(FTs im).length/\zS (im.length+1) 56:=⟨by rw[zq];exact r6 _,uc za⟩;refine zu (λ_=>⟨op,(z1,z2),hi,zu (λc=>⟨rfl,_,hb,r6 _,r1,r6 _,r2,?_⟩) λc=>skip c⟩) (λh=>absurd (ri h) za);rw[ro (l:=FTs on)<|by rw[zq];exact r6 _,ro (l:=FTs im)<|by rw[zq];exact r6 _,vT,vT];have:=take c;rw[xB,xB,re,re] at this;exact this
theorem c_wflex (K:Nat)(hK:K<=100000000000)(v:Iv)(y:Sd)(w:Wp)(n:Nat)(R:List<|List FV)(ok:OkW K w)(k:Int)(hk0:0<=k)(hk1:k<=1000000000)(hy:y.js.length<=10000000)(hl:v.l.length<=10000000)(hv:ones v.l):
  AC rc 105 [aIv v,aSd y,ci k] (oWk w n R) (tTE (vX v y k w).1) (oWk' (vX v y k w).2 n R):=by
 have hL:=jZ K y.c.a n R y.js za w ok;obtain⟨l1,_,l3,l4⟩:=yU (K:=K) y.c.a y.js [] ok λt ht=>nomatch ht;simp only[rt] at l3;have e:vX v y k w=Zd v y k (zw y.c.a y.js [] w):=rfl;rw[e];generalize zw y.c.a y.js [] w=z at*;obtain⟨⟨ls,er⟩,u⟩:=z;dsimp only at hL l1 l3 l4
 have eG:Zd v y k ((ls,er),u)=if er≠0 then((noT,er),u)
  else if (im1 v k ls).1.length=ls.length/\y.c.a<=v.lv then((applyF (.mk 4 [] y.h []) (im1 v k ls).2,0),u)
  else hgZ v y u ls.length ((im1 v k ls).1++(im2 y.c.a v.lv k v.l).1) ((im1 v k ls).2++(im2 y.c.a v.lv k v.l).2):=rfl
 rw[eG];refine acv (v105 v.x v.lv (FTs v.l) ..) ?_;refine⟨(ls,er,⟨u.s,u.f,n,R⟩),hL,zZ (λq=>?_) λq=>⟨rfl,?_⟩⟩
 .rw[oX q];exact⟨noTE er,rfl⟩
 .rw[oV λw=>w q];have q:er=0:=q;have oku:=l1.ok ok q;have h:=bH K hK v y u n R oku k hk0 hk1 ls za hl hv (jQ l4) (if (im1 v k ls).1.length=ls.length/\y.c.a<=v.lv then((applyF (.mk 4 [] y.h []) (im1 v k ls).2,0),u) else hgZ v y u ls.length ((im1 v k ls).1++(im2 y.c.a v.lv k v.l).1)<|(im1 v k ls).2++(im2 y.c.a v.lv k v.l).2) (λh1 h2=>oX ⟨h1,h2⟩) (λh=>oV h) ls [] [] [] rfl rfl (r6 _) rfl rfl
  rw[zq];exact h
abbrev stTm (v:Iv)(l:List Int)(t:Tm)(k:Int)(w:Wp)(m:Nat)(R:List<|List FV)(i:Int):St:=
 ⟨[(2,ci k),(3,.c<|.a<|.ep 11 4 0 0),(6,.c<|.a<|.ep 12 4 0 0),(12,.c<|.a<|.ep 13 4 0 0),(81,aIs l),(82,ci (l.length:Int)),(83,ci i)],wkH w m R++[(11,obIv v),(12,zT4),(13,.arr 4 [cT t])],14⟩
theorem l8 (K:Nat) (v:Iv) (hv:ones v.l) (hl:v.l.length<=100000) (m:Nat) (R:List<|List FV) (n:Nat) (k:Int)
  (hC:∀(b:Int) (w:Wp),OkW K w->w.f.toNat<n->k+w.f<=1000000000->AC rc 91 [aIv v,ci b,ci k] (oWk w m R) (tTE (yz v n b k w).1) (oWk' (yz v n b k w).2 m R)) (l0:List Int) (hl0:l0.length<=1000000000):
  ∀(b pre:List Int) (t:Tm) (w:Wp),l0=pre++b->OkW K w->w.f.toNat<n->k+w.f<=1000000000->t.sz+2*b.length+100004*w.f.toNat<=1000000000000->
  RPt rc 91 7 (tTE (wx (λb w=>yz v n b k w) b t w).1) (oWk' (wx (λb w=>yz v n b k w) b t w).2 m R) 3 (stTm v l0 t k w m R (pre.length:Int))
 |[],pre,t,w,hp,ok,_,_,_=>by
  rw[rp] at hp;rw[wx];obtain⟨tk,ts,tn,tl⟩:=t;refine rpv (v91_3a ..) ?_;exact bF (by rw[hp];omega) rrl
 |a::b,pre,t,w,hp,ok,hn,hk,hz=>by
  have hc:=hC a w ok hn hk;obtain⟨g1,g2⟩:=qu (K:=K) v hv hl n a k ok hn;have hm:getD (IR l0) (toNat (pre.length:Int)) []=[.int .i64 a]:=by rw[hp];exact bi pre a b
  have h3:(pre.length:Int)<(((IR l0).length:Nat):Int):=by rw[hp];exact IR_lt pre a b
  have h4:(pre.length:Int)<((l0.length:Nat):Int):=by rw[zF] at h3;exact h3
  have eA:wx (λb w=>yz v n b k w) (a::b) t w=if (yz v n a k w).1.2≠0 then((noT,(yz v n a k w).1.2),(yz v n a k w).2)
   else wx (λb w=>yz v n b k w) b (applyF t [(yz v n a k w).1.1]) (yz v n a k w).2:=rfl
  rw[eA];simp only[r5] at hz;have okn:=λh=>g1.ok ok h;have f1:=g1.f1;have f0:=g1.f0;generalize yz v n a k w=z at*;obtain⟨⟨u,e⟩,x⟩:=z;dsimp only at*;have hap:=wX t [u] (by have:=t.sz_eq;have:=Tm.szs_length t.l;simp only[r5,rt];omega);have hsz:=vZ t u;have nx:=λh=>l8 K v hv hl m R n k hC l0 hl0 b (pre++[a]) (applyF t [u]) x (by rw[hp];simp) (okn h) za za za;rw[show(((pre++[a]).length:Nat):Int)=(pre.length:Int)+1 by simp] at nx;obtain⟨tk,ts,tn,tl⟩:=t;refine rpv (v91_3a ..) ?_;rw[hm,w64 (x:=(pre.length:Int)+1) za za];refine bT h4 ⟨⟨rfl,za,h3,rfl⟩,(u,e,⟨x.s,x.f,m,R⟩),hc,zZ (λq=>?_) λq=>⟨⟨rfl,r6 _⟩,_,by rw[vT];exact hap,?_⟩⟩
  .rw[oX q];exact⟨noTE e,rfl⟩
  .rw[oV λw=>w q];exact nx q
theorem fo (K:Nat)(hK:K<=100000000000)(v:Iv)(hv:ones v.l)(hl:v.l.length<=100000)(m:Nat)(R:List<|List FV):∀(n:Nat) (k:Int),0<=k->∀(a:Int) (w:Wp),OkW K w->w.f.toNat<n->k+w.f<=1000000000->
  AC rc 91 [aIv v,ci a,ci k] (oWk w m R) (tTE (yz v n a k w).1) (oWk' (yz v n a k w).2 m R)
 |0,_,_,_,_,_,h,_=>absurd h za
 |n+1,k,hk0,a,w,ok,hn,hk=>by
  have hlk:=dv K w m R ok a;obtain⟨g1,_,g3⟩:=xf ok a;have f1:=g1.f1;have f0:=g1.f0;have hf:=ok.f0;have hf2:=ok.f1;have okn:=λh=>g1.ok ok h;rw[yz];generalize lookW w a=z at*;obtain⟨⟨x,e⟩,u⟩:=z;dsimp only at*
  have eG:nV v (yz v n) k ((x,e),u)=if e≠0 then((noT,e),u)
   else if x.c.t=6 then((lamsF 1 (yz v n x.c.a (k+1) u).1.1,(yz v n x.c.a (k+1) u).1.2),(yz v n x.c.a (k+1) u).2)
   else if x.c.t=4 then(if x.h=v.x then((noT,170),u) else vX v x k u)
   else if (xJ v u.s.N x k).2=false then((noT,170),u)
   else wx (λb w=>yz v n b k w) x.js (xJ v u.s.N x k).1 u:=rfl
  rw[eG];have hfl:=dq x;have hrg:=c_wrigid v x k u m R hk0 za za;have rsz:=Yn v u.s.N x k;refine acv (v91 v.x v.lv (FTs v.l) ..) ?_;refine⟨(x.h,x.js,x.c.t,x.c.a,x.c.b,x.c.c,x.c.d,e,⟨u.s,u.f,m,R⟩),hlk,zZ (λq=>?_) λq=>?_⟩
  .rw[oX q];exact⟨noTE e,rfl⟩
  rw[oV λw=>w q];have g3:=g3 q;have okn:=okn q;refine zB (λt6=>?_) λt6=>?_
  .have t6:x.c.t=6:=t6;rw[oX t6];have ih:=fo K hK v hv hl m R n (k+1) za x.c.a u okn za za;rw[w64 za za];have hL:=Yw 1 (yz v n x.c.a (k+1) u).1.1 za;exact⟨((yz v n x.c.a (k+1) u).1.1,(yz v n x.c.a (k+1) u).1.2,⟨(yz v n x.c.a (k+1) u).2.s,(yz v n x.c.a (k+1) u).2.f,m,R⟩),ih,_,hL,.refl _,rfl⟩
  have t6:¬x.c.t=6:=t6;rw[oV t6];refine⟨_,hfl,zB (λt4=>?_) λt4=>⟨_,hfl,zB (λh=>absurd h t4) λ_=>?_⟩⟩
  .rw[oX t4];refine zB (λhx=>?_) λhx=>⟨_,hfl,zB (λ_=>?_) λh=>absurd t4 h⟩
   .have hx:x.h=v.x:=hx;rw[oX hx];exact⟨noTE 170,rfl⟩
   .have hx:¬x.h=v.x:=hx;rw[oV hx];have hF:=c_wflex K hK v x u m R okn k hk0 za za za hv;exact⟨((vX v x k u).1.1,(vX v x k u).1.2,⟨(vX v x k u).2.s,(vX v x k u).2.f,m,R⟩),hF,.refl _,rfl⟩
  .rw[oV t4];have lp:=l8 K v hv hl m R n k (λb w o h1 h2=>fo K hK v hv hl m R n k hk0 b w o h1 h2) x.js za x.js [] (xJ v u.s.N x k).1 u rfl okn za za (by rw[rsz];omega);generalize xJ v u.s.N x k=y at*;obtain⟨y1,y2⟩:=y;dsimp only at*;refine⟨(y1,y2),hrg,zu (λh=>?_) λh=>⟨rfl,?_⟩⟩
   .have h:(!y2)=true:=h;rw[oX<|zo h];exact⟨noTE 170,rfl⟩
   .have h:(!y2)=false:=h;rw[oV<|zo h,zF];exact lp
theorem mL (K:Nat)(hK:K<=100000000000)(w:Wp)(m:Nat)(R:List<|List FV)(ok:OkW K w)(x:Sd)(a:Int)(hx:x.js.length<=100000):AC rc 71 [aWk,aSd x,ci a] (oWk w m R) (ci (wL w x a).1) (oWk' (wL w x a).2 m R):=by
 have hL:=jZ K x.c.a m R x.js za w ok;obtain⟨l1,_,l3,l4⟩:=yU (K:=K) x.c.a x.js [] ok λt ht=>nomatch ht;simp only[rt] at l3;have e:wL w x a=Xm x a (zw x.c.a x.js [] w):=rfl;rw[e];have okl:=λh=>l1.ok ok h;generalize zw x.c.a x.js [] w=z at*;obtain⟨⟨ls,er⟩,u⟩:=z;dsimp only at hL l1 l3 l4 okl
 have eG:Xm x a ((ls,er),u)=if er≠0 then(er,u)
  else if (yz ⟨x.h,x.c.a,ls⟩ (u.f.toNat+1) a 0 u).1.2≠0 then((yz ⟨x.h,x.c.a,ls⟩ (u.f.toNat+1) a 0 u).1.2,(yz ⟨x.h,x.c.a,ls⟩ (u.f.toNat+1) a 0 u).2)
  else setW (yz ⟨x.h,x.c.a,ls⟩ (u.f.toNat+1) a 0 u).2 x.h (lamsF ls.length (yz ⟨x.h,x.c.a,ls⟩ (u.f.toNat+1) a 0 u).1.1):=rfl
 rw[eG];refine acv (v71 ..) ?_;refine⟨(ls,er,⟨u.s,u.f,m,R⟩),hL,zZ (λq=>?_) λq=>?_⟩
 .rw[oX q];exact rrl
 rw[oV λw=>w q];have oku:=okl q;have h0:=oku.f0;have h1:=oku.f1;have hT:=fo K hK ⟨x.h,x.c.a,ls⟩ (jQ l4) zm m R (u.f.toNat+1) 0 (ru _) a u oku za za;obtain⟨t1,t2⟩:=qu (K:=K) ⟨x.h,x.c.a,ls⟩ (jQ l4) zm (u.f.toNat+1) a 0 oku za;have okt:=λh=>t1.ok oku h;generalize yz ⟨x.h,x.c.a,ls⟩ (u.f.toNat+1) a 0 u=y at*;obtain⟨⟨t,et⟩,y2⟩:=y;dsimp only at hT t1 t2 okt ⊢;refine⟨(t,et,⟨y2.s,y2.f,m,R⟩),hT,zZ (λq2=>?_) λq2=>?_⟩
 .rw[oX q2];exact rrl
 .rw[oV λw=>w q2];have t0:=t1.f0;have hS:=c_wset K hK y2 m R (okt q2) x.h (lamsF ls.length t) (by rw[YQ];simp only[B];omega);have hlm:=Yw ls.length t za;rw[zq];exact⟨rfl,_,hlm,((setW y2 x.h<|lamsF ls.length t).1,⟨(setW y2 x.h<|lamsF ls.length t).2.s,(setW y2 x.h<|lamsF ls.length t).2.f,m,R⟩),hS,.refl _,rfl⟩
theorem mm (K:Nat)(w:Wp)(m:Nat)(R:List<|List FV)(ok:OkW K w)(x:Sd)(a:Int):AC rc 86 [aWk,aSd x,ci a] (oWk w m R) (t2 (yd w x a).1) (oWk' (yd w x a).2 m R):=by
 have hL:=c_pLift w.s a 1 ok.h;have mv:=ZK w.s a 1
 have e:yd w x a=if x.c.t=6 then((x.c.a,0),w)
  else if (yw w.s a 1).1.2≠0 then((0,(yw w.s a 1).1.2),⟨(yw w.s a 1).2,w.f⟩)
  else if (putS (yw w.s a 1).2 ⟨3,0,0,0,0⟩).1.2≠0 then((0,(putS (yw w.s a 1).2 ⟨3,0,0,0,0⟩).1.2),⟨(putS (yw w.s a 1).2 ⟨3,0,0,0,0⟩).2,w.f⟩)
  else((putS (putS (yw w.s a 1).2 ⟨3,0,0,0,0⟩).2 ⟨7,(yw w.s a 1).1.1,(putS (yw w.s a 1).2 ⟨3,0,0,0,0⟩).1.1,0,0⟩).1,
   ⟨(putS (putS (yw w.s a 1).2 ⟨3,0,0,0,0⟩).2 ⟨7,(yw w.s a 1).1.1,(putS (yw w.s a 1).2 ⟨3,0,0,0,0⟩).1.1,0,0⟩).2,w.f⟩):=rfl
 rw[e];generalize yw w.s a 1=z at*;have ok1:=mv.ok ok.h;have hp:=xE z.2 ⟨3,0,0,0,0⟩ (by have:=ok1.C;omega);have ok2:=ok1.put ⟨3,0,0,0,0⟩;generalize putS z.2 ⟨3,0,0,0,0⟩=y at*;have hq:=xE y.2 ⟨7,z.1.1,y.1.1,0,0⟩ (by have:=ok2.C;omega);generalize putS y.2 ⟨7,z.1.1,y.1.1,0,0⟩=u at*;obtain⟨⟨z1,z2⟩,zs⟩:=z;refine acv (v86 ..) ?_;refine zB (λt6=>?_) λt6=>⟨(z1,z2,zs),hL,zZ (λq=>?_) λq=>⟨y,hp,zZ (λq2=>?_) λq2=>⟨u,hq,?_⟩⟩⟩
 .have t6:x.c.t=6:=t6;rw[oX t6];exact rrl
 .have t6:¬x.c.t=6:=t6;rw[oV t6,oX q];exact rrl
 .have t6:¬x.c.t=6:=t6;rw[oV t6,oV λw=>w q,oX q2];exact rrl
 .have t6:¬x.c.t=6:=t6;rw[oV t6,oV λw=>w q,oV λw=>w q2];exact rrl
abbrev obSd (x:Sd):AObj:=.arr 7 [[qi x.h,qf<|.sl false 1<|IR x.js,qi x.c.t,qi x.c.a,qi x.c.b,qi x.c.c,qi x.c.d]]
abbrev stPr (x:Sd)(as_ bs on:List Tm)(w:Wp)(m:Nat)(R:List<|List FV)(i:Int):St:=
 if on=[] then⟨[(0,aWk),(4,.c<|.a<|.ep 11 7 0 0),(7,aL as_),(9,aL bs),(10,.c<|qf .N),(48,ci (as_.length:Int)),(49,ci i)],wkH w m R++[(11,obSd x)],12⟩
 else⟨[(0,aWk),(4,.c<|.a<|.ep 11 7 0 0),(7,aL as_),(9,aL bs),(10,.c<|.a<|.osl 12 4 0 on.length),(48,ci (as_.length:Int)),(49,ci i)],wkH w m R++[(11,obSd x),(12,.arz 4<|FTs on)],13⟩
theorem cI:∀(a b:List Tm),ones (onZ a b)/\(onZ a b).length<=a.length
 |[],_=>⟨(λt ht=>by simp[onZ] at ht),by simp[onZ]⟩
 |_::_,[]=>⟨(λt ht=>by simp[onZ] at ht),by simp[onZ]⟩
 |a::l,b::r=>by
  obtain⟨h1,h2⟩:=cI l r;rw[onZ];split
  .exact⟨jA (λt ht=>by rw[rJ.1 ht];rfl) h1,zj⟩
  .exact⟨h1,zj⟩
theorem ab (K:Nat) (hK:K<=100000000000) (x:Sd) (w:Wp) (m:Nat) (R:List<|List FV) (ok:OkW K w) (as_ bs:List Tm) (hl:as_.length<=10000000) (Z:Int×Wp)
  (full:(onZ as_ bs).length=as_.length->Z=(0,w)) (part:(onZ as_ bs).length≠as_.length->Z=((yP w x.h x.c.a as_.length<|onZ as_ bs).1.2,(yP w x.h x.c.a as_.length<|onZ as_ bs).2)):
  ∀(b pre d c on:List Tm),as_=pre++b->bs=d++c->pre.length=d.length->b.length=c.length->on.length<=pre.length->onZ as_ bs=on++onZ b c->
  RPt rc 70 7 (ci Z.1) (oWk' Z.2 m R) 3 (stPr x as_ bs on w m R (pre.length:Int))
 |[],pre,d,c,on,hp,hd,_,hc,ho,hq=>by
  rw[rp] at hp;have hpl:as_.length=pre.length:=by rw[hp]
  have e1:onZ [] c=[]:=by simp[onZ]
  rw[e1,rp] at hq;have oo:=cI as_ bs;rw[hq] at full part oo;have hh:=mZ K hK w m R ok x.h x.c.a as_.length on za (by rw[vC oo.1];omega);generalize yP w x.h x.c.a as_.length on=z at*;obtain⟨⟨t,e⟩,u⟩:=z;dsimp only at part hh;unfold stPr;by_cases hn:on=[]
  .subst hn;rw[oX rfl];refine rpv (v70_3a ..) ?_;simp only[zq];refine bF za ⟨by trivial,by trivial,zB (λc1=>?_) λc1=>⟨by trivial,(t,e,⟨u.s,u.f,m,R⟩),hh.args ⟨.refl _,.refl _,.refl _,.refl _,leNs,trivial⟩,?_⟩⟩
   .rw[full<|by simp only[rt];omega];exact rrl
   .rw[part<|by simp only[rt];omega];exact rrl
  .rw[oV hn];refine rpv (v70_3b ..) ?_;simp only[zq];refine bF za ⟨by trivial,zB (λc1=>?_) λc1=>⟨by trivial,⟨by trivial,za⟩,?_⟩⟩
   .rw[full za];exact rrl
   .rw[sH,ro (l:=FTs on)<|by rw[zq];exact r6 _,part za];exact⟨(t,e,⟨u.s,u.f,m,R⟩),hh,.refl _,rfl⟩
 |a::b,pre,d,[],on,_,_,_,hc,_,_=>by simp at hc
 |a::b,pre,d,g::c,on,hp,hd,hpd,hc,ho,hq=>by
  have hlen:as_.length=pre.length+(b.length+1):=by rw[hp];simp
  have hlen2:bs.length=d.length+(c.length+1):=by rw[hd];simp
  have em:getD (FTs as_) (toNat (pre.length:Int)) []=FT a:=by rw[hp];exact midI pre a b
  have em2:getD (FTs bs) (toNat (pre.length:Int)) []=FT g:=by rw[hpd,hd];exact midI d g c
  have h3:((pre.length:Nat):Int)<(((FTs as_).length:Nat):Int):=by rw[zq];omega
  have h4:((pre.length:Nat):Int)<(((FTs bs).length:Nat):Int):=by rw[zq];simp only[r5] at hc;omega
  have hs:=ft a g;have hb:=ju (b.length:Int)
  have ww:wrap .i64 (wrap .i64 ((((FTs as_).length:Nat):Int)-1)-(pre.length:Int))=(b.length:Int):=by
   rw[zq,w64 (x:=(as_.length:Int)-1) za za,w64 za za];omega
  have nx:=λ(on':List Tm) h1 h2=>ab K hK x w m R ok as_ bs hl Z full part b (pre++[a]) (d++[g]) c on' (by rw[hp];simp) (by rw[hd];simp) (by simp[hpd]) (zo hc) h1 h2;rw[show(((pre++[a]).length:Nat):Int)=(pre.length:Int)+1 by simp] at nx;have e0:onZ (a::b) (g::c)=(if lfZ a g=true then [bndT (b.length:Int)] else [])++onZ b c:=rfl
  rw[e0] at hq;generalize lfZ a g=q at*
  have skip:q=false->RPt rc 70 7 (ci Z.1) (oWk' Z.2 m R) 3 (stPr x as_ bs on w m R<|(pre.length:Int)+1):=λh=>by
   rw[h,oV zb,rH] at hq;exact nx on zj hq
  have take:q=true->RPt rc 70 7 (ci Z.1) (oWk' Z.2 m R) 3 (stPr x as_ bs (on++[bndT (b.length:Int)]) w m R<|(pre.length:Int)+1):=λh=>by
   rw[oX h] at hq;exact nx (on++[bndT (b.length:Int)]) zj (by rw[hq];simp)
  clear nx full part;have op:FV.L 4 (.sl false 4<|FTs as_)=true/\((0:Int)<=(pre.length:Int)/\(((pre.length:Int)<(((FTs as_).length:Nat):Int))/\((rE (FT a):List FV)=FT a))):=⟨rfl,za,h3,uI a⟩;have op2:FV.L 4 (.sl false 4<|FTs bs)=true/\((0:Int)<=(pre.length:Int)/\(((pre.length:Int)<(((FTs bs).length:Nat):Int))/\((rE (FT g):List FV)=FT g))):=⟨rfl,za,h4,uI g⟩;unfold stPr at skip take ⊢;rw[oV<|ug on _] at take;by_cases hn:on=[]
  .subst hn;rw[oX rfl] at skip ⊢;refine rpv (v70_3a ..) ?_;rw[em,em2,w64 (x:=(pre.length:Int)+1) za za,ww,vP,vP];exact zu (λ_=>⟨op,op2,q,hs,zu (λc=>⟨rfl,_,hb,r6 _,uc za,by rw[vT];exact take c⟩) λc=>skip c⟩) (λh=>absurd (ri h) za)
  .rw[oV hn] at skip ⊢;refine rpv (v70_3b ..) ?_;rw[em,em2,w64 (x:=(pre.length:Int)+1) za za,ww,vP,vP];have r1:on.length<=(FTs on).length/\zS (on.length+1) 56:=⟨by rw[zq];exact r6 _,uc za⟩;refine zu (λ_=>⟨op,op2,q,hs,zu (λc=>⟨rfl,_,hb,r6 _,r1,?_⟩) λc=>skip c⟩) (λh=>absurd (ri h) za);rw[ro (l:=FTs on)<|by rw[zq];exact r6 _,vT];have:=take c;rw[xB,re] at this;exact this
theorem c_wprune (K:Nat)(hK:K<=100000000000)(w:Wp)(m:Nat)(R:List<|List FV)(ok:OkW K w)(x y:Sd)(hx:x.js.length<=10000000)(hy:y.js.length<=10000000):AC rc 70 [aWk,aSd x,aSd y] (oWk w m R) (ci (xD w x y).1) (oWk' (xD w x y).2 m R):=by
 have h1:=jZ K x.c.a m R x.js za w ok;obtain⟨a1,_,a3,_⟩:=yU (K:=K) x.c.a x.js [] ok λt ht=>nomatch ht;simp only[rt] at a3;have h2:=λh=>jZ K y.c.a m R y.js za (zw x.c.a x.js [] w).2<|a1.ok ok h
 have b1:=λh=>(yU (K:=K) y.c.a y.js [] (a1.ok ok h) λt ht=>nomatch ht).1;have okn:=λh=>a1.ok ok h;unfold xD;generalize zw x.c.a x.js [] w=z at*;generalize zw y.c.a y.js [] z.2=u at*;obtain⟨⟨as_,e1⟩,w1⟩:=z;obtain⟨⟨bs,e2⟩,w2⟩:=u;dsimp only at*;refine acv (v70 ..) ?_;refine⟨(as_,e1,⟨w1.s,w1.f,m,R⟩),h1,zZ (λq=>?_) λq=>⟨(bs,e2,⟨w2.s,w2.f,m,R⟩),h2 q,zZ (λq2=>?_) λq2=>⟨rfl,rfl,?_⟩⟩⟩
 .rw[oX q];exact rrl
 .rw[oV λw=>w q,oX q2];exact rrl
 .rw[oV λw=>w q,oV λw=>w q2,zq,zq];have ok2:=(b1 q).ok (okn q) q2;refine zZ (λq3=>?_) λq3=>⟨rfl,?_⟩
  .have q3:(as_.length:Int)≠(bs.length:Int):=q3;rw[oX za];exact rrl
  .have q3:(as_.length:Int)=(bs.length:Int):=q3;have q3:as_.length=bs.length:=za
   rw[oV λw=>w q3];exact ab K hK x w2 m R ok2 as_ bs za (if (onZ as_ bs).length=as_.length then(0,w2) else((yP w2 x.h x.c.a as_.length<|onZ as_ bs).1.2,(yP w2 x.h x.c.a as_.length<|onZ as_ bs).2)) (λh=>oX h) (λh=>oV h) as_ [] [] bs [] rfl rfl rfl q3 (r6 _) rfl
def PR (l:List<|Int×Int):List (List FV):=l.map λp=> [.int .i64 p.1,.int .i64 p.2]
theorem aw (l:List<|Int×Int):(PR l).length=l.length:=by simp[PR]
theorem cN (a b:List<|Int×Int):PR (a++b)=PR a++PR b:=by simp[PR]
def stkZ (R:List<|List FV)(n:Nat)(ps:List<|Int×Int):List (List FV):=if ps=[] then R else R.take n++PR ps
theorem gq {R:List (List FV)}{n:Nat}(hn:n<=R.length)(ps:List<|Int×Int):n+ps.length<=(stkZ R n ps).length/\(stkZ R n ps).take (n+ps.length)=R.take n++PR ps:=by
 unfold stkZ;split
 next h=>subst h;simp[PR,hn]
 .have h1:(R.take n++PR ps).length=n+ps.length:=by simp[aw];omega
  exact⟨za,ro za⟩
abbrev oOw (z:Ow)(m:Nat)(R:List<|List FV):List AObj:=oWk' z.2 (m+z.1.2.length)<|stkZ R m z.1.2.reverse
abbrev aP2 (p:Int×Int):TV:=.agg [qi p.1,qi p.2]
theorem c_wunder (K:Nat)(w:Wp)(m:Nat)(R:List<|List FV)(hm:m<=R.length)(hm2:m<=1099511627776)(ok:OkW K w)(x y:Sd)(p:Int×Int):AC rc 68 [aWk,aSd x,aSd y,aP2 p] (oWk w m R) (ci (xV w x y p).1.1) (oOw (xV w x y p) m R):=by
 have h1:=mm K w m R ok x p.1;have a1:=Jg ok x p.1;have h2:=λh=>mm K (yd w x p.1).2 m R (a1.ok ok h) y p.2;unfold xV;generalize yd w x p.1=z at*;generalize yd z.2 y p.2=u at*;obtain⟨⟨r1,e1⟩,w1⟩:=z;obtain⟨⟨r2,e2⟩,w2⟩:=u;dsimp only at*;refine acv (v68 ..) ?_;refine⟨(r1,e1,⟨w1.s,w1.f,m,R⟩),h1,zZ (λq=>?_) λq=>⟨(r2,e2,⟨w2.s,w2.f,m,R⟩),h2 q,zZ (λq2=>?_) λq2=>⟨r6 _,⟨hm,by unfold zS;dsimp only;omega⟩,?_⟩⟩⟩
 .rw[oX q];exact rrl
 .rw[oV λw=>w q,oX q2];exact rrl
 .rw[oV λw=>w q,oV λw=>w q2];exact rrl
def dA (P:Program)(S E:TypeId):Bool:=
 match tyOf P S,tyOf P E with
 |some dS,some dE=>(match dS.kind with|.slice e=>Nat.beq e E|_=>false) && !dS.agg && !dE.agg&&Nat.beq dE.size 1
 |_,_=>false
theorem RPt.backI {P:Program} {sh:FuncId->List Sh} {lv:List (Nat×List Nat)} {f:FuncId} {m m0 p oc:Nat} {r:TV} {Hs':List AObj} {U live:List Nat} {env:Env} {s0:St} {α:Type} {H:α->AHeap} {nx:α->Nat} {Inv:α->Prop} {idx:α->Nat} {x0:α} {bk:FuncId} {S E:TypeId} {g:Operand} {es:List Int}
  (hP:P.follows .mixedOrders=true) (hrg:rngB P f p=some g) (hbk:IsBk P bk S E) (hT:dA P S E=true)
  (hs:prepV m0 U live (λs'=>s'=⟨env,H x0,nx x0⟩) s0) (hm:Nat.ble m m0=true) (henv:env.all (λp=>p.2.lt m0)=true)
  (hg:ev env g=.c (.fn (.func bk) [] [(false,[.ep oc 1 0 0])])) (hoc:Nat.blt oc m0=true) (hnx:∀x,Inv x->m0<=nx x)
  (hbox:∀x,Inv x->hook (H x) oc=.arr 1 [[qf<|.sl false 1<|IR es]]) (hN:es.length<9223372036854775808)
  (hidx:∀x,Inv x->idx x<=es.length)
  (hround:∀x k (hk:k<es.length),Inv x->idx x=k+1->vcR P sh f m0 U p env k (.c<|qf<|.int .i64 es[k]) (H x) (nx x) λh n=> ∃x',(Inv x'/\idx x'=k)/\h=H x'/\n=nx x')
  (hx0:Inv x0) (hi0:idx x0=es.length) (hdone:∀x,Inv x->idx x=0->vcA P sh lv f m (λr0 Hs0=>TV.Le r0 r/\Hs0=Hs') (RPt P f m r Hs') p ⟨env,H x,nx x⟩):
  RPt P f m r Hs' p s0:=by
 unfold dA at hT;split at hT
 .rename_i dS dE hS hE;split at hT
  .rename_i e hk;simp only[oZ,sX] at hT;obtain⟨⟨⟨h1,h2⟩,h3⟩,h4⟩:=hT;have h1:=sw h1;have h4:=sw h4;subst h1;refine RPt.back (y:=λx=>.c<|qf<|.pt<|(IR es).getD (idx x-1) []) (v:=λx=>.c<|qi<|es.getD (idx x-1) 0) (xs:=.c<|qf<|.sl false 1<|IR es) (N:=(IR es).length) (rdn:=[]) hP hrg hbk hS hk hE hs hm henv hg hoc hnx (λx hx=>?_) rfl (by rw[zF];exact hN) (λx k hx hix=>?_) (λx k hx hix=>?_) hx0 (by rw[zF];exact hi0) hdone
   .refine⟨[oc],?_⟩;unfold wR;simp only[hbox x hx];show(if 1=1 then _ else none)=_
    rw[oX rfl];show(match X4 dS [qf<|.sl false 1<|IR es] with|some v=>some (v,[oc])|none=>none)=_
    unfold X4;rw[h2];rfl
   .have hle:=hidx x hx;have hlt:k<es.length:=za
    have hlt2:k<(IR es).length:=by rw[zF];exact hlt
    refine⟨[],?_,?_⟩
    .unfold xb iV;simp only[hk,hE,W3];rw[oX ⟨h4,za,za⟩,rC,hix,tL]
    .unfold wR;simp only[hix,tL];rw[xY hlt,show es.getD k 0=es[k] by simp[getD,hlt]];unfold X4;rw[h3];rfl
   .have hle:=hidx x hx;have hlt:k<es.length:=za
    have:=hround x k hlt hx hix;simp only[hix,tL,show es.getD k 0=es[k] by simp[getD,hlt]];exact this
  .cases hT
 .cases hT
abbrev fnI (bk oc:Nat):TV:=.c<|.fn (.func bk) [] [(false,[.ep oc 1 0 0])]
theorem oq (l:List<|List FV):AC rc 31 [.c<|qf<|.sl false 1 l] [] (fnI 46 0) [.arr 1 [[qf<|.sl false 1 l]]]:=by
 refine acv (v31 ..) ?_;exact rrl
theorem isBkI:IsBk rc 46 22 3:=⟨zg,_,103,3,4,Tryz.func46,zg,zg,zg⟩
theorem bTyI:dA rc 22 3=true:=zg
abbrev hpOn (w:Wp)(n:Nat)(R:List<|List FV)(x y:Sd):AHeap:=
 [(0,wk3 1 17 w.f n),(1,hp6 14 15 16 5 w.s),(2,.gone),(3,.gone),(4,.gone),(5,.mapz<|NM w.s.N 0),(6,.gone),(7,.gone),(8,.gone),(9,.gone),(10,.gone),(11,.arr 1 [[.a<|.ep 0 3 0 0]]),(12,obSd y),(13,.arr 1 [[qf<|.sl false 1<|IR x.js]]),(14,.arz 5<|CR w.s.C),(15,.arz 7<|TR w.s.T),(16,.arz 1<|NR w.s.N),(17,.arz 2 R)]
theorem l_wone (w:Wp)(n:Nat)(R:List<|List FV)(x y:Sd)(hab:x.js.length=y.js.length)(hn:n<=R.length)(hs:n+x.js.length<=1099511627776):
  RPt rc 47 7 (ci 0) (oWk' w (n+x.js.length)<|stkZ R n (x.js.zip y.js).reverse) 3 ⟨[(2,.c<|.a<|.ep 11 1 0 0),(7,.c<|.a<|.ep 12 7 0 0),(90,fnI 46 13)],wkH w n R++[(11,.arr 1 [[.a<|.ep 0 3 0 0]]),(12,obSd y),(13,.arr 1 [[qf<|.sl false 1<|IR x.js]])],14⟩:=by
 have hz:(x.js.zip y.js).length=x.js.length:=by simp[hab]
 refine RPt.backI (sh:=sh) (lv:=lv47) (α:=Nat) (Inv:=λi=>i<=x.js.length) (idx:=λi=>i) (nx:=λ_=>18) (m0:=14) (U:=[7,8,9,10]) (live:=[2,7,90]) (oc:=13) (es:=x.js) (x0:=x.js.length) (g:=.tmp 90) (env:=[(2,.c<|.a<|.ep 11 1 0 0),(7,.c<|.a<|.ep 12 7 0 0),(90,fnI 46 13)])
  (H:=λi=>hpOn w (n+(x.js.length-i)) (stkZ R n ((x.js.zip y.js).drop i).reverse) x y) hP zg isBkI bTyI ?_ zg zg zg zg (λ_ _=>za) (λ_ _=>rfl) za (λi hi=>hi) (λi k ha hi hik=>?_) (r6 _) rfl (λi hi h0=>?_)
 .refine Eq.mpr (v47_3an ..) ?_;rw[tZ,th,tK za];rfl
 .have hik:i=k+1:=hik;have hi:i<=x.js.length:=hi;subst hik;have hb:k<y.js.length:=za
  have hd:=gq hn ((x.js.zip y.js).drop<|k+1).reverse;have hrl:(((x.js.zip y.js).drop<|k+1).reverse).length=x.js.length-(k+1):=by simp[hab]
  rw[hrl] at hd;have eb:getD (IR y.js) (toNat ((k:Nat):Int)) []=[.int .i64 y.js[k]]:=by rw[rC];exact xY hb
  have edz:(x.js.zip y.js).drop k=(x.js[k],y.js[k])::(x.js.zip y.js).drop (k+1):=by
   rw[tI za];simp
  have estk:stkZ R n ((x.js.zip y.js).drop k).reverse=take (n+(x.js.length-(k+1))) (stkZ R n ((x.js.zip y.js).drop<|k+1).reverse)++[[.int .i64 x.js[k],.int .i64 y.js[k]]]:=by
   rw[hd.2,edz,tU];unfold stkZ;rw[oV zb,cN,<-rh];rfl
  have en:n+(x.js.length-k)=n+(x.js.length-(k+1))+1:=za
  generalize x.js[k]=u at*;generalize y.js[k]=v at*;refine Eq.mpr (v47_3ara ..) ?_;rw[eb,zF];refine⟨⟨rfl,za,za,rfl⟩,r6 _,⟨hd.1,by unfold zS;omega⟩,k,⟨(by omega:k<=x.js.length),rfl⟩,?_,rfl⟩;show _=hpOn w (n+(x.js.length-k)) (stkZ R n ((x.js.zip y.js).drop k).reverse) x y;rw[estk,en];rfl
 .have h0:i=0:=h0;subst h0;refine Eq.mpr (v47_3aza ..) ?_;rw[sH,tY];exact rrl
end Go.AM
