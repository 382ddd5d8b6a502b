/- Lemmas, each under its own premises. -/
import Derived.Test.YtdbhigmklejicaaGreatZ06
namespace Go.Proofs.YtdbhigmklejicaaGreat
set_option maxHeartbeats 16000000
set_option maxRecDepth 100000
theorem w_{mt:List Int}{n:Nat}(hI:cP mt)(hn:mt.length=4*n)(h1:av mt n n=1):∀c d,c<n->d<n->Cn mt c d:=fun c d hc hd=>by
 refine kL hI hn hc hd ?_;obtain⟨-,-,a⟩:=df hI hn hc;obtain⟨-,-,b⟩:=df hI hn hd;have a2:=jg hI hn hc;have b2:=jg hI hn hd;have key:∀x y,x<n->y<n->gN (eH mt n) x=x->gN (eH mt n) y=y->¬x<y:=fun x y hx hy ex ey Vg=>by have k1:=j_ (eH mt n) Vg ex;have k2:=j_ (eH mt n) hy ey;unfold av at h1;omega
 have k1:=key _ _ a b a2 b2;have k2:=key _ _ b a b2 a2;omega
structure Bd(sg mt:List Int)(L:Int):Prop where
 d:cJ sg mt L
 i:Gy sg mt
 one:av mt sg.length sg.length=1
 pos:0<sg.length
def IM(sg mt:List Int)(x:Nat):Prop:=∀c,c<sg.length->¬sC sg mt (oC sg c) x
def Eo(sg mt:List Int)(x:Nat):Prop:=∀c,c<sg.length->¬sC sg mt (ae (oC sg c) 1) x
section
variable{sg mt:List Int}{L:Int}(H:Bd sg mt L)
include H
theorem Bd.cn:∀c d,c<sg.length->d<sg.length->Cn mt c d:=w_ H.d.2.2.2.2.2.1 H.d.2.1 H.one
theorem Bd.tr{x y:Nat}(hx:x<mt.length)(ox:ai sg x=true)(hy:y<mt.length)(oy:ai sg y=true):Tr sg mt x y:=
 Tr.all H.d H.i hx ox (fun c hc=>H.cn _ c (by have:=H.d.2.1;omega) hc) hy oy
omit H in
theorem Up.first{x0:Nat}:∀{d y:Nat},Up sg mt x0 (d+1) y->∃z w,sC sg mt x0 w/\Rr sg mt z w
 |0,_,⟨_,h1,h2⟩=>⟨_,_,h1,h2⟩
 |_+1,_,⟨_,h1,_⟩=>Up.first h1
omit H in
theorem EU.first{x0:Nat}:∀{d y:Nat},EU sg mt x0 (d+1) y->∃z w,sC sg mt x0 w/\Rr sg mt w z
 |0,_,⟨_,h1,h2⟩=>⟨_,_,h1,h2⟩
 |_+1,_,⟨_,h1,_⟩=>EU.first h1
theorem Bd.KO{x0 d y:Nat}(hx:x0<mt.length)(ht:IM sg mt x0):¬Up sg mt x0 (d+1) y:=fun h=>by obtain⟨z,w,h1,c,hc,h2,h3⟩:=h.first;exact ht c hc (sC.trans H.d (aK H.d hc 1).2 h3 (sC.symm H.d hx h1))
theorem Bd.Oz{x0 d y:Nat}(hx:x0<mt.length)(ht:Eo sg mt x0):¬EU sg mt x0 (d+1) y:=fun h=>by obtain⟨z,w,h1,c,hc,h2,h3⟩:=h.first;exact ht c hc (sC.trans H.d (aK H.d hc 1).1 h2 (sC.symm H.d hx h1))
theorem Bd.CV{x y:Nat}(hx:x<mt.length)(ox:ai sg x=true)(hy:y<mt.length)(oy:ai sg y=true)(tx:IM sg mt x)(ty:IM sg mt y):sC sg mt x y:=by
 obtain⟨d,h|h⟩:=H.tr hx ox hy oy
 ·cases d with
  |zero=>exact h
  |succ d=>obtain⟨z,h1,c,hc,h2,h3⟩:=h;exact absurd h3 (ty c hc)
 ·cases d with
  |zero=>exact h
  |succ d=>exact absurd h (H.KO hx tx)
theorem Bd.Kh{x y:Nat}(hx:x<mt.length)(ox:ai sg x=true)(hy:y<mt.length)(oy:ai sg y=true)(tx:Eo sg mt x)(ty:Eo sg mt y):sC sg mt x y:=by
 obtain⟨d,h|h⟩:=H.tr hx ox hy oy
 ·cases d with
  |zero=>exact h
  |succ d=>exact absurd h (H.Oz hx tx)
 ·cases d with
  |zero=>exact h
  |succ d=>obtain⟨z,h1,c,hc,h2,h3⟩:=h;exact absurd h2 (ty c hc)
def hasB(sg mt:List Int)(x:Nat):Prop:=∃c,c<sg.length/\ae (oC sg c) 2∈bJ (au mt) mt.length x
theorem Bd.outs{x:Nat}(hx:x<mt.length)(ox:ai sg x=true)(hb:¬hasB sg mt x):∀k,ai sg (it (au mt) k x)=true/\it (aP sg mt) k x=it (au mt) k x:=fun k=>by
 have hF:=dE H.d
 induction k with
 |zero=>exact⟨ox,rfl⟩
 |succ k ih=>
  obtain⟨i1,i2⟩:=ih;have hk:=hF.bL k hx;have Vo:gn mt (it (au mt) k x)/4<sg.length:=by have:=(H.d.2.2.2.2.2.1.gn hk).2.1;have:=H.d.2.1;omega
  rcases vD H.d hk i1 with e|e
  {obtain⟨e1,e2⟩:=(cZ H.d hk i1).1 e;refine⟨?_,?_⟩;{show ai sg (au mt (it (au mt) k x))=true;rw[e2];exact(bZ H.d Vo).2.1};{show aP sg mt (it (aP sg mt) k x)=au mt (it (au mt) k x);rw[i2,e1,e2]}};{obtain⟨e1,e2⟩:=(cZ H.d hk i1).2 e;exact absurd ⟨_,Vo,(aG hF hx).2 ⟨k+1,e2⟩⟩ hb}
theorem Bd.tW{x:Nat}(hx:x<mt.length)(ox:ai sg x=true)(hb:¬hasB sg mt x):IM sg mt x/\∀y,sC sg mt x y↔y∈bJ (au mt) mt.length x:=by
 have hF:=dE H.d;have hC:=aI H.d;have same:∀y,sC sg mt x y↔y∈bJ (au mt) mt.length x:=fun y=>by unfold sC;rw[aG hC hx,aG hF hx];exact⟨fun⟨k,e⟩=>⟨k,by rw[<-(H.outs hx ox hb k).2];exact e⟩,fun⟨k,e⟩=>⟨k,by rw[(H.outs hx ox hb k).2];exact e⟩⟩
 refine⟨fun c hc h=>hb ⟨c,hc,?_⟩,same⟩;have h3:=(aK H.d hc 3).1;have hl:=(H.d.2.2.2.2.2.1.gn h3).2.1;have ol:=fR H.d h3 (bZ H.d hc).2.2.2;have hn:=(cZ H.d hl ol (c:=c)).2 (H.d.2.2.2.2.2.1.gn h3).2.2.2;have s1:=sC.next H.d hl;rw[hn.1]at s1;have s2:sC sg mt x (gn mt (ae (oC sg c) 3)):=sC.symm H.d hl (sC.trans H.d hl s1 h);have:=bU hF hx ((same _).1 s2);rwa [hn.2]at this
theorem Bd.ins{x:Nat}(hx:x<mt.length)(ox:ai sg x=false)(hb:¬hasB sg mt x):∀k,ai sg (it (au mt) k x)=false:=by
 have hF:=dE H.d;intro k
 cases hk:ai sg (it (au mt) k x)
 {rfl}
 ·have hkx:=hF.bL k hx
  have Vz:¬hasB sg mt (it (au mt) k x):=fun⟨c,hc,h⟩=>hb ⟨c,hc,aM hF hx ((aG hF hx).2 ⟨k,rfl⟩) h⟩
  obtain⟨j,hj⟩:=(aG hF hkx).1 (aL hF hx ((aG hF hx).2 ⟨k,rfl⟩));have:=(H.outs hkx hk Vz j).1;rw[hj,ox]at this
  cases this
theorem Bd.yw{x:Nat}(hx:x<mt.length)(ox:ai sg x=false)(hb:¬hasB sg mt x):Eo sg mt (gn mt x)/\∀y,sC sg mt (gn mt x) y->gn mt y∈bJ (au mt) mt.length x:=by
 have hI:=H.d.2.2.2.2.2.1;have hF:=dE H.d;have hC:=aI H.d;have hg:=(hI.gn hx).2.1;have og:=fR H.d hx ox;have step:∀z,z∈bJ (au mt) mt.length x->∃c,c<sg.length/\gn mt z=oC sg c/\au mt z=ae (oC sg c) 3:=fun z hz=>by
  obtain⟨k,rfl⟩:=(aG hF hx).1 hz;have hk:=hF.bL k hx;have ok:=H.ins hx ox hb k;have Wv:=(hI.gn hk).2.1;obtain⟨c,hc⟩:∃c,gn mt (it (au mt) k x)/4=c:=⟨_,rfl⟩
  have Vo:c<sg.length:=by have:=H.d.2.1;omega
  have X5:au mt (it (au mt) k x)=ae (gn mt (it (au mt) k x)) 3:=rfl;have e:=my H.d Wv (fR H.d hk ok);rw[hc]at e;rcases e with e|e
  {exact⟨c,Vo,e,by rw[X5,e]⟩}
  ·have:=H.ins hx ox hb (k+1)
   have e2:it (au mt) (k+1) x=oC sg c:=by show au mt (it (au mt) k x)=_;rw[X5,e];exact(tt _).1
   rw[e2,(bZ H.d Vo).1]at this
   cases this
 have back:∀k y,it (aP sg mt) k y=gn mt x->y<mt.length->ai sg y=true->gn mt y∈bJ (au mt) mt.length x:=fun k=>by
  induction k with
  |zero=>intro y e hy _;obtain rfl:y=gn mt x:=e;rw[(hI.gn hx).2.2.2];exact bE hF hx
  |succ k ih=>
   intro y e hy oy;rw[zp]at e;have hny:=hC.1 y hy;have ony:ai sg (aP sg mt y)=true:=by rw[fZ H.d y hy,oy]
   have h1:=ih _ e hny ony;obtain⟨c,hc,e1,e2⟩:=step _ h1;rw[(hI.gn hny).2.2.2]at e1;have h2:=bU hF hx h1;rw[e2]at h2;rcases vD H.d hy oy with e3|e3
   {have:=((cZ H.d hy oy).1 e3).1;rw[e1]at this;have hd4:oC sg c/4=c:=dA _ _;have h5:ae (oC sg (gn mt y/4)) 1/4=gn mt y/4:=(af _ _).trans (dA _ _);rw[<-this,hd4]at h5;rw[<-h5]at this;exact absurd this.symm (an oQ oQ)};{have:=((cZ H.d hy oy).2 e3).1;rw[e1]at this;have hd4:oC sg c/4=c:=dA _ _;have h5:oC sg (gn mt y/4)/4=gn mt y/4:=dA _ _;rw[<-this,hd4]at h5;rw[e3,<-h5];exact h2}
 have all:∀y,sC sg mt (gn mt x) y->gn mt y∈bJ (au mt) mt.length x:=fun y hy=>by have VJ:=sC.lt H.d hg hy;obtain⟨k,e⟩:=(aG hC VJ).1 (sC.symm H.d hg hy);exact back k y e VJ (sC.out H.d hg og hy)
 refine⟨fun c hc h=>?_,all⟩;have h1:=all _ (sC.symm H.d (aK H.d hc 1).1 h);obtain⟨d,Xe,e1,-⟩:=step _ h1;rw[(hI.gn (aK H.d hc 1).1).2.2.2]at e1;have hd4:oC sg d/4=d:=dA _ _;have h5:ae (oC sg c) 1/4=c:=(af _ _).trans (dA _ _);rw[e1,hd4]at h5;subst h5;exact absurd e1 (an oQ oQ)
omit H in
theorem mX{P:Nat->Bool}{m:Nat}(h:∀x y,x<m->y<m->P x=true->P y=true->x=y):cW P m<=1:=by have:=kB (A:=P) (B:=fun _=>true) (N:=m) (M:=1) (fun _=>0) (fun x hx hp=>⟨oZ,rfl⟩) (fun x y hx hy px py _=>h x y hx hy px py);exact RQ this (jD _ 1)
theorem Bd.behind{c c':Nat}(hc:c<sg.length)(XX:c'<sg.length)(h:ae (oC sg c') 2∈bJ (au mt) mt.length (ae (oC sg c) 2)):c=c':=by
 have hF:=dE H.d;have hI:=H.d.2.2.2.2.2.1;refine Rq fun Vh=>?_
 have he:=jJ H.d;rw[H.one]at he;have head_eq:∀x y,x<mt.length->y<mt.length->a_ (au mt) mt.length x=true->a_ (au mt) mt.length y=true->y∈bJ (au mt) mt.length x->x=y:=fun x y hx hy lx ly hm=>
  T_ (dG.1 lx _ hm) (dG.1 ly _ (aL hF hx hm))
 have hdec:∃P:Nat->Bool,∀x,P x=true↔hasB sg mt x:=⟨fun x=>@decide (hasB sg mt x) (Classical.propDecidable _),fun x=>by simp⟩
 obtain⟨P,hP⟩:=hdec;have hsplit:=mA (a_ (au mt) mt.length) P mt.length;have hsplit2:=mA (fun x=>a_ (au mt) mt.length x&& !P x) (ai sg) mt.length;have b1:cW (fun x=>(a_ (au mt) mt.length x&& !P x)&&ai sg x) mt.length<=1:=mX fun x y hx hy px py=>by
  simp only[RA,U5]at px py;have nx:¬hasB sg mt x:=fun h=>by rw[(hP x).2 h]at px;exact absurd px.1.2 oQ
  have ny:¬hasB sg mt y:=fun h=>by rw[(hP y).2 h]at py;exact absurd py.1.2 oQ
  obtain⟨tx,sx⟩:=H.tW hx px.2 nx;obtain⟨ty,sy⟩:=H.tW hy py.2 ny;exact head_eq x y hx hy px.1.1 py.1.1 ((sx y).1 (H.CV hx px.2 hy py.2 tx ty))
 have b2:cW (fun x=>(a_ (au mt) mt.length x&& !P x)&& !ai sg x) mt.length<=1:=mX fun x y hx hy px py=>by
  simp only[RA,U5]at px py;have nx:¬hasB sg mt x:=fun h=>by rw[(hP x).2 h]at px;exact absurd px.1.2 oQ
  have ny:¬hasB sg mt y:=fun h=>by rw[(hP y).2 h]at py;exact absurd py.1.2 oQ
  obtain⟨tx,sx⟩:=H.yw hx px.2 nx;obtain⟨ty,sy⟩:=H.yw hy py.2 ny;have:=sx _ (H.Kh (hI.gn hx).2.1 (fR H.d hx px.2) (hI.gn hy).2.1 (fR H.d hy py.2) tx ty);rw[(hI.gn hy).2.2.2]at this;exact head_eq x y hx hy px.1.1 py.1.1 this
 have b3:cW (fun x=>a_ (au mt) mt.length x&&P x) mt.length+1<=sg.length:=by
  have least:∀x,∃c,x<mt.length->hasB sg mt x->c<sg.length/\ae (oC sg c) 2∈bJ (au mt) mt.length x/\∀d,d<sg.length->ae (oC sg d) 2∈bJ (au mt) mt.length x->c<=d:=fun x=>by
   by_cases hb:hasB sg mt x
   ·obtain⟨c0,h0,h1⟩:=hb
    have:∀k,∀c,c<=k->c<sg.length->ae (oC sg c) 2∈bJ (au mt) mt.length x->∃c,c<sg.length/\ae (oC sg c) 2∈bJ (au mt) mt.length x/\∀d,d<sg.length->ae (oC sg d) 2∈bJ (au mt) mt.length x->c<=d:=fun k=>by
     induction k with
     |zero=>intro c hk hc hm;exact⟨c,hc,hm,fun d _ _=>by omega⟩
     |succ k ih=>
      intro c hk hc hm;by_cases hex:∃d,d<c/\d<sg.length/\ae (oC sg d) 2∈bJ (au mt) mt.length x
      {obtain⟨d,d1,d2,d3⟩:=hex;exact ih d oZ d2 d3};{exact⟨c,hc,hm,fun d d2 d3=>Nat.le_of_not_lt fun Vg=>hex ⟨d,Vg,d2,d3⟩⟩}
    obtain⟨c,a1,a2,a3⟩:=this c0 c0 (Rf _) h0 h1;exact⟨c,fun _ _=>⟨a1,a2,a3⟩⟩
   {exact⟨0,fun _ h=>absurd h hb⟩}
  obtain⟨g,hg⟩:=Sp least;obtain⟨k,hk,VH⟩:∃k,k<sg.length/\∀x,x<mt.length->hasB sg mt x->g x≠k:=by
   refine⟨max c c',oZ,fun x hx hb e=>?_⟩;obtain⟨a1,a2,a3⟩:=hg x hx hb;rw[e]at a2 a3;rcases SN c c' with Vg|Yf
   {rw[Nat.max_eq_right oZ]at a2 a3;have:=a3 c hc (aM hF hx a2 (aL hF (aK H.d hc 2).1 h));omega};{rw[Nat.max_eq_left Yf]at a2 a3;have:=a3 c' XX (aM hF hx a2 h);omega}
  have h1:=kB (A:=fun x=>a_ (au mt) mt.length x&&P x) (B:=fun d=>decide (d≠k)) (N:=mt.length) (M:=sg.length) g (fun x hx px=>by
   simp only[RA]at px;have hb:=(hP x).1 px.2;exact⟨(hg x hx hb).1,Rj (VH x hx hb)⟩) (fun x y hx hy px py e=>by
   simp only[RA]at px py;have Wx:=(hP x).1 px.2;have Y':=(hP y).1 py.2;obtain⟨a1,a2,a3⟩:=hg x hx Wx;obtain⟨b1,b2,b3⟩:=hg y hy Y';rw[<-e]at b2;exact head_eq x y hx hy px.1 py.1 (aM hF hx a2 (aL hF hy b2)))
  have h2:=mr (fun d=>decide (d=k)) sg.length;rw[nW,Re hk]at h2;have h3:cW (fun d=>decide (d≠k)) sg.length=cW (fun x=> !decide (x=k)) sg.length:=aS fun x _=>by simp
  omega
 omega
theorem Bd.FR{e:Nat}(he:e<mt.length)(oe:ai sg e=true)(hb:¬Eo sg mt e):∃z,z∈bJ (au mt) mt.length (gn mt e)/\ai sg z=true:=by have hI:=H.d.2.2.2.2.2.1;have hF:=dE H.d;have hg:=(hI.gn he).2.1;have oi:=kF H.d he oe;by_cases hB:hasB sg mt (gn mt e);{obtain⟨c,hc,hm⟩:=hB;have h3:=(aK H.d hc 3).1;have hl:=(hI.gn h3).2.1;have:=bU hF hl (bE hF hl);rw[(jI H.d hc).2.2.2]at this;exact⟨_,aM hF hg hm (aL hF hl this),fR H.d h3 (bZ H.d hc).2.2.2⟩};{have:=(H.yw hg oi hB).1;rw[(hI.gn he).2.2.2]at this;exact absurd this hb}
end
section
variable{cs:List Nat}{K:Nat->Bool}{m:Nat->Nat}{s:Nat->Int}{S N:Nat}{c h:Nat->Nat}{cur:Nat->Nat->Nat}(H:Rd cs K m s S N c h cur)
include H
omit H in
theorem fW(v:bB){k g:Nat}:mK N h v (k+1) g=mK N h v k g+if h k=g then v k else 0:=by unfold mK;show _+((sI k fun j=>if h j=g then v j else 0)+if h k=g then v k else 0)=_;omega
theorem Rd.F_(v:bB){g:Nat}(hg:g=0\/S<=g):cS N h v g=0:=aX fun k hk=>Rc (by have:=H.hS k hk;omega)
theorem Rd.nY{v:bB}(hv:P2 N S h (fun k=>s (c k)) H.W v){g:Nat}(hw:H.W g=true):mK N h v N g=mK N h v 0 g:=by
 have:cS N h v g=0:=by by_cases h1:1<=g/\g<S;{exact hv.2 g h1.1 h1.2 hw};{exact H.F_ v oZ}
 unfold mK;unfold cS at this;rw[this];rfl
def gd(s:Nat->Int)(N:Nat)(h idx:Nat->Nat)(v:bB):bB:=fun z=>
 if z=oR s (z/4)then mK N h v (idx (z/4)+1) (h (idx (z/4)))else if z=ae (oR s (z/4)) 1 then mK N h v (idx (z/4)) (h (idx (z/4))-1)else if z=ae (oR s (z/4)) 2 then mK N h v (idx (z/4)) (h (idx (z/4)))else mK N h v (idx (z/4)) (h (idx (z/4))+1)
omit H in
theorem wP{idx:Nat->Nat}(hi:∀k,k<N->idx (c k)=k)(v:bB){k:Nat}(hk:k<N):
  gd s N h idx v (oR s (c k))=mK N h v (k+1) (h k)/\gd s N h idx v (ae (oR s (c k)) 1)=mK N h v k (h k-1)/\gd s N h idx v (ae (oR s (c k)) 2)=mK N h v k (h k)/\gd s N h idx v (ae (oR s (c k)) 3)=mK N h v k (h k+1):=by
 have d:=dA s (c k);unfold gd;rw[af,af,af,d,hi k hk];have n1:=an (h:=oR s (c k)) (j:=1) oQ oQ;have n2:=an (h:=oR s (c k)) (j:=2) oQ oQ;have n3:=an (h:=oR s (c k)) (j:=3) oQ oQ;have n21:=aB (h:=oR s (c k)) (i:=2) (j:=1) oQ oQ oQ;have n31:=aB (h:=oR s (c k)) (i:=3) (j:=1) oQ oQ oQ;have n32:=aB (h:=oR s (c k)) (i:=3) (j:=2) oQ oQ oQ;refine⟨Re rfl,?_,?_,?_⟩;{rw[Rc n1,Re rfl]};{rw[Rc n2,Rc n21,Re rfl]};{rw[Rc n3,Rc n31,Rc n32]}
theorem Rd.PY{z:Nat}(hz:z/4∈cs):∃k,k<N/\(z=oR s (c k)\/z=ae (oR s (c k)) 1\/z=ae (oR s (c k)) 2\/z=ae (oR s (c k)) 3):=by obtain⟨k,hk,e⟩:=So.1 (H.perm.mem_iff.1 hz);exact⟨k,Rm.1 hk,aw (by rw[dA,e])⟩
theorem Rd.Fk{idx:Nat->Nat}(hi:∀k,k<N->idx (c k)=k)(v:bB){k j:Nat}(hk:k<N)(hj:j=h k-1\/j=h k\/(gd s N h idx v (cur k j)=mK N h v k j/\gd s N h idx v (ae (cur k j) 3)=mK N h v k (j+1))):
  gd s N h idx v (cur (k+1) j)=mK N h v (k+1) j/\gd s N h idx v (ae (cur (k+1) j) 3)=mK N h v (k+1) (j+1):=by
 obtain⟨p0,p1,p2,p3⟩:=wP (s:=s) (h:=h) hi v hk;obtain⟨t1,t2,t3,-⟩:=tt (oR s (c k));obtain⟨h1,h2⟩:=H.hS k hk;by_cases e1:j=h k-1;{subst e1;rw[H.outL k hk,t1,p0,p1,fW (g:=h k-1),Rc oZ,R6,show h k-1+1=h k by omega];exact⟨rfl,rfl⟩};{by_cases e2:j=h k;{subst e2;rw[H.outR k hk,p0,p3,fW (g:=h k+1),Rc oZ,R6];exact⟨rfl,rfl⟩};{obtain⟨a1,a2⟩:=(hj.resolve_left e1).resolve_left e2;rw[H.same k hk j e1 e2,a1,a2,fW,fW,Rc oZ,Rc oZ,R6,R6];exact⟨rfl,rfl⟩}}
theorem Rd.H'{idx:Nat->Nat}(hi:∀k,k<N->idx (c k)=k)(v:bB){k j:Nat}(hk:k<N)(hj:j=h k-1\/j=h k\/(gd s N h idx v (ae (m (cur (k+1) j)) 3)=mK N h v (k+1) j/\gd s N h idx v (m (cur (k+1) j))=mK N h v (k+1) (j+1))):
  gd s N h idx v (ae (m (cur k j)) 3)=mK N h v k j/\gd s N h idx v (m (cur k j))=mK N h v k (j+1):=by
 obtain⟨p0,p1,p2,p3⟩:=wP (s:=s) (h:=h) hi v hk;obtain⟨t1,t2,t3,-⟩:=tt (oR s (c k));obtain⟨h1,h2⟩:=H.hS k hk;by_cases e1:j=h k-1;{subst e1;rw[H.inL k hk,t2,p1,p2,show h k-1+1=h k by omega];exact⟨rfl,rfl⟩};{by_cases e2:j=h k;{subst e2;rw[H.inR k hk,t3,p2,p3];exact⟨rfl,rfl⟩};{obtain⟨a1,a2⟩:=(hj.resolve_left e1).resolve_left e2;rw[H.same k hk j e1 e2,fW,Rc oZ,R6]at a1;rw[H.same k hk j e1 e2,fW,Rc oZ,R6]at a2;exact⟨a1,a2⟩}}
theorem Rd.Qp{idx:Nat->Nat}(hi:∀k,k<N->idx (c k)=k){v:bB}(hv:P2 N S h (fun k=>s (c k)) H.W v){j:Nat}(hj:j<S):∀k,k<=N->
  (H.W j=true->gd s N h idx v (cur k j)=mK N h v k j)/\(H.W (j+1)=true->gd s N h idx v (ae (cur k j) 3)=mK N h v k (j+1)):=by
 obtain⟨k0,Yg,hv0⟩:=H.visit j hj;have up:∀k,k0<k->k<=N->(gd s N h idx v (cur k j)=mK N h v k j/\gd s N h idx v (ae (cur k j) 3)=mK N h v k (j+1)):=fun k=>by
  induction k with
  |zero=>intro h0;omega
  |succ k ih=>intro h0 hk;by_cases e:k=k0;{subst e;exact H.Fk hi v Yg (hv0.imp id .inl)};{exact H.Fk hi v oZ (.inr (.inr (ih oZ oZ)))}
 obtain⟨n1,n2⟩:=up N Yg (Rf _);rw[H.close j hj]at n1 n2;intro k
 induction k with
 |zero=>exact fun _=>⟨fun hw=>by rw[n1,H.nY hv hw],fun hw=>by rw[n2,H.nY hv hw]⟩
 |succ k ih=>intro hk;have VH:k<N:=oZ;obtain⟨i1,i2⟩:=ih oZ;obtain⟨h1,h2⟩:=H.hS k VH;by_cases e:j=h k-1\/j=h k;{obtain⟨a1,a2⟩:=H.Fk hi v VH (j:=j) (e.imp id .inl);exact⟨fun _=>a1,fun _=>a2⟩};{rw[H.same k VH j (fun x=>e (.inl x)) (fun x=>e (.inr x)),fW,fW,Rc oZ,Rc oZ,R6,R6];exact⟨i1,i2⟩}
theorem Rd.PA{idx:Nat->Nat}(hi:∀k,k<N->idx (c k)=k){v:bB}(hv:P2 N S h (fun k=>s (c k)) H.W v){j:Nat}(hj:j<S):∀i,i<=N->
  (H.W j=true->gd s N h idx v (ae (m (cur (N-i) j)) 3)=mK N h v (N-i) j)/\(H.W (j+1)=true->gd s N h idx v (m (cur (N-i) j))=mK N h v (N-i) (j+1)):=by
 obtain⟨k0,Yg,hv0⟩:=H.visit j hj;have dn:∀i,i<=k0->(gd s N h idx v (ae (m (cur (k0-i) j)) 3)=mK N h v (k0-i) j/\gd s N h idx v (m (cur (k0-i) j))=mK N h v (k0-i) (j+1)):=fun i=>by
  induction i with
  |zero=>exact fun _=>H.H' hi v Yg (hv0.imp id .inl)
  |succ i ih=>intro hle;have:=ih oZ;rw[show k0-i=k0-(i+1)+1 by omega]at this;exact H.H' hi v oZ (.inr (.inr this))
 obtain⟨n1,n2⟩:=dn k0 (Rf _);rw[Nat.sub_self,<-H.close j hj]at n1 n2;intro i
 induction i with
 |zero=>exact fun _=>⟨fun hw=>by rw[Nat.sub_zero,n1,H.nY hv hw],fun hw=>by rw[Nat.sub_zero,n2,H.nY hv hw]⟩
 |succ i ih=>
  intro hle;obtain⟨k,hk⟩:∃k,N-(i+1)=k:=⟨_,rfl⟩
  have VH:k<N:=oZ;rw[show N-i=k+1 by omega]at ih;rw[hk];obtain⟨i1,i2⟩:=ih oZ;obtain⟨h1,h2⟩:=H.hS k VH;by_cases e:j=h k-1\/j=h k;{obtain⟨a1,a2⟩:=H.H' hi v VH (j:=j) (e.imp id .inl);exact⟨fun _=>a1,fun _=>a2⟩};{rw[H.same k VH j (fun x=>e (.inl x)) (fun x=>e (.inr x)),fW,Rc oZ,R6]at i1;rw[H.same k VH j (fun x=>e (.inl x)) (fun x=>e (.inr x)),fW,Rc oZ,R6]at i2;exact⟨i1,i2⟩}
theorem Rd.Na{idx:Nat->Nat}(hi:∀k,k<N->idx (c k)=k){v:bB}(hv:P2 N S h (fun k=>s (c k)) H.W v):PG cs K m (gd s N h idx v):=fun z hz ZJ=>by
 obtain⟨k,hk,e⟩:=H.PY hz;obtain⟨h1,h2⟩:=H.hS k hk;obtain⟨k0,k1,k2,k3⟩:=H.kc hk;have A:=fun j hj k hk=>H.Qp hi hv (j:=j) hj k hk
 have B:=fun(j:Nat) (hj:j<S) (k:Nat) (hk:k<=N)=>by have:=H.PA hi hv (j:=j) hj (N-k) oZ;rwa [show N-(N-k)=k by omega]at this
 rcases e with rfl|rfl|rfl|rfl
 {rw[k0]at ZJ;have a:=(A (h k) h2 (k+1) oZ).1 ZJ;have b:=(B (h k) h2 (k+1) oZ).1 ZJ;rw[H.outR k hk]at a b;rw[a,b]};{rw[k1]at ZJ;have a:=(A (h k-1) oZ (k+1) oZ).1 ZJ;have b:=(B (h k-1) oZ (k+1) oZ).1 ZJ;rw[H.outL k hk]at a b;rw[a,b]};{rw[k2]at ZJ;have e1:h k-1+1=h k:=oZ;have a:=(A (h k-1) oZ k oZ).2 (by rw[e1];exact ZJ);have b:=(B (h k-1) oZ k oZ).2 (by rw[e1];exact ZJ);have i:=(H.inv _ (H.rV (k:=k) oZ (j:=h k-1) oZ)).1;rw[H.inL k hk]at b i;rw[b,i,a]};{rw[k3]at ZJ;have a:=(A (h k) h2 k oZ).2 ZJ;have b:=(B (h k) h2 k oZ).2 ZJ;have i:=(H.inv _ (H.rV (k:=k) oZ (j:=h k) h2)).1;rw[H.inR k hk]at b i;rw[b,i,a]}
theorem Rd.sq{k:Nat}(hk:k<N):s (c k)*s (c k)=1:=by rcases H.sg k hk with e|e<;>rw[e]<;>rfl
omit H in
theorem Kz{idx:Nat->Nat}(hi:∀k,k<N->idx (c k)=k)(v:bB){k:Nat}(hk:k<N):gd s N h idx v (oR s (c k))-gd s N h idx v (ae (oR s (c k)) 2)=v k:=by obtain⟨p0,p1,p2,p3⟩:=wP (s:=s) (h:=h) hi v hk;rw[p0,p2,fW,Re rfl];omega
theorem Rd.Ky{idx:Nat->Nat}(hi:∀k,k<N->idx (c k)=k){v:bB}(hv:P2 N S h (fun k=>s (c k)) H.W v){k:Nat}(hk:k<N)(hw:¬H.W (h k)=true):gd s N h idx v (ae (oR s (c k)) 1)-gd s N h idx v (ae (oR s (c k)) 3)=s (c k)*v k:=by
 obtain⟨p0,p1,p2,p3⟩:=wP (s:=s) (h:=h) hi v hk;obtain⟨h1,h2⟩:=H.hS k hk;have e:=hv.1 k hk (by simpa using hw);have VE:cS N h v (h k+1)=0:=by by_cases h3:h k+1<S;{exact hv.2 (h k+1) oZ h3 (by rw[H.jB];simpa using hw)};{exact H.F_ v oZ}
 rw[Kt v hk,VE]at e;obtain⟨g,hg⟩:∃g,h k=g+1:=⟨h k-1,oZ⟩
 rw[p1,p3];unfold mK;unfold Lk at e;rw[hg]at e⊢;have eb:Ph N v (g+1+1)=Ph N v g-v (N+g):=rfl;rw[show g+1-1=g from rfl,eb];rw[show N+(g+1)-1=N+g by omega]at e;have es:(sI k fun j=>if h j+1=g+1 then v j else 0)=sI k fun j=>if h j=g then v j else 0:=aj fun j _=>by by_cases e:h j=g;{rw[Re e,Re oZ]};{rw[Rc e,Rc oZ]}
 rw[es]at e;rw[SG]at e;dsimp only at e;omega
def xC(cur:Nat->Nat->Nat)(x:bB)(k g:Nat):Int:=if g=0 then x (cur k 0)else x (ae (cur k (g-1)) 3)
def vX(cur:Nat->Nat->Nat)(s:Nat->Int)(c h:Nat->Nat)(N:Nat)(W:Nat->Bool)(x:bB):bB:=fun i=>
 if i<N then(if W (h i)=true then x (oR s (c i))-x (ae (oR s (c i)) 2)else s (c i)*(x (ae (oR s (c i)) 1)-x (ae (oR s (c i)) 3)))
 else if W (i-N+1)=true then 0 else xC cur x 0 (i-N)-xC cur x 0 (i-N+2)
theorem Rd.P6{x:bB}(hx:PG cs K m x){k:Nat}(hk:k<N)(hw:H.W (h k-1)=true):x (cur k (h k-1))=x (ae (oR s (c k)) 1):=by obtain⟨h1,h2⟩:=H.hS k hk;have:=hx _ (H.rV (k:=k) oZ (j:=h k-1) oZ) (by rw[H.Mv k oZ _ oZ,hw]);rw[H.inL k hk,(tt _).2.1]at this;exact this
theorem Rd.Pr{x:bB}(hx:PG cs K m x){k:Nat}(hk:k<N):(H.W (h k)=true->x (ae (oR s (c k)) 2)=x (ae (cur k (h k-1)) 3))/\(H.W (h k+1)=true->x (ae (oR s (c k)) 3)=x (ae (cur k (h k)) 3)):=by obtain⟨h1,h2⟩:=H.hS k hk;obtain⟨k0,k1,k2,k3⟩:=H.kc hk;refine⟨fun hw=>?_,fun hw=>?_⟩;{have:=hx _ (H.LK hk 2) (by rw[k2,hw]);rwa [<-H.inL k hk,(H.inv _ (H.rV (k:=k) oZ (j:=h k-1) oZ)).1,H.inL k hk]at this};{have:=hx _ (H.LK hk 3) (by rw[k3,hw]);rwa [<-H.inR k hk,(H.inv _ (H.rV (k:=k) oZ (j:=h k) h2)).1,H.inR k hk]at this}
theorem Rd.xL{x:bB}(hx:PG cs K m x):∀k,k<=N->∀g,g<S->H.W g=true->x (cur k g)=xC cur x k g:=fun k=>by
 induction k with
 |zero=>intro _ g hg hw;unfold xC;by_cases e:g=0;{subst e;rw[Re rfl]};{rw[Rc e];exact H.cF g oZ hg x hx (by rw[H.Mv 0 (Rv _) g hg,hw])}
 |succ k ih=>intro hk g hg hw;have VH:k<N:=oZ;obtain⟨h1,h2⟩:=H.hS k VH;have a0:=ih oZ g hg hw;unfold xC at a0⊢;by_cases e:g=0;{subst e;rw[Re rfl]};{rw[Rc e]at a0⊢;by_cases e1:g=h k;{subst e1;rw[H.outR k VH,H.outL k VH,(tt _).1]};{by_cases e2:g=h k-1;{subst e2;rw[H.outL k VH,<-H.P6 hx VH hw,a0,H.same k VH (h k-1-1) oZ oZ]};{rw[H.same k VH g e2 e1,a0];by_cases e3:g=h k+1;{subst e3;rw[Tj,H.outR k VH,<-(H.Pr hx VH).2 hw]};{rw[H.same k VH (g-1) oZ oZ]}}}}
theorem Rd.Ng{x:bB}(hx:PG cs K m x){k:Nat}(hk:k<N){g:Nat}(hw:H.W g=true):xC cur x (k+1) g=xC cur x k g+if h k=g then vX cur s c h N H.W x k else 0:=by obtain⟨h1,h2⟩:=H.hS k hk;by_cases e1:h k=g;{subst e1;rw[Re rfl];unfold xC vX;rw[Rc oZ,Rc oZ,Re hk,Re hw,H.outL k hk,(tt _).1,<-(H.Pr hx hk).1 hw];omega};{rw[Rc e1,R6];unfold xC;by_cases e:g=0;{subst e;rw[Re rfl,Re rfl];by_cases e2:0=h k-1;{have:=H.P6 hx hk (by rw[<-e2];exact hw);have o:=H.outL k hk;rw[<-e2]at this o;rw[o,this]};{rw[H.same k hk 0 e2 oZ]}};{rw[Rc e,Rc e];by_cases e3:g=h k+1;{subst e3;rw[Tj,H.outR k hk,(H.Pr hx hk).2 hw]};{rw[H.same k hk (g-1) oZ oZ]}}}
theorem Rd.Iu{x:bB}(hx:PG cs K m x){g:Nat}(hw:H.W g=true):∀k,k<=N->xC cur x k g=xC cur x 0 g+sI k fun j=>if h j=g then vX cur s c h N H.W x j else 0:=fun k=>by
 induction k with
 |zero=>exact fun _=>(R6 _).symm
 |succ k ih=>intro hk;rw[H.Ng hx oZ hw,ih oZ];show _=_+((sI k fun j=>if h j=g then vX cur s c h N H.W x j else 0)+if h k=g then vX cur s c h N H.W x k else 0);omega
theorem Rd.Od{x:bB}(hx:PG cs K m x){g:Nat}(hg:g<=S)(hS0:0<S)(hw:H.W g=true):cS N h (vX cur s c h N H.W x) g=0:=by
 have h1:=H.Iu hx hw N (Rf _);have h2:xC cur x N g=xC cur x 0 g:=by unfold xC;by_cases e:g=0;{subst e;rw[Re rfl,Re rfl,H.close 0 hS0]};{rw[Rc e,Rc e,H.close (g-1) oZ]}
 unfold cS;omega
theorem Rd.QV{x:bB}(hx:PG cs K m x){k:Nat}(hk:k<N)(hw:¬H.W (h k)=true):x (ae (oR s (c k)) 1)-x (ae (oR s (c k)) 3)=xC cur x k (h k-1)-xC cur x k (h k+1):=by
 obtain⟨h1,h2⟩:=H.hS k hk;have w1:H.W (h k+1)=true:=by rw[H.jB];simpa using hw
 have w0:H.W (h k-1)=true:=by
  have:=H.jB (h k-1);rw[show h k-1+1=h k by omega]at this
  cases hh:H.W (h k-1)
  {rw[hh]at this;exact absurd this hw};{rfl}
 rw[<-H.P6 hx hk w0,H.xL hx k oZ _ oZ w0,(H.Pr hx hk).2 w1];congr 1
theorem Rd.K6{x:bB}(hx:PG cs K m x):P2 N S h (fun k=>s (c k)) H.W (vX cur s c h N H.W x):=by
 refine⟨fun k hk hwf=>?_,fun g h1 h2 hw=>H.Od hx oZ oZ hw⟩;have hw:¬H.W (h k)=true:=by rw[hwf];decide
 obtain⟨h1,h2⟩:=H.hS k hk;have w1:H.W (h k+1)=true:=by rw[H.jB];simpa using hw
 have w0:H.W (h k-1)=true:=by
  have:=H.jB (h k-1);rw[show h k-1+1=h k by omega]at this
  cases hh:H.W (h k-1)
  {rw[hh]at this;exact absurd this hw};{rfl}
 have e1:vX cur s c h N H.W x k=s (c k)*(x (ae (oR s (c k)) 1)-x (ae (oR s (c k)) 3)):=by unfold vX;rw[Re hk,Rc hw]
 have e2:vX cur s c h N H.W x (N+h k-1)=xC cur x 0 (h k-1)-xC cur x 0 (h k+1):=by unfold vX;rw[Rc oZ,Rc (by rw[show N+h k-1-N+1=h k by omega];exact hw),show N+h k-1-N=h k-1 by omega,show h k-1+2=h k+1 by omega]
 rw[Kt _ hk,H.Od hx oZ oZ w1];unfold Lk;rw[e2,e1,H.QV hx hk hw];have s0:=H.Iu hx w0 k oZ;have s1:=H.Iu hx w1 k oZ;have es:(sI k fun j=>if h j+1=h k then vX cur s c h N H.W x j else 0)=sI k fun j=>if h j=h k-1 then vX cur s c h N H.W x j else 0:=aj fun j _=>by by_cases e:h j=h k-1;{rw[Re e,Re oZ]};{rw[Rc e,Rc oZ]}
 rw[es];have hq:=H.sq hk;show-s (c k)*(s (c k)*_)+_+_=_;rw[<-RO,SG,hq];omega
theorem Rd.Qy{n:Int}(hn:KV S ((List.range N).map fun k=>(h k:Int)*s (c k)) n):fH cs K m s n:=by
 have hz:∀k,k<N->((h k:Int)*s (c k)).natAbs=h k/\yt ((h k:Int)*s (c k))=s (c k):=fun k hk=>by
  have:=(H.hS k hk).1;unfold yt;rcases H.sg k hk with e|e<;>rw[e]
  {rw[Rc oZ];exact⟨oZ,rfl⟩};{rw[Re oZ];exact⟨oZ,rfl⟩}
 have hb:=Al (σ:=fun k=>s (c k)) H.jB (fun k hk=>H.sg k hk) H.hS hz hn;have V2:∃idx:Nat->Nat,∀k,k<N->idx (c k)=k:=by
  have:∀z:Nat,∃k:Nat,∀l,l<N->c l=z->k=l:=fun z=>by
   by_cases e:∃l,l<N/\c l=z
   {obtain⟨l,hl,e⟩:=e;exact⟨l,fun l' YJ e'=>H.inj l l' hl YJ (e.trans e'.symm)⟩};{exact⟨0,fun l hl e'=>absurd ⟨l,hl,e'⟩ e⟩}
  obtain⟨f,hf⟩:=Sp this;exact⟨f,fun k hk=>hf _ k hk rfl⟩
 obtain⟨idx,hi⟩:=V2;refine⟨n+sI N fun k=>if H.W (h k)=true then 0 else s (c k),?_,by rw[H.take];omega⟩;have Bphi:∀v,P2 N S h (fun k=>s (c k)) H.W v->∀y,BG cs K (gd s N h idx v) y=sI N fun k=>if H.W (h k)=true then-s (c k)*(v k*(y (oR s (c k))-y (ae (oR s (c k)) 2)))else s (c k)*(s (c k)*v k*(y (ae (oR s (c k)) 1)-y (ae (oR s (c k)) 3))):=fun v hv y=>by
  rw[H.bg];refine aj fun k hk=>?_
  by_cases hw:H.W (h k)=true;{rw[Re hw,H.gW hk hw,Kz (s:=s) (h:=h) hi v hk]};{rw[Rc hw,H.gB hk hw,H.Ky hi hv hk hw]}
 refine hb.map (φ:=gd s N h idx) (fun v hv=>H.Na hi hv) (fun v w hv hw=>?_) (fun x hx=>⟨_,H.K6 hx,fun y _=>?_⟩) (kR _ _)
 ·rw[Bphi v hv,N_ H.jB H.hS hv hw]
  refine aj fun k hk=>?_
  have hq:=H.sq hk;by_cases hww:H.W (h k)=true;{rw[Re hww,Re hww,Kz (s:=s) (h:=h) hi w hk]};{rw[Rc hww,Rc hww,H.Ky hi hw hk hww];grind}
 ·rw[Bphi _ (H.K6 hx),H.bg]
  refine aj fun k hk=>?_
  have hq:=H.sq hk;by_cases hww:H.W (h k)=true;{rw[Re hww,H.gW hk hww];unfold vX;rw[Re hk,Re hww]};{rw[Rc hww,H.gB hk hww];unfold vX;rw[Re hk,Rc hww];grind}
end
theorem Ce(P:Nat->Prop)(f:Nat->Int):∀N,(∃x,x<N/\P x)->∃x,x<N/\P x/\∀y,y<N->P y->f y<=f x
 |0,⟨x,h,_⟩=>absurd h (RG x)
 |N+1,⟨x,h,hp⟩=>by
  by_cases hx:∃x,x<N/\P x
  {obtain⟨y,h1,h2,h3⟩:=Ce P f N hx;by_cases hN:P N/\f y<f N;{refine⟨N,oZ,hN.1,fun z hz pz=>?_⟩;by_cases e:z=N;{subst e;exact TK _};{have:=h3 z oZ pz;omega}};{refine⟨y,oZ,h2,fun z hz pz=>?_⟩;by_cases e:z=N;{subst e;exact Int.le_of_not_gt fun hh=>hN ⟨pz,hh⟩};{exact h3 z oZ pz}}}
  ·obtain rfl:x=N:=Rq fun Vh=>hx ⟨x,oZ,hp⟩
   refine⟨x,h,hp,fun z hz pz=>?_⟩;by_cases e:z=x;{subst e;exact TK _};{exact absurd ⟨z,oZ,pz⟩ hx}
structure BS(sg mt:List Int)(p:Nat->Int)(x0:Nat):Prop where
 f:∀h,h<mt.length->p (au mt h)=p h
 e:∀h,h<mt.length->p h-p (gn mt h)=if ai sg h=true then 1 else-1
 lt:x0<mt.length
 o:ai sg x0=true
 top:IM sg mt x0
section
variable{sg mt:List Int}{L:Int}(H:Bd sg mt L)
include H
theorem Bd.Ho:∃p x0,BS sg mt p x0:=by
 obtain⟨p,V3,Wt⟩:=numbering H.d;have Vh:∃x,x<mt.length/\ai sg x=true:=⟨oC sg 0,(aK H.d H.pos 0).2,(bZ H.d H.pos).1⟩
 obtain⟨x,h1,h2,h3⟩:=Ce (fun x=>ai sg x=true) p mt.length Vh;refine⟨p,x,V3,Wt,h1,h2,fun c hc h=>?_⟩;have a:=fv H.d V3 Wt (aK H.d hc 1).2 h;have b:=jO H.d V3 Wt hc;have d:=h3 _ (aK H.d hc 1).1 (bZ H.d hc).2.1;omega
variable{p:Nat->Int}{x0:Nat}(V:BS sg mt p x0)
include V
theorem Bd.Pt{y:Nat}(hy:y<mt.length)(oy:ai sg y=true):∃d,EU sg mt x0 d y/\p y=p x0-d:=by
 obtain⟨d,h|h⟩:=H.tr V.lt V.o hy oy;{exact⟨d,h,pU H.d V.f V.e V.lt h⟩}
 ·cases d with
  |zero=>exact⟨0,h,by rw[fv H.d V.f V.e V.lt h];omega⟩
  |succ d=>exact absurd h (H.KO V.lt V.top)
theorem Bd.same{x y:Nat}(hx:x<mt.length)(ox:ai sg x=true)(hy:y<mt.length)(oy:ai sg y=true):sC sg mt x y↔p x=p y:=
 ⟨fun h=>(fv H.d V.f V.e hx h).symm,fun h=>Kj H.d H.i V.f V.e H.cn hx ox hy oy h⟩
theorem Bd.levels:(∀y,y<mt.length->ai sg y=true->∃d,d<(aD sg mt).length/\p y=p x0-d)/\∀d,d<(aD sg mt).length->∃y,y<mt.length/\ai sg y=true/\p y=p x0-d:=by
 have hC:=aI H.d;have hw:=fZ H.d;obtain⟨z,hz,oz,hzm⟩:=Ce (fun x=>ai sg x=true) (fun x=> -p x) mt.length ⟨x0,V.lt,V.o⟩;obtain⟨D,hD,hDp⟩:=H.Pt V hz oz;have below:∀d y,EU sg mt x0 d y->y<mt.length->ai sg y=true->∀k,k<=d->∃y,y<mt.length/\ai sg y=true/\p y=p x0-k:=fun d=>by
  induction d with
  |zero=>intro y h hy oy k hk;obtain rfl:k=0:=oZ;exact⟨y,hy,oy,pU H.d V.f V.e V.lt h⟩
  |succ d ih=>intro y h hy oy k hk;by_cases e:k=d+1;{subst e;exact⟨y,hy,oy,pU H.d V.f V.e V.lt h⟩};{obtain⟨w,h1,h2⟩:=h;have hl:=h2.lt H.d;exact ih w h1 hl.1 hl.2.2.1 k oZ}
 have att:=below D z hD hz oz;have up:∀y,y<mt.length->ai sg y=true->∃d,d<D+1/\p y=p x0-d:=fun y hy oy=>by obtain⟨d,-,hd⟩:=H.Pt V hy oy;have:=hzm y hy oy;exact⟨d,oZ,hd⟩
 have num_att:∀i,i<(aD sg mt).length->∃y,y<mt.length/\ai sg y=true/\e_ (aP sg mt) mt.length (ai sg) y=i:=fun i hi=>by have hi':i<(bR (aP sg mt) mt.length (ai sg) mt.length).length:=hi;obtain⟨y,XP,hy2,-,-,Zm⟩:=pt (aP sg mt) mt.length (ai sg) mt.length i hi';exact⟨y,XP,hy2,((rL hC hw XP hy2 hi').1 (by rw[Zm];exact bE hC XP)).symm⟩
 have hS:D+1=(aD sg mt).length:=by
  have dep:∀y,∃d,y<mt.length->ai sg y=true->d<D+1/\p y=p x0-d:=fun y=>by by_cases h:y<mt.length/\ai sg y=true;{obtain⟨d,h1,h2⟩:=up y h.1 h.2;exact⟨d,fun _ _=>⟨h1,h2⟩⟩};{exact⟨0,fun a b=>absurd ⟨a,b⟩ h⟩}
  obtain⟨dp,hdp⟩:=Sp dep;have rep1:∀i,∃y,i<(aD sg mt).length->y<mt.length/\ai sg y=true/\e_ (aP sg mt) mt.length (ai sg) y=i:=fun i=>by by_cases h:i<(aD sg mt).length;{obtain⟨y,hy⟩:=num_att i h;exact⟨y,fun _=>hy⟩};{exact⟨0,fun a=>absurd a h⟩}
  obtain⟨r1,ZB⟩:=Sp rep1;have rep2:∀d,∃y,d<D+1->y<mt.length/\ai sg y=true/\p y=p x0-d:=fun d=>by by_cases h:d<D+1;{obtain⟨y,hy⟩:=att d oZ;exact⟨y,fun _=>hy⟩};{exact⟨0,fun a=>absurd a h⟩}
  obtain⟨r2,Xs⟩:=Sp rep2;have i1:=kB (A:=fun _=>true) (B:=fun _=>true) (N:=(aD sg mt).length) (M:=D+1) (fun i=>dp (r1 i)) (fun i hi _=>by
   obtain⟨a,b,c⟩:=ZB i hi;exact⟨(hdp _ a b).1,rfl⟩) (fun i j hi hj _ _ e=>by
   obtain⟨a,b,c⟩:=ZB i hi;obtain⟨a',b',c'⟩:=ZB j hj;have e1:=(hdp _ a b).2;have e2:=(hdp _ a' b').2;rw[<-c,<-c',sC.num H.d a a' b b'];exact(H.same V a b a' b').2 (by rw[e1,e2,e]))
  have i2:=kB (A:=fun _=>true) (B:=fun _=>true) (N:=D+1) (M:=(aD sg mt).length) (fun d=>e_ (aP sg mt) mt.length (ai sg) (r2 d)) (fun d hd _=>by
   obtain⟨a,b,c⟩:=Xs d hd;exact⟨(fw hC hw a b).1,rfl⟩) (fun i j hi hj _ _ e=>by
   obtain⟨a,b,c⟩:=Xs i hi;obtain⟨a',b',c'⟩:=Xs j hj;have:=(H.same V a b a' b').1 ((sC.num H.d a a' b b').1 e);omega)
  have t1:=mr (fun _=>true) (aD sg mt).length;have t2:=mr (fun _=>true) (D+1);rw[show cW (fun _=> !true) (aD sg mt).length=0 from eD _]at t1;rw[show cW (fun _=> !true) (D+1)=0 from eD _]at t2;omega
 rw[<-hS];exact⟨up,fun d hd=>att d oZ⟩
end
def Eu(sg:List Int)(cur:Nat->Nat)(e:Nat×Nat):Nat->Nat:=fun j=>if j+1=e.2 then ae (oC sg e.1) 1 else if j=e.2 then oC sg e.1 else cur j
def bK(sg:List Int)(st:Nat->Nat)(l:List (Nat×Nat)):Nat->Nat:=l.foldl (Eu sg) st
theorem mm(sg:List Int)(st:Nat->Nat)(l:List (Nat×Nat))(e:Nat×Nat):bK sg st (l++[e])=Eu sg (bK sg st l) e:=by unfold bK;rw[List.foldl_append];rfl
def tC(l:List (Nat×Nat))(j:Nat):Nat:=l.countP fun e=>decide (e.2=j+1\/e.2=j)
theorem xX(l:List (Nat×Nat))(e:Nat×Nat)(j:Nat):tC (l++[e]) j=tC l j+if e.2=j+1\/e.2=j then 1 else 0:=by unfold tC;rw[List.countP_append];congr 1;by_cases h:e.2=j+1\/e.2=j;{rw[Re h];simp[h]};{rw[Rc h];simp[h]}
structure Rg(sg mt:List Int)(S:Nat)(st:Nat->Nat)(l:List (Nat×Nat)):Prop where
 val:∀e∈l,e.1<sg.length/\1<=e.2/\e.2<S
 nd:(l.map (·.1)).Nodup
 pos:∀j,j<S->bK sg st l j=it (aP sg mt) (tC l j) (st j)/\tC l j<=eC (aP sg mt) mt.length (st j)
 rdd:∀j,j<S->∀t,t<eC (aP sg mt) mt.length (st j)->(gn mt (it (aP sg mt) t (st j))/4∈l.map (·.1)↔t<tC l j)
 fc:∀j,1<=j->j<S->bK sg st l j∈bJ (au mt) mt.length (gn mt (bK sg st l (j-1)))
 stp:∀k (hk:k<l.length),gn mt (bK sg st (l.take k) ((l[k]).2-1))=ae (oC sg (l[k]).1) 2/\gn mt (bK sg st (l.take k) (l[k]).2)=ae (oC sg (l[k]).1) 3
structure Cut(sg mt:List Int)(p:Nat->Int)(x0 S:Nat)(st:Nat->Nat):Prop where
 uM:∀j,j<S->st j<mt.length/\ai sg (st j)=true/\p (st j)=p x0-j
 fc:∀j,1<=j->j<S->st j∈bJ (au mt) mt.length (gn mt (st (j-1)))
section
variable{sg mt:List Int}{L:Int}(H:Bd sg mt L){p:Nat->Int}{x0:Nat}(V:BS sg mt p x0){S:Nat}{st:Nat->Nat}(C:Cut sg mt p x0 S st)
include H V C
omit H V in
theorem Rg.start:Rg sg mt S st []:=
 ⟨fun e h=>by simp at h,List.nodup_nil,fun j _=>⟨rfl,Rv _⟩,fun j _ t _=>⟨fun h=>by simp at h,fun h=>absurd h (RG t)⟩,C.fc,fun k hk=>absurd hk (RG k)⟩
variable{l:List (Nat×Nat)}(G:Rg sg mt S st l)
include G
omit V in
theorem Rg.cur{j:Nat}(hj:j<S):bK sg st l j<mt.length/\ai sg (bK sg st l j)=true/\sC sg mt (st j) (bK sg st l j):=by
 obtain⟨a,b,-⟩:=C.uM j hj;have hm:sC sg mt (st j) (bK sg st l j):=by rw[(G.pos j hj).1];exact(aG (aI H.d) a).2 ⟨_,rfl⟩
 exact⟨sC.lt H.d a hm,sC.out H.d a b hm,hm⟩
theorem Rg.uM{j:Nat}(hj:j<S):p (bK sg st l j)=p x0-j:=by obtain⟨a,b,c⟩:=C.uM j hj;rw[fv H.d V.f V.e a (Rg.cur H C G hj).2.2,c]
omit C G in
theorem eO{x c:Nat}(hx:x<mt.length)(ox:ai sg x=true)(hc:gn mt x/4=c):c<sg.length/\((gn mt x=ae (oC sg c) 2/\aP sg mt x=ae (oC sg c) 1/\au mt x=ae (oC sg c) 1/\p (ae (oC sg c) 1)=p x)\/(gn mt x=ae (oC sg c) 3/\aP sg mt x=oC sg c/\au mt x=ae (oC sg c) 2/\p (ae (oC sg c) 1)=p x+1)):=by
 have Vo:c<sg.length:=by have:=(H.d.2.2.2.2.2.1.gn hx).2.1;have:=H.d.2.1;omega
 refine⟨Vo,?_⟩;have hl:=fv H.d V.f V.e hx (sC.next H.d hx);have e:=vD H.d hx ox;rw[hc]at e;rcases e with e|e
 {obtain⟨e1,e2⟩:=(cZ H.d hx ox).1 e;rw[e1]at hl;exact .inl ⟨e,e1,e2,hl⟩};{obtain⟨e1,e2⟩:=(cZ H.d hx ox).2 e;rw[e1,jO H.d V.f V.e Vo]at hl;exact .inr ⟨e,e1,e2,oZ⟩}
omit C G in
theorem once{x:Nat}(hx:x<mt.length)(ox:ai sg x=true){t u:Nat}(ht:t<eC (aP sg mt) mt.length x)(hu:u<eC (aP sg mt) mt.length x)(h:gn mt (it (aP sg mt) t x)/4=gn mt (it (aP sg mt) u x)/4):t=u:=by
 have hC:=aI H.d;have at_:∀t,it (aP sg mt) t x<mt.length/\ai sg (it (aP sg mt) t x)=true/\p (it (aP sg mt) t x)=p x:=fun t=>by have hm:sC sg mt x (it (aP sg mt) t x):=(aG hC hx).2 ⟨t,rfl⟩;exact⟨sC.lt H.d hx hm,sC.out H.d hx ox hm,fv H.d V.f V.e hx hm⟩
 obtain⟨a1,a2,a3⟩:=at_ t;obtain⟨b1,b2,b3⟩:=at_ u;obtain⟨-,a⟩:=eO H V a1 a2 rfl;obtain⟨-,b⟩:=eO H V b1 b2 h.symm;have e:it (aP sg mt) t x=it (aP sg mt) u x:=by
  refine dZ H.d.2.2.2.2.2.1 a1 b1 ?_;rcases a with⟨a,-,-,pa⟩|⟨a,-,-,pa⟩<;>rcases b with⟨b,-,-,pb⟩|⟨b,-,-,pb⟩
  {rw[a,b]};{omega};{omega};{rw[a,b]}
 have Yz:=vm hC hx;rcases SK t u with Vg|he|Vg
 ·have e2:it (aP sg mt) u x=it (aP sg mt) t (it (aP sg mt) (u-t) x):=by rw[<-fO];congr 1;omega
  rw[e2]at e;have:=hC.ki t hx (hC.bL _ hx) e;exact absurd this.symm ((bz hC hx).2.2.2 (u-t) oZ oZ)
 {exact he}
 ·have e2:it (aP sg mt) t x=it (aP sg mt) u (it (aP sg mt) (t-u) x):=by rw[<-fO];congr 1;omega
  rw[e2]at e;have:=hC.ki u hx (hC.bL _ hx) e.symm;exact absurd this.symm ((bz hC hx).2.2.2 (t-u) oZ oZ)
omit V C G in
theorem comes{x y:Nat}(hx:x<mt.length)(ox:ai sg x=true)(hy:sC sg mt x y):∃t,t<eC (aP sg mt) mt.length x/\gn mt (it (aP sg mt) t x)/4=y/4:=by
 have hC:=aI H.d;have VJ:=sC.lt H.d hx hy;have oy:=sC.out H.d hx ox hy;obtain⟨k,hk⟩:=(aG hC VJ).1 (sC.symm H.d hx hy);obtain⟨c,hc⟩:∃c,y/4=c:=⟨_,rfl⟩
 have Vo:c<sg.length:=by have:=H.d.2.1;omega
 have hI:=H.d.2.2.2.2.2.1;have prev:∃w,sC sg mt x w/\gn mt w/4=c:=by
  rcases my H.d VJ oy with e|e
  {rw[hc]at e;have h3:=(aK H.d Vo 3).1;have hl:=(hI.gn h3).2.1;have s1:=sC.next H.d hl;rw[((cZ H.d hl (fR H.d h3 (bZ H.d Vo).2.2.2) (c:=c)).2 (hI.gn h3).2.2.2).1]at s1;exact⟨_,sC.trans H.d hx (e▸hy) (sC.symm H.d hl s1),by rw[(hI.gn h3).2.2.2,af];exact dA _ _⟩};{rw[hc]at e;have h2:=(aK H.d Vo 2).1;have hl:=(hI.gn h2).2.1;have s1:=sC.next H.d hl;rw[((cZ H.d hl (fR H.d h2 (bZ H.d Vo).2.2.1) (c:=c)).1 (hI.gn h2).2.2.2).1]at s1;exact⟨_,sC.trans H.d hx (e▸hy) (sC.symm H.d hl s1),by rw[(hI.gn h2).2.2.2,af];exact dA _ _⟩}
 obtain⟨w,h1,h2⟩:=prev;obtain⟨t,ht⟩:=(aG hC hx).1 h1;refine⟨t%eC (aP sg mt) mt.length x,RY _ (bz hC hx).1,?_⟩;rw[<-jv hC hx,ht,h2,hc]
theorem Rg.front{j:Nat}(hj:j<S){y:Nat}(hy:y<mt.length)(oy:ai sg y=true)(hp:p y=p x0-j)(hu:y/4∉l.map (·.1)):gn mt (bK sg st l j)/4∉l.map (·.1):=by
 obtain⟨a,b,c⟩:=C.uM j hj;obtain⟨t,ht,e⟩:=comes H a b ((H.same V a b hy oy).2 (by rw[c,hp]));have h1:=G.rdd j hj t ht;rw[e]at h1;have h2:¬t<tC l j:=fun h=>hu (h1.2 h)
 rw[(G.pos j hj).1];exact fun h=>Sq _ ((G.rdd j hj (tC l j) oZ).1 h)
theorem Rg.pair{i c:Nat}(h1:1<=i)(hi:i<S)(e1:gn mt (bK sg st l i)/4=c)(e2:gn mt (bK sg st l (i-1))/4=c):
  gn mt (bK sg st l (i-1))=ae (oC sg c) 2/\gn mt (bK sg st l i)=ae (oC sg c) 3:=by
 obtain⟨a1,a2,-⟩:=Rg.cur H C G (j:=i) hi;obtain⟨b1,b2,-⟩:=Rg.cur H C G (j:=i-1) oZ;have la:=Rg.uM H V C G (j:=i) hi;have lb:=Rg.uM H V C G (j:=i-1) oZ;obtain⟨-,a⟩:=eO H V a1 a2 e1;obtain⟨-,b⟩:=eO H V b1 b2 e2;rcases a with⟨a,-,-,pa⟩|⟨a,-,-,pa⟩<;>rcases b with⟨b,-,-,pb⟩|⟨b,-,-,pb⟩
 {omega};{omega};{exact⟨b,a⟩};{omega}
theorem Rg.step{i c:Nat}(h1:1<=i)(hi:i<S)(e1:gn mt (bK sg st l i)/4=c)(e2:gn mt (bK sg st l (i-1))/4=c)(hu:c∉l.map (·.1)):Rg sg mt S st (l++[(c,i)]):=by
 have hC:=aI H.d;have hF:=dE H.d;have hI:=H.d.2.2.2.2.2.1;obtain⟨m2,m3⟩:=Rg.pair H V C G h1 hi e1 e2;obtain⟨a1,a2,-⟩:=Rg.cur H C G (j:=i) hi;obtain⟨b1,b2,-⟩:=Rg.cur H C G (j:=i-1) oZ;have la:=Rg.uM H V C G (j:=i) hi;have lb:=Rg.uM H V C G (j:=i-1) oZ;obtain⟨na1,na2⟩:=(cZ H.d a1 a2).2 m3;obtain⟨nb1,nb2⟩:=(cZ H.d b1 b2).1 m2;have Vo:c<sg.length:=by have:=(hI.gn a1).2.1;have:=H.d.2.1;omega
 obtain⟨f1,f2,-,-⟩:=jI H.d Vo;have room:∀j,j<S->gn mt (bK sg st l j)/4=c->tC l j<eC (aP sg mt) mt.length (st j):=fun j hj e=>by
  refine Rq fun Yf=>?_
  obtain⟨q1,q2⟩:=G.pos j hj;obtain⟨s1,s2,-⟩:=C.uM j hj;have hper:=bz hC s1;have heq:tC l j=eC (aP sg mt) mt.length (st j):=oZ;rw[heq,hper.2.2.1]at q1;rw[q1]at e;have:=(G.rdd j hj 0 hper.1).2 oZ;rw[show it (aP sg mt) 0 (st j)=st j from rfl,e]at this;exact hu this
 have ra:=room i hi e1;have rb:=room (i-1) oZ e2;have cs:bK sg st (l++[(c,i)])=Eu sg (bK sg st l) (c,i):=mm _ _ _ _;have ci:bK sg st (l++[(c,i)]) i=oC sg c:=by rw[cs];show(if i+1=i then _ else if i=i then _ else _)=_;rw[Rc oZ,Re rfl]
 have ci1:bK sg st (l++[(c,i)]) (i-1)=ae (oC sg c) 1:=by rw[cs];show(if i-1+1=i then _ else _)=_;rw[Re oZ]
 have co:∀j,j≠i->j≠i-1->bK sg st (l++[(c,i)]) j=bK sg st l j:=fun j n1 n2=>by rw[cs];show(if j+1=i then _ else if j=i then _ else _)=_;rw[Rc oZ,Rc n1]
 have tO:∀j,j≠i->j≠i-1->tC (l++[(c,i)]) j=tC l j:=fun j n1 n2=>by rw[xX,Rc (by show¬(i=j+1\/i=j);omega)];rfl
 have ti:tC (l++[(c,i)]) i=tC l i+1:=by rw[xX,Re (.inr rfl)]
 have ti1:tC (l++[(c,i)]) (i-1)=tC l (i-1)+1:=by rw[xX,Re (.inl (by show i=i-1+1;omega))]
 refine⟨fun e he=>?_,?_,fun j hj=>?_,fun j hj t ht=>?_,fun j hj1 hj=>?_,fun k hk=>?_⟩
 ·rcases SS.1 he with he|he
  {exact G.val e he};{rw[Ti]at he;subst he;exact⟨Vo,h1,hi⟩}
 {rw[SB,U6];exact⟨G.nd,oX,fun x hx y hy e=>by simp at hy;subst hy;subst e;exact hu hx⟩};{by_cases n1:j=i;{subst n1;rw[ci,ti];exact⟨by show _=aP sg mt _;rw[<-(G.pos j hj).1,na1],ra⟩};{by_cases n2:j=i-1;{subst n2;rw[ci1,ti1];exact⟨by show _=aP sg mt _;rw[<-(G.pos _ hj).1,nb1],rb⟩};{rw[co j n1 n2,tO j n1 n2];exact G.pos j hj}}}
 ·obtain⟨s1,s2,s3⟩:=C.uM j hj
  have hold:=G.rdd j hj t ht;rw[SB,SS,UY,Ti];by_cases n1:j=i\/j=i-1
  ·have hT:tC (l++[(c,i)]) j=tC l j+1/\gn mt (bK sg st l j)/4=c/\tC l j<eC (aP sg mt) mt.length (st j):=by
    rcases n1 with rfl|rfl
    {exact⟨ti,e1,ra⟩};{exact⟨ti1,e2,rb⟩}
   obtain⟨t1,t2,t3⟩:=hT;rw[t1];rw[(G.pos j hj).1]at t2;constructor;{rintro(h|h);{have:=hold.1 h;omega};{have:=once H V s1 s2 ht t3 (h.trans t2.symm);omega}};{intro h;by_cases e:t=tC l j;{subst e;exact .inr t2};{exact .inl (hold.2 oZ)}}
  ·rw[tO j (fun h=>n1 (.inl h)) fun h=>n1 (.inr h),<-hold]
   refine⟨fun h=>h.elim id fun h=>?_,.inl⟩;have hm:sC sg mt (st j) (it (aP sg mt) t (st j)):=(aG hC s1).2 ⟨t,rfl⟩;have hl:=fv H.d V.f V.e s1 hm;obtain⟨-,q⟩:=eO H V (sC.lt H.d s1 hm) (sC.out H.d s1 s2 hm) h;have hq:p (ae (oC sg c) 1)=p (bK sg st l (i-1)):=by have:=fv H.d V.f V.e b1 (sC.next H.d b1);rwa [nb1]at this
   exfalso;clear room ra rb co tO ti ti1 hold f1 f2 na2 nb2 m2 m3;rcases q with⟨-,-,-,q⟩|⟨-,-,-,q⟩
   {rw[hq,hl,lb,s3]at q;omega};{rw[hq,hl,lb,s3]at q;omega}
 {by_cases n1:j=i;{subst n1;rw[ci,ci1];have hl:=(hI.gn (aK H.d Vo 1).1).2.1;have:=bU hF hl (bE hF hl);rwa [f1]at this};{by_cases n2:j=i-1;{subst n2;rw[ci1,co (i-1-1) oZ oZ];have:=bU hF (hI.gn (Rg.cur H C G (j:=i-1-1) oZ).1).2.1 (G.fc (i-1) hj1 hj);rwa [nb2]at this};{rw[co j n1 n2];by_cases n3:j-1=i;{rw[n3,ci];have h3:=G.fc j hj1 hj;rw[n3,m3]at h3;have hl:=(hI.gn (aK H.d Vo 1).2).2.1;have h4:=bU hF hl (bE hF hl);rw[f2]at h4;exact aM hF hl h4 h3};{rw[co (j-1) n3 oZ];exact G.fc j hj1 hj}}}}
 ·by_cases e:k<l.length
  {rw[Uj e,List.take_append_of_le_length oZ];exact G.stp k e}
  ·have VH:k=l.length:=by rw[Rz]at hk;simp at hk;omega
   subst VH;rw[List.take_left' rfl];simp only[List.getElem_concat_length];exact⟨m2,m3⟩
theorem Rg.Oa(hS:S=(aD sg mt).length)(hl:l.length<sg.length):∃i,1<=i/\i<S/\gn mt (bK sg st l i)/4=gn mt (bK sg st l (i-1))/4/\gn mt (bK sg st l i)/4∉l.map (·.1):=by
 have hF:=dE H.d;have hlev:=(H.levels V).1;obtain⟨c0,hc0,hn0⟩:∃c,c<sg.length/\c∉l.map (·.1):=by
  refine Rq fun VT=>?_
  have h1:=ru (m:=sg.length) (l.map (·.1)) G.nd fun x hx=>by obtain⟨e,he,rfl⟩:=So.1 hx;exact(G.val e he).1
  have h2:cW (fun x=>decide (x∈l.map (·.1))) sg.length=cW (fun _=>true) sg.length:=aS fun x hx=>Rj (Rq fun hx'=>VT ⟨x,hx,hx'⟩)
  have h3:=mr (fun _=>true) sg.length;rw[show cW (fun _=> !true) sg.length=0 from eD _]at h3;rw[Sa]at h1;omega
 have left:∀j,j<S->gn mt (bK sg st l j)/4∉l.map (·.1)->∃j',j'<S/\gn mt (bK sg st l j')/4∉l.map (·.1)/\gn mt (bK sg st l j')=ae (oC sg (gn mt (bK sg st l j')/4)) 2:=fun j=>by
  induction j with
  |zero=>
   intro hj hu;obtain⟨a1,a2,a3⟩:=Rg.cur H C G hj;obtain⟨Vo,q⟩:=eO H V a1 a2 rfl;rcases q with⟨q,-⟩|⟨-,q,-⟩
   {exact⟨0,hj,hu,q⟩};{have hl:=Rg.uM H V C G hj;have s1:=sC.next H.d a1;rw[q]at s1;have s2:sC sg mt (bK sg st l 0) x0:=(H.same V a1 a2 V.lt V.o).2 (by rw[hl];omega);exact absurd (sC.trans H.d (aK H.d Vo 1).2 (sC.symm H.d a1 s1) s2) (V.top _ Vo)}
  |succ j ih=>
   intro hj hu;obtain⟨a1,a2,a3⟩:=Rg.cur H C G hj;obtain⟨Vo,q⟩:=eO H V a1 a2 rfl;rcases q with⟨q,-⟩|⟨-,-,-,q⟩
   {exact⟨j+1,hj,hu,q⟩};{have hl:=Rg.uM H V C G hj;refine ih oZ (Rg.front H V C G (j:=j) oZ (aK H.d Vo 1).1 (bZ H.d Vo).2.1 (by rw[q,hl];omega) ?_);rw[af,show oC sg (gn mt (bK sg st l (j+1))/4)/4=_ from dA _ _];exact hu}
 have right:∀m j,S-j<=m->j<S->gn mt (bK sg st l j)/4∉l.map (·.1)->gn mt (bK sg st l j)=ae (oC sg (gn mt (bK sg st l j)/4)) 2->∃i,1<=i/\i<S/\gn mt (bK sg st l i)/4=gn mt (bK sg st l (i-1))/4/\gn mt (bK sg st l i)/4∉l.map (·.1):=fun m=>by
  induction m with
  |zero=>intro j h1 h2;omega
  |succ m ih=>
   intro j hm hj hu q;obtain⟨a1,a2,a3⟩:=Rg.cur H C G hj;obtain⟨c,hc⟩:∃c,gn mt (bK sg st l j)/4=c:=⟨_,rfl⟩
   rw[hc]at q hu;obtain⟨Vo,q0⟩:=eO H V a1 a2 hc;have hl:=Rg.uM H V C G hj;have q2:p (ae (oC sg c) 1)=p (bK sg st l j):=by
    rcases q0 with⟨-,-,-,q0⟩|⟨q0,-⟩
    {exact q0};{rw[q]at q0;exact absurd q0 (aB oQ oQ oQ)}
   have ho:=jO H.d V.f V.e Vo;obtain⟨d,XR,hd2⟩:=hlev _ (aK H.d Vo 1).2 (bZ H.d Vo).1;have hj1:j+1<S:=oZ;have ZZ:=Rg.front H V C G hj1 (aK H.d Vo 1).2 (bZ H.d Vo).1 (by rw[ho,q2,hl];omega) (by rw[show oC sg c/4=c from dA _ _];exact hu);obtain⟨b1,b2,b3⟩:=Rg.cur H C G hj1;obtain⟨hcl',r⟩:=eO H V b1 b2 rfl;rcases r with⟨r,-⟩|⟨-,-,r,-⟩
   {exact ih (j+1) oZ hj1 ZZ r};{refine⟨j+1,oZ,hj1,?_,ZZ⟩;rw[Tj,hc];have f:=G.fc (j+1) oZ hj1;rw[Tj,q]at f;have f2:=bU hF (aK H.d Vo 2).1 f;rw[r]at f2;exact(H.behind Vo hcl' f2).symm}
 obtain⟨d,XR,hd2⟩:=hlev _ (aK H.d hc0 1).2 (bZ H.d hc0).1;have hu:=Rg.front H V C G (j:=d) oZ (aK H.d hc0 1).2 (bZ H.d hc0).1 hd2 (by rw[show oC sg c0/4=c0 from dA _ _];exact hn0);obtain⟨j,h1,h2,h3⟩:=left d oZ hu;exact right _ j (Rf _) h1 h2 h3
end
def b_(sg:List Int)(l:List (Nat×Nat)):List Int:=l.map fun e=>(e.2:Int)*gi sg e.1
def cA(sg mt:List Int)(K:Nat->Bool):Prop:=DT (List.range sg.length) K (gn mt)
def jE(sg mt:List Int)(K:Nat->Bool)(n:Int):Prop:=fH (List.range sg.length) K (gn mt) (gi sg) n
theorem xQ{sg mt:List Int}{L:Int}(hd:cJ sg mt L):∃K,cA sg mt K:=by
 obtain⟨p,V3,Wt⟩:=numbering hd;have hn:=hd.2.1;refine⟨fun h=>decide (p h%2=0),fun h hh=>?_,fun h hh=>?_⟩
 ·have hl:h<mt.length:=by have:=Rm.1 hh;omega
  have Xw:ae h 1<mt.length:=by have:=af h 1;omega
  have:=gK hd V3 Wt Xw;rw[(tt h).1]at this;by_cases e:p h%2=0;{rw[Rj e,Rl (by split at this<;>omega)];rfl};{rw[Rl e,Rj (by split at this<;>omega)];rfl}
 ·have hl:h<mt.length:=by have:=Rm.1 hh;omega
  have:=V3 h hl;unfold au at this;show decide (p (ae (gn mt h) 3)%2=0)=_;rw[this]
theorem jZ{sg mt:List Int}{L:Int}(hd:cJ sg mt L){K:Nat->Bool}(hK:cA sg mt K){x:bB}(hx:PG (List.range sg.length) K (gn mt) x){a b:Nat}(ha:a<mt.length)(h:b∈bJ (au mt) mt.length a):K b=K a/\(K a=true->x b=x a):=by
 have hF:=dE hd;have hn:=hd.2.1;obtain⟨k,rfl⟩:=(aG hF ha).1 h;clear h
 induction k with
 |zero=>exact⟨rfl,fun _=>rfl⟩
 |succ k ih=>have hk:=hF.bL k ha;have hm:it (au mt) k a/4∈List.range sg.length:=Rm.2 oZ;have e:K (it (au mt) (k+1) a)=K (it (au mt) k a):=hK.cF _ hm;refine⟨e.trans ih.1,fun hw=>?_⟩;rw[<-ih.2 hw];exact(hx _ hm (by rw[ih.1,hw])).symm
theorem getD_map(l:List (Nat×Nat)):(List.range l.length).map (fun k=>(l.getD k (0,0)).1)=l.map (·.1):=by
 refine TR oX fun i h1 h2=>?_
 have hi:i<l.length:=by simpa using h1
 simp[hi]
section
variable{sg mt:List Int}{L:Int}(H:Bd sg mt L){p:Nat->Int}{x0:Nat}(V:BS sg mt p x0){S:Nat}{st:Nat->Nat}(C:Cut sg mt p x0 S st){l:List (Nat×Nat)}(G:Rg sg mt S st l)(hl:l.length=sg.length)
include H V C G hl
omit H V C in
theorem Rg.full{c:Nat}(hc:c<sg.length):c∈l.map (·.1):=by
 have h1:=ru (m:=sg.length) (l.map (·.1)) G.nd fun x hx=>by obtain⟨e,he,rfl⟩:=So.1 hx;exact(G.val e he).1
 rw[Sa,hl]at h1;exact RU (yM (P:=fun x=>decide (x∈l.map (·.1))) (m:=sg.length) oZ c hc)
omit V in
theorem Rg.whole{j:Nat}(hj:j<S):tC l j=eC (aP sg mt) mt.length (st j):=by
 have h1:=(G.pos j hj).2;refine Rq fun Vh=>?_
 have Vg:tC l j<eC (aP sg mt) mt.length (st j):=oZ;have hs:=(C.uM j hj).1;have hk:=(aI H.d).bL (tC l j) hs;have hc:gn mt (it (aP sg mt) (tC l j) (st j))/4<sg.length:=by have:=(H.d.2.2.2.2.2.1.gn hk).2.1;have:=H.d.2.1;omega
 exact Sq _ ((G.rdd j hj _ Vg).1 (Rg.full G hl hc))
omit V in
theorem Rg.rd{K:Nat->Bool}(hK:cA sg mt K):Rd (List.range sg.length) K (gn mt) (gi sg) S l.length (fun k=>(l.getD k (0,0)).1) (fun k=>(l.getD k (0,0)).2) (fun k=>bK sg st (l.take k)):=by
 have hI:=H.d.2.2.2.2.2.1;have hn:=H.d.2.1;have at_:∀k,(hk:k<l.length)->l.getD k (0,0)=l[k]:=fun k hk=>by simp[hk]
 have mem:∀k,k<l.length->l.getD k (0,0)∈l:=fun k hk=>by rw[at_ k hk];exact R7 hk
 have XE:∀k,(hk:k<l.length)->bK sg st (l.take (k+1))=Eu sg (bK sg st (l.take k)) (l.getD k (0,0)):=fun k hk=>by rw[Uy,RH hk,at_ k hk];exact mm _ _ _ _
 have cF:∀j,1<=j->j<S->st j∈bJ (au mt) mt.length (gn mt (st (j-1)))/\ae (st (j-1)) 3∈bJ (au mt) mt.length (gn mt (st (j-1)))/\gn mt (st (j-1))<mt.length:=fun j h1 h2=>by
  have hl:=(C.uM (j-1) oZ).1;have hg:=hI.gn hl;refine⟨C.fc j h1 h2,?_,hg.2.1⟩;have:=bU (dE H.d) hg.2.1 (bE (dE H.d) hg.2.1);have e:au mt (gn mt (st (j-1)))=ae (st (j-1)) 3:=by unfold au;rw[hg.2.2.2]
  rwa [e]at this
 refine⟨?_,fun a b ha hb e=>?_,hK,fun z hz=>?_,fun k hk=>?_,fun k hk=>(G.val _ (mem k hk)).2,fun k hk=>?_,fun k hk=>?_,fun k hk=>?_,fun k hk=>?_,fun k hk j n1 n2=>?_,fun j hj=>?_,fun j hj=>?_,fun j hj=>?_,fun j h1 h2 x hx hk=>?_,fun j h1 h2=>?_⟩
 ·rw[getD_map]
  refine(SJ SD G.nd).2 fun c=>⟨fun h=>Rg.full G hl (Rm.1 h),fun h=>?_⟩
  obtain⟨e,he,rfl⟩:=So.1 h;exact Rm.2 (G.val e he).1
 ·have Yz:=G.nd
  have h1:(l.map (·.1))[a]'(by rw[Sa];exact ha)=(l.map (·.1))[b]'(by rw[Sa];exact hb):=by rw[Uf,Uf,<-at_ a ha,<-at_ b hb];exact e
  have hp:=TF.1 Yz;rcases SK a b with Vg|he|Vg
  {exact absurd h1 (hp a b _ _ Vg)};{exact he};{exact absurd h1.symm (hp b a _ _ Vg)}
 ·have XZ:z<mt.length:=by have:=Rm.1 hz;omega
  have hg:=hI.gn XZ;exact⟨hg.2.2.2,Rm.2 (by have:=hg.2.1;omega)⟩
 {exact H.d.2.2.2.2.1 _ (G.val _ (mem k hk)).1};{rw[at_ k hk];exact(G.stp k hk).1};{rw[at_ k hk];exact(G.stp k hk).2};{have h1:=(G.val _ (mem k hk)).2.1;rw[XE k hk];show(if _=_ then _ else _)=_;rw[Re oZ]};{rw[XE k hk];show(if _=_ then _ else if _=_ then _ else _)=_;rw[Rc oZ,Re rfl]};{have h1:=(G.val _ (mem k hk)).2.1;rw[XE k hk];show(if _=_ then _ else if _=_ then _ else _)=_;rw[Rc oZ,Rc n2]};{show bK sg st (l.take l.length) j=st j;rw[UE,(G.pos j hj).1,Rg.whole H C G hl hj,(bz (aI H.d) (C.uM j hj).1).2.2.1]};{have h1:=Rg.whole H C G hl hj;have h2:=(bz (aI H.d) (C.uM j hj).1).1;have h3:0<tC l j:=oZ;obtain⟨e,he,hp⟩:=List.countP_pos_iff.1 h3;obtain⟨k,hk,rfl⟩:=Te he;refine⟨k,hk,?_⟩;rw[at_ k hk];have:=RU hp;omega};{exact Rm.2 (by show st j/4<_;have:=(C.uM j hj).1;omega)}
 ·obtain⟨f1,f2,f3⟩:=cF j h1 h2
  have a:=jZ H.d hK hx f3 f1;have b:=jZ H.d hK hx f3 f2;have hw:K (gn mt (st (j-1)))=true:=by rw[<-a.1];exact hk
  show x (st j)=x (ae (st (j-1)) 3);rw[a.2 hw,b.2 hw]
 {obtain⟨f1,f2,f3⟩:=cF j h1 h2;have a:=jZ H.d hK (x:=fun _=>0) (fun _ _ _=>rfl) f3 f1;have b:=jZ H.d hK (x:=fun _=>0) (fun _ _ _=>rfl) f3 f2;show K (st j)=K (ae (st (j-1)) 3);rw[a.1,b.1]}
omit V in
theorem Rg.sig{K:Nat->Bool}(hK:cA sg mt K){n:Int}(hn:KV S (b_ sg l) n):jE sg mt K n:=by
 refine(Rg.rd H C G hl hK).Qy ?_;have e:(List.range l.length).map (fun k=>((l.getD k (0,0)).2:Int)*gi sg (l.getD k (0,0)).1)=b_ sg l:=by
  unfold b_;refine TR oX fun i h1 h2=>?_
  have hi:i<l.length:=by simpa using h1
  simp[hi]
 rw[e];exact hn
theorem Rg.QY(hS:S=(aD sg mt).length){g:Nat}(h1:1<=g)(h2:g<S):∃e∈l,e.2=g:=by
 obtain⟨y,hy,oy,py⟩:=(H.levels V).2 g oZ;obtain⟨d,hD,hp⟩:=H.Pt V hy oy;obtain⟨k,rfl⟩:∃k,d=k+1:=⟨d-1,oZ⟩
 obtain⟨z,hz,c,hc,hc1,Xd⟩:=hD;have pz:=pU H.d V.f V.e V.lt hz;have e1:=fv H.d V.f V.e (aK H.d hc 1).1 hc1;obtain⟨e,he,hec⟩:=So.1 (Rg.full G hl hc);obtain⟨i,hi,rfl⟩:=Te he;refine⟨_,he,?_⟩;have hv:=G.val _ he;have hs:=(G.stp i hi).1;rw[hec]at hs;have hR:=(Rg.rd H C G hl (xQ H.d).choose_spec);obtain⟨a,b,d'⟩:=C.uM ((l[i]).2-1) oZ;have hcur:sC sg mt (st ((l[i]).2-1)) (bK sg st (l.take i) ((l[i]).2-1)):=by
  have key:∀k,k<=l.length->∀j,j<S->sC sg mt (st j) (bK sg st (l.take k) j):=fun k=>by
   induction k with
   |zero=>intro _ j hj;exact sC.refl H.d (C.uM j hj).1
   |succ k ih=>
    intro hk j hj;have VH:k<l.length:=oZ;have old:=ih oZ j hj;obtain⟨x1,x2,-⟩:=C.uM j hj;have ol:=sC.lt H.d x1 old;have oo:=sC.out H.d x1 x2 old;have s1:=sC.next H.d ol;obtain⟨g1,g2⟩:=G.stp k VH;have hgt:=(G.val _ (R7 VH)).2.1;have nx:bK sg st (l.take (k+1)) j=Eu sg (bK sg st (l.take k)) l[k] j:=by rw[Uy,RH VH];exact congrFun (mm sg st (l.take k) l[k]) j
    rw[nx];show sC sg mt (st j) (if j+1=(l[k]).2 then _ else if j=(l[k]).2 then _ else _);by_cases n1:j+1=(l[k]).2;{rw[Re n1];rw[show(l[k]).2-1=j by omega]at g1;rw[((cZ H.d ol oo).1 g1).1]at s1;exact sC.trans H.d x1 old s1};{rw[Rc n1];by_cases n2:j=(l[k]).2;{rw[Re n2];rw[<-n2]at g2;rw[((cZ H.d ol oo).2 g2).1]at s1;exact sC.trans H.d x1 old s1};{rw[Rc n2];exact old}}
  exact key i oZ _ oZ
 have cl:=sC.lt H.d a hcur;have co:=sC.out H.d a b hcur;have pc:=fv H.d V.f V.e a hcur;have X5:=sC.next H.d cl;rw[((cZ H.d cl co).1 hs).1]at X5;have pn:=fv H.d V.f V.e cl X5;omega
end
theorem vU{mt:List Int}{n:Nat}(hI:cP mt)(hn:mt.length=4*n)(Xg:0<n)(h:∀c,c<n->Cn mt 0 c):av mt n n=1:=by
 have h0:∀c,c<n->gN (eH mt n) c=0:=fun c hc=>by have:=fN hI hn Xg (h c hc);have h1:=sR hI hn Xg;omega
 unfold av;rw[sE,aS (Q:=fun x=>decide (x=0)) fun x hx=>by rw[h0 x hx];exact Sj.2 eq_comm,nW,Re Xg]
theorem Ic{mt:List Int}{n:Nat}(hI:cP mt)(hn:mt.length=4*n)(h1:av mt n n=1):cW (a_ (au mt) mt.length) mt.length<=n+2:=by
 have hP:aO eB mt.length:=by rw[hn];exact bT _
 have hF:=aU hI hn;have e1:dw (rc (fE eB (bM mt)) mt.length) mt.length=dw (rc (au mt) mt.length) mt.length:=by
  refine iT fun x y hx hy=>?_
  have hk:∀k,it (fE eB (bM mt)) k x=it (au mt) k x:=by
   intro k
   induction k with
   |zero=>rfl
   |succ k ih=>show fE eB (bM mt) _=au mt _;rw[ih,AZ hI (hF.bL k hx)]
  rw[R_,dY (jd hP _ (i_ hI)) hx,dY hF hx];exact⟨fun⟨k,h⟩=>⟨k,by rw[<-hk];exact h⟩,fun⟨k,h⟩=>⟨k,by rw[hk];exact h⟩⟩
 obtain⟨d,hd⟩:=tH hP (bM mt) (i_ hI);have h2:=zo n;rw[<-hn]at h2;rw[e1,CI hF,h2,qE hI hn,CG hI hn,h1]at hd;omega
theorem xd{mt:List Int}{n:Nat}(hI:cP mt)(hn:mt.length=4*n)(h1:av mt n n=1)(hf:cW (a_ (au mt) mt.length) mt.length=n+2):I_ mt n:=by
 refine(rK hI hn).2 fun r hr hl=>?_
 have Vx:∀c,c<n->aA mt n c=r:=fun c hc=>by have:=fN hI hn hc (w_ hI hn h1 c r hc hr);exact this.trans hl
 rw[aS (Q:=a_ (au mt) mt.length) fun x hx=>by rw[Vx (x/4) oZ];simp,hf,aS (P:=fun c=>decide (aA mt n c=r)) (Q:=fun _=>true) fun x hx=>Rj (Vx x hx)];have t1:=mr (fun _=>true) n;rw[show cW (fun _=> !true) n=0 from eD _]at t1;omega
theorem zO{f:Nat->Nat}{N:Nat}(hP:aO f N){T:Type}(lam:Nat->T)(hl:∀h,h<N->lam (f h)=lam h){A:Nat->Bool}{M:Nat}(rep:Nat->Nat)(hr:∀x,x<M->A x=true->rep x<N)(hi:∀x y,x<M->y<M->A x=true->A y=true->lam (rep x)=lam (rep y)->x=y):cW A M<=cW (a_ f N) N:=by
 refine kB (fun x=>fu f N (rep x)) (fun x hx ax=>?_) fun x y hx hy ax ay e=>?_
 {have:=hr x hx ax;exact⟨dJ hP this (c_ hP this).1,pQ hP this⟩};{have h1:=hr x hx ax;have h2:=hr y hy ay;refine hi x y hx hy ax ay ?_;have a:=jP hP hl h1 (Rj (c_ hP h1).1);have b:=jP hP hl h2 (Rj (c_ hP h2).1);rw[<-a,<-b];exact congrArg lam e}
theorem fH.perm{cs cs':List Nat}(h:cs.Perm cs'){K:Nat->Bool}{m:Nat->Nat}{s:Nat->Int}{n:Int}(hn:fH cs K m s n):fH cs' K m s n:=by
 obtain⟨t,ht,rfl⟩:=hn;refine⟨t,?_,by rw[rq h.symm]⟩;have e1:PG cs' K m=PG cs K m:=funext fun x=>propext ⟨fun hx z hz=>hx z (h.mem_iff.1 hz),fun hx z hz=>hx z (h.mem_iff.2 hz)⟩
 have e2:BG cs' K=BG cs K:=funext fun x=>funext fun y=>rq h.symm _
 rw[e1,e2];exact ht
theorem fH.congr{cs:List Nat}{K K':Nat->Bool}{m m':Nat->Nat}{s s':Nat->Int}(hm:∀h,h/4∈cs->m' h=m h)(hs:∀c∈cs,s' c=s c)(hK:∀h,h/4∈cs->K' h=K h){n:Int}(hn:fH cs K m s n):fH cs K' m' s' n:=by
 obtain⟨t,ht,rfl⟩:=hn;have e1:PG cs K' m'=PG cs K m:=funext fun x=>propext ⟨fun hx z hz hk=>by rw[<-hm z hz];exact hx z hz (by rw[hK z hz];exact hk),fun hx z hz hk=>by rw[hm z hz];exact hx z hz (by rw[<-hK z hz];exact hk)⟩
 have e2:BG cs K'=BG cs K:=funext fun x=>funext fun y=>cH fun c hc=>by unfold gT;rw[hK (4*c) (by rw[show 4*c/4=c by omega];exact hc)]
 refine⟨t,by rw[e1,e2];exact ht,?_⟩;have:lS cs (cT K' s')=lS cs (cT K s):=cH fun c hc=>by unfold cT;rw[hs c hc,hK (4*c) (by rw[show 4*c/4=c by omega];exact hc)]
 rw[this]
theorem yP{p q:Nat}(h:p%2=q%2):eta (ae q 1)= -eta p:=by unfold eta;rw[bQ];by_cases h2:p%2=0;{rw[Re h2,Rc oZ]};{rw[Rc h2,Re oZ];rfl}
structure uu(cs:List Nat)(K:Nat->Bool)(m m':Nat->Nat)(s:Nat->Int)(p q:Nat):Prop where
 hP:p/4∉cs
 hQ:q/4∉cs
 hPQ:p/4≠q/4
 jq:DT (p/4::q/4::cs) K m
 par:p%2=q%2
 nn:m (ae p 1)=ae q 1
 nn':m (ae q 1)=ae p 1
 ew:m p=ae q 2
 ew':m (ae q 2)=p
 inj:∀g,g/4∈p/4::q/4::cs->∀g',g'/4∈p/4::q/4::cs->m g=m g'->g=g'
 sg:(s (p/4)=1/\s (q/4)= -1)\/(s (p/4)= -1/\s (q/4)=1)
section
variable{cs:List Nat}{p q:Nat}{K:Nat->Bool}{m m':Nat->Nat}{s:Nat->Int}(h:uu cs K m m' s p q)
include h
theorem uu.Bk:∀x,x/4=p/4->K (ae x 1)= !K x:=fun x hx=>h.jq.alt x (by rw[hx];simp)
theorem uu.Aw:∀x,x/4=q/4->K (ae x 1)= !K x:=fun x hx=>h.jq.alt x (by rw[hx];simp)
theorem uu.kq:K (ae q 1)=K p:=by have:=h.jq.cF p oX;rwa [h.ew,ar,bF]at this
theorem uu.take:lS (p/4::q/4::cs) (cT K s)=lS cs (cT K s):=by
 show cT K s (p/4)+(cT K s (q/4)+_)=_;have k1:=pj h.Bk (h:=p) rfl;have k2:=pj h.Aw (h:=ae q 1) (af q 1);rw[bQ,h.kq]at k2;have e:cT K s (p/4)+cT K s (q/4)=0:=by unfold cT;rw[k1,k2];have hp:=h.par;rcases h.sg with⟨s1,s2⟩|⟨s1,s2⟩<;>rw[s1,s2]<;>(by_cases hm:p%2=0)<;>(first|rw[Re hm]|rw[Rc hm])<;>(first|rw[Rc (show¬(q+1)%2=0 by omega)]|rw[Re (show(q+1)%2=0 by omega)])<;>cases K p<;>simp
 omega
def uq(p q:Nat)(x:bB)(F k j:Int):bB:=fun h=>
 if h=p\/h=ae p 2\/h=ae q 1\/h=ae q 3 then F else if h=ae p 1\/h=q then k else if h=ae p 3\/h=ae q 2 then j else x h
omit h in
theorem qS{x:bB}{F k j:Int}{y:Nat}(h1:y/4≠p/4)(h2:y/4≠q/4):uq p q x F k j y=x y:=by have a1:=af p 1;have a2:=af p 2;have a3:=af p 3;have b1:=af q 1;have b2:=af q 2;have b3:=af q 3;unfold uq;rw[Rc (by rintro(e|e|e|e)<;>subst e<;>omega),Rc (by rintro(e|e)<;>subst e<;>omega),Rc (by rintro(e|e)<;>subst e<;>omega)]
theorem uu.xf(x:bB)(F k j:Int):uq p q x F k j p=F/\uq p q x F k j (ae p 1)=k/\uq p q x F k j (ae p 2)=F/\uq p q x F k j (ae p 3)=j:=by have hPQ:=h.hPQ;have a1:=af p 1;have a2:=af p 2;have a3:=af p 3;have b1:=af q 1;have b2:=af q 2;have b3:=af q 3;have n1:=an (h:=p) (j:=1) oQ oQ;have n3:=an (h:=p) (j:=3) oQ oQ;have n12:=aB (h:=p) (i:=1) (j:=2) oQ oQ oQ;have n32:=aB (h:=p) (i:=3) (j:=2) oQ oQ oQ;have n31:=aB (h:=p) (i:=3) (j:=1) oQ oQ oQ;refine⟨Re (.inl rfl),?_,Re (.inr (.inl rfl)),?_⟩;{unfold uq;rw[Rc (by rintro(e|e|e|e)<;>omega),Re (.inl rfl)]};{unfold uq;rw[Rc (by rintro(e|e|e|e)<;>omega),Rc (by rintro(e|e)<;>omega),Re (.inl rfl)]}
theorem uu.yd(x:bB)(F k j:Int):uq p q x F k j q=k/\uq p q x F k j (ae q 1)=F/\uq p q x F k j (ae q 2)=j/\uq p q x F k j (ae q 3)=F:=by have hPQ:=h.hPQ;have a1:=af p 1;have a2:=af p 2;have a3:=af p 3;have b1:=af q 1;have b2:=af q 2;have b3:=af q 3;have n1:=an (h:=q) (j:=1) oQ oQ;have n2:=an (h:=q) (j:=2) oQ oQ;have n3:=an (h:=q) (j:=3) oQ oQ;have n12:=aB (h:=q) (i:=1) (j:=2) oQ oQ oQ;have n32:=aB (h:=q) (i:=3) (j:=2) oQ oQ oQ;refine⟨?_,Re (.inr (.inr (.inl rfl))),?_,Re (.inr (.inr (.inr rfl)))⟩;{unfold uq;rw[Rc (by rintro(e|e|e|e)<;>omega),Re (.inr rfl)]};{unfold uq;rw[Rc (by rintro(e|e|e|e)<;>omega),Rc (by rintro(e|e)<;>omega),Re (.inr rfl)]}
theorem uu.core(F k j:bB->Int)
  (wa:K p=true->∀x,PG cs K m' x->PG (p/4::q/4::cs) K m (uq p q x (F x) (k x) (j x)))
  (wb:K p=true->∀x,PG (p/4::q/4::cs) K m x->x (ae q 3)=x (ae p 2)->PG cs K m' x)
  (ba:K p=false->∀x,PG cs K m' x->PG (p/4::q/4::cs) K m (uq p q x (F x) (k x) (j x)))
  (bb:K p=false->∀x,PG (p/4::q/4::cs) K m x->PG cs K m' x){n:Int}(hn:fH cs K m' s n):fH (p/4::q/4::cs) K m s n:=by
 obtain⟨t,ht,rfl⟩:=hn
 have VE:∀x y a b c d e f,BG cs K (uq p q x a b c) (uq p q y d e f)=BG cs K x y:=fun x y _ _ _ _ _ _=>cH fun d hd=>pG
  (fun g hg=>qS (by rw[hg];exact fun e=>h.hP (e▸hd)) (by rw[hg];exact fun e=>h.hQ (e▸hd))) fun g hg=>qS (by rw[hg];exact fun e=>h.hP (e▸hd)) (by rw[hg];exact fun e=>h.hQ (e▸hd))
 have hcs1:∀x y a b c,BG cs K (uq p q x a b c) y=BG cs K x y:=fun x y _ _ _=>cH fun d hd=>jX
  fun g hg=>qS (by rw[hg];exact fun e=>h.hP (e▸hd)) (by rw[hg];exact fun e=>h.hQ (e▸hd))
 have VC:∀x y,BG (p/4::q/4::cs) K x y=gT K x y (p/4)+(gT K x y (q/4)+BG cs K x y):=fun _ _=>rfl
 rcases TQ (K p)with hw|hw
 ·have gp:=ik h.Bk rfl hw
  have kq:K (ae q 1)=true:=by rw[h.kq,hw]
  have gq:=ik h.Aw (af q 1) kq;rw[yP h.par,show ae (ae q 1) 2=ae q 3 from ar _ _ _]at gq;obtain⟨e,he⟩:∃e:bB,e=fun x=>if x=p\/x=ae q 1 then 1 else 0:=⟨_,rfl⟩
  have hPQ:=h.hPQ;have a2:=af p 2;have b1:=af q 1;have b3:=af q 3;have ep:e p=1:=by rw[he];exact Re (.inl rfl)
  have eq:e (ae q 1)=1:=by rw[he];exact Re (.inr rfl)
  have ep2:e (ae p 2)=0:=by rw[he];exact Rc (by rintro(g|g);exact an oQ oQ g;omega)
  have eq3:e (ae q 3)=0:=by rw[he];exact Rc (by rintro(g|g);omega;exact aB oQ oQ oQ g)
  have ez:∀x,BG cs K x e=0:=fun x=>rI fun d hd=>by
   have z:∀g,g/4=d->e g=0:=fun g hg=>by rw[he];refine Rc ?_;rintro(i|i);{subst i;exact h.hP (hg▸hd)};{subst i;rw[af]at hg;exact h.hQ (hg▸hd)}
   unfold gT;rw[z _ oZ,z (4*d+2) oZ,z (4*d+1) oZ,z (4*d+3) oZ];simp
  have hPe:PG (p/4::q/4::cs) K m e:=fun g hg hk=>by
   have key:(ae (m g) 3=p\/ae (m g) 3=ae q 1)↔(g=p\/g=ae q 1):=by
    constructor
    ·rintro(i|i)
     ·
      have hm:m g=ae p 1:=dC (k:=3) (by rw[i,ar];exact(bC p).symm);exact .inr (h.inj g hg (ae q 1) (by rw[af];simp) (by rw[hm,h.nn']))
     {have hm:m g=ae q 2:=dC (k:=3) (by rw[i,ar];exact(bF q 1).symm);exact .inl (h.inj g hg p oX (by rw[hm,h.ew]))}
    {rintro(rfl|rfl);{exact .inr (by rw[h.ew,ar];exact bF q 1)};{exact .inl (by rw[h.nn',ar];exact bC p)}}
   rw[he];show(if _ then _ else _)=if _ then _ else _;by_cases i:g=p\/g=ae q 1;{rw[Re i,Re (key.2 i)]};{rw[Rc i,Rc fun i2=>i (key.1 i2)]}
  have onP:∀x,PG (p/4::q/4::cs) K m x->x p=x (ae q 1):=fun x hx=>by have:=hx p oX hw;rwa [h.ew,ar,bF]at this
  have YV:∀x,PG (p/4::q/4::cs) K m x->BG (p/4::q/4::cs) K x e=eta p*(x (ae q 3)-x (ae p 2)):=fun x hx=>by rw[VC,ez,gp,gq,ep,eq,ep2,eq3,onP x hx];grind
  have eq0:∀x,PG (p/4::q/4::cs) K m x->(BG (p/4::q/4::cs) K x e=0↔x (ae q 3)=x (ae p 2)):=fun x hx=>by rw[YV x hx];rcases CT p with i|i<;>rw[i]<;>omega
  have key:kU (fun x=>PG (p/4::q/4::cs) K m x/\BG (p/4::q/4::cs) K x e=0) (BG (p/4::q/4::cs) K) t:=by refine ht.map (φ:=fun x=>uq p q x (F x) (k x) (j x)) (fun x hx=>⟨wa hw x hx,(eq0 _ (wa hw x hx)).2 (by rw[(h.yd _ _ _ _).2.2.2,(h.xf _ _ _ _).2.2.1])⟩) (fun x y _ _=>?_) (fun x hx=>?_) (kR _ _);{obtain⟨x1,x2,x3,x4⟩:=h.xf x (F x) (k x) (j x);obtain⟨y1,y2,y3,y4⟩:=h.yd x (F x) (k x) (j x);rw[VC,VE,gp,gq,x1,x3,y2,y4];grind};{have h0:=(eq0 x hx.1).1 hx.2;refine⟨x,wb hw x hx.1 h0,fun y hy=>?_⟩;have h1:=(eq0 y hy.1).1 hy.2;obtain⟨x1,x2,x3,x4⟩:=h.xf x (F x) (k x) (j x);obtain⟨y1,y2,y3,y4⟩:=h.yd x (F x) (k x) (j x);rw[VC,VC,hcs1,gp,gp,gq,gq,x1,x3,y2,y4,h0,onP x hx.1,onP y hy.1,h1];grind}
  have:=key.cut (sK _ _ _) (kR _ _) hPe;rw[YV _ hPe,ep2,eq3,show eta p*(0-0)=0 by omega]at this;refine⟨_,this,?_⟩;rw[h.take];show t+0-_=_;omega
 ·have w1:K (ae p 1)=true:=by rw[h.Bk p rfl,hw];rfl
  have w2:K q=true:=by
   have:=h.Aw q rfl;rw[h.kq,hw]at this
   cases hq:K q
   {rw[hq]at this;exact this};{rfl}
  have gp:=ik h.Bk (af p 1) w1;have gq:=ik h.Aw rfl w2;rw[show ae (ae p 1) 2=ae p 3 from ar _ _ _,yP h.par.symm]at gp;have z:∀x y,PG (p/4::q/4::cs) K m x->PG (p/4::q/4::cs) K m y->gT K x y (p/4)+gT K x y (q/4)=0:=fun x y hx hy=>by
   have w3:K (ae q 2)=true:=by have e:=h.Aw (ae q 1) (af q 1);rw[ar,h.kq,hw]at e;exact e
   have a1:∀x,PG (p/4::q/4::cs) K m x->x (ae p 1)=x q:=fun x hx=>by have:=hx (ae p 1) (by rw[af];simp) w1;rwa [h.nn,ar,show ae q (1+3)=q from bC q]at this
   have a2:∀x,PG (p/4::q/4::cs) K m x->x (ae q 2)=x (ae p 3):=fun x hx=>by have:=hx (ae q 2) (by rw[af];simp) w3;rwa [h.ew']at this
   rw[gp,gq,a1 x hx,a1 y hy,a2 x hx,a2 y hy]
   grind
  refine⟨t,ht.map (φ:=fun x=>uq p q x (F x) (k x) (j x)) (ba hw) (fun x y hx hy=>?_) (fun x hx=>⟨x,bb hw x hx,fun y hy=>?_⟩) (kR _ _),by rw[h.take]⟩;{have:=z _ _ (ba hw x hx) (ba hw y hy);rw[VC,VE];omega};{have z1:=z _ _ hx hy;have z2:=z _ _ (ba hw x (bb hw x hx)) hy;rw[VC,VC,hcs1];omega}
end
section
variable{cs:List Nat}{p q:Nat}{K:Nat->Bool}{m m':Nat->Nat}{s:Nat->Int}(h:uu cs K m m' s p q)
include h
theorem uu.pL:K (ae p 1)=(!K p)/\K (ae p 2)=K p/\K (ae p 3)=(!K p)/\K q=(!K p)/\K (ae q 1)=K p/\K (ae q 2)=(!K p)/\K (ae q 3)=K p:=by have a1:=h.Bk p rfl;have a2:=h.Bk (ae p 1) (af _ _);have a3:=h.Bk (ae p 2) (af _ _);have b0:=h.kq;have b1:=h.Aw q rfl;have b2:=h.Aw (ae q 1) (af _ _);have b3:=h.Aw (ae q 2) (af _ _);rw[ar]at a2 a3 b2 b3;rw[a1]at a2;rw[a2]at a3;rw[b0]at b1 b2;rw[b2]at b3;refine⟨a1,by rw[a2,Sv],by rw[a3,Sv],by rw[b1,Sv],b0,b2,by rw[b3,Sv]⟩
omit h in
theorem t23(p:Nat):ae (ae p 2) 3=ae p 1:=by rw[ar];exact bF p 1
omit h in
theorem t33(p:Nat):ae (ae p 3) 3=ae p 2:=by rw[ar];exact bF p 2
omit h in
theorem t13(p:Nat):ae (ae p 1) 3=p:=by rw[ar];exact bC p
theorem uu.FB{x:Nat}(hx:x/4=p/4)(hk:K x=K p):x=p\/x=ae p 2:=by
 obtain⟨k1,k2,k3,-⟩:=h.pL;rcases aw hx with rfl|rfl|rfl|rfl
 {exact .inl rfl};{rw[k1]at hk;cases hh:K p<;>rw[hh]at hk<;>cases hk};{exact .inr rfl};{rw[k3]at hk;cases hh:K p<;>rw[hh]at hk<;>cases hk}
theorem uu.Fq{x:Nat}(hx:x/4=q/4)(hk:K x=K p):x=ae q 1\/x=ae q 3:=by
 obtain⟨-,-,-,k1,k2,k3,k4⟩:=h.pL;rcases aw hx with rfl|rfl|rfl|rfl
 {rw[k1]at hk;cases hh:K p<;>rw[hh]at hk<;>cases hk};{exact .inl rfl};{rw[k3]at hk;cases hh:K p<;>rw[hh]at hk<;>cases hk};{exact .inr rfl}
theorem uu.LQ{x:Nat}(hx:x/4=p/4)(hk:K x= !K p):x=ae p 1\/x=ae p 3:=by
 obtain⟨k1,k2,k3,-⟩:=h.pL;rcases aw hx with rfl|rfl|rfl|rfl
 {cases hh:K x<;>rw[hh]at hk<;>cases hk};{exact .inl rfl};{rw[k2]at hk;cases hh:K p<;>rw[hh]at hk<;>cases hk};{exact .inr rfl}
theorem uu.M9{x:Nat}(hx:x/4=q/4)(hk:K x= !K p):x=q\/x=ae q 2:=by
 obtain⟨-,-,-,k1,k2,k3,k4⟩:=h.pL;rcases aw hx with rfl|rfl|rfl|rfl
 {exact .inl rfl};{rw[k2]at hk;cases hh:K p<;>rw[hh]at hk<;>cases hk};{exact .inr rfl};{rw[k4]at hk;cases hh:K p<;>rw[hh]at hk<;>cases hk}
theorem uu.lW{x:Nat}(hx:x/4∈p/4::q/4::cs):x/4=p/4\/x/4=q/4\/(x/4∈cs/\x/4≠p/4/\x/4≠q/4):=by
 rcases RV.1 hx with e|e
 {exact .inl e}
 ·rcases RV.1 e with e|e
  {exact .inr (.inl e)};{exact .inr (.inr ⟨e,fun i=>h.hP (i▸e),fun i=>h.hQ (i▸e)⟩)}
omit h in
theorem dL{x:bB}{F k j:Int}{y:Nat}(hc:y/4∈cs)(hP:p/4∉cs)(hQ:q/4∉cs):uq p q x F k j y=x y:=qS (fun e=>hP (e▸hc)) fun e=>hQ (e▸hc)
theorem uu.KK{u v u' v':Nat}(hu:m (ae p 2)=u)(cu:u/4∈cs)(mu:m u=(ae p 2))(nu:m' u=v)(hv:m q=v)(cv:v/4∈cs)(mv:m v=q)(nv:m' v=u)(hup:m (ae p 3)=u')(cup:u'/4∈cs)(mup:m u'=(ae p 3))(nup:m' u'=v')(hvp:m (ae q 3)=v')(cvp:v'/4∈cs)(mvp:m v'=(ae q 3))(nvp:m' v'=u')(hm:∀g,g/4∈cs->g≠u->g≠v->g≠u'->g≠v'->m' g=m g/\m g/4∈cs)(hf:K p=true->∀x,PG cs K m' x->x v=x u'){n:Int}(hn:fH cs K m' s n):fH (p/4::q/4::cs) K m s n:=by
 obtain⟨k1,k2,k3,k4,k5,k6,k7⟩:=h.pL;have hP:=h.hP;have hQ:=h.hQ;have Ku:K u=(!K p):=by have e:=h.jq.cF u (by simp[cu]);rw[mu,t23,k1]at e;exact e.symm
 have Kv:K v=K p:=by have e:=h.jq.cF v (by simp[cv]);rw[mv,k7]at e;exact e.symm
 have Kup:K u'=K p:=by have e:=h.jq.cF u' (by simp[cup]);rw[mup,t33,k2]at e;exact e.symm
 have Kvp:K v'=(!K p):=by have e:=h.jq.cF v' (by simp[cvp]);rw[mvp,t33,k6]at e;exact e.symm
 refine h.core (fun x=>x v) (fun x=>x u) (fun x=>x v') (fun hw x hx g hg hk=>?_) (fun hw x hx he g hg hk=>?_) (fun hw x hx g hg hk=>?_) (fun hw x hx g hg hk=>?_) hn
 ·obtain⟨x0,x1,x2,x3⟩:=h.xf x (x v) (x u) (x v')
  obtain⟨y0,y1,y2,y3⟩:=h.yd x (x v) (x u) (x v');have sv:=hx v cv (by rw[Kv,hw]);rw[nv]at sv;have sup:=hx u' cup (by rw[Kup,hw]);rw[nup]at sup;rcases h.lW hg with e|e|⟨e,-,-⟩
  ·rcases h.FB e (by rw[hk,hw])with rfl|rfl
   {rw[h.ew,t23,x0,y1]};{rw[hu,x2,dL (by rw[af];exact cu) hP hQ];exact sv}
  ·rcases h.Fq e (by rw[hk,hw])with rfl|rfl
   {rw[h.nn',t13,x0,y1]};{rw[hvp,y3,dL (by rw[af];exact cvp) hP hQ];exact(hf hw x hx).trans sup}
  ·rw[dL e hP hQ]
   by_cases eu:g=u;{subst eu;rw[Ku,hw]at hk;cases hk}
   ·skip
    by_cases ev:g=v;{subst ev;rw[mv,y3]}
    ·skip
     by_cases eup:g=u';{subst eup;rw[mup,t33,x2];exact(hf hw x hx).symm}
     ·skip
      by_cases evp:g=v';{subst evp;rw[Kvp,hw]at hk;cases hk}
      ·skip
       obtain⟨g1,g2⟩:=hm g e eu ev eup evp;rw[dL (by rw[af];exact g2) hP hQ,<-g1];exact hx g e hk
 ·have VK:=hx g (by simp[hg]) hk
  by_cases eu:g=u;{subst eu;rw[Ku,hw]at hk;cases hk}
  ·skip
   by_cases ev:g=v;{subst ev;have a1:=hx (ae p 2) (by rw[af];simp) (by rw[k2,hw]);rw[hu]at a1;rw[mv]at VK;rw[nv,VK,he,a1]}
   ·skip
    by_cases eup:g=u';{subst eup;have a1:=hx (ae q 3) (by rw[af];simp) (by rw[k7,hw]);rw[hvp]at a1;rw[mup,t33]at VK;rw[nup,VK,<-he,a1]}
    ·skip
     by_cases evp:g=v';{subst evp;rw[Kvp,hw]at hk;cases hk}
     ·skip
      rw[(hm g hg eu ev eup evp).1];exact VK
 ·obtain⟨x0,x1,x2,x3⟩:=h.xf x (x v) (x u) (x v')
  obtain⟨y0,y1,y2,y3⟩:=h.yd x (x v) (x u) (x v');have su:=hx u cu (by rw[Ku,hw];rfl);rw[nu]at su;have svp:=hx v' cvp (by rw[Kvp,hw];rfl);rw[nvp]at svp;rcases h.lW hg with e|e|⟨e,-,-⟩
  ·rcases h.LQ e (by rw[hk,hw];rfl)with rfl|rfl
   {rw[h.nn,t13,x1,y0]};{rw[hup,x3,dL (by rw[af];exact cup) hP hQ];exact svp}
  ·rcases h.M9 e (by rw[hk,hw];rfl)with rfl|rfl
   {rw[hv,y0,dL (by rw[af];exact cv) hP hQ];exact su};{rw[h.ew',x3,y2]}
  ·rw[dL e hP hQ]
   by_cases eu:g=u;{subst eu;rw[mu,t23,x1]}
   ·skip
    by_cases ev:g=v;{subst ev;rw[Kv,hw]at hk;cases hk}
    ·skip
     by_cases eup:g=u';{subst eup;rw[Kup,hw]at hk;cases hk}
     ·skip
      by_cases evp:g=v';{subst evp;rw[mvp,t33,y2]}
      ·skip
       obtain⟨g1,g2⟩:=hm g e eu ev eup evp;rw[dL (by rw[af];exact g2) hP hQ,<-g1];exact hx g e hk
 ·have VK:=hx g (by simp[hg]) hk
  have a1:=hx (ae p 1) (by rw[af];simp) (by rw[k1,hw];rfl);rw[h.nn,t13]at a1;have a2:=hx (ae q 2) (by rw[af];simp) (by rw[k6,hw];rfl);rw[h.ew']at a2;have a3:=hx q oX (by rw[k4,hw];rfl);have a4:=hx (ae p 3) (by rw[af];simp) (by rw[k3,hw];rfl);rw[hv]at a3;rw[hup]at a4;by_cases eu:g=u;{subst eu;rw[mu,t23]at VK;rw[nu];exact VK.trans (a1.trans a3)}
  ·skip
   by_cases ev:g=v;{subst ev;rw[Kv,hw]at hk;cases hk}
   ·skip
    by_cases eup:g=u';{subst eup;rw[Kup,hw]at hk;cases hk}
    ·skip
     by_cases evp:g=v';{subst evp;rw[mvp,t33]at VK;rw[nvp];exact VK.trans (a2.trans a4)}
     ·skip
      rw[(hm g hg eu ev eup evp).1];exact VK
theorem uu.Lw{u u':Nat}(hu:m (ae p 2)=u)(cu:u/4∈cs)(mu:m u=(ae p 2))(nu:m' u=u')(hup:m (ae p 3)=u')(cup:u'/4∈cs)(mup:m u'=(ae p 3))(nup:m' u'=u)(hi1:m (ae q 3)=q)(hi2:m q=(ae q 3))(hm:∀g,g/4∈cs->g≠u->g≠u'->m' g=m g/\m g/4∈cs){n:Int}(hn:fH cs K m' s n):fH (p/4::q/4::cs) K m s n:=by
 obtain⟨k1,k2,k3,k4,k5,k6,k7⟩:=h.pL;have hP:=h.hP;have hQ:=h.hQ;have Ku:K u=(!K p):=by have e:=h.jq.cF u (by simp[cu]);rw[mu,t23,k1]at e;exact e.symm
 have Kup:K u'=K p:=by have e:=h.jq.cF u' (by simp[cup]);rw[mup,t33,k2]at e;exact e.symm
 refine h.core (fun x=>x u') (fun x=>x u) (fun x=>x u) (fun hw x hx g hg hk=>?_) (fun hw x hx he g hg hk=>?_) (fun hw x hx g hg hk=>?_) (fun hw x hx g hg hk=>?_) hn
 ·obtain⟨x0,x1,x2,x3⟩:=h.xf x (x u') (x u) (x u)
  obtain⟨y0,y1,y2,y3⟩:=h.yd x (x u') (x u) (x u);have sup:=hx u' cup (by rw[Kup,hw]);rw[nup]at sup;rcases h.lW hg with e|e|⟨e,-,-⟩
  ·rcases h.FB e (by rw[hk,hw])with rfl|rfl
   {rw[h.ew,t23,x0,y1]};{rw[hu,x2,dL (by rw[af];exact cu) hP hQ];exact sup}
  ·rcases h.Fq e (by rw[hk,hw])with rfl|rfl
   {rw[h.nn',t13,x0,y1]};{rw[hi1]}
  ·rw[dL e hP hQ]
   by_cases eu:g=u;{subst eu;rw[Ku,hw]at hk;cases hk}
   ·skip
    by_cases eup:g=u';{subst eup;rw[mup,t33,x2]}
    ·skip
     obtain⟨g1,g2⟩:=hm g e eu eup;rw[dL (by rw[af];exact g2) hP hQ,<-g1];exact hx g e hk
 ·have VK:=hx g (by simp[hg]) hk
  by_cases eu:g=u;{subst eu;rw[Ku,hw]at hk;cases hk}
  ·skip
   by_cases eup:g=u';{subst eup;have a1:=hx (ae p 2) (by rw[af];simp) (by rw[k2,hw]);rw[hu]at a1;rw[mup,t33]at VK;rw[nup,VK,a1]}
   ·skip
    rw[(hm g hg eu eup).1];exact VK
 ·obtain⟨x0,x1,x2,x3⟩:=h.xf x (x u') (x u) (x u)
  obtain⟨y0,y1,y2,y3⟩:=h.yd x (x u') (x u) (x u);have su:=hx u cu (by rw[Ku,hw];rfl);rw[nu]at su;rcases h.lW hg with e|e|⟨e,-,-⟩
  ·rcases h.LQ e (by rw[hk,hw];rfl)with rfl|rfl
   {rw[h.nn,t13,x1,y0]};{rw[hup,x3,dL (by rw[af];exact cup) hP hQ];exact su}
  ·rcases h.M9 e (by rw[hk,hw];rfl)with rfl|rfl
   {rw[hi2,t33,y0,y2]};{rw[h.ew',x3,y2]}
  ·rw[dL e hP hQ]
   by_cases eu:g=u;{subst eu;rw[mu,t23,x1]}
   ·skip
    by_cases eup:g=u';{subst eup;rw[Kup,hw]at hk;cases hk}
    ·skip
     obtain⟨g1,g2⟩:=hm g e eu eup;rw[dL (by rw[af];exact g2) hP hQ,<-g1];exact hx g e hk
 ·have VK:=hx g (by simp[hg]) hk
  have a1:=hx (ae p 1) (by rw[af];simp) (by rw[k1,hw];rfl);rw[h.nn,t13]at a1;have a2:=hx (ae q 2) (by rw[af];simp) (by rw[k6,hw];rfl);rw[h.ew']at a2;have a3:=hx q oX (by rw[k4,hw];rfl);have a4:=hx (ae p 3) (by rw[af];simp) (by rw[k3,hw];rfl);rw[hi2,t33]at a3;rw[hup]at a4;by_cases eu:g=u;{subst eu;rw[mu,t23]at VK;rw[nu];exact VK.trans (a1.trans (a3.trans (a2.trans a4)))}
  ·skip
   by_cases eup:g=u';{subst eup;rw[Kup,hw]at hk;cases hk}
   ·skip
    rw[(hm g hg eu eup).1];exact VK
theorem uu.Lg{v v':Nat}(hv:m q=v)(cv:v/4∈cs)(mv:m v=q)(nv:m' v=v')(hvp:m (ae q 3)=v')(cvp:v'/4∈cs)(mvp:m v'=(ae q 3))(nvp:m' v'=v)(hi1:m (ae p 2)=(ae p 3))(hi2:m (ae p 3)=(ae p 2))(hm:∀g,g/4∈cs->g≠v->g≠v'->m' g=m g/\m g/4∈cs){n:Int}(hn:fH cs K m' s n):fH (p/4::q/4::cs) K m s n:=by
 obtain⟨k1,k2,k3,k4,k5,k6,k7⟩:=h.pL;have hP:=h.hP;have hQ:=h.hQ;have Kv:K v=K p:=by have e:=h.jq.cF v (by simp[cv]);rw[mv,k7]at e;exact e.symm
 have Kvp:K v'=(!K p):=by have e:=h.jq.cF v' (by simp[cvp]);rw[mvp,t33,k6]at e;exact e.symm
 refine h.core (fun x=>x v) (fun x=>x v') (fun x=>x v') (fun hw x hx g hg hk=>?_) (fun hw x hx he g hg hk=>?_) (fun hw x hx g hg hk=>?_) (fun hw x hx g hg hk=>?_) hn
 ·obtain⟨x0,x1,x2,x3⟩:=h.xf x (x v) (x v') (x v')
  obtain⟨y0,y1,y2,y3⟩:=h.yd x (x v) (x v') (x v');have sv:=hx v cv (by rw[Kv,hw]);rw[nv]at sv;rcases h.lW hg with e|e|⟨e,-,-⟩
  ·rcases h.FB e (by rw[hk,hw])with rfl|rfl
   {rw[h.ew,t23,x0,y1]};{rw[hi1,t33]}
  ·rcases h.Fq e (by rw[hk,hw])with rfl|rfl
   {rw[h.nn',t13,x0,y1]};{rw[hvp,y3,dL (by rw[af];exact cvp) hP hQ];exact sv}
  ·rw[dL e hP hQ]
   by_cases ev:g=v;{subst ev;rw[mv,y3]}
   ·skip
    by_cases evp:g=v';{subst evp;rw[Kvp,hw]at hk;cases hk}
    ·skip
     obtain⟨g1,g2⟩:=hm g e ev evp;rw[dL (by rw[af];exact g2) hP hQ,<-g1];exact hx g e hk
 ·have VK:=hx g (by simp[hg]) hk
  by_cases ev:g=v;{subst ev;have a1:=hx (ae q 3) (by rw[af];simp) (by rw[k7,hw]);rw[hvp]at a1;rw[mv]at VK;rw[nv,VK,a1]}
  ·skip
   by_cases evp:g=v';{subst evp;rw[Kvp,hw]at hk;cases hk}
   ·skip
    rw[(hm g hg ev evp).1];exact VK
 ·obtain⟨x0,x1,x2,x3⟩:=h.xf x (x v) (x v') (x v')
  obtain⟨y0,y1,y2,y3⟩:=h.yd x (x v) (x v') (x v');have svp:=hx v' cvp (by rw[Kvp,hw];rfl);rw[nvp]at svp;rcases h.lW hg with e|e|⟨e,-,-⟩
  ·rcases h.LQ e (by rw[hk,hw];rfl)with rfl|rfl
   {rw[h.nn,t13,x1,y0]};{rw[hi2,t23,x3,x1]}
  ·rcases h.M9 e (by rw[hk,hw];rfl)with rfl|rfl
   {rw[hv,y0,dL (by rw[af];exact cv) hP hQ];exact svp};{rw[h.ew',x3,y2]}
  ·rw[dL e hP hQ]
   by_cases ev:g=v;{subst ev;rw[Kv,hw]at hk;cases hk}
   ·skip
    by_cases evp:g=v';{subst evp;rw[mvp,t33,y2]}
    ·skip
     obtain⟨g1,g2⟩:=hm g e ev evp;rw[dL (by rw[af];exact g2) hP hQ,<-g1];exact hx g e hk
 ·have VK:=hx g (by simp[hg]) hk
  have a1:=hx (ae p 1) (by rw[af];simp) (by rw[k1,hw];rfl);rw[h.nn,t13]at a1;have a2:=hx (ae q 2) (by rw[af];simp) (by rw[k6,hw];rfl);rw[h.ew']at a2;have a3:=hx q oX (by rw[k4,hw];rfl);have a4:=hx (ae p 3) (by rw[af];simp) (by rw[k3,hw];rfl);rw[hv]at a3;rw[hi2,t23]at a4;by_cases ev:g=v;{subst ev;rw[Kv,hw]at hk;cases hk}
  ·skip
   by_cases evp:g=v';{subst evp;rw[mvp,t33]at VK;rw[nvp];exact VK.trans (a2.trans (a4.trans (a1.trans a3)))}
   ·skip
    rw[(hm g hg ev evp).1];exact VK
end
def jw(n:Nat)(K:Nat->Bool)(k:Bool)(p q:Nat):Nat->Bool:=fun h=>if h/4=n then(if h%2=p%2 then k else !k)else if h/4=n+1 then(if h%2=q%2 then !k else k)else K h
theorem eQ(n:Nat):(List.range (n+2)).Perm (n::(n+1)::List.range n):=by rw[Sk,Sk];refine(UB (l₁:=List.range n++[n]) (l₂:=[n+1])).trans ?_;refine List.Perm.trans ?_ (List.Perm.swap (n+1) n (List.range n)).symm;exact List.Perm.cons _ (UB (l₁:=List.range n) (l₂:=[n]))
structure Pk(sg sg' mt mt':List Int)(p q:Nat):Prop where
 ls:sg'.length=sg.length+2
 lm:mt.length=4*sg.length
 lm':mt'.length=4*(sg.length+2)
 hp:p/4=sg.length
 hq:q/4=sg.length+1
 par:p%2=q%2
 nn:gn mt' (ae p 1)=ae q 1
 nn':gn mt' (ae q 1)=ae p 1
 ew:gn mt' p=ae q 2
 ew':gn mt' (ae q 2)=p
 rg:∀h,h<mt'.length->gi mt' h=(gn mt' h:Int)
 so:∀c,c<sg.length->gi sg' c=gi sg c
 sn:(gi sg' sg.length=1/\gi sg' (sg.length+1)= -1)\/(gi sg' sg.length= -1/\gi sg' (sg.length+1)=1)
section
variable{sg sg' mt mt':List Int}{p q:Nat}{L:Int}
theorem gQ{n:Nat}{K:Nat->Bool}{k:Bool}{h:Nat}(hh:h<4*n):jw n K k p q h=K h:=by unfold jw;rw[Rc oZ,Rc oZ]
theorem zR{n:Nat}{K:Nat->Bool}{k:Bool}(hp:p/4=n)(i:Nat):jw n K k p q (ae p i)=if i%2=0 then k else !k:=by unfold jw;rw[af,Re hp,bQ];by_cases e:i%2=0;{rw[Re oZ,Re e]};{rw[Rc oZ,Rc e]}
theorem CS{n:Nat}{K:Nat->Bool}{k:Bool}(hq:q/4=n+1)(i:Nat):jw n K k p q (ae q i)=if i%2=0 then !k else k:=by unfold jw;rw[af,Rc oZ,Re hq,bQ];by_cases e:i%2=0;{rw[Re oZ,Re e]};{rw[Rc oZ,Rc e]}
theorem fJ(hd:cJ sg mt L){K:Nat->Bool}(hK:cA sg mt K){x:Nat}(hx:x<mt.length):K (gn mt x)=(!K x)/\K (ae x 3)=(!K x)/\K (ae (gn mt x) 3)=K x:=by have hn:=hd.2.1;have hm:x/4∈List.range sg.length:=Rm.2 oZ;have hg:=hd.2.2.2.2.2.1.gn hx;have Wb:gn mt x/4∈List.range sg.length:=Rm.2 (by have:=hg.2.1;omega);have a:=(iq (c:=x/4) (fun y hy=>hK.alt y (by rw[hy];exact hm)) (x:=x) rfl).2.2;have b:=hK.cF _ Wb;rw[hg.2.2.2]at b;exact⟨by rw[<-b,a],a,hK.cF x hm⟩
theorem Pk.MA(h:Pk sg sg' mt mt' p q){K:Nat->Bool}(k:Bool):jw sg.length K k p q p=k/\jw sg.length K k p q q=(!k)/\jw sg.length K k p q (ae p 1)=(!k)/\jw sg.length K k p q (ae p 2)=k/\jw sg.length K k p q (ae p 3)=(!k)/\jw sg.length K k p q (ae q 1)=k/\jw sg.length K k p q (ae q 2)=(!k)/\jw sg.length K k p q (ae q 3)=k:=by have P0:=zR (q:=q) (K:=K) (k:=k) h.hp 0;have Q0:=CS (p:=p) (K:=K) (k:=k) h.hq 0;rw[eG]at P0 Q0;exact⟨P0,Q0,zR h.hp 1,zR h.hp 2,zR h.hp 3,CS h.hq 1,CS h.hq 2,CS h.hq 3⟩
theorem Pk.alt(h:Pk sg sg' mt mt' p q){K:Nat->Bool}(hK:cA sg mt K)(k:Bool)(z:Nat)(hz:z/4∈List.range sg'.length):jw sg.length K k p q (ae z 1)= !jw sg.length K k p q z:=by have XZ:=Rm.1 hz;unfold jw;rw[af,bQ];by_cases e1:z/4=sg.length;{rw[Re e1,Re e1];by_cases e:z%2=p%2;{rw[Re e,Rc oZ]};{rw[Rc e,Re oZ,Sv]}};{rw[Rc e1,Rc e1];by_cases e2:z/4=sg.length+1;{rw[Re e2,Re e2];by_cases e:z%2=q%2;{rw[Re e,Rc oZ,Sv]};{rw[Rc e,Re oZ]}};{rw[Rc e2,Rc e2];exact hK.alt z (Rm.2 (by have:=h.ls;omega))}}
structure EF(sg sg' mt mt':List Int)(p q X Y:Nat):Prop extends Pk sg sg' mt mt' p q where
 hX:X<mt.length
 hY:Y<mt.length
 hXY:X≠Y
 hMY:gn mt X≠Y
 tX:gn mt' X=(ae p 3)
 uX:gn mt' (ae p 3)=X
 tMX:gn mt' (gn mt X)=(ae q 3)
 uMX:gn mt' (ae q 3)=(gn mt X)
 tY:gn mt' Y=q
 uY:gn mt' q=Y
 tMY:gn mt' (gn mt Y)=(ae p 2)
 uMY:gn mt' (ae p 2)=(gn mt Y)
 old:∀h,h<mt.length->h≠X->h≠(gn mt X)->h≠Y->h≠(gn mt Y)->gn mt' h=gn mt h
theorem EF.jq(hd:cJ sg mt L){X Y:Nat}(h:EF sg sg' mt mt' p q X Y){K:Nat->Bool}(hK:cA sg mt K)(hf:K Y=K X):cA sg' mt' (jw sg.length K (K X) p q):=by
 have hn:=hd.2.1;have hI:=hd.2.2.2.2.2.1;have WX:=hI.gn h.hX;obtain⟨c1,c2,c3⟩:=fJ hd hK h.hX;have hgY:=hI.gn h.hY;obtain⟨d1,d2,d3⟩:=fJ hd hK h.hY;rw[hf]at d1 d2 d3;obtain⟨P0,Q0,P1,P2,P3,Q1,Q2,Q3⟩:=h.toPk.MA (K:=K) (K X);have O:∀z,z<mt.length->jw sg.length K (K X) p q z=K z:=fun z hz=>gQ oZ
 have O3:∀z,z<mt.length->jw sg.length K (K X) p q (ae z 3)=K (ae z 3):=fun z hz=>gQ (by have:=af z 3;omega)
 refine⟨h.toPk.alt hK (K X),fun z hz=>?_⟩
 ·have XZ:=Rm.1 hz
  have hls:=h.ls;by_cases e1:z/4=sg.length
  ·rcases aw (e1.trans h.hp.symm)with rfl|rfl|rfl|rfl
   {rw[h.ew,(tt _).2.1,Q1,P0]};{rw[h.nn,(tt _).1,Q0,P1]};{rw[h.uMY,O3 _ hgY.2.1,d3,P2]};{rw[h.uX,O3 _ h.hX,c2,P3]}
  ·by_cases e2:z/4=sg.length+1
   ·rcases aw (e2.trans h.hq.symm)with rfl|rfl|rfl|rfl
    {rw[h.uY,O3 _ h.hY,d2,Q0]};{rw[h.nn',(tt _).1,P0,Q1]};{rw[h.ew',P3,Q2]};{rw[h.uMX,O3 _ WX.2.1,c3,Q3]}
   ·have VR:z<mt.length:=oZ
    rw[O z VR];by_cases eX:z=X;{rw[eX,h.tX,(tt _).2.2.1,P2]}
    ·skip
     by_cases eMX:z=(gn mt X);{rw[eMX,h.tMX,(tt _).2.2.1,Q2,c1]}
     ·skip
      by_cases eY:z=Y;{rw[eY,h.tY,Q3,hf]}
      ·skip
       by_cases eMY:z=(gn mt Y);{rw[eMY,h.tMY,(tt _).2.1,P1,d1]}
       ·skip
        have WE:=hI.gn VR;rw[h.old z VR eX eMX eY eMY,O3 _ WE.2.1];exact hK.cF z (Rm.2 oZ)
theorem EF.inv(hd:cJ sg mt L){X Y:Nat}(h:EF sg sg' mt mt' p q X Y){z:Nat}(hz:z<4*(sg.length+2)):gn mt' (gn mt' z)=z/\gn mt' z<4*(sg.length+2):=by
 have hl:=hd.2.1;have hI:=hd.2.2.2.2.2.1;have WX:=hI.gn h.hX;have hgY:=hI.gn h.hY;have rpe:=h.hp;have rpn:=(af p 1).trans h.hp;have rpw:=(af p 2).trans h.hp;have rps:=(af p 3).trans h.hp;have rqe:=h.hq;have rqn:=(af q 1).trans h.hq;have rqw:=(af q 2).trans h.hq;have rqs:=(af q 3).trans h.hq;have hhX:=h.hX;have hhY:=h.hY;have VS:=WX.2.1;have hgl2:=hgY.2.1
 ·by_cases e1:z/4=sg.length
  ·rcases aw (e1.trans h.hp.symm)with rfl|rfl|rfl|rfl
   {exact⟨by rw[h.ew,h.ew'],by rw[h.ew];omega⟩};{exact⟨by rw[h.nn,h.nn'],by rw[h.nn];omega⟩};{exact⟨by rw[h.uMY,h.tMY],by rw[h.uMY];omega⟩};{exact⟨by rw[h.uX,h.tX],by rw[h.uX];omega⟩}
  ·by_cases e2:z/4=sg.length+1
   ·rcases aw (e2.trans h.hq.symm)with rfl|rfl|rfl|rfl
    {exact⟨by rw[h.uY,h.tY],by rw[h.uY];omega⟩};{exact⟨by rw[h.nn',h.nn],by rw[h.nn'];omega⟩};{exact⟨by rw[h.ew',h.ew],by rw[h.ew'];omega⟩};{exact⟨by rw[h.uMX,h.tMX],by rw[h.uMX];omega⟩}
   ·have VR:z<mt.length:=oZ
    by_cases eX:z=X;{exact⟨by rw[eX,h.tX,h.uX],by rw[eX,h.tX];omega⟩}
    ·skip
     by_cases eMX:z=(gn mt X);{exact⟨by rw[eMX,h.tMX,h.uMX],by rw[eMX,h.tMX];omega⟩}
     ·skip
      by_cases eY:z=Y;{exact⟨by rw[eY,h.tY,h.uY],by rw[eY,h.tY];omega⟩}
      ·skip
       by_cases eMY:z=(gn mt Y);{exact⟨by rw[eMY,h.tMY,h.uMY],by rw[eMY,h.tMY];omega⟩}
       ·skip
        have WE:=hI.gn VR;have e0:=h.old z VR eX eMX eY eMY;refine⟨?_,by rw[e0];have:=WE.2.1;omega⟩;rw[e0,h.old _ WE.2.1 (fun e=>eMX (by rw[<-e,WE.2.2.2])) (fun e=>eX (dZ hI VR h.hX e)) (fun e=>eMY (by rw[<-e,WE.2.2.2])) (fun e=>eY (dZ hI VR h.hY e)),WE.2.2.2]
theorem EF.num(hd:cJ sg mt L){X Y:Nat}(h:EF sg sg' mt mt' p q X Y){K:Nat->Bool}(hK:cA sg mt K)(hf:Y∈bJ (au mt) mt.length X){n:Int}(hn:jE sg mt K n):cA sg' mt' (jw sg.length K (K X) p q)/\jE sg' mt' (jw sg.length K (K X) p q) n:=by
 have hl:=hd.2.1;have hI:=hd.2.2.2.2.2.1;have WX:=hI.gn h.hX;have hgY:=hI.gn h.hY;have hYX:=(jZ hd hK (x:=fun _=>0) (fun _ _ _=>rfl) h.hX hf).1;have VY:=h.jq hd hK hYX;refine⟨VY,?_⟩;have small:fH (List.range sg.length) (jw sg.length K (K X) p q) (gn mt) (gi sg') n:=fH.congr (fun _ _=>rfl) (fun c hc=>h.so c (Rm.1 hc)) (fun z hz=>gQ (by have:=Rm.1 hz;omega)) hn;have XF:DT (p/4::q/4::List.range sg.length) (jw sg.length K (K X) p q) (gn mt'):=by
  have hm:∀c,c∈p/4::q/4::List.range sg.length->c∈List.range sg'.length:=fun c hc=>by rw[h.hp,h.hq]at hc;rw[h.ls];exact(eQ sg.length).mem_iff.2 hc
  exact⟨fun z hz=>VY.alt z (hm _ hz),fun z hz=>VY.cF z (hm _ hz)⟩
 have hinv:=fun z hz=>(h.inv hd (z:=z) hz).1
 have hB:uu (List.range sg.length) (jw sg.length K (K X) p q) (gn mt') (gn mt) (gi sg') p q:=
  {hP:=by rw[h.hp];simp
   hQ:=by rw[h.hq];simp
   hPQ:=by rw[h.hp,h.hq];omega
   jq:=XF
   par:=h.par
   nn:=h.nn
   nn':=h.nn'
   ew:=h.ew
   ew':=h.ew'
   inj:=fun z hz z' XZ e=>by
    have hm:∀z,z/4∈p/4::q/4::List.range sg.length->z<4*(sg.length+2):=fun z hz=>by rw[h.hp,h.hq]at hz;have:=Rm.1 ((eQ sg.length).mem_iff.2 hz);omega
    rw[<-hinv z (hm z hz),<-hinv z' (hm z' XZ),e]
   sg:=by rw[h.hp,h.hq];exact h.sn}
 have XG:∀z,z/4∈List.range sg.length->z≠gn mt Y->z≠Y->z≠X->z≠gn mt X->gn mt z=gn mt' z/\gn mt' z/4∈List.range sg.length:=fun z hz n1 n2 n3 n4=>by
  have VR:z<mt.length:=by have:=Rm.1 hz;omega
  rw[h.old z VR n3 n4 n2 n1];exact⟨rfl,Rm.2 (by have:=(hI.gn VR).2.1;omega)⟩
 have Y2:jw sg.length K (K X) p q p=true->∀x,PG (List.range sg.length) (jw sg.length K (K X) p q) (gn mt) x->x Y=x X:=fun hk x hx=>by
  have kX:K X=true:=by have:=zR (q:=q) (K:=K) (k:=K X) h.hp 0;rw[eG,hk]at this;exact this.symm
  refine(jZ hd hK (x:=x) (fun z hz kz=>hx z hz ?_) h.hX hf).2 kX;rw[gQ (by have:=Rm.1 hz;omega)];exact kz
 have key:=hB.KK (u:=gn mt Y) (v:=Y) (u':=X) (v':=gn mt X) h.uMY (Rm.2 (by have:=hgY.2.1;omega)) h.tMY hgY.2.2.2 h.uY (Rm.2 (by have:=h.hY;omega)) h.tY rfl h.uX (Rm.2 (by have:=h.hX;omega)) h.tX rfl h.uMX (Rm.2 (by have:=WX.2.1;omega)) h.tMX WX.2.2.2 XG Y2 small;rw[h.hp,h.hq]at key;unfold jE;rw[h.ls];exact key.perm (eQ sg.length).symm
structure KN(sg sg' mt mt':List Int)(p q X:Nat):Prop extends Pk sg sg' mt mt' p q where
 hX:X<mt.length
 tX:gn mt' X=(ae p 3)
 uX:gn mt' (ae p 3)=X
 tMX:gn mt' (gn mt X)=(ae p 2)
 uMX:gn mt' (ae p 2)=(gn mt X)
 x1:gn mt' (ae q 3)=q
 x2:gn mt' q=(ae q 3)
 old:∀h,h<mt.length->h≠X->h≠(gn mt X)->gn mt' h=gn mt h
theorem KN.jq(hd:cJ sg mt L){X:Nat}(h:KN sg sg' mt mt' p q X){K:Nat->Bool}(hK:cA sg mt K):cA sg' mt' (jw sg.length K (K X) p q):=by
 have hn:=hd.2.1;have hI:=hd.2.2.2.2.2.1;have WX:=hI.gn h.hX;obtain⟨c1,c2,c3⟩:=fJ hd hK h.hX;obtain⟨P0,Q0,P1,P2,P3,Q1,Q2,Q3⟩:=h.toPk.MA (K:=K) (K X);have O:∀z,z<mt.length->jw sg.length K (K X) p q z=K z:=fun z hz=>gQ oZ
 have O3:∀z,z<mt.length->jw sg.length K (K X) p q (ae z 3)=K (ae z 3):=fun z hz=>gQ (by have:=af z 3;omega)
 refine⟨h.toPk.alt hK (K X),fun z hz=>?_⟩
 ·have XZ:=Rm.1 hz
  have hls:=h.ls;by_cases e1:z/4=sg.length
  ·rcases aw (e1.trans h.hp.symm)with rfl|rfl|rfl|rfl
   {rw[h.ew,(tt _).2.1,Q1,P0]};{rw[h.nn,(tt _).1,Q0,P1]};{rw[h.uMX,O3 _ WX.2.1,c3,P2]};{rw[h.uX,O3 _ h.hX,c2,P3]}
  ·by_cases e2:z/4=sg.length+1
   ·rcases aw (e2.trans h.hq.symm)with rfl|rfl|rfl|rfl
    {rw[h.x2,(tt _).2.2.1,Q2,Q0]};{rw[h.nn',(tt _).1,P0,Q1]};{rw[h.ew',P3,Q2]};{rw[h.x1,Q3]}
   ·have VR:z<mt.length:=oZ
    rw[O z VR];by_cases eX:z=X;{rw[eX,h.tX,(tt _).2.2.1,P2]}
    ·skip
     by_cases eMX:z=(gn mt X);{rw[eMX,h.tMX,(tt _).2.1,P1,c1]}
     ·skip
      have WE:=hI.gn VR;rw[h.old z VR eX eMX,O3 _ WE.2.1];exact hK.cF z (Rm.2 oZ)
theorem KN.inv(hd:cJ sg mt L){X:Nat}(h:KN sg sg' mt mt' p q X){z:Nat}(hz:z<4*(sg.length+2)):gn mt' (gn mt' z)=z/\gn mt' z<4*(sg.length+2):=by
 have hl:=hd.2.1;have hI:=hd.2.2.2.2.2.1;have WX:=hI.gn h.hX;have rpe:=h.hp;have rpn:=(af p 1).trans h.hp;have rpw:=(af p 2).trans h.hp;have rps:=(af p 3).trans h.hp;have rqe:=h.hq;have rqn:=(af q 1).trans h.hq;have rqw:=(af q 2).trans h.hq;have rqs:=(af q 3).trans h.hq;have hhX:=h.hX;have VS:=WX.2.1
 ·by_cases e1:z/4=sg.length
  ·rcases aw (e1.trans h.hp.symm)with rfl|rfl|rfl|rfl
   {exact⟨by rw[h.ew,h.ew'],by rw[h.ew];omega⟩};{exact⟨by rw[h.nn,h.nn'],by rw[h.nn];omega⟩};{exact⟨by rw[h.uMX,h.tMX],by rw[h.uMX];omega⟩};{exact⟨by rw[h.uX,h.tX],by rw[h.uX];omega⟩}
  ·by_cases e2:z/4=sg.length+1
   ·rcases aw (e2.trans h.hq.symm)with rfl|rfl|rfl|rfl
    {exact⟨by rw[h.x2,h.x1],by rw[h.x2];omega⟩};{exact⟨by rw[h.nn',h.nn],by rw[h.nn'];omega⟩};{exact⟨by rw[h.ew',h.ew],by rw[h.ew'];omega⟩};{exact⟨by rw[h.x1,h.x2],by rw[h.x1];omega⟩}
   ·have VR:z<mt.length:=oZ
    by_cases eX:z=X;{exact⟨by rw[eX,h.tX,h.uX],by rw[eX,h.tX];omega⟩}
    ·skip
     by_cases eMX:z=(gn mt X);{exact⟨by rw[eMX,h.tMX,h.uMX],by rw[eMX,h.tMX];omega⟩}
     ·skip
      have WE:=hI.gn VR;have e0:=h.old z VR eX eMX;refine⟨?_,by rw[e0];have:=WE.2.1;omega⟩;rw[e0,h.old _ WE.2.1 (fun e=>eMX (by rw[<-e,WE.2.2.2])) (fun e=>eX (dZ hI VR h.hX e)),WE.2.2.2]
theorem KN.num(hd:cJ sg mt L){X:Nat}(h:KN sg sg' mt mt' p q X){K:Nat->Bool}(hK:cA sg mt K){n:Int}(hn:jE sg mt K n):cA sg' mt' (jw sg.length K (K X) p q)/\jE sg' mt' (jw sg.length K (K X) p q) n:=by
 have hl:=hd.2.1;have hI:=hd.2.2.2.2.2.1;have WX:=hI.gn h.hX;have VY:=h.jq hd hK;refine⟨VY,?_⟩;have small:fH (List.range sg.length) (jw sg.length K (K X) p q) (gn mt) (gi sg') n:=fH.congr (fun _ _=>rfl) (fun c hc=>h.so c (Rm.1 hc)) (fun z hz=>gQ (by have:=Rm.1 hz;omega)) hn;have XF:DT (p/4::q/4::List.range sg.length) (jw sg.length K (K X) p q) (gn mt'):=by
  have hm:∀c,c∈p/4::q/4::List.range sg.length->c∈List.range sg'.length:=fun c hc=>by rw[h.hp,h.hq]at hc;rw[h.ls];exact(eQ sg.length).mem_iff.2 hc
  exact⟨fun z hz=>VY.alt z (hm _ hz),fun z hz=>VY.cF z (hm _ hz)⟩
 have hinv:=fun z hz=>(h.inv hd (z:=z) hz).1
 have hB:uu (List.range sg.length) (jw sg.length K (K X) p q) (gn mt') (gn mt) (gi sg') p q:=
  {hP:=by rw[h.hp];simp
   hQ:=by rw[h.hq];simp
   hPQ:=by rw[h.hp,h.hq];omega
   jq:=XF
   par:=h.par
   nn:=h.nn
   nn':=h.nn'
   ew:=h.ew
   ew':=h.ew'
   inj:=fun z hz z' XZ e=>by
    have hm:∀z,z/4∈p/4::q/4::List.range sg.length->z<4*(sg.length+2):=fun z hz=>by rw[h.hp,h.hq]at hz;have:=Rm.1 ((eQ sg.length).mem_iff.2 hz);omega
    rw[<-hinv z (hm z hz),<-hinv z' (hm z' XZ),e]
   sg:=by rw[h.hp,h.hq];exact h.sn}
 have XG:∀z,z/4∈List.range sg.length->z≠gn mt X->z≠X->gn mt z=gn mt' z/\gn mt' z/4∈List.range sg.length:=fun z hz n1 n2=>by
  have VR:z<mt.length:=by have:=Rm.1 hz;omega
  rw[h.old z VR n2 n1];exact⟨rfl,Rm.2 (by have:=(hI.gn VR).2.1;omega)⟩
 have key:=hB.Lw (u:=gn mt X) (u':=X) h.uMX (Rm.2 (by have:=WX.2.1;omega)) h.tMX WX.2.2.2 h.uX (Rm.2 (by have:=h.hX;omega)) h.tX rfl h.x1 h.x2 XG small;rw[h.hp,h.hq]at key;unfold jE;rw[h.ls];exact key.perm (eQ sg.length).symm
structure Ll(sg sg' mt mt':List Int)(p q X:Nat):Prop extends Pk sg sg' mt mt' p q where
 hX:X<mt.length
 tX:gn mt' X=q
 uX:gn mt' q=X
 tMX:gn mt' (gn mt X)=(ae q 3)
 uMX:gn mt' (ae q 3)=(gn mt X)
 x1:gn mt' (ae p 2)=(ae p 3)
 x2:gn mt' (ae p 3)=(ae p 2)
 old:∀h,h<mt.length->h≠X->h≠(gn mt X)->gn mt' h=gn mt h
theorem Ll.jq(hd:cJ sg mt L){X:Nat}(h:Ll sg sg' mt mt' p q X){K:Nat->Bool}(hK:cA sg mt K):cA sg' mt' (jw sg.length K (K X) p q):=by
 have hn:=hd.2.1;have hI:=hd.2.2.2.2.2.1;have WX:=hI.gn h.hX;obtain⟨c1,c2,c3⟩:=fJ hd hK h.hX;obtain⟨P0,Q0,P1,P2,P3,Q1,Q2,Q3⟩:=h.toPk.MA (K:=K) (K X);have O:∀z,z<mt.length->jw sg.length K (K X) p q z=K z:=fun z hz=>gQ oZ
 have O3:∀z,z<mt.length->jw sg.length K (K X) p q (ae z 3)=K (ae z 3):=fun z hz=>gQ (by have:=af z 3;omega)
 refine⟨h.toPk.alt hK (K X),fun z hz=>?_⟩
 ·have XZ:=Rm.1 hz
  have hls:=h.ls;by_cases e1:z/4=sg.length
  ·rcases aw (e1.trans h.hp.symm)with rfl|rfl|rfl|rfl
   {rw[h.ew,(tt _).2.1,Q1,P0]};{rw[h.nn,(tt _).1,Q0,P1]};{rw[h.x1,(tt _).2.2.1,P2]};{rw[h.x2,(tt _).2.1,P1,P3]}
  ·by_cases e2:z/4=sg.length+1
   ·rcases aw (e2.trans h.hq.symm)with rfl|rfl|rfl|rfl
    {rw[h.uX,O3 _ h.hX,c2,Q0]};{rw[h.nn',(tt _).1,P0,Q1]};{rw[h.ew',P3,Q2]};{rw[h.uMX,O3 _ WX.2.1,c3,Q3]}
   ·have VR:z<mt.length:=oZ
    rw[O z VR];by_cases eX:z=X;{rw[eX,h.tX,Q3]}
    ·skip
     by_cases eMX:z=(gn mt X);{rw[eMX,h.tMX,(tt _).2.2.1,Q2,c1]}
     ·skip
      have WE:=hI.gn VR;rw[h.old z VR eX eMX,O3 _ WE.2.1];exact hK.cF z (Rm.2 oZ)
theorem Ll.inv(hd:cJ sg mt L){X:Nat}(h:Ll sg sg' mt mt' p q X){z:Nat}(hz:z<4*(sg.length+2)):gn mt' (gn mt' z)=z/\gn mt' z<4*(sg.length+2):=by
 have hl:=hd.2.1;have hI:=hd.2.2.2.2.2.1;have WX:=hI.gn h.hX;have rpe:=h.hp;have rpn:=(af p 1).trans h.hp;have rpw:=(af p 2).trans h.hp;have rps:=(af p 3).trans h.hp;have rqe:=h.hq;have rqn:=(af q 1).trans h.hq;have rqw:=(af q 2).trans h.hq;have rqs:=(af q 3).trans h.hq;have hhX:=h.hX;have VS:=WX.2.1
 ·by_cases e1:z/4=sg.length
  ·rcases aw (e1.trans h.hp.symm)with rfl|rfl|rfl|rfl
   {exact⟨by rw[h.ew,h.ew'],by rw[h.ew];omega⟩};{exact⟨by rw[h.nn,h.nn'],by rw[h.nn];omega⟩};{exact⟨by rw[h.x1,h.x2],by rw[h.x1];omega⟩};{exact⟨by rw[h.x2,h.x1],by rw[h.x2];omega⟩}
  ·by_cases e2:z/4=sg.length+1
   ·rcases aw (e2.trans h.hq.symm)with rfl|rfl|rfl|rfl
    {exact⟨by rw[h.uX,h.tX],by rw[h.uX];omega⟩};{exact⟨by rw[h.nn',h.nn],by rw[h.nn'];omega⟩};{exact⟨by rw[h.ew',h.ew],by rw[h.ew'];omega⟩};{exact⟨by rw[h.uMX,h.tMX],by rw[h.uMX];omega⟩}
   ·have VR:z<mt.length:=oZ
    by_cases eX:z=X;{exact⟨by rw[eX,h.tX,h.uX],by rw[eX,h.tX];omega⟩}
    ·skip
     by_cases eMX:z=(gn mt X);{exact⟨by rw[eMX,h.tMX,h.uMX],by rw[eMX,h.tMX];omega⟩}
     ·skip
      have WE:=hI.gn VR;have e0:=h.old z VR eX eMX;refine⟨?_,by rw[e0];have:=WE.2.1;omega⟩;rw[e0,h.old _ WE.2.1 (fun e=>eMX (by rw[<-e,WE.2.2.2])) (fun e=>eX (dZ hI VR h.hX e)),WE.2.2.2]
theorem Ll.num(hd:cJ sg mt L){X:Nat}(h:Ll sg sg' mt mt' p q X){K:Nat->Bool}(hK:cA sg mt K){n:Int}(hn:jE sg mt K n):cA sg' mt' (jw sg.length K (K X) p q)/\jE sg' mt' (jw sg.length K (K X) p q) n:=by
 have hl:=hd.2.1;have hI:=hd.2.2.2.2.2.1;have WX:=hI.gn h.hX;have VY:=h.jq hd hK;refine⟨VY,?_⟩;have small:fH (List.range sg.length) (jw sg.length K (K X) p q) (gn mt) (gi sg') n:=fH.congr (fun _ _=>rfl) (fun c hc=>h.so c (Rm.1 hc)) (fun z hz=>gQ (by have:=Rm.1 hz;omega)) hn;have XF:DT (p/4::q/4::List.range sg.length) (jw sg.length K (K X) p q) (gn mt'):=by
  have hm:∀c,c∈p/4::q/4::List.range sg.length->c∈List.range sg'.length:=fun c hc=>by rw[h.hp,h.hq]at hc;rw[h.ls];exact(eQ sg.length).mem_iff.2 hc
  exact⟨fun z hz=>VY.alt z (hm _ hz),fun z hz=>VY.cF z (hm _ hz)⟩
 have hinv:=fun z hz=>(h.inv hd (z:=z) hz).1
 have hB:uu (List.range sg.length) (jw sg.length K (K X) p q) (gn mt') (gn mt) (gi sg') p q:=
  {hP:=by rw[h.hp];simp
   hQ:=by rw[h.hq];simp
   hPQ:=by rw[h.hp,h.hq];omega
   jq:=XF
   par:=h.par
   nn:=h.nn
   nn':=h.nn'
   ew:=h.ew
   ew':=h.ew'
   inj:=fun z hz z' XZ e=>by
    have hm:∀z,z/4∈p/4::q/4::List.range sg.length->z<4*(sg.length+2):=fun z hz=>by rw[h.hp,h.hq]at hz;have:=Rm.1 ((eQ sg.length).mem_iff.2 hz);omega
    rw[<-hinv z (hm z hz),<-hinv z' (hm z' XZ),e]
   sg:=by rw[h.hp,h.hq];exact h.sn}
 have XG:∀z,z/4∈List.range sg.length->z≠X->z≠gn mt X->gn mt z=gn mt' z/\gn mt' z/4∈List.range sg.length:=fun z hz n1 n2=>by
  have VR:z<mt.length:=by have:=Rm.1 hz;omega
  rw[h.old z VR n1 n2];exact⟨rfl,Rm.2 (by have:=(hI.gn VR).2.1;omega)⟩
 have key:=hB.Lg (v:=X) (v':=gn mt X) h.uX (Rm.2 (by have:=h.hX;omega)) h.tX rfl h.uMX (Rm.2 (by have:=WX.2.1;omega)) h.tMX WX.2.2.2 h.x1 h.x2 XG small;rw[h.hp,h.hq]at key;unfold jE;rw[h.ls];exact key.perm (eQ sg.length).symm
end
theorem Cr(r:Nat->Nat)(f:Nat->Int):∀cs:List Nat,lS (cs.map r) f=lS cs fun c=>f (r c)
 |[]=>rfl
 |c::cs=>by show f (r c)+lS (cs.map r) f=f (r c)+_;rw[Cr r f cs]
structure yR(cs:List Nat)(K K':Nat->Bool)(m m':Nat->Nat)(r τ:Nat->Nat)(e:Int):Prop where
 inj:∀c∈cs,∀d∈cs,r c=r d->c=d
 at_:∀h,h/4∈cs->τ h/4=r (h/4)
 turn:∀h k,h/4∈cs->τ (ae h k)=ae (τ h) k
 mate:∀h,h/4∈cs->m' (τ h)=τ (m h)
 inm:∀h,h/4∈cs->m h/4∈cs
 jq:∀h,h/4∈cs->K' (τ h)=K h
 par:∀h,h/4∈cs->eta (τ h)=e*eta h
 alt:∀h,h/4∈cs->K (ae h 1)= !K h
section
variable{cs:List Nat}{K K':Nat->Bool}{m m':Nat->Nat}{r τ:Nat->Nat}{e:Int}(H:yR cs K K' m m' r τ e)
include H
theorem yR.Oc{g h:Nat}(hg:g/4∈cs)(hh:h/4∈cs)(e:τ g=τ h):g=h:=by
 have e4:g/4=h/4:=H.inj _ hg _ hh (by rw[<-H.at_ g hg,<-H.at_ h hh,e]);rcases aw e4 with rfl|rfl|rfl|rfl
 {rfl};{rw[H.turn h 1 hh]at e;exact absurd e (an oQ oQ)};{rw[H.turn h 2 hh]at e;exact absurd e (an oQ oQ)};{rw[H.turn h 3 hh]at e;exact absurd e (an oQ oQ)}
theorem yR.oS{z:Nat}(hz:z/4∈cs.map r):∃h,h/4∈cs/\τ h=z:=by
 obtain⟨c,hc,e⟩:=So.1 hz;have h0:(4*c)/4∈cs:=by rw[show 4*c/4=c by omega];exact hc
 have e4:z/4=τ (4*c)/4:=by rw[H.at_ _ h0,show 4*c/4=c by omega,e]
 rcases aw e4 with rfl|e1|e1|e1
 {exact⟨_,h0,rfl⟩};{exact⟨ae (4*c) 1,by rw[af];exact h0,by rw[H.turn _ _ h0,e1]⟩};{exact⟨ae (4*c) 2,by rw[af];exact h0,by rw[H.turn _ _ h0,e1]⟩};{exact⟨ae (4*c) 3,by rw[af];exact h0,by rw[H.turn _ _ h0,e1]⟩}
theorem yR.gT{x y x' y':bB}{c:Nat}(hc:c∈cs)(hx:∀h,h/4∈cs->x' (τ h)=x h)(hy:∀h,h/4∈cs->y' (τ h)=y h):gT K' x' y' (r c)=e*gT K x y c:=by
 have h0:(4*c)/4∈cs:=by rw[show 4*c/4=c by omega];exact hc
 have hw:∃h,h/4=c/\K h=true:=by
  rcases TQ (K (4*c))with k|k
  {exact⟨4*c,oZ,k⟩};{exact⟨ae (4*c) 1,by rw[af];omega,by rw[H.alt _ h0,k];rfl⟩}
 obtain⟨h,hh,hk⟩:=hw;have hm:h/4∈cs:=by rw[hh];exact hc
 have alt':∀z,z/4=r c->K' (ae z 1)= !K' z:=fun z hz=>by obtain⟨g,hg,rfl⟩:=H.oS (z:=z) (by rw[hz];exact Sb hc);rw[<-H.turn g 1 hg,H.jq _ (by rw[af];exact hg),H.jq g hg,H.alt g hg]
 rw[ik (fun z hz=>H.alt z (by rw[hz];exact hc)) hh hk,ik alt' (h:=τ h) (by rw[H.at_ h hm,hh]) (by rw[H.jq h hm];exact hk),H.par h hm,<-H.turn h 2 hm,hx h hm,hy h hm,hx _ (by rw[af];exact hm),hy _ (by rw[af];exact hm)]
 grind
theorem yR.sg{s s':Nat->Int}(he:e=1\/e= -1)(hs:∀c∈cs,cT K' s' (r c)=e*cT K s c){n:Int}(hn:fH cs K m s n):fH (cs.map r) K' m' s' (e*n):=by
 obtain⟨t,ht,rfl⟩:=hn;have hτ:∃σ:Nat->Nat,∀h,h/4∈cs->σ (τ h)=h:=by
  have:∀z:Nat,∃g:Nat,∀h,h/4∈cs->τ h=z->g=h:=fun z=>by
   by_cases hz:∃h,h/4∈cs/\τ h=z
   {obtain⟨h,hh,e1⟩:=hz;exact⟨h,fun g hg e2=>H.Oc hh hg (e1.trans e2.symm)⟩};{exact⟨0,fun h hh e1=>absurd ⟨h,hh,e1⟩ hz⟩}
  obtain⟨σ,hσ⟩:=Sp this;exact⟨σ,fun h hh=>hσ _ h hh rfl⟩
 obtain⟨σ,hσ⟩:=hτ;have fx:∀(x:bB) h,h/4∈cs->(fun z=>x (σ z)) (τ h)=x h:=fun x h hh=>by show x (σ (τ h))=_;rw[hσ h hh]
 have up:∀x,PG cs K m x->PG (cs.map r) K' m' fun z=>x (σ z):=fun x hx z hz hk=>by obtain⟨h,hh,rfl⟩:=H.oS hz;rw[H.mate h hh,<-H.turn _ 3 (H.inm h hh),fx x h hh,fx x (ae (m h) 3) (by rw[af];exact H.inm h hh)];exact hx h hh (by rw[<-H.jq h hh];exact hk)
 have down:∀x,PG (cs.map r) K' m' x->PG cs K m fun h=>x (τ h):=fun x hx h hh hk=>by have:=hx (τ h) (by rw[H.at_ h hh];exact Sb hh) (by rw[H.jq h hh];exact hk);rw[H.mate h hh,<-H.turn _ 3 (H.inm h hh)]at this;exact this
 have bg:∀x y x' y':bB,(∀h,h/4∈cs->x' (τ h)=x h)->(∀h,h/4∈cs->y' (τ h)=y h)->BG (cs.map r) K' x' y'=e*BG cs K x y:=fun x y x' y' hx hy=>by unfold BG;rw[Cr,<-xD];exact cH fun c hc=>H.gT hc hx hy
 have tk:lS (cs.map r) (cT K' s')=e*lS cs (cT K s):=by rw[Cr,<-xD];exact cH hs
 refine⟨e*t,?_,by rw[tk];grind⟩;have ht':kU (PG cs K m) (fun x y=>e*BG cs K x y) (e*t):=by
  rcases he with rfl|rfl
  {rw[show(fun x y=>1*BG cs K x y)=BG cs K from funext fun x=>funext fun y=>SH _,SH];exact ht};{rw[show(fun x y=> -1*BG cs K x y)=fun x y=> -BG cs K x y from funext fun x=>funext fun y=>by omega,show-1*t= -t by omega];exact ht.neg}
 refine ht'.map (φ:=fun x z=>x (σ z)) up (fun x y _ _=>bg x y _ _ (fx x) (fx y)) (fun x hx=>⟨_,down x hx,fun y _=>?_⟩) (kR _ _);rw[bg (fun h=>x (τ h)) (fun h=>y (τ h)) x y (fun _ _=>rfl) fun _ _=>rfl,bg (fun h=>x (τ h)) (fun h=>y (τ h)) _ y (fun h hh=>by show x (τ (σ (τ h)))=_;rw[hσ h hh]) fun _ _=>rfl]
end
def Ef(n:Nat)(K:Nat->Bool)(k:Bool)(o:Nat):Nat->Bool:=fun h=>if h/4=n then(if h%2=o%2 then k else !k)else K h
structure Qg(sg sg' mt mt':List Int)(o u:Nat):Prop where
 ls:sg'.length=sg.length+1
 lm':mt'.length=4*(sg.length+1)
 ho:o/4=sg.length
 hu:u<mt.length
 k1:gn mt' o=ae o 1
 k2:gn mt' (ae o 1)=o
 a1:gn mt' (ae o 2)=u
 a2:gn mt' u=ae o 2
 b1:gn mt' (ae o 3)=gn mt u
 b2:gn mt' (gn mt u)=ae o 3
 old:∀h,h<mt.length->h≠u->h≠gn mt u->gn mt' h=gn mt h
 so:∀c,c<sg.length->gi sg' c=gi sg c
 sn:gi sg' sg.length=eta o
theorem range_one(n:Nat):(List.range (n+1)).Perm (n::List.range n):=by rw[Sk];exact UB
theorem Qg.num{sg sg' mt mt':List Int}{o u:Nat}{L:Int}(hd:cJ sg mt L)(h:Qg sg sg' mt mt' o u){K:Nat->Bool}(hK:cA sg mt K):cA sg' mt' (Ef sg.length K (!K u) o)/\∀n,jE sg mt K n->jE sg' mt' (Ef sg.length K (!K u) o) n:=by
 have hn:=hd.2.1;have hI:=hd.2.2.2.2.2.1;have hg:=hI.gn h.hu;have hu:=h.hu;obtain⟨c1,c2,c3⟩:=fJ hd hK h.hu;have d1:=af o 1;have d2:=af o 2;have d3:=af o 3;have ho:=h.ho;have new:∀z,z/4=sg.length->Ef sg.length K (!K u) o z=if z%2=o%2 then !K u else K u:=fun z hz=>by unfold Ef;rw[Re hz,Sv]
 have old:∀z,z<mt.length->Ef sg.length K (!K u) o z=K z:=fun z hz=>Rc oZ
 have p1:=bQ o 1;have p2:=bQ o 2;have p3:=bQ o 3;have o0:Ef sg.length K (!K u) o o= !K u:=by rw[new o ho,Re rfl]
 have o1:Ef sg.length K (!K u) o (ae o 1)=K u:=by rw[new _ (d1.trans ho),Rc oZ]
 have o2:Ef sg.length K (!K u) o (ae o 2)= !K u:=by rw[new _ (d2.trans ho),Re oZ]
 have o3:Ef sg.length K (!K u) o (ae o 3)=K u:=by rw[new _ (d3.trans ho),Rc oZ]
 have t3:∀z,z<mt.length->Ef sg.length K (!K u) o (ae z 3)=K (ae z 3):=fun z hz=>old _ (by have:=af z 3;omega)
 have VY:cA sg' mt' (Ef sg.length K (!K u) o):=by
  refine⟨fun z hz=>?_,fun z hz=>?_⟩;{have XZ:=Rm.1 hz;have XR:=af z 1;by_cases e:z/4=sg.length;{have:=bQ z 1;rw[new z e,new _ (XR.trans e)];by_cases e2:z%2=o%2;{rw[Re e2,Rc oZ,Sv]};{rw[Rc e2,Re oZ]}};{have hls:=h.ls;rw[old z oZ,old _ oZ];exact hK.alt z (Rm.2 oZ)}}
  ·have XZ:=Rm.1 hz
   have hls:=h.ls;by_cases e:z/4=sg.length
   ·rcases aw (e.trans ho.symm)with rfl|rfl|rfl|rfl
    {rw[h.k1,(tt _).1]};{rw[h.k2,o3,o1]};{rw[h.a1,t3 _ hu,c2,o2]};{rw[h.b1,t3 _ hg.2.1,c3,o3]}
   {have VR:z<mt.length:=oZ;rw[old z VR];by_cases e1:z=u;{rw[e1,h.a2,(tt _).2.1,o1]};{by_cases e2:z=gn mt u;{rw[e2,h.b2,(tt _).2.2.1,o2,c1]};{rw[h.old z VR e1 e2,t3 _ (hI.gn VR).2.1];exact hK.cF z (Rm.2 oZ)}}}
 refine⟨VY,fun n Yo=>?_⟩;have small:fH (List.range sg.length) (Ef sg.length K (!K u) o) (gn mt) (gi sg') n:=fH.congr (fun _ _=>rfl) (fun c hc=>h.so c (Rm.1 hc)) (fun z hz=>old z (by have:=Rm.1 hz;omega)) Yo;have XF:DT (sg.length::List.range sg.length) (Ef sg.length K (!K u) o) (gn mt'):=by
  have hm:∀c,c∈sg.length::List.range sg.length->c∈List.range sg'.length:=fun c hc=>by rw[h.ls];exact(range_one sg.length).mem_iff.2 hc
  exact⟨fun z hz=>VY.alt z (hm _ hz),fun z hz=>VY.cF z (hm _ hz)⟩
 have key:=CQ (cs:=List.range sg.length) (c:=sg.length) oX XF ho h.k1 h.k2 h.a1 h.b1 (Rm.2 oZ) (Rm.2 (by have:=hg.2.1;omega)) h.a2 h.b2 rfl hg.2.2.2 (fun z hz n1 n2=>by
  have VR:z<mt.length:=by have:=Rm.1 hz;omega
  rw[h.old z VR n1 n2];exact⟨rfl,by have:=(hI.gn VR).2.1;omega⟩) h.sn small
 unfold jE;rw[h.ls];exact key.perm (range_one sg.length).symm
def sQ(g c:Nat):Nat:=if g<c then c-1 else c
def nA(g h:Nat):Nat:=if g<h/4 then h-4 else h
def AI(g h:Nat):Nat:=if h/4<g then h else h+4
theorem rC{g h:Nat}:nA g h/4=sQ g (h/4):=by unfold nA sQ;split<;>omega
theorem lR(g h k:Nat):nA g (ae h k)=ae (nA g h) k:=by unfold nA;rw[af];split;{unfold ae;omega};{rfl}
theorem ji{g h:Nat}(hh:h/4≠g):AI g (nA g h)=h:=by unfold AI nA;split<;>split<;>omega
theorem CW{g c d:Nat}(hc:c≠g)(hd:d≠g)(e:sQ g c=sQ g d):c=d:=by unfold sQ at e;split at e<;>split at e<;>omega
theorem xY(g h:Nat):nA g h%2=h%2:=by unfold nA;split<;>omega
theorem ue{n g:Nat}(hg:g<n):(List.range n).Perm (g::(List.range n).filter fun c=>decide (c≠g))/\(((List.range n).filter fun c=>decide (c≠g)).map (sQ g)).Perm (List.range (n-1)):=by
 have Vm:∀c,c∈(List.range n).filter (fun c=>decide (c≠g))↔c<n/\c≠g:=fun c=>by rw[R3,Rm];simp
 constructor
 ·refine(SJ SD (SC.2 ⟨fun h=>((Vm g).1 h).2 rfl,SD.filter _⟩)).2 fun c=>?_
  rw[Rm,RV,Vm];omega
 ·have Yz:(((List.range n).filter fun c=>decide (c≠g)).map (sQ g)).Nodup:=by
   rw[List.Nodup,Tq];refine((SD (n:=n)).filter _).imp_of_mem fun{a b} ha hb hab e=>hab (CW ((Vm a).1 ha).2 ((Vm b).1 hb).2 e)
  refine(SJ Yz SD).2 fun y=>?_
  rw[So,Rm];constructor;{rintro⟨c,hc,rfl⟩;have:=(Vm c).1 hc;unfold sQ;split<;>omega};{intro hy;refine⟨if y<g then y else y+1,(Vm _).2 (by split<;>omega),?_⟩;unfold sQ;split<;>split<;>omega}
theorem JU{n g:Nat}(hg:g<n){K:Nat->Bool}{m m':Nat->Nat}{s s':Nat->Int}(halt:∀h,h/4<n->h/4≠g->K (ae h 1)= !K h)(Y2:∀h,h/4<n->h/4≠g->K (ae (m h) 3)=K h)
  (hm:∀h,h/4<n->h/4≠g->m' (nA g h)=nA g (m h)/\m h/4<n/\m h/4≠g)(hs:∀c,c<n->c≠g->s' (sQ g c)=s c):
  DT (List.range (n-1)) (fun z=>K (AI g z)) m'/\∀k,fH ((List.range n).filter fun c=>decide (c≠g)) K m s k->fH (List.range (n-1)) (fun z=>K (AI g z)) m' s' k:=by
 have Vm:∀c,c∈(List.range n).filter (fun c=>decide (c≠g))↔c<n/\c≠g:=fun c=>by rw[R3,Rm];simp
 have H:yR ((List.range n).filter fun c=>decide (c≠g)) K (fun z=>K (AI g z)) m m' (sQ g) (nA g) 1:=by refine⟨fun c hc d hd e=>CW ((Vm c).1 hc).2 ((Vm d).1 hd).2 e,fun h _=>rC,fun h k _=>lR g h k,fun h hh=>(hm h ((Vm _).1 hh).1 ((Vm _).1 hh).2).1,fun h hh=>(Vm _).2 (hm h ((Vm _).1 hh).1 ((Vm _).1 hh).2).2,fun h hh=>?_,fun h _=>?_,fun h hh=>halt h ((Vm _).1 hh).1 ((Vm _).1 hh).2⟩;{show K (AI g (nA g h))=K h;rw[ji ((Vm _).1 hh).2]};{unfold eta;rw[xY];omega}
 have hp:=(ue hg).2;have VY:DT (List.range (n-1)) (fun z=>K (AI g z)) m':=by refine⟨fun z hz=>?_,fun z hz=>?_⟩;{obtain⟨h,hh,rfl⟩:=H.oS (z:=z) (hp.mem_iff.2 hz);have:=(Vm _).1 hh;show K (AI g (ae (nA g h) 1))= !K (AI g (nA g h));rw[<-lR,ji (by rw[af];exact this.2),ji this.2];exact halt h this.1 this.2};{obtain⟨h,hh,rfl⟩:=H.oS (z:=z) (hp.mem_iff.2 hz);have:=(Vm _).1 hh;obtain⟨e1,e2,e3⟩:=hm h this.1 this.2;show K (AI g (ae (m' (nA g h)) 3))=K (AI g (nA g h));rw[e1,<-lR,ji (by rw[af];exact e3),ji this.2];exact Y2 h this.1 this.2}
 refine⟨VY,fun k hk=>?_⟩;have:=H.sg (s:=s) (s':=s') (.inl rfl) (fun c hc=>by
  have XX:=(Vm c).1 hc;unfold cT;rw[hs c XX.1 XX.2,SH];have e:K (AI g (4*sQ g c))=K (4*c):=by
   have:4*sQ g c=nA g (4*c):=by unfold sQ nA;rw[show 4*c/4=c by omega];split<;>omega
   rw[this,ji (by rw[show 4*c/4=c by omega];exact XX.2)]
  show(if s c=1 then(if K (AI g (4*sQ g c))=true then 1 else 0)else if K (AI g (4*sQ g c))=true then 0 else-1)=_;rw[e]) hk
 rw[SH]at this;exact this.perm hp
def fe(m:Nat->Nat)(u v:Nat):Nat->Nat:=fun h=>if h=u then v else if h=v then u else m h
structure M5(sg sg' mt mt':List Int)(o:Nat):Prop where
 ho:o<mt.length
 ls:sg'.length+1=sg.length
 k1:gn mt o=ae o 1
 ne:gn mt (ae o 2)≠ae o 3
 tab:∀h,h<mt.length->h/4≠o/4->gn mt' (nA (o/4) h)=nA (o/4) (fe (gn mt) (gn mt (ae o 2)) (gn mt (ae o 3)) h)
 so:∀c,c<sg.length->c≠o/4->gi sg' (sQ (o/4) c)=gi sg c
 sn:gi sg (o/4)=eta o
theorem M5.num{sg sg' mt mt':List Int}{o:Nat}{L:Int}(hd:cJ sg mt L)(h:M5 sg sg' mt mt' o){K:Nat->Bool}(hK:cA sg mt K):∃K',cA sg' mt' K'/\∀n,jE sg mt K n->jE sg' mt' K' n:=by
 have hn:=hd.2.1;have hI:=hd.2.2.2.2.2.1;have ho:=h.ho;have hg:o/4<sg.length:=oZ;have d1:=af o 1;have d2:=af o 2;have d3:=af o 3;have g1:=hI.gn (show ae o 1<mt.length by omega);have g2:=hI.gn (show ae o 2<mt.length by omega);have g3:=hI.gn (show ae o 3<mt.length by omega);have k2:gn mt (ae o 1)=o:=by have:=(hI.gn ho).2.2.2;rwa [h.k1]at this
 obtain⟨u,hu⟩:∃u,gn mt (ae o 2)=u:=⟨_,rfl⟩
 obtain⟨v,hv⟩:∃v,gn mt (ae o 3)=v:=⟨_,rfl⟩
 have htab:=h.tab;have Vh:=h.ne;rw[hu,hv]at htab;rw[hu]at g2 Vh;rw[hv]at g3;have n12:=aB (h:=o) (i:=1) (j:=2) oQ oQ oQ;have n13:=aB (h:=o) (i:=1) (j:=3) oQ oQ oQ;have n23:=aB (h:=o) (i:=2) (j:=3) oQ oQ oQ;have n2:=an (h:=o) (j:=2) oQ oQ;have n3:=an (h:=o) (j:=3) oQ oQ;have hu4:u/4≠o/4:=fun e=>by
  rcases aw e with e|e|e|e
  {rw[e,h.k1]at g2;exact n12 g2.2.2.2};{rw[e,k2]at g2;exact n2 g2.2.2.2.symm};{exact g2.2.2.1 e};{exact Vh e}
 have hv4:v/4≠o/4:=fun e=>by
  rcases aw e with e|e|e|e
  {rw[e,h.k1]at g3;exact n13 g3.2.2.2};{rw[e,k2]at g3;exact n3 g3.2.2.2.symm};{rw[e,hu]at g3;exact Vh g3.2.2.2};{exact g3.2.2.1 e}
 have huv:u≠v:=fun e=>n23 (dZ hI oZ oZ (by rw[hu,hv,e]))
 have oth:∀z,z<mt.length->z/4≠o/4->z≠u->z≠v->gn mt z/4≠o/4:=fun z hz hz4 e1 e2 e=>by
  have WE:=hI.gn hz;rcases aw e with e|e|e|e
  {rw[e,h.k1]at WE;have:=WE.2.2.2;omega};{rw[e,k2]at WE;have:=WE.2.2.2;omega};{rw[e,hu]at WE;exact e1 WE.2.2.2.symm};{rw[e,hv]at WE;exact e2 WE.2.2.2.symm}
 have jf:∀z,z<mt.length->z/4≠o/4->fe (gn mt) u v z<mt.length/\fe (gn mt) u v z/4≠o/4:=fun z hz hz4=>by unfold fe;by_cases e1:z=u;{rw[Re e1];exact⟨g3.2.1,hv4⟩};{by_cases e2:z=v;{rw[Rc e1,Re e2];exact⟨g2.2.1,hu4⟩};{rw[Rc e1,Rc e2];exact⟨(hI.gn hz).2.1,oth z hz hz4 e1 e2⟩}}
 obtain⟨a1,a2,a3⟩:=fJ hd hK (x:=ae o 2) oZ;obtain⟨b1,b2,b3⟩:=fJ hd hK (x:=ae o 3) oZ;rw[hu]at a1 a3;rw[hv]at b1 b3;obtain⟨q1,q2,q3⟩:=iq (c:=o/4) (fun y hy=>hK.alt y (by rw[hy];exact Rm.2 hg)) (x:=o) rfl;rw[q2]at a1 a3;rw[q3]at b1 b3;have key:=JU (n:=sg.length) (K:=K) (m:=fe (gn mt) u v) (m':=gn mt') (s:=gi sg) (s':=gi sg') hg (fun z h1 h2=>hK.alt z (Rm.2 h1)) (fun z h1 h2=>by
  unfold fe;by_cases e1:z=u;{rw[Re e1,e1,a1,b3]}
  ·by_cases e2:z=v
   {rw[Rc e1,Re e2,e2,b1,a3,Sv]}
   ·rw[Rc e1,Rc e2];exact hK.cF z (Rm.2 h1)) (fun z h1 h2=>⟨htab z oZ h2,by have:=(jf z oZ h2).1;omega,(jf z oZ h2).2⟩) h.so
 have YA:sg.length-1=sg'.length:=by have:=h.ls;omega
 rw[YA]at key;refine⟨_,key.1,fun n Yo=>key.2 n ?_⟩;have VM:=(ue hg).1;have big:fH (o/4::(List.range sg.length).filter fun c=>decide (c≠o/4)) K (gn mt) (gi sg) n:=fH.perm VM Yo;refine fH.back (fun n hn=>?_) big;have Vm:∀c,c∈(List.range sg.length).filter (fun c=>decide (c≠o/4))↔c<sg.length/\c≠o/4:=fun c=>by rw[R3,Rm];simp
 exact CQ (m':=fe (gn mt) u v) (fun h=>((Vm _).1 h).2 rfl) ⟨fun z hz=>hK.alt z (VM.mem_iff.2 hz),fun z hz=>hK.cF z (VM.mem_iff.2 hz)⟩ rfl h.k1 k2 hu hv ((Vm _).2 ⟨by have:=g2.2.1;omega,hu4⟩) ((Vm _).2 ⟨by have:=g3.2.1;omega,hv4⟩) g2.2.2.2 g3.2.2.2 (by unfold fe;rw[Re rfl]) (by unfold fe;rw[Rc huv.symm,Re rfl]) (fun z hz e1 e2=>by
  have XZ:=(Vm _).1 hz;exact⟨by unfold fe;rw[Rc e1,Rc e2],oth z oZ XZ.2 e1 e2⟩) h.sn hn
end Go.Proofs.YtdbhigmklejicaaGreat
