/- Lemmas, each under its own premises. -/
import Derived.Test.YtdbhigmklejicaaGreatZ10
import Derived.Maps.OwnOps
import Derived.Maps.RangeWalk
import Derived.Maps.Views
namespace Go.Proofs.YtdbhigmklejicaaGreat
set_option maxHeartbeats 16000000
set_option maxRecDepth 100000
section
variable{sg sg' mt mt':List Int}{p q X Y:Nat}{L:Int}(hd:cJ sg mt L)(h:EF sg sg' mt mt' p q X Y)
include hd h
theorem EF.Mj(ho:wE sg' mt'):cP mt':=fun z hz=>by obtain⟨a,b⟩:=h.inv hd (z:=z) (by rw[<-h.lm'];exact hz);have e:=h.rg z hz;have hl:=h.lm';refine⟨oZ,oZ,fun e2=>?_,?_⟩;{have:gn mt' z=z:=oZ;have h2:=ho z hz;rw[this]at h2;exact h2 rfl};{rw[h.rg _ oZ,a]}
theorem EF.cn(YU:∀c d,c<sg.length->d<sg.length->Cn mt c d)(ho:wE sg' mt'):∀c,c<sg.length+2->Cn mt' 0 c:=by
 have VX:=h.Mj hd ho;have hI:=hd.2.2.2.2.2.1;have hl:=hd.2.1;have YJ:=h.lm';have hX:=h.hX;have hY:=h.hY;have WX:=hI.gn hX;have hgY:=hI.gn hY;have ed:∀z,z<mt'.length->Cn mt' (z/4) (gn mt' z/4):=fun z hz=>Cn.one hz
 have rps:ae p 3/4=sg.length:=(af p 3).trans h.hp;have rpw:ae p 2/4=sg.length:=(af p 2).trans h.hp;have rqs:ae q 3/4=sg.length+1:=(af q 3).trans h.hq;have rqw:ae q 2/4=sg.length+1:=(af q 2).trans h.hq;have xp:Cn mt' (X/4) sg.length:=by have:=ed X oZ;rwa [h.tX,rps]at this
 have mq:Cn mt' (gn mt X/4) (sg.length+1):=by have:=ed (gn mt X) oZ;rwa [h.tMX,rqs]at this
 have pq:Cn mt' sg.length (sg.length+1):=by have hp:=h.hp;have:=ed p oZ;rwa [h.ew,rqw,hp]at this
 have yq:Cn mt' (Y/4) (sg.length+1):=by have hq:=h.hq;have:=ed Y oZ;rwa [h.tY,hq]at this
 have np:Cn mt' (gn mt Y/4) sg.length:=by have:=ed (gn mt Y) oZ;rwa [h.tMY,rpw]at this
 have old:∀c d,Cn mt c d->c<sg.length->Cn mt' c d:=fun c d YR=>by
  induction YR with
  |refl=>intro _;exact .refl
  |@step d z YR hz he ih=>
   intro hc;have i:=ih hc;have key:Cn mt' (z/4) (gn mt z/4):=by by_cases eX:z=X;{subst eX;exact xp.trans (pq.trans (mq.symm VX))};{by_cases eM:z=gn mt X;{subst eM;rw[WX.2.2.2];exact mq.trans ((pq.symm VX).trans (xp.symm VX))};{by_cases eY:z=Y;{subst eY;exact yq.trans ((pq.symm VX).trans (np.symm VX))};{by_cases eN:z=gn mt Y;{subst eN;rw[hgY.2.2.2];exact np.trans (pq.trans (yq.symm VX))};{have:=ed z oZ;rwa [h.old z hz eX eM eY eN]at this}}}}
   rw[he]at key;exact i.trans key
 intro c hc;by_cases e1:c<sg.length;{exact old 0 c (YU 0 c oZ e1) oZ};{have h0:=old 0 (X/4) (YU 0 (X/4) oZ oZ) oZ;by_cases e2:c=sg.length;{subst e2;exact h0.trans xp};{obtain rfl:c=sg.length+1:=oZ;exact h0.trans (xp.trans pq)}}
theorem EF.OH(h1:av mt sg.length sg.length=1)(hf:Y∈bJ (au mt) mt.length X)(ho:wE sg' mt'):sg.length+4<=cW (a_ (au mt') mt'.length) mt'.length:=by
 have hI:=hd.2.2.2.2.2.1;have VX:=h.Mj hd ho;have hl:=hd.2.1;have YJ:=h.lm';have hF:=dE hd;have hF':=aU VX YJ;have hX:=h.hX;have hY:=h.hY;have WX:=hI.gn hX;have hgY:=hI.gn hY;obtain⟨Y8,hperN,hperE,hperM⟩:=bz hF hX;obtain⟨P,hP⟩:∃P,eC (au mt) mt.length X=P:=⟨_,rfl⟩
 rw[hP]at Y8 hperN hperE hperM;obtain⟨k0,Yg⟩:=(aG hF hX).1 hf;obtain⟨m,VL,Wb,hm3⟩:∃m,0<m/\m<P/\it (au mt) m X=Y:=by
  refine⟨k0%P,?_,RY _ Y8,?_⟩
  ·rcases Se (k0%P)with e|e
   {have:=jv hF hX k0;rw[hP,e,Yg]at this;exact absurd this.symm h.hXY};{exact e}
  {have:=jv hF hX k0;rw[hP,Yg]at this;exact this.symm}
 have inj:∀i j,i<P->j<P->it (au mt) i X=it (au mt) j X->i=j:=fun i j hi hj e=>by
  rcases SK i j with Vg|he|Vg
  ·have e2:it (au mt) j X=it (au mt) i (it (au mt) (j-i) X):=by rw[<-fO];congr 1;omega
   rw[e2]at e;exact absurd (hF.ki i hX (hF.bL _ hX) e).symm (hperM (j-i) oZ oZ)
  {exact he}
  ·have e2:it (au mt) i X=it (au mt) j (it (au mt) (i-j) X):=by rw[<-fO];congr 1;omega
   rw[e2]at e;exact absurd (hF.ki j hX (hF.bL _ hX) e.symm).symm (hperM (i-j) oZ oZ)
 have side:∀z,∃b:Nat,z<mt.length->(z∉bJ (au mt) mt.length X->b=fu (au mt) mt.length z)/\∀i,i<P->it (au mt) i X=z->b=if 0<i/\i<=m then mt.length+1 else mt.length:=fun z=>by by_cases hz:z∈bJ (au mt) mt.length X;{obtain⟨k,hk⟩:=(aG hF hX).1 hz;refine⟨if 0<k%P/\k%P<=m then mt.length+1 else mt.length,fun _=>⟨fun hn=>absurd hz hn,fun i hi e=>?_⟩⟩;have e2:=jv hF hX k;rw[hP,hk]at e2;have:i=k%P:=inj i _ hi (RY _ Y8) (e.trans e2);rw[this]};{exact⟨fu (au mt) mt.length z,fun _=>⟨fun _=>rfl,fun i _ e=>absurd ((aG hF hX).2 ⟨i,e⟩) hz⟩⟩}
 obtain⟨Wh,WN⟩:=Sp side;have lamX:Wh X=mt.length:=by rw[(WN X hX).2 0 Y8 rfl,Rc oZ]
 have lamY:Wh Y=mt.length+1:=by rw[(WN Y hY).2 m Wb hm3,Re ⟨VL,Rf _⟩]
 have lamFX:Wh (au mt X)=mt.length+1:=by rw[(WN _ (hF.1 X hX)).2 1 oZ rfl,Re ⟨oZ,oZ⟩]
 have lamFY:Wh (au mt Y)=mt.length:=by
  by_cases e:m+1=P
  ·have:au mt Y=X:=by rw[<-hm3];show it (au mt) (m+1) X=X;rw[e,hperE]
   rw[this,lamX]
  {rw[(WN _ (hF.1 Y hY)).2 (m+1) oZ (by show au mt (it (au mt) m X)=_;rw[hm3]),Rc oZ]}
 have lamF:∀z,z<mt.length->z≠X->z≠Y->Wh (au mt z)=Wh z:=fun z hz n1 n2=>by
  by_cases hzf:z∈bJ (au mt) mt.length X
  ·obtain⟨k,hk⟩:=(aG hF hX).1 hzf
   have e2:=jv hF hX k;rw[hP,hk]at e2;obtain⟨i,hi⟩:∃i,k%P=i:=⟨_,rfl⟩
   rw[hi]at e2;have hiP:i<P:=by rw[<-hi];exact RY _ Y8
   have hi0:i≠0:=fun e=>n1 (by rw[e2,e];rfl)
   have him:i≠m:=fun e=>n2 (by rw[e2,e,hm3])
   rw[(WN z hz).2 i hiP e2.symm];by_cases e:i+1=P
   ·have:au mt z=X:=by rw[e2];show it (au mt) (i+1) X=X;rw[e,hperE]
    rw[this,lamX,Rc oZ]
   {rw[(WN _ (hF.1 z hz)).2 (i+1) oZ (by show au mt (it (au mt) i X)=_;rw[<-e2])];by_cases c:0<i/\i<=m;{rw[Re c,Re oZ]};{rw[Rc c,Rc oZ]}}
  ·have hn:au mt z∉bJ (au mt) mt.length X:=fun hc=>hzf (aM hF hX hc (aL hF hz (bU hF hz (bE hF hz))))
   rw[(WN z hz).1 hzf,(WN _ (hF.1 z hz)).1 hn];exact iE hF hz (bU hF hz (bE hF hz))
 let lam:Nat->Nat:=fun z=>if z<mt.length then Wh z else if z=ae p 2 then mt.length else if z=ae q 3 then mt.length+1 else if z=p\/z=ae q 1 then mt.length+2 else if z=ae p 1\/z=q then Wh (gn mt Y)else Wh (gn mt X)
 have hp:=h.hp;have hq:=h.hq;have d1:=af p 1;have d2:=af p 2;have d3:=af p 3;have e1:=af q 1;have e2:=af q 2;have e3:=af q 3;have np1:=an (h:=p) (j:=1) oQ oQ;have np2:=an (h:=p) (j:=2) oQ oQ;have np3:=an (h:=p) (j:=3) oQ oQ;have np12:=aB (h:=p) (i:=1) (j:=2) oQ oQ oQ;have np13:=aB (h:=p) (i:=1) (j:=3) oQ oQ oQ;have np23:=aB (h:=p) (i:=2) (j:=3) oQ oQ oQ;have nq1:=an (h:=q) (j:=1) oQ oQ;have nq2:=an (h:=q) (j:=2) oQ oQ;have nq3:=an (h:=q) (j:=3) oQ oQ;have nq12:=aB (h:=q) (i:=1) (j:=2) oQ oQ oQ;have nq13:=aB (h:=q) (i:=1) (j:=3) oQ oQ oQ;have nq23:=aB (h:=q) (i:=2) (j:=3) oQ oQ oQ;have lo:∀z,z<mt.length->lam z=Wh z:=fun z hz=>Re hz
 have lpw:lam (ae p 2)=mt.length:=by show(if _ then _ else _)=_;rw[Rc oZ,Re rfl]
 have lqs:lam (ae q 3)=mt.length+1:=by show(if _ then _ else if _ then _ else if _ then _ else _)=_;rw[Rc oZ,Rc oZ,Re rfl]
 have lpe:lam p=mt.length+2:=by show(if _ then _ else if _ then _ else if _ then _ else if _ then _ else _)=_;rw[Rc oZ,Rc oZ,Rc oZ,Re (.inl rfl)]
 have lqn:lam (ae q 1)=mt.length+2:=by show(if _ then _ else if _ then _ else if _ then _ else if _ then _ else _)=_;rw[Rc oZ,Rc oZ,Rc oZ,Re (.inr rfl)]
 have lpn:lam (ae p 1)=Wh (gn mt Y):=by show(if _ then _ else if _ then _ else if _ then _ else if _ then _ else if _ then _ else _)=_;rw[Rc oZ,Rc oZ,Rc oZ,Rc oZ,Re (.inl rfl)]
 have lqe:lam q=Wh (gn mt Y):=by show(if _ then _ else if _ then _ else if _ then _ else if _ then _ else if _ then _ else _)=_;rw[Rc oZ,Rc oZ,Rc oZ,Rc oZ,Re (.inr rfl)]
 have lps:lam (ae p 3)=Wh (gn mt X):=by show(if _ then _ else if _ then _ else if _ then _ else if _ then _ else if _ then _ else _)=_;rw[Rc oZ,Rc oZ,Rc oZ,Rc oZ,Rc oZ]
 have lqw:lam (ae q 2)=Wh (gn mt X):=by show(if _ then _ else if _ then _ else if _ then _ else if _ then _ else if _ then _ else _)=_;rw[Rc oZ,Rc oZ,Rc oZ,Rc oZ,Rc oZ]
 have o3:∀z,z<mt.length->ae z 3<mt.length:=fun z hz=>by have:=af z 3;omega
 have sX:gn mt X∉bJ (au mt) mt.length X:=vn hd hX;have sY:gn mt Y∉bJ (au mt) mt.length X:=fun hc=>vn hd hY (aM hF hY (aL hF hX hf) hc)
 have nX:gn mt X≠X:=WX.2.2.1;have nMXY:=h.hMY;have nMYX:gn mt Y≠X:=fun e=>nMXY (by rw[<-e,hgY.2.2.2])
 have lamMX:Wh (ae X 3)=Wh (gn mt X):=by have:=lamF (gn mt X) WX.2.1 nX nMXY;unfold au at this;rwa [WX.2.2.2]at this
 have lamMY:Wh (ae Y 3)=Wh (gn mt Y):=by have:=lamF (gn mt Y) hgY.2.1 nMYX hgY.2.2.1;unfold au at this;rwa [hgY.2.2.2]at this
 have inv:∀z,z<mt'.length->lam (au mt' z)=lam z:=fun z hz=>by
  show lam (ae (gn mt' z) 3)=lam z;by_cases c1:z/4=sg.length
  ·rcases aw (c1.trans h.hp.symm)with rfl|rfl|rfl|rfl
   {rw[h.ew,(tt _).2.1,lqn,lpe]};{rw[h.nn,(tt _).1,lqe,lpn]};{rw[h.uMY,lo _ (o3 _ hgY.2.1),lpw];exact lamFY};{rw[h.uX,lo _ (o3 _ hX),lps];exact lamMX}
  ·by_cases c2:z/4=sg.length+1
   ·rcases aw (c2.trans h.hq.symm)with rfl|rfl|rfl|rfl
    {rw[h.uY,lo _ (o3 _ hY),lqe];exact lamMY};{rw[h.nn',(tt _).1,lpe,lqn]};{rw[h.ew',lps,lqw]};{rw[h.uMX,lo _ (o3 _ WX.2.1),lqs];exact lamFX}
   {have VR:z<mt.length:=oZ;rw[lo z VR];by_cases eX:z=X;{rw[eX,h.tX,(tt _).2.2.1,lpw,lamX]};{by_cases eM:z=gn mt X;{rw[eM,h.tMX,(tt _).2.2.1,lqw]};{by_cases eY:z=Y;{rw[eY,h.tY,lqs,lamY]};{by_cases eN:z=gn mt Y;{rw[eN,h.tMY,(tt _).2.1,lpn]};{rw[h.old z VR eX eM eY eN,lo _ (o3 _ (hI.gn VR).2.1)];exact lamF z VR eX eY}}}}}
 have he:=jJ hd;rw[h1]at he;have Yf:=zO hF' lam inv (A:=fun x=>decide (x=mt.length\/x=mt.length+1)||(decide (x<mt.length)&&a_ (au mt) mt.length x)) (M:=mt.length+2) (fun x=>if x=mt.length then Y else if x=mt.length+1 then p else if x∈bJ (au mt) mt.length X then X else x) (fun x hx ax=>by
   by_cases c1:x=mt.length;{rw[Re c1];omega}
   ·rw[Rc c1]
    by_cases c2:x=mt.length+1;{rw[Re c2];omega}
    ·rw[Rc c2];split<;>omega) (fun x y hx hy ax ay e=>by
   have val:∀x,x<mt.length+2->(decide (x=mt.length\/x=mt.length+1)||(decide (x<mt.length)&&a_ (au mt) mt.length x))=true->lam (if x=mt.length then Y else if x=mt.length+1 then p else if x∈bJ (au mt) mt.length X then X else x)=if x=mt.length then mt.length+1 else if x=mt.length+1 then mt.length+2 else if x∈bJ (au mt) mt.length X then mt.length else x:=fun x hx ax=>by
    by_cases c1:x=mt.length;{rw[Re c1,Re c1,lo Y hY,lamY]}
    ·by_cases c2:x=mt.length+1
     {rw[Rc c1,Re c2,Rc c1,Re c2,lpe]}
     ·have hx':x<mt.length:=oZ
      have X_:a_ (au mt) mt.length x=true:=by rw[Rl (show¬(x=mt.length\/x=mt.length+1) by omega),Bool.false_or,RA]at ax;exact ax.2
      by_cases c3:x∈bJ (au mt) mt.length X;{rw[Rc c1,Rc c2,Re c3,Rc c1,Rc c2,Re c3,lo X hX,lamX]};{rw[Rc c1,Rc c2,Rc c3,Rc c1,Rc c2,Rc c3,lo x hx',(WN x hx').1 c3,iQ hF hx' X_]}
   rw[val x hx ax,val y hy ay]at e;have lb:∀x,x<mt.length+2->x≠mt.length->x≠mt.length+1->(decide (x=mt.length\/x=mt.length+1)||(decide (x<mt.length)&&a_ (au mt) mt.length x))=true->x<mt.length/\a_ (au mt) mt.length x=true:=fun x hx c1 c2 ax=>by rw[Rl (show¬(x=mt.length\/x=mt.length+1) by omega),Bool.false_or,RA]at ax;exact⟨oZ,ax.2⟩
   by_cases c1:x=mt.length;{rw[Re c1]at e;by_cases k1:y=mt.length;{omega};{rw[Rc k1]at e;by_cases k2:y=mt.length+1;{rw[Re k2]at e;omega};{rw[Rc k2]at e;split at e<;>omega}}}
   ·rw[Rc c1]at e
    by_cases c2:x=mt.length+1;{rw[Re c2]at e;by_cases k1:y=mt.length;{rw[Re k1]at e;omega};{rw[Rc k1]at e;by_cases k2:y=mt.length+1;{omega};{rw[Rc k2]at e;split at e<;>omega}}}
    ·rw[Rc c2]at e
     obtain⟨xl,xb⟩:=lb x hx c1 c2 ax;by_cases k1:y=mt.length;{rw[Re k1]at e;split at e<;>omega}
     ·rw[Rc k1]at e
      by_cases k2:y=mt.length+1;{rw[Re k2]at e;split at e<;>omega}
      ·rw[Rc k2]at e
       obtain⟨yl,yb⟩:=lb y hy k1 k2 ay;by_cases c3:x∈bJ (au mt) mt.length X;{by_cases k3:y∈bJ (au mt) mt.length X;{have hm:=aM hF xl (aL hF hX c3) k3;exact T_ (dG.1 xb _ hm) (dG.1 yb _ (aL hF xl hm))};{rw[Re c3,Rc k3]at e;omega}}
       ·by_cases k3:y∈bJ (au mt) mt.length X
        {rw[Rc c3,Re k3]at e;omega}
        ·rw[Rc c3,Rc k3]at e;exact e)
 have hcnt:cW (fun x=>decide (x=mt.length\/x=mt.length+1)||(decide (x<mt.length)&&a_ (au mt) mt.length x)) (mt.length+2)=cW (a_ (au mt) mt.length) mt.length+2:=by rw[aT,aT,Re oX,Re oX,aS (m:=mt.length) (Q:=a_ (au mt) mt.length) fun x hx=>by rw[Rl (show¬(x=mt.length\/x=mt.length+1) by omega),Rj hx];simp]
 rw[hcnt,he]at Yf;omega
theorem EF.QI(h1:av mt sg.length sg.length=1)(hf:Y∈bJ (au mt) mt.length X)(hn:sg.length+2<=64)(ho:wE sg' mt')(hs:EN sg'):cJ sg' mt' L/\av mt' sg'.length sg'.length=1:=by have VX:=h.Mj hd ho;have V_:av mt' (sg.length+2) (sg.length+2)=1:=vU VX h.lm' oZ (h.cn hd (w_ hd.2.2.2.2.2.1 hd.2.1 h1) ho);have hle:=Ic VX h.lm' V_;have Yf:=h.OH hd h1 hf ho;have hsph:=xd VX h.lm' V_ oZ;rw[h.ls];exact⟨⟨by rw[h.ls];exact hn,by rw[h.ls];exact h.lm',hd.2.2.1,hd.2.2.2.1,hs,VX,ho,by rw[h.ls];exact hsph⟩,V_⟩
end
def pd(xs:List Int):Prop:=∀k,gi xs k=(gn xs k:Int)
theorem pd.jn{xs:List Int}(h:pd xs){a b:Nat}(ha:a<xs.length)(hb:b<xs.length):pd (bH xs a b):=by intro k;rw[bO ha hb,pP ha hb];split;{rfl};{split;{rfl};{exact h k}}
theorem pd.start{mt:List Int}(hI:cP mt)(n:Nat):pd (mt++List.replicate n 0):=by
 intro k;by_cases h:k<mt.length;{rw[sJ h,cX h];exact(hI.gn h).1}
 ·obtain⟨j,rfl⟩:∃j,k=mt.length+j:=⟨k-mt.length,oZ⟩
  unfold gn;rw[gF];by_cases e:j<n;{rw[ir e];rfl}
  ·have:gi (List.replicate n (0:Int)) j=0:=by unfold gi;rw[Rw,List.getElem?_eq_none qj];rfl
   rw[this];rfl
theorem aQ{c f s:Nat}(hf:f<=3)(hs:s<=3):ao c f s=ae (ao c f 0) s:=by unfold ao ae;omega
theorem sc(c f s:Nat):ao c f s/4=c:=by unfold ao;omega
structure Ap(n p q:Nat):Prop where
 p0:p/4=n
 p1:ae p 1/4=n
 p2:ae p 2/4=n
 p3:ae p 3/4=n
 q0:q/4=n+1
 q1:ae q 1/4=n+1
 q2:ae q 2/4=n+1
 q3:ae q 3/4=n+1
 a1:ae p 1≠p
 a2:ae p 2≠p
 a3:ae p 3≠p
 a4:ae p 1≠ae p 2
 a5:ae p 1≠ae p 3
 a6:ae p 2≠ae p 3
 b1:ae q 1≠q
 b2:ae q 2≠q
 b3:ae q 3≠q
 b4:ae q 1≠ae q 2
 b5:ae q 1≠ae q 3
 b6:ae q 2≠ae q 3
theorem Ap.mk'{n p q:Nat}(hp:p/4=n)(hq:q/4=n+1):Ap n p q:=by refine⟨hp,?_,?_,?_,hq,?_,?_,?_,an oQ oQ,an oQ oQ,an oQ oQ,aB oQ oQ oQ,aB oQ oQ oQ,aB oQ oQ oQ,an oQ oQ,an oQ oQ,an oQ oQ,aB oQ oQ oQ,aB oQ oQ oQ,aB oQ oQ oQ⟩<;>rw[af]<;>assumption
section
variable{sg mt:List Int}{L:Int}(hd:cJ sg mt L){p q:Nat}(A:Ap sg.length p q)
include hd A
abbrev jQ(mt:List Int)(p q:Nat):List Int:=bH (bH (mt++List.replicate 8 0) (ae p 1) (ae q 1)) (ae q 2) p
omit hd A in
theorem tF(mt:List Int)(p q:Nat):(jQ mt p q).length=mt.length+8:=by unfold jQ;simp[al]
theorem AT{mt':List Int}{s0 s1:Int}(hs:(s0=1/\s1= -1)\/(s0= -1/\s1=1))(Y3:p%2=q%2)(hl:mt'.length=mt.length+8)(nn:pd mt')(h1:gn mt' (ae p 1)=ae q 1)(h2:gn mt' (ae q 1)=ae p 1)(h3:gn mt' p=ae q 2)(h4:gn mt' (ae q 2)=p):Pk sg (sg++[s0,s1]) mt mt' p q:=by
 have h2':mt.length=4*sg.length:=hd.2.1;refine⟨oX,h2',oZ,A.p0,A.q0,Y3,h1,h2,h3,h4,fun h _=>nn h,fun c hc=>cX hc,?_⟩;have e0:gi (sg++[s0,s1]) sg.length=s0:=by have:=gF (xs:=sg) (ys:=[s0,s1]) 0;exact this
 have e1:gi (sg++[s0,s1]) (sg.length+1)=s1:=gF (xs:=sg) (ys:=[s0,s1]) 1;rw[e0,e1];exact hs
theorem Nv{s0 s1:Int}(hs:(s0=1/\s1= -1)\/(s0= -1/\s1=1))(Y3:p%2=q%2){x y:Nat}(hx:x<mt.length)(hy:y<mt.length)(Vw:x≠y)(hmy:gn mt x≠y):
  EF sg (sg++[s0,s1]) mt (bH (bH (bH (bH (jQ mt p q) y q) (ae p 2) (gn mt y)) (x) (ae p 3)) (ae q 3) (gn mt x)) p q x y:=by
 have h2:mt.length=4*sg.length:=hd.2.1;have hI:=hd.2.2.2.2.2.1;obtain⟨-,x1,x2,x3⟩:=hI.gn hx;obtain⟨-,y1,y2,y3⟩:=hI.gn hy;have hxy':gn mt x≠gn mt y:=fun e=>Vw (dZ hI hx hy e)
 have hmy':gn mt y≠x:=fun e=>hmy (by rw[<-e,y3])
 have AA:=A;obtain⟨p0,p1,p2,p3,q0,q1,q2,q3,a1,a2,a3,a4,a5,a6,b1,b2,b3,b4,b5,b6⟩:=A;have hl:=tF mt p q;have We:(mt++List.replicate 8 0).length=mt.length+8:=oX;have e1:∀k,gn (bH (bH (bH (bH (jQ mt p q) y q) (ae p 2) (gn mt y)) (x) (ae p 3)) (ae q 3) (gn mt x)) k=if k=gn mt x then ae q 3 else if k=ae q 3 then gn mt x else if k=ae p 3 then x else if k=x then ae p 3 else if k=gn mt y then ae p 2 else if k=ae p 2 then gn mt y else if k=q then y else if k=y then q else if k=p then ae q 2 else if k=ae q 2 then p else if k=ae q 1 then ae p 1 else if k=ae p 1 then ae q 1 else gn (mt++List.replicate 8 0) k:=by intro k;rw[bO (by simp only[al,hl];omega) (by simp only[al,hl];omega),bO (by simp only[al,hl];omega) (by simp only[al,hl];omega),bO (by simp only[al,hl];omega) (by simp only[al,hl];omega),bO (by simp only[hl];omega) (by simp only[hl];omega),bO (by simp only[al,We];omega) (by simp only[al,We];omega),bO (by simp only[We];omega) (by simp only[We];omega)]
 have nn:pd (bH (bH (bH (bH (jQ mt p q) y q) (ae p 2) (gn mt y)) (x) (ae p 3)) (ae q 3) (gn mt x)):=by refine pd.jn (pd.jn (pd.jn (pd.jn (pd.jn (pd.jn (pd.start hI 8) ?_ ?_) ?_ ?_) ?_ ?_) ?_ ?_) ?_ ?_) ?_ ?_<;>(simp only[al,We];omega)
 have hL:(bH (bH (bH (bH (jQ mt p q) y q) (ae p 2) (gn mt y)) (x) (ae p 3)) (ae q 3) (gn mt x)).length=mt.length+8:=by simp[al]
 generalize bH (bH (bH (bH (jQ mt p q) y q) (ae p 2) (gn mt y)) (x) (ae p 3)) (ae q 3) (gn mt x)=M at*;have fin:∀{a b k:Nat},(if k=k then b else a)=b:=fun{a b k}=>Re rfl
 have dn:∀{a b c k z:Nat},k≠z->a=c->(if k=z then b else a)=c:=fun h e=>by rw[Rc h,e]
 refine⟨AT hd AA hs Y3 hL nn ?_ ?_ ?_ ?_,hx,hy,Vw,hmy,?_,?_,?_,?_,?_,?_,?_,?_,?old⟩
 case old=>intro h hh n1 n2 n3 n4;rw[e1,<-sJ (ys:=List.replicate 8 0) hh];(repeat ((with_reducible refine dn ?_ ?_);(focus (first|with_reducible assumption|(symm;with_reducible assumption)|(clear a1 a2 a3 a4 a5 a6 b1 b2 b3 b4 b5 b6 e1 nn;omega)))));rfl
 all_goals
  rw[e1];(repeat (first|(with_reducible exact fin)|((with_reducible refine dn ?_ ?_);(focus (first|with_reducible assumption|(symm;with_reducible assumption)|(clear a1 a2 a3 a4 a5 a6 b1 b2 b3 b4 b5 b6 e1 nn;omega))))))
theorem Mg{s0 s1:Int}(hs:(s0=1/\s1= -1)\/(s0= -1/\s1=1))(Y3:p%2=q%2){x:Nat}(hx:x<mt.length):
  KN sg (sg++[s0,s1]) mt (bH (bH (bH (jQ mt p q) (x) (ae p 3)) (ae q 3) (q)) (ae p 2) (gn mt x)) p q x:=by
 have h2:mt.length=4*sg.length:=hd.2.1;have hI:=hd.2.2.2.2.2.1;obtain⟨-,x1,x2,x3⟩:=hI.gn hx;have AA:=A;obtain⟨p0,p1,p2,p3,q0,q1,q2,q3,a1,a2,a3,a4,a5,a6,b1,b2,b3,b4,b5,b6⟩:=A;have hl:=tF mt p q;have We:(mt++List.replicate 8 0).length=mt.length+8:=oX;have e1:∀k,gn (bH (bH (bH (jQ mt p q) (x) (ae p 3)) (ae q 3) (q)) (ae p 2) (gn mt x)) k=if k=gn mt x then ae p 2 else if k=ae p 2 then gn mt x else if k=q then ae q 3 else if k=ae q 3 then q else if k=ae p 3 then x else if k=x then ae p 3 else if k=p then ae q 2 else if k=ae q 2 then p else if k=ae q 1 then ae p 1 else if k=ae p 1 then ae q 1 else gn (mt++List.replicate 8 0) k:=by intro k;rw[bO (by simp only[al,hl];omega) (by simp only[al,hl];omega),bO (by simp only[al,hl];omega) (by simp only[al,hl];omega),bO (by simp only[hl];omega) (by simp only[hl];omega),bO (by simp only[al,We];omega) (by simp only[al,We];omega),bO (by simp only[We];omega) (by simp only[We];omega)]
 have nn:pd (bH (bH (bH (jQ mt p q) (x) (ae p 3)) (ae q 3) (q)) (ae p 2) (gn mt x)):=by refine pd.jn (pd.jn (pd.jn (pd.jn (pd.jn (pd.start hI 8) ?_ ?_) ?_ ?_) ?_ ?_) ?_ ?_) ?_ ?_<;>(simp only[al,We];omega)
 have hL:(bH (bH (bH (jQ mt p q) (x) (ae p 3)) (ae q 3) (q)) (ae p 2) (gn mt x)).length=mt.length+8:=by simp[al]
 generalize bH (bH (bH (jQ mt p q) (x) (ae p 3)) (ae q 3) (q)) (ae p 2) (gn mt x)=M at*;have fin:∀{a b k:Nat},(if k=k then b else a)=b:=fun{a b k}=>Re rfl
 have dn:∀{a b c k z:Nat},k≠z->a=c->(if k=z then b else a)=c:=fun h e=>by rw[Rc h,e]
 refine⟨AT hd AA hs Y3 hL nn ?_ ?_ ?_ ?_,hx,?_,?_,?_,?_,?_,?_,?old⟩
 case old=>intro h hh n1 n2;rw[e1,<-sJ (ys:=List.replicate 8 0) hh];(repeat ((with_reducible refine dn ?_ ?_);(focus (first|with_reducible assumption|(symm;with_reducible assumption)|(clear a1 a2 a3 a4 a5 a6 b1 b2 b3 b4 b5 b6 e1 nn;omega)))));rfl
 all_goals
  rw[e1];(repeat (first|(with_reducible exact fin)|((with_reducible refine dn ?_ ?_);(focus (first|with_reducible assumption|(symm;with_reducible assumption)|(clear a1 a2 a3 a4 a5 a6 b1 b2 b3 b4 b5 b6 e1 nn;omega))))))
theorem MG{s0 s1:Int}(hs:(s0=1/\s1= -1)\/(s0= -1/\s1=1))(Y3:p%2=q%2){x:Nat}(hx:x<mt.length):
  Ll sg (sg++[s0,s1]) mt (bH (bH (bH (jQ mt p q) x q) (ae p 2) (ae p 3)) (ae q 3) (gn mt x)) p q x:=by
 have h2:mt.length=4*sg.length:=hd.2.1;have hI:=hd.2.2.2.2.2.1;obtain⟨-,x1,x2,x3⟩:=hI.gn hx;have AA:=A;obtain⟨p0,p1,p2,p3,q0,q1,q2,q3,a1,a2,a3,a4,a5,a6,b1,b2,b3,b4,b5,b6⟩:=A;have hl:=tF mt p q;have We:(mt++List.replicate 8 0).length=mt.length+8:=oX;have e1:∀k,gn (bH (bH (bH (jQ mt p q) x q) (ae p 2) (ae p 3)) (ae q 3) (gn mt x)) k=if k=gn mt x then ae q 3 else if k=ae q 3 then gn mt x else if k=ae p 3 then ae p 2 else if k=ae p 2 then ae p 3 else if k=q then x else if k=x then q else if k=p then ae q 2 else if k=ae q 2 then p else if k=ae q 1 then ae p 1 else if k=ae p 1 then ae q 1 else gn (mt++List.replicate 8 0) k:=by intro k;rw[bO (by simp only[al,hl];omega) (by simp only[al,hl];omega),bO (by simp only[al,hl];omega) (by simp only[al,hl];omega),bO (by simp only[hl];omega) (by simp only[hl];omega),bO (by simp only[al,We];omega) (by simp only[al,We];omega),bO (by simp only[We];omega) (by simp only[We];omega)]
 have nn:pd (bH (bH (bH (jQ mt p q) x q) (ae p 2) (ae p 3)) (ae q 3) (gn mt x)):=by refine pd.jn (pd.jn (pd.jn (pd.jn (pd.jn (pd.start hI 8) ?_ ?_) ?_ ?_) ?_ ?_) ?_ ?_) ?_ ?_<;>(simp only[al,We];omega)
 have hL:(bH (bH (bH (jQ mt p q) x q) (ae p 2) (ae p 3)) (ae q 3) (gn mt x)).length=mt.length+8:=by simp[al]
 generalize bH (bH (bH (jQ mt p q) x q) (ae p 2) (ae p 3)) (ae q 3) (gn mt x)=M at*;have fin:∀{a b k:Nat},(if k=k then b else a)=b:=fun{a b k}=>Re rfl
 have dn:∀{a b c k z:Nat},k≠z->a=c->(if k=z then b else a)=c:=fun h e=>by rw[Rc h,e]
 refine⟨AT hd AA hs Y3 hL nn ?_ ?_ ?_ ?_,hx,?_,?_,?_,?_,?_,?_,?old⟩
 case old=>intro h hh n1 n2;rw[e1,<-sJ (ys:=List.replicate 8 0) hh];(repeat ((with_reducible refine dn ?_ ?_);(focus (first|with_reducible assumption|(symm;with_reducible assumption)|(clear a1 a2 a3 a4 a5 a6 b1 b2 b3 b4 b5 b6 e1 nn;omega)))));rfl
 all_goals
  rw[e1];(repeat (first|(with_reducible exact fin)|((with_reducible refine dn ?_ ?_);(focus (first|with_reducible assumption|(symm;with_reducible assumption)|(clear a1 a2 a3 a4 a5 a6 b1 b2 b3 b4 b5 b6 e1 nn;omega))))))
end
theorem Nr(fX fY ov:Bool):kW fX fY ov%2=kV fX fY ov%2:=by cases fX<;>cases fY<;>cases ov<;>decide
theorem ot(fX fY ov:Bool):(cM (kW fX fY ov) (vV fX fY ov)=1/\cM (kV fX fY ov) (vW fX fY ov)= -1)\/(cM (kW fX fY ov) (vV fX fY ov)= -1/\cM (kV fX fY ov) (vW fX fY ov)=1):=by
 cases fX<;>cases fY<;>cases ov<;>decide
theorem sj(c f:Nat)(hf:f<=3):ao c f 0%2=f%2:=by unfold ao;omega
section
variable{sg mt:List Int}{L:Int}(hd:cJ sg mt L)(fX fY ov:Bool)
include hd
omit hd in
theorem xO:Ap sg.length (ao sg.length (kW fX fY ov) 0) (ao (sg.length+1) (kV fX fY ov) 0):=Ap.mk' (sc _ _ _) (sc _ _ _)
omit hd in
theorem wW:ao sg.length (kW fX fY ov) 0%2=ao (sg.length+1) (kV fX fY ov) 0%2:=by rw[sj _ _ (qw fX fY ov).1,sj _ _ (qw fX fY ov).2.1,Nr]
theorem GQ{x y:Nat}(hx:x<mt.length)(hy:y<mt.length)(Vw:x≠y)(hmy:gn mt x≠y):
  EF sg (sg++[cM (kW fX fY ov) (vV fX fY ov),cM (kV fX fY ov) (vW fX fY ov)]) mt (kI mt sg.length (kW fX fY ov) (kV fX fY ov) x y 0) (ao sg.length (kW fX fY ov) 0) (ao (sg.length+1) (kV fX fY ov) 0) x y:=by
 have h:=Nv hd (xO (sg:=sg) fX fY ov) (ot fX fY ov) (wW (sg:=sg) fX fY ov) hx hy Vw hmy;obtain⟨u0,u1,-,-⟩:=qw fX fY ov;unfold jQ at h;rw[<-aQ u0 (oQ:1<=3),<-aQ u1 (oQ:1<=3),<-aQ u1 (oQ:2<=3),<-aQ u0 (oQ:2<=3),<-aQ u0 (oQ:3<=3),<-aQ u1 (oQ:3<=3)]at h;unfold kI wD;rw[Rc oQ,Rc oQ];exact h
theorem K3{x y:Nat}(hx:x<mt.length):
  KN sg (sg++[cM (kW fX fY ov) (vV fX fY ov),cM (kV fX fY ov) (vW fX fY ov)]) mt (kI mt sg.length (kW fX fY ov) (kV fX fY ov) x y 1) (ao sg.length (kW fX fY ov) 0) (ao (sg.length+1) (kV fX fY ov) 0) x:=by
 have h:=Mg hd (xO (sg:=sg) fX fY ov) (ot fX fY ov) (wW (sg:=sg) fX fY ov) hx;obtain⟨u0,u1,-,-⟩:=qw fX fY ov;unfold jQ at h;rw[<-aQ u0 (oQ:1<=3),<-aQ u1 (oQ:1<=3),<-aQ u1 (oQ:2<=3),<-aQ u0 (oQ:3<=3),<-aQ u1 (oQ:3<=3),<-aQ u0 (oQ:2<=3)]at h;unfold kI wD;rw[Re rfl];exact h
theorem LD{x y:Nat}(hx:x<mt.length):
  Ll sg (sg++[cM (kW fX fY ov) (vV fX fY ov),cM (kV fX fY ov) (vW fX fY ov)]) mt (kI mt sg.length (kW fX fY ov) (kV fX fY ov) x y (-1)) (ao sg.length (kW fX fY ov) 0) (ao (sg.length+1) (kV fX fY ov) 0) x:=by
 have h:=MG hd (xO (sg:=sg) fX fY ov) (ot fX fY ov) (wW (sg:=sg) fX fY ov) hx;obtain⟨u0,u1,-,-⟩:=qw fX fY ov;unfold jQ at h;rw[<-aQ u0 (oQ:1<=3),<-aQ u1 (oQ:1<=3),<-aQ u1 (oQ:2<=3),<-aQ u0 (oQ:2<=3),<-aQ u0 (oQ:3<=3),<-aQ u1 (oQ:3<=3)]at h;unfold kI wD;rw[Rc oQ,Re rfl];exact h
end
theorem zU{sg mt:List Int}{h:Nat}{a b:Int}:∀k,(a,b)∈gI sg mt h k↔∃y:Nat,h<y/\y<k/\mC sg mt h y=true/\a=(h:Int)/\b=(y:Int)
 |0=>⟨fun h=>absurd h (by simp[gI]),fun⟨y,_,h,_⟩=>absurd h (RG _)⟩
 |k+1=>by unfold gI;rw[SS,zU k];constructor;{rintro(⟨y,h1,h2,h3⟩|h1);{exact⟨y,h1,oZ,h3⟩};{by_cases hc:h<k/\mC sg mt h k=true;{rw[Re hc]at h1;simp only[Ti,Prod.mk.injEq]at h1;exact⟨k,hc.1,oZ,hc.2,h1.1,h1.2⟩};{rw[Rc hc]at h1;exact absurd h1 oX}}};{rintro⟨y,h1,h2,h3,h4,h5⟩;by_cases e:y=k;{subst e;exact .inr (by rw[Re ⟨h1,h3⟩,h4,h5];simp)};{exact .inl ⟨y,h1,oZ,h3,h4,h5⟩}}
theorem ug{sg mt:List Int}{a b:Int}:∀n,(a,b)∈iZ sg mt n↔∃x y:Nat,x<n/\x<y/\y<mt.length/\mC sg mt x y=true/\a=(x:Int)/\b=(y:Int)
 |0=>⟨fun h=>absurd h (by simp[iZ]),fun⟨x,_,h,_⟩=>absurd h (RG _)⟩
 |n+1=>by unfold iZ;rw[SS,ug n,zU];constructor;{rintro(⟨x,y,h1,h2⟩|⟨y,h1,h2,h3,h4⟩);{exact⟨x,y,oZ,h2⟩};{exact⟨n,y,oZ,h1,h2,h3,h4⟩}};{rintro⟨x,y,h1,h2,h3,h4,h5⟩;by_cases e:x=n;{subst e;exact .inr ⟨y,h2,h3,h4,h5⟩};{exact .inl ⟨x,y,oZ,h2,h3,h4,h5⟩}}
theorem IU{sg mt:List Int}{L:Int}(hd:cJ sg mt L)(h:iZ sg mt mt.length=[]):Gy sg mt:=by
 have hP:aO (au mt) mt.length:=aU hd.2.2.2.2.2.1 hd.2.1;have key:∀x y:Nat,x<y->y<mt.length->y∈bJ (au mt) mt.length x->ai sg x=ai sg y->Ay sg mt x=Ay sg mt y:=by
  intro x y Vw hy hf ho;by_cases hc:Ay sg mt x=Ay sg mt y;{exact hc}
  ·have hb:mC sg mt x y=true:=by
    unfold mC;rw[Rj hf,Rj hc,ho];simp
   have:=(ug (sg:=sg) (mt:=mt) (a:=(x:Int)) (b:=(y:Int)) mt.length).2 ⟨x,y,oZ,Vw,hy,hb,rfl,rfl⟩;rw[h]at this;exact absurd this oX
 intro x y hx hy hf ho;rcases SK x y with e|e|e
 {exact key x y e hy hf ho};{rw[e]};{exact(key y x e hx (aL hP hx hf) ho.symm).symm}
theorem vg{sg mt:List Int}{L:Int}(hd:cJ sg mt L){x y:Nat}(hx:x<mt.length)(h:mC sg mt x y=true):y∈bJ (au mt) mt.length x/\x≠y/\gn mt x≠y:=by
 unfold mC at h;rw[RA,RA]at h;obtain⟨⟨h1,h2⟩,h3⟩:=h;have h1:=RU h1;have h3:=RU h3;have h2:ai sg x=ai sg y:=by simpa using h2
 refine⟨h1,fun e=>h3 (by rw[e]),fun e=>?_⟩;have:=hd.2.2.2.2.2.2.1 x hx;rw[e]at this;exact this h2
def ES(s:Int)(j:Nat):Bool:=if j=1 then s==1 else if j=2 then true else if j=3 then s== -1 else false
theorem zK{sg:List Int}{n j:Nat}{s:Int}(hj:j<4)(hs:gi sg n=s):ai sg (4*n+j)=ES s j:=by unfold ai ES;rw[show(4*n+j)%4=j by omega,show(4*n+j)/4=n by omega,hs]
theorem GP{sg sg':List Int}{h:Nat}(he:gi sg' (h/4)=gi sg (h/4)):ai sg' h=ai sg h:=by unfold ai;rw[he]
theorem Ib(fX fY ov:Bool):
  ES (cM (kW fX fY ov) (vV fX fY ov)) ((3+4-kW fX fY ov)%4)= !fX/\ES (cM (kW fX fY ov) (vV fX fY ov)) ((1+4-kW fX fY ov)%4)=fX/\
  ES (cM (kV fX fY ov) (vW fX fY ov)) ((1+4-kV fX fY ov)%4)= !fX/\ES (cM (kV fX fY ov) (vW fX fY ov)) ((3+4-kV fX fY ov)%4)=fX/\
  ES (cM (kV fX fY ov) (vW fX fY ov)) ((0+4-kV fX fY ov)%4)= !fY/\ES (cM (kV fX fY ov) (vW fX fY ov)) ((2+4-kV fX fY ov)%4)=fY/\
  ES (cM (kW fX fY ov) (vV fX fY ov)) ((0+4-kW fX fY ov)%4)= !fY/\ES (cM (kW fX fY ov) (vV fX fY ov)) ((2+4-kW fX fY ov)%4)=fY:=by
 cases fX<;>cases fY<;>cases ov<;>decide
theorem Jp{sg mt:List Int}{L:Int}(hd:cJ sg mt L)(ov:Bool){x y:Nat}(hx:x<mt.length)(hy:y<mt.length)(Vw:x≠y)(hmy:gn mt x≠y):
  wE (sg++[cM (kW (ai sg x) (ai sg y) ov) (vV (ai sg x) (ai sg y) ov),cM (kV (ai sg x) (ai sg y) ov) (vW (ai sg x) (ai sg y) ov)]) (kI mt sg.length (kW (ai sg x) (ai sg y) ov) (kV (ai sg x) (ai sg y) ov) x y 0)/\
  EN (sg++[cM (kW (ai sg x) (ai sg y) ov) (vV (ai sg x) (ai sg y) ov),cM (kV (ai sg x) (ai sg y) ov) (vW (ai sg x) (ai sg y) ov)]):=by
 have P:=GQ hd (ai sg x) (ai sg y) ov hx hy Vw hmy;have h2:mt.length=4*sg.length:=hd.2.1;have hI:=hd.2.2.2.2.2.1;have ho:=hd.2.2.2.2.2.2.1;obtain⟨-,x1,x2,x3⟩:=hI.gn hx;obtain⟨-,y1,y2,y3⟩:=hI.gn hy;have A:=xO (sg:=sg) (ai sg x) (ai sg y) ov;obtain⟨s1,s2,s3,s4,s5,s6,s7,s8⟩:=Ib (ai sg x) (ai sg y) ov;obtain⟨u0,u1,-,-⟩:=qw (ai sg x) (ai sg y) ov;have opp:=ot (ai sg x) (ai sg y) ov;have gx:ai sg (gn mt x)= !ai sg x:=by have:=ho x hx;revert this;cases ai sg x<;>cases ai sg (gn mt x)<;>simp
 have gy:ai sg (gn mt y)= !ai sg y:=by have:=ho y hy;revert this;cases ai sg y<;>cases ai sg (gn mt y)<;>simp
 generalize hfX:ai sg x=fX at*;generalize hfY:ai sg y=fY at*;generalize kW fX fY ov=f0 at*;generalize kV fX fY ov=f1 at*;generalize cM f0 (vV fX fY ov)=t0 at*;generalize cM f1 (vW fX fY ov)=t1 at*;have e0:gi (sg++[t0,t1]) sg.length=t0:=gF (xs:=sg) (ys:=[t0,t1]) 0;have e1:gi (sg++[t0,t1]) (sg.length+1)=t1:=gF (xs:=sg) (ys:=[t0,t1]) 1;have hp:∀s,s<=3->ai (sg++[t0,t1]) (ae (ao sg.length f0 0) s)=ES t0 ((s+4-f0)%4):=fun s hs=>by rw[<-aQ u0 hs];unfold ao;exact zK oZ e0
 have hq:∀s,s<=3->ai (sg++[t0,t1]) (ae (ao (sg.length+1) f1 0) s)=ES t1 ((s+4-f1)%4):=fun s hs=>by rw[<-aQ u1 hs];unfold ao;exact zK oZ e1
 have Yc:ai (sg++[t0,t1]) (ao sg.length f0 0)= !fY:=by have:=hp 0 oQ;rw[eG]at this;rw[this];exact s7
 have XQ:ai (sg++[t0,t1]) (ao (sg.length+1) f1 0)= !fY:=by have:=hq 0 oQ;rw[eG]at this;rw[this];exact s5
 have V3:=(hp 1 oQ).trans s2;have Wt:=(hp 2 oQ).trans s8;have hp3:=(hp 3 oQ).trans s1;have WG:=(hq 1 oQ).trans s3;have YB:=(hq 2 oQ).trans s6;have hq3:=(hq 3 oQ).trans s4;generalize ao sg.length f0 0=p at*;generalize ao (sg.length+1) f1 0=q at*;have hold:∀h,h<mt.length->ai (sg++[t0,t1]) h=ai sg h:=fun h hh=>GP (cX oZ)
 have key:∀{a b:Bool},a= !b->a≠b:=fun{a b} h e=>by rw[h]at e;revert e;cases b<;>simp
 have key2:∀{a b:Bool},a= !b->b≠a:=fun{a b} h e=>key h e.symm
 refine⟨fun h hh=>?_,fun c hc=>?_⟩
 ·have hh':h<4*(sg.length+2):=by rw[<-P.lm'];exact hh
  by_cases Vg:h<mt.length;{by_cases k1:h=x;{rw[k1,P.tX,hp3,hold x hx,hfX];exact key2 rfl};{by_cases k2:h=gn mt x;{rw[k2,P.tMX,hq3,hold _ x1,gx];exact key rfl};{by_cases k3:h=y;{rw[k3,P.tY,XQ,hold y hy,hfY];exact key2 rfl};{by_cases k4:h=gn mt y;{rw[k4,P.tMY,Wt,hold _ y1,gy];exact key rfl};{rw[P.old h Vg k1 k2 k3 k4,hold h Vg,hold _ (hI.gn Vg).2.1];exact ho h Vg}}}}}
  ·by_cases hc:h/4=sg.length
   ·rcases aw (o:=p) (h:=h) (by rw[hc,A.p0])with rfl|rfl|rfl|rfl
    {rw[P.ew,Yc,YB];exact key rfl};{rw[P.nn,V3,WG];exact key2 rfl};{rw[P.uMY,Wt,hold _ y1,gy];exact key2 rfl};{rw[P.uX,hp3,hold x hx,hfX];exact key rfl}
   ·rcases aw (o:=q) (h:=h) (by rw[A.q0];omega)with rfl|rfl|rfl|rfl
    {rw[P.uY,XQ,hold y hy,hfY];exact key rfl};{rw[P.nn',WG,V3];exact key rfl};{rw[P.ew',YB,Yc];exact key2 rfl};{rw[P.uMX,hq3,hold _ x1,gx];exact key2 rfl}
 ·by_cases Vo:c<sg.length
  {rw[cX Vo];exact hd.2.2.2.2.1 c Vo}
  ·rw[Rz]at hc
   have:c=sg.length\/c=sg.length+1:=by simp at hc;omega
   rcases this with rfl|rfl
   {rw[e0];omega};{rw[e1];omega}
theorem Fb{sg mt:List Int}{L:Int}(hd:cJ sg mt L)(h1:av mt sg.length sg.length=1)(hn:sg.length+2<=64)(ov:Bool){x y:Nat}(hx:x<mt.length)(hy:y<mt.length)(hb:mC sg mt x y=true){sg' mt':List Int}
  (hs:sg'=sg++[cM (kW (ai sg x) (ai sg y) ov) (vV (ai sg x) (ai sg y) ov),cM (kV (ai sg x) (ai sg y) ov) (vW (ai sg x) (ai sg y) ov)])(hm:mt'=kI mt sg.length (kW (ai sg x) (ai sg y) ov) (kV (ai sg x) (ai sg y) ov) x y 0):
  cJ sg' mt' L/\av mt' sg'.length sg'.length=1/\sg'.length=sg.length+2/\∀K,cA sg mt K->∃K',cA sg' mt' K'/\∀n,jE sg mt K n->jE sg' mt' K' n:=by
 obtain⟨f1,f2,f3⟩:=vg hd hx hb;have P:=GQ hd (ai sg x) (ai sg y) ov hx hy f2 f3;obtain⟨o1,o2⟩:=Jp hd ov hx hy f2 f3;rw[<-hs,<-hm]at P o1;rw[<-hs]at o2;obtain⟨d1,d2⟩:=P.QI hd h1 f1 hn o1 o2;refine⟨d1,d2,P.ls,fun K hK=>?_⟩;exact⟨_,(P.num hd hK f1 (fH.ex _ _ _ _).choose_spec).1,fun n hn=>(P.num hd hK f1 hn).2⟩
open Go.RowKit
theorem Ij{wr w':World}{b:Nat}{v0 v1 v2:Value}(d0:wr.cell? ⟨b,0,none⟩=some v0)(d1:wr.cell? ⟨b,1,none⟩=some v1)(d2:wr.cell? ⟨b,2,none⟩=some v2)(h:Ko wr w'):
  w'.cell? ⟨b,0,none⟩=some v0/\w'.cell? ⟨b,1,none⟩=some v1/\w'.cell? ⟨b,2,none⟩=some v2:=⟨h.cell d0,h.cell d1,h.cell d2⟩
section
variable(A1 A2:Option Addr)(c1 c2:Nat)(sg mt:List Int)(w:World)(S:Nat->Prop)(hx:RI w S A1 sg)(hy:RI w S A2 mt)(hS:∀b,S b->b<w.heap.size)
include hx hy hS
theorem sB(hd:cJ sg mt 0)(V_:av mt sg.length sg.length=1):
  Calls Tryz.prog 63 #[.agg #[.slice A1 sg.length c1,.slice A2 mt.length c2,.int .i64 0]] w fun e w'=>e= .returned (.int .i64 0)/\Below w.heap.size w w':=by
 have HD:=Rb (bI.start (c1:=c1) (c2:=c2) (L:=0) S hx hy hS);have H:=Rb hd;have VW:Hid (Below w.heap.size w (w.alloc (.cells #[.slice A1 sg.length c1,.slice A2 mt.length c2,.int .i64 0] 24))):=Rb ((Rh _ _).alloc (Rf _) _);have Vs:(rows (dq mt sg.length)).length=1:=by rw[aE];exact ta hd.2.2.2.2.2.1 hd.2.1 V_
 have HG:=Rb Vs;have VO:=hd.1;have VQ:mt.length<=256:=by have:=hd.2.1;omega
 clear hx hy hS hd V_ Vs;go_enter Tryz.func63,Tryz.ntmps63
 go_wp2_with fail;obtain⟨W,hW⟩:∃W,w.alloc (.cells #[.slice A1 sg.length c1,.slice A2 mt.length c2,.int .i64 0] 24)=W:=⟨_,rfl⟩
 rw[hW]at HD VW⊢;clear hW;refine(gl A1 A2 c1 c2 sg mt 0 W (·<W.heap.size) HD.out.rs HD.out.rm (fun _ h=>h) (by unfold maxLen;omega) (by unfold maxLen;omega)).mono ?_;rintro e w1 ⟨rfl,Vi⟩;rw[Rj H.out];have Vp:=Rb (HD.out.below Vi);have Vr:=Rb (VW.out.trans (Vi.mono VW.out.size));clear Vi HD VW;have P0:=Rb Vp.out.c0;have P1:=Rb Vp.out.c1;have P2:=Rb Vp.out.c2;go_wp2_with fail
 go_region_held3 (fun w'=>w'.cell? ⟨w.heap.size,0,none⟩=some (.slice A1 sg.length c1)/\w'.cell? ⟨w.heap.size,1,none⟩=some (.slice A2 mt.length c2)/\w'.cell? ⟨w.heap.size,2,none⟩=some (.int .i64 0))
  (((with_reducible refine Ij P0.out P1.out P2.out ?_);(repeat (first|with_reducible exact HK.out|with_reducible exact Ko.refl _|with_reducible refine Ko.drew ?_))))
  ((go_at_call 13;refine(rT A1 A2 c1 c2 sg mt 0 _ (·<w1.heap.size) (by exact Vp.out.rs) (by exact Vp.out.rm) (fun b hb=>by exact hb) H.out).mono ?_;rintro e w2 ⟨v,rfl,hr,Vj⟩;obtain⟨A9,c9,rfl,-,-,-⟩:=hr.shape;rw[HG.out];have HK:Hid (Ko w1 w2):=Rb ((Ko.refl w1).drew.call Vj);have VD:Hid (Below w.heap.size w w2):=Rb (Vr.out.trans ((Rh w1.heap.size w1).drew.trans Vj|>.mono Vr.out.size));clear hr Vj))
 go_wp2_with fail;go_ret;exact⟨rfl,VD.out⟩
theorem Hl(hd:cJ sg mt 0)(hn:iZ sg mt mt.length=[]):
  Calls Tryz.prog 64 #[.agg #[.slice A1 sg.length c1,.slice A2 mt.length c2,.int .i64 0]] w fun e w'=>e= .returned (.tuple #[.agg #[.int .i64 0,.int .i64 0,.int .i64 0,.int .i64 0,.bool false],.bool false])/\Below w.heap.size w w':=by
 have HD:=Rb ((bI.start (c1:=c1) (c2:=c2) (L:=0) S hx hy hS).below ((Rh _ _).alloc (Rf _) (.cells #[.int .i64 0,.int .i64 0,.int .i64 0,.int .i64 0,.bool false] 26)));have VW:=Rb (((Rh w.heap.size w).alloc (Rf _) (.cells #[.slice A1 sg.length c1,.slice A2 mt.length c2,.int .i64 0] 24)).alloc oX (.cells #[.int .i64 0,.int .i64 0,.int .i64 0,.int .i64 0,.bool false] 26));have HZ:Hid (mD ((w.alloc (.cells #[.slice A1 sg.length c1,.slice A2 mt.length c2,.int .i64 0] 24)).alloc (.cells #[.int .i64 0,.int .i64 0,.int .i64 0,.int .i64 0,.bool false] 26)) (w.heap.size+1)):=by have k:=Ru (w.alloc (.cells #[.slice A1 sg.length c1,.slice A2 mt.length c2,.int .i64 0] 24)) (.cells #[.int .i64 0,.int .i64 0,.int .i64 0,.int .i64 0,.bool false] 26);rw[show(w.alloc (.cells #[.slice A1 sg.length c1,.slice A2 mt.length c2,.int .i64 0] 24)).heap.size=w.heap.size+1 by simp]at k;exact Rb (mD.new k)
 have H:=Rb hd;have HN:=Rb hn;have VQ:mt.length<=256:=by have:=hd.2.1;have:=hd.1;omega
 clear hx hy hS hd hn;go_enter Tryz.func64,Tryz.ntmps64
 go_wp2_with fail;obtain⟨W,hW⟩:∃W,(w.alloc (.cells #[.slice A1 sg.length c1,.slice A2 mt.length c2,.int .i64 0] 24)).alloc (.cells #[.int .i64 0,.int .i64 0,.int .i64 0,.int .i64 0,.bool false] 26)=W:=⟨_,rfl⟩
 rw[hW]at HD VW HZ⊢;have hsW:w.heap.size+2<=W.heap.size:=by rw[<-hW];simp
 clear hW;refine(xM A1 A2 c1 c2 sg mt 0 W (·<W.heap.size) HD.out.rs HD.out.rm (fun _ h=>h) H.out VQ).mono ?_;rintro e w1 ⟨v,rfl,ho,Vi⟩;obtain⟨A9,c9,rfl,-,-⟩:=ho.shape;rw[HN.out];have Vr:=Rb (VW.out.trans (Vi.mono VW.out.size));have YT:=Rb (HZ.out.ak (Vi.block _ oZ));clear Vi ho HD VW HZ;obtain⟨z0,z1,z2,z3,z4,q0,q1,q2,q3,q4⟩:=YT.out;go_wp2_with fail;refine RC (v:= .tuple #[.agg #[.int .i64 0,.int .i64 0,.int .i64 0,.int .i64 0,.bool false],.bool false]) (by simp[results,Tryz.results64,go_sem,z0,z1,z2,z3,z4]) rfl ?_;refine⟨rfl,?_⟩;(iterate 5 refine RM ?_ oJ _);exact Vr.out
theorem DN(hd:cJ sg mt 0)(hn:iZ sg mt mt.length≠[]):
  Calls Tryz.prog 64 #[.agg #[.slice A1 sg.length c1,.slice A2 mt.length c2,.int .i64 0]] w fun e w'=>∃x y:Nat,x<mt.length/\y<mt.length/\mC sg mt x y=true/\e= .returned (.tuple #[.agg #[.int .i64 3,.int .i64 (x:Int),.int .i64 (y:Int),.int .i64 0,.bool true],.bool true])/\Below w.heap.size w w':=by
 have HD:=Rb ((bI.start (c1:=c1) (c2:=c2) (L:=0) S hx hy hS).below ((Rh _ _).alloc (Rf _) (.cells #[.int .i64 0,.int .i64 0,.int .i64 0,.int .i64 0,.bool false] 26)));have VW:=Rb (((Rh w.heap.size w).alloc (Rf _) (.cells #[.slice A1 sg.length c1,.slice A2 mt.length c2,.int .i64 0] 24)).alloc oX (.cells #[.int .i64 0,.int .i64 0,.int .i64 0,.int .i64 0,.bool false] 26));have HZ:Hid (mD ((w.alloc (.cells #[.slice A1 sg.length c1,.slice A2 mt.length c2,.int .i64 0] 24)).alloc (.cells #[.int .i64 0,.int .i64 0,.int .i64 0,.int .i64 0,.bool false] 26)) (w.heap.size+1)):=by have k:=Ru (w.alloc (.cells #[.slice A1 sg.length c1,.slice A2 mt.length c2,.int .i64 0] 24)) (.cells #[.int .i64 0,.int .i64 0,.int .i64 0,.int .i64 0,.bool false] 26);rw[show(w.alloc (.cells #[.slice A1 sg.length c1,.slice A2 mt.length c2,.int .i64 0] 24)).heap.size=w.heap.size+1 by simp]at k;exact Rb (mD.new k)
 have H:=Rb hd;obtain⟨p,ps,Yq⟩:∃p ps,iZ sg mt mt.length=p::ps:=List.exists_cons_of_ne_nil hn
 obtain⟨x,y,V7,Vw,VJ,hib,hpx,hpy⟩:=(ug (sg:=sg) (mt:=mt) (a:=p.1) (b:=p.2) mt.length).1 (by rw[Yq];exact SM);have HXY:Hid (x<mt.length/\y<mt.length/\mC sg mt x y=true):=⟨V7,VJ,hib⟩;have Zn:=Rb Yq;have HPX:Hid (p.1=(x:Int)/\p.2=(y:Int)):=⟨hpx,hpy⟩;have VQ:mt.length<=256:=by have:=hd.2.1;have:=hd.1;omega
 clear hx hy hS hd hn Yq V7 Vw VJ hib hpx hpy;go_enter Tryz.func64,Tryz.ntmps64
 go_wp2_with fail;obtain⟨W,hW⟩:∃W,(w.alloc (.cells #[.slice A1 sg.length c1,.slice A2 mt.length c2,.int .i64 0] 24)).alloc (.cells #[.int .i64 0,.int .i64 0,.int .i64 0,.int .i64 0,.bool false] 26)=W:=⟨_,rfl⟩
 rw[hW]at HD VW HZ⊢;have hsW:w.heap.size+2<=W.heap.size:=by rw[<-hW];simp
 clear hW;refine(xM A1 A2 c1 c2 sg mt 0 W (·<W.heap.size) HD.out.rs HD.out.rm (fun _ h=>h) H.out VQ).mono ?_;rintro e w1 ⟨v,rfl,ho,Vi⟩;rw[Zn.out]at ho;obtain⟨g,c9,e9,Vs,Vv,-,Vo⟩:=ho.at_ (k:=0) oX;subst e9;obtain⟨p0,p1⟩:=Vo 0 oX;rw[show((p::ps)[0]).1=(x:Int)from HPX.out.1]at p0;rw[show((p::ps)[0]).2=(y:Int)from HPX.out.2]at p1;obtain⟨n,hn⟩:∃n,ps.length=n:=⟨_,rfl⟩
 rw[show(p::ps).length=n+1 by rw[<-hn];rfl];have hlen:n<=100000:=by have h9:=RQ (ts sg mt mt.length) (S4 VQ VQ);rw[Zn.out,SI]at h9;omega
 have Vh:((n:Int)+1==0)=false:=by rw[Rs];omega
 have m1:¬g=w.heap.size+1:=oZ;have m2:¬w.heap.size+1=g:=oZ;clear hn Vo Vs Vv;have Vr:=Rb (VW.out.trans (Vi.mono VW.out.size));have YT:=Rb (HZ.out.ak (Vi.block _ oZ));clear Vi ho HD VW HZ;obtain⟨z0,z1,z2,z3,z4,q0,q1,q2,q3,q4⟩:=YT.out;go_wp2_with fail;go_region;go_wp2_with fail;refine RC (v:= .tuple #[.agg #[.int .i64 3,.int .i64 (x:Int),.int .i64 (y:Int),.int .i64 0,.bool true],.bool true]) (by simp[results,Tryz.results64,go_sem,z0,z1,z2,z3,z4]) rfl ?_;refine⟨x,y,HXY.out.1,HXY.out.2.1,HXY.out.2.2,rfl,?_⟩;refine Td ?_;(iterate 5 refine RM ?_ oJ _);exact Vr.out
theorem vE(hd:cJ sg mt 0)(a:Int)(h:Nat)(ha:a=h)(hh:h<mt.length)(ho:ai sg h=true):
  Calls Tryz.prog 89 #[.agg #[.slice A1 sg.length c1,.slice A2 mt.length c2,.int .i64 0],.int .i64 a] w fun e w'=>e= .returned (.int .i64 (aP sg mt h:Nat))/\Below w.heap.size w w':=by
 subst ha;have X9:=bI.start (c1:=c1) (c2:=c2) (L:=0) S hx hy hS;have VW:Hid (Below w.heap.size w (w.alloc (.cells #[.slice A1 sg.length c1,.slice A2 mt.length c2,.int .i64 0] 24))):=Rb ((Rh _ _).alloc (Rf _) _);have VO:=hd.1;have h2:=hd.2.1;obtain⟨g1,g2,-,-⟩:=hd.2.2.2.2.2.1.gn hh;obtain⟨W,hW⟩:∃W,w.alloc (.cells #[.slice A1 sg.length c1,.slice A2 mt.length c2,.int .i64 0] 24)=W:=⟨_,rfl⟩
 obtain⟨m,hm⟩:∃m,gn mt h=m:=⟨_,rfl⟩
 rw[hm]at g1 g2;obtain⟨c,hc⟩:∃c,m/4=c:=⟨_,rfl⟩
 have Vo:c<sg.length:=oZ;have Xz:=hd.2.2.2.2.1 c Vo;have hE:aP sg mt h=if m%4=0 then(if gi sg c=1 then 4*c+1 else 4*c+3)else 4*c+2:=by unfold aP yB eT;rw[Re ho,hm,hc];split;{split<;>rfl};{omega}
 rw[hW]at X9 VW;obtain⟨b2,o2,e2,Vj,Xd⟩:=X9.rm.at_ hh;obtain⟨b1,o1,e1,Vi,hc1⟩:=X9.rs.at_ Vo;have k2:=Xd h hh;have k1:=hc1 c Vo;rw[g1]at k2;subst e1 e2;have d0:=X9.c0;have d1:=X9.c1;have HE:=Rb hE;have hmc:(m:Int)/4=(c:Int):=oZ;have hm256:m<256:=oZ;have HW:=Rb hW;have VQ:mt.length<=256:=oZ;clear hx hy hS hd X9 hE hc1 Xd g1 ho hm h2 hW;obtain⟨Qy,hsn⟩:∃z,gi sg c=z:=⟨_,rfl⟩
 rw[hsn]at k1 Xz;have HS:=Rb hsn;clear hsn;by_cases Yb:m%4=0
 ·have q1:((m:Int)%4 !=0)=false:=by rw[RK];omega
  have hm4:4*c=m:=oZ;rcases Xz with rfl|rfl
  ·have HV:Hid (aP sg mt h=4*c+1):=Rb (by rw[HE.out,Re Yb,Re HS.out])
   clear Yb hc hm4;go_enter Tryz.func89,Tryz.ntmps89
   go_upto_region 1 with fail
   rw[HW.out];go_wp2_with fail;go_ret;exact⟨cE (by rw[HV.out];omega),VW.out⟩
  ·have HV:Hid (aP sg mt h=4*c+3):=Rb (by rw[HE.out,Re Yb,Rc (by rw[HS.out];decide)])
   clear Yb hc hm4;go_enter Tryz.func89,Tryz.ntmps89
   go_upto_region 1 with fail
   rw[HW.out];go_wp2_with fail;go_ret;exact⟨cE (by rw[HV.out];omega),VW.out⟩
 ·have q1:((m:Int)%4 !=0)=true:=by rw[RZ];omega
  have HV:Hid (aP sg mt h=4*c+2):=Rb (by rw[HE.out,Rc Yb]);clear Yb hc;go_enter Tryz.func89,Tryz.ntmps89
  go_upto_region 1 with fail
  rw[HW.out];go_wp2_with fail;go_ret;exact⟨cE (by rw[HV.out];omega),VW.out⟩
end
structure yr(w wr:World)(P:Nat->Prop)(A1 A2:Option Addr)(c1 c2:Nat)(sg mt:List Int)(gc kc Sn gr Bc:Nat)(v:Value)(cs:List Int)(bs:List Bool)(xs:List Int):Prop where
 c0:wr.cell? ⟨w.heap.size,0,none⟩=some (.slice A1 sg.length c1)
 c1:wr.cell? ⟨w.heap.size,1,none⟩=some (.slice A2 mt.length c2)
 c2:wr.cell? ⟨w.heap.size,2,none⟩=some (.int .i64 0)
 rs:RI wr P A1 sg
 rm:RI wr P A2 mt
 cu:OI wr Bc (.slice (some ⟨gc,0,none⟩) Sn kc) cs
 rd:OB wr (w.heap.size+1) (.slice (some ⟨gr,0,none⟩) sg.length sg.length) bs
 wd:OI wr (w.heap.size+1) v xs
 nv:v.ownBlock≠some gr
 lt:w.heap.size+1<=wr.heap.size
 lg:gc<w.heap.size
 bl:Below gc w wr
 kp:∀b,b<w.heap.size->b≠gc->wr.heap[b]?=w.heap[b]?
theorem mT{g g' n c:Nat}(h:(Value.slice (some ⟨g,0,none⟩) n c).ownBlock=some g'):g=g':=by simpa[Value.ownBlock]using h
section
variable{w wr w':World}{P:Nat->Prop}{A1 A2:Option Addr}{c1 c2:Nat}{sg mt:List Int}{gc kc Sn gr Bc:Nat}{v v':Value}{cs:List Int}{bs:List Bool}{xs xs':List Int}
theorem yr.call(h:yr w wr P A1 A2 c1 c2 sg mt gc kc Sn gr Bc v cs bs xs)(hP:∀b,P b->b<w.heap.size/\b≠gc)(hb:Below wr.heap.size wr w'):yr w w' P A1 A2 c1 c2 sg mt gc kc Sn gr Bc v cs bs xs:=by
 have hl:=h.lt;have o:∀i,w'.cell? ⟨w.heap.size,i,none⟩=wr.cell? ⟨w.heap.size,i,none⟩:=fun i=>hb.cell (p:=⟨w.heap.size,i,none⟩) oJ
 have lg:=h.lg;exact⟨(o _).trans h.c0,(o _).trans h.c1,(o _).trans h.c2,h.rs.ak fun b Vz=>hb.block b (by have:=(hP b Vz).1;omega),h.rm.ak fun b Vz=>hb.block b (by have:=(hP b Vz).1;omega),h.cu.below hb (Rf _),h.rd.below hb (Rf _),h.wd.below hb (Rf _),h.nv,RQ hl hb.size,h.lg,h.bl.trans (hb.mono oZ),fun b h1 h2=>(hb.block b oZ).trans (h.kp b h1 h2)⟩
theorem yr.Qo(h:yr w wr P A1 A2 c1 c2 sg mt gc kc Sn gr Bc v cs bs xs)(hP:∀b,P b->b<w.heap.size/\b≠gc)(hl:bs.length=sg.length)(hp:0<bs.length)(k:Nat):yr w (wr.setCell ⟨gr,k,none⟩ (.bool true)) P A1 A2 c1 c2 sg mt gc kc Sn gr Bc v cs (bs.set k true) xs:=by
 obtain⟨-,Vs,Vv,-,-,-⟩:=h.rd.dO hp;have hk:∀b,b≠gr->(wr.setCell ⟨gr,k,none⟩ (.bool true)).heap[b]?=wr.heap[b]?:=fun b hb=>Rn _ _ _ _ hb
 have o:∀i,(wr.setCell ⟨gr,k,none⟩ (.bool true)).cell? ⟨w.heap.size,i,none⟩=wr.cell? ⟨w.heap.size,i,none⟩:=fun i=>Ri (a:=⟨w.heap.size,i,none⟩) (hk _ oJ)
 have lg:=h.lg;have hr:=h.rd;rw[show(Value.slice (some ⟨gr,0,none⟩) sg.length sg.length)= .slice (some ⟨gr,0,none⟩) bs.length sg.length by rw[hl]]at hr;have Xs:=hr.stored (k:=k) true;rw[Ry,hl]at Xs;exact⟨(o _).trans h.c0,(o _).trans h.c1,(o _).trans h.c2,h.rs.ak fun b Vz=>hk b (by have:=(hP b Vz).1;omega),h.rm.ak fun b Vz=>hk b (by have:=(hP b Vz).1;omega),h.cu.ak fun g hg=>hk g (by have:=mT hg;omega),Xs,h.wd.ak fun g hg=>hk g (fun e=>h.nv (by rw[hg,e])),h.nv,by rw[az];exact h.lt,h.lg,h.bl.setCell oJ _,fun b h1 h2=>(hk b oZ).trans (h.kp b h1 h2)⟩
theorem yr.JN(h:yr w wr P A1 A2 c1 c2 sg mt gc kc Sn gr Bc v cs bs xs)(hP:∀b,P b->b<w.heap.size/\b≠gc)(hl:cs.length=Sn)(hp:0<bs.length)(k:Nat)(z:Int):yr w (wr.setCell ⟨gc,k,none⟩ (.int .i64 z)) P A1 A2 c1 c2 sg mt gc kc Sn gr Bc v (cs.set k z) bs xs:=by
 obtain⟨-,Vs,Vv,-,-,-⟩:=h.rd.dO hp;have hk:∀b,b≠gc->(wr.setCell ⟨gc,k,none⟩ (.int .i64 z)).heap[b]?=wr.heap[b]?:=fun b hb=>Rn _ _ _ _ hb
 have lg:=h.lg;have o:∀i,(wr.setCell ⟨gc,k,none⟩ (.int .i64 z)).cell? ⟨w.heap.size,i,none⟩=wr.cell? ⟨w.heap.size,i,none⟩:=fun i=>Ri (a:=⟨w.heap.size,i,none⟩) (hk _ oJ)
 have hr:=h.cu;rw[show(Value.slice (some ⟨gc,0,none⟩) Sn kc)= .slice (some ⟨gc,0,none⟩) cs.length kc by rw[hl]]at hr;have Xs:=hr.stored (k:=k) z;rw[Ry,hl]at Xs;exact⟨(o _).trans h.c0,(o _).trans h.c1,(o _).trans h.c2,h.rs.ak fun b Vz=>hk b (hP b Vz).2,h.rm.ak fun b Vz=>hk b (hP b Vz).2,Xs,h.rd.ak fun g hg=>hk g (by have:=mT hg;omega),h.wd.ak fun g hg=>hk g (by have:=(h.wd.lt g hg).1;omega),h.nv,by rw[az];exact h.lt,h.lg,h.bl.setCell oJ _,fun b h1 h2=>(hk b h2).trans (h.kp b h1 h2)⟩
theorem yr.push{y:Int}(h:yr w wr P A1 A2 c1 c2 sg mt gc kc Sn gr Bc v cs bs xs)(hP:∀b,P b->b<w.heap.size/\b≠gc)(hp:0<bs.length)(ho:OI w' (w.heap.size+1) v' xs')(hg:(wr.alloc (.cells #[.int .i64 y] 3)).grownBy w' v.ownBlock)(Vu:v'.ownBlock=v.ownBlock\/v'.ownBlock=some (wr.heap.size+1)):
  yr w w' P A1 A2 c1 c2 sg mt gc kc Sn gr Bc v' cs bs xs':=by
 obtain⟨-,Vs,Vv,-,-,-⟩:=h.rd.dO hp;have VF:Below (w.heap.size+1) wr w':=h.wd.eL (Rh _ _) h.lt _ hg;have hk:∀b,b<wr.heap.size->v.ownBlock≠some b->w'.heap[b]?=wr.heap[b]?:=fun b hb hn=>(hg.block b qj (fun e=>hn e.symm)).trans (Rx _ _ b hb)
 have o:∀i,w'.cell? ⟨w.heap.size,i,none⟩=wr.cell? ⟨w.heap.size,i,none⟩:=fun i=>VF.cell (p:=⟨w.heap.size,i,none⟩) oJ
 have lg:=h.lg;exact⟨(o _).trans h.c0,(o _).trans h.c1,(o _).trans h.c2,h.rs.ak fun b Vz=>VF.block b (by have:=(hP b Vz).1;omega),h.rm.ak fun b Vz=>VF.block b (by have:=(hP b Vz).1;omega),h.cu.ak fun g X6=>VF.block g (by have:=mT X6;omega),h.rd.ak fun g X6=>hk g (by have:=mT X6;omega) (fun e=>h.nv (by rw[e,mT X6])),ho,fun e=>by
  rcases Vu with e2|e2
  {exact h.nv (by rw[<-e2,e])}
  ·rw[e2]at e;injection e with e;omega,RQ h.lt VF.size,h.lg,h.bl.trans (VF.mono oZ),fun b h1 h2=>(VF.block b oZ).trans (h.kp b h1 h2)⟩
end
def NG(sg:List Int)(st:Nat->Nat)(l:List (Nat×Nat))(Sn:Nat)(cs:List Int):Prop:=cs.length=Sn/\∀j,j<Sn->gi cs j=(bK sg st l j:Int)
def Pp(n:Nat)(l:List (Nat×Nat))(bs:List Bool):Prop:=bs.length=n/\∀c,c<n->(gb bs c=true↔c∈l.map (·.1))
theorem Pp.snoc{n:Nat}{l:List (Nat×Nat)}{bs:List Bool}(h:Pp n l bs){c i:Nat}(hc:c<n):Pp n (l++[(c,i)]) (bs.set c true):=by refine⟨by rw[Ry];exact h.1,fun x hx=>?_⟩;rw[mJ (by rw[h.1];exact hc),SB,SS];by_cases e:x=c;{rw[Re e,e];simp};{rw[Rc e,h.2 x hx];simp[e]}
theorem NG.snoc{sg:List Int}{st:Nat->Nat}{l:List (Nat×Nat)}{Sn:Nat}{cs:List Int}(h:NG sg st l Sn cs){c i:Nat}(h1:1<=i)(hi:i<Sn):NG sg st (l++[(c,i)]) Sn ((cs.set (i-1) (ae (oC sg c) 1:Int)).set i (oC sg c:Int)):=by refine⟨by rw[Ry,Ry];exact h.1,fun j hj=>?_⟩;rw[dB (by rw[Ry,h.1];exact hi),dB (by rw[h.1];omega),mm];unfold Eu;by_cases e:j=i;{rw[Re e,Rc (by simp only;omega),Re (by simp only;omega)]};{rw[Rc e];by_cases e':j=i-1;{rw[Re e',Re (by simp only;omega)]};{rw[Rc e',Rc (by simp only;omega),Rc (by simp only;omega)];exact h.2 j hj}}
theorem Cq(sg:List Int)(l:List (Nat×Nat))(c i:Nat):b_ sg (l++[(c,i)])=b_ sg l++[(i:Int)*gi sg c]:=by unfold b_;simp
theorem Ex(sg:List Int)(l:List (Nat×Nat)):(b_ sg l).length=l.length:=by unfold b_;simp
def QM(sg mt:List Int)(Sn:Nat)(st:Nat->Nat)(gc:Nat)(w:World)(e:Ending)(w':World):Prop:=
 ∃l v,Rg sg mt Sn st l/\l.length=sg.length/\e= .returned (.tuple #[v,.bool true])/\OI w' w.heap.size v (b_ sg l)/\Below gc w w'/\∀b,b<w.heap.size->b≠gc->w'.heap[b]?=w.heap[b]?
theorem xe{A1 A2:Option Addr}{c1 c2:Nat}{sg mt:List Int}{gc kc Sn Bc:Nat}{st:Nat->Nat}{p:Nat->Int}{x0:Nat}{cs:List Int}(w:World)(P:Nat->Prop)(hx:RI w P A1 sg)(hy:RI w P A2 mt)(hP:∀b,P b->b<w.heap.size/\b≠gc)(Z0:OI w Bc (.slice (some ⟨gc,0,none⟩) Sn kc) cs)(YW:gc<w.heap.size)
  (H:Bd sg mt 0)(V:BS sg mt p x0)(C:Cut sg mt p x0 Sn st)(Xu:Sn=(aD sg mt).length)(VE:NG sg st [] Sn cs)(hS1:1<=Sn)(hS2:Sn<=256):
  Calls Tryz.prog 69 #[.agg #[.slice A1 sg.length c1,.slice A2 mt.length c2,.int .i64 0],.slice (some ⟨gc,0,none⟩) Sn kc] w (QM sg mt Sn st gc w):=by
 have HH:=Rb H;have HV:=Rb V;have HC:=Rb C;have Wk:=Rb Xu;have Wa:=Rb hP;have hn0:=H.pos;have VO:=H.d.1;have VQ:mt.length<=256:=by have:=H.d.2.1;omega
 have h1:=Ru w (.cells #[.slice A1 sg.length c1,.slice A2 mt.length c2,.int .i64 0] 24);have Vi:Below w.heap.size w (w.alloc (.cells #[.slice A1 sg.length c1,.slice A2 mt.length c2,.int .i64 0] 24)):=(Rh _ _).alloc (Rf _) _;obtain⟨W,hW⟩:∃W,w.alloc (.cells #[.slice A1 sg.length c1,.slice A2 mt.length c2,.int .i64 0] 24)=W:=⟨_,rfl⟩
 have VV:W.heap.size=w.heap.size+1:=by rw[<-hW];simp
 rw[hW]at h1 Vi;have Vj:Below W.heap.size W (W.alloc (.cells (List.replicate sg.length (Value.bool false)).toArray 4)):=(Rh _ _).alloc (Rf _) _;have Zc:=OB.new W (w.heap.size+1) sg.length oZ (by unfold maxLen;omega);obtain⟨gr,Z_⟩:∃g,W.heap.size=g:=⟨_,rfl⟩
 rw[Z_]at Zc;have T0:Hid (yr w (W.alloc (.cells (List.replicate sg.length (Value.bool false)).toArray 4)) P A1 A2 c1 c2 sg mt gc kc Sn gr Bc (.slice none 0 0) cs (List.replicate sg.length false) []):=by
  have o:∀i,(W.alloc (.cells (List.replicate sg.length (Value.bool false)).toArray 4)).cell? ⟨w.heap.size,i,none⟩=W.cell? ⟨w.heap.size,i,none⟩:=fun i=>Vj.cell (p:=⟨w.heap.size,i,none⟩) oJ
  have Yi:=Vi.trans (Vj.mono oZ);refine Rb ⟨(o _).trans ?_,(o _).trans ?_,(o _).trans ?_,hx.ak fun b hb=>Yi.block b (hP b hb).1,hy.ak fun b hb=>Yi.block b (hP b hb).1,Z0.ak fun g hg=>Yi.block g (by have:=mT hg;omega),Zc,OR.nil _ _,by simp[Value.ownBlock],by have:=Vj.size;omega,YW,Yi.mono oZ,fun b h1 h2=>Yi.block b h1⟩<;>(rw[Rt _ _ _ _ _ _ h1];rfl)
 rw[TZ]at T0;have mk:=gH 94 Tryz.underlying94 sg.length oZ W;have HW:=Rb hW;have HGR:=Rb Z_;have c0:W.cell? ⟨w.heap.size,0,none⟩=some (.slice A1 sg.length c1):=by rw[Rt _ _ _ _ _ _ h1];rfl
 have HCS:=Rb VE;clear hx hy hP Z0 YW H V C Xu h1 Vi hW VV Vj Zc Z_ VE;go_enter Tryz.func69,Tryz.ntmps69
 go_upto_region 1 with fail
 rw[HW.out];go_wp2_with fail
 go_step3
 go_wp2_with fail
 go_step3
 go_wp2_with fail;rw[HGR.out];obtain⟨W2,hW2⟩:∃x,W.alloc (.cells (Array.replicate sg.length (Value.bool false)) 4)=x:=⟨_,rfl⟩
 rw[hW2]at T0⊢;clear hW2 mk c0 HW HGR W;go_loopg[6] sg.length (fun g v wx=>∃(l:List (Nat×Nat))(cs':List Int)(bs:List Bool),l.length+g=sg.length/\Hid (Rg sg mt Sn st l)/\Hid (NG sg st l Sn cs')/\Hid (Pp sg.length l bs)/\Hid (yr w wx P A1 A2 c1 c2 sg mt gc kc Sn gr Bc v cs' bs (b_ sg l)))
 case atStart=>exact⟨[],cs,List.replicate sg.length false,oX,Rb (Rg.start HC.out),HCS,Rb ⟨Sd,fun c hc=>by rw[CR (by rw[Sd];exact hc)];simp⟩,T0⟩
 case round=>
  clear T0 HCS cs;obtain⟨l,cs,bs,hlg,HG,HCU,HRD,T1⟩:=hrel;have hwl:=Ex sg l;have HWL:=Rb hwl;obtain⟨A5,k5,WK,-,-,-⟩:=T1.out.wd.shape;rw[hwl]at WK;obtain⟨nl,Y0⟩:∃n,l.length=n:=⟨_,rfl⟩
  rw[Y0]at WK hlg;have Yv:=Rb Y0;clear hwl Y0;subst WK
  cases gk with
  |zero=>obtain rfl:nl=sg.length:=oZ;go_wp2_with fail;(first|rw[Exit.noGoto_ret]|skip);refine RC (v:= .tuple #[.slice A5 sg.length k5,.bool true]) (by simp[results,Tryz.results69,go_sem]) rfl ?_;exact⟨l,_,HG.out,Yv.out,rfl,T1.out.wd.mono oZ,T1.out.bl,T1.out.kp⟩
  |succ g=>
   have Vg:nl<sg.length:=oZ;have Vh:((nl:Int)<(sg.length:Int)):=oZ;go_wp2_with fail;go_loopg[6,8] (Sn-1) (fun g8 v6 v8 wx=>∃i:Nat,1<=i/\i+g8=Sn/\v6= .slice A5 nl k5/\v8= .int .i64 i/\Hid (∀j,1<=j->j<i->¬(gn mt (bK sg st l j)/4=gn mt (bK sg st l (j-1))/4/\gn mt (bK sg st l j)/4∉l.map (·.1)))/\Hid (yr w wx P A1 A2 c1 c2 sg mt gc kc Sn gr Bc (.slice A5 nl k5) cs bs (b_ sg l)))
   case atStart=>exact⟨1,Rf _,oZ,rfl,rfl,Rb (fun j h1 h2=>by omega),T1⟩
   case round=>
    clear T1;obtain⟨i,hi1,hig,rfl,rfl,HNO,T2⟩:=hrel
    cases gk with
    |zero=>exfalso;obtain⟨j,j1,j2,j3,j4⟩:=HG.out.Oa HH.out HV.out HC.out Wk.out (by rw[Yv.out];exact Vg);exact HNO.out j j1 oZ ⟨j3,j4⟩
    |succ g'=>
     have hiS:i<Sn:=oZ;obtain⟨j,hj⟩:∃j,j+1=i:=⟨i-1,oZ⟩
     have hjS:j<Sn:=oZ;have Y1:i-1=j:=oZ;obtain⟨hx1,hx2,-⟩:=HG.out.cur HH.out HC.out hiS;obtain⟨XP,hy2,-⟩:=HG.out.cur HH.out HC.out hjS;obtain⟨x,hx⟩:∃x,bK sg st l i=x:=⟨_,rfl⟩
     obtain⟨y,hy⟩:∃y,bK sg st l j=y:=⟨_,rfl⟩
     rw[hx]at hx1 hx2;rw[hy]at XP hy2;obtain⟨-,-,-,-,WS,hcf⟩:=T2.out.cu.ints_at (by rw[HCU.out.1];omega);have cx:=WS i (by rw[HCU.out.1];exact hiS);have cy:=WS j (by rw[HCU.out.1];exact hjS);rw[HCU.out.2 i hiS,hx]at cx;rw[HCU.out.2 j hjS,hy]at cy;have fx:=hcf i;have fy:=hcf j;obtain⟨b2,o2,e9,Vj,-⟩:=T2.out.rm.at_ hx1;subst e9;have kx:=aN T2.out.rm hx1;have ky:=aN T2.out.rm XP;obtain⟨m1,m2,-,-⟩:=HH.out.d.2.2.2.2.2.1.gn hx1;obtain⟨m3,m4,-,-⟩:=HH.out.d.2.2.2.2.2.1.gn XP;obtain⟨m,hm⟩:∃m,gn mt x=m:=⟨_,rfl⟩
     obtain⟨q,hq⟩:∃q,gn mt y=q:=⟨_,rfl⟩
     rw[m1,hm]at kx;rw[m3,hq]at ky;rw[hm]at m2;rw[hq]at m4;obtain⟨c,hc⟩:∃c,m/4=c:=⟨_,rfl⟩
     obtain⟨d,hdq⟩:∃d,q/4=d:=⟨_,rfl⟩
     have h2:=HH.out.d.2.1;have YU:c<sg.length:=oZ;have hdn:d<sg.length:=oZ;obtain⟨-,hgr1,hgr2,-,hbc,WZ⟩:=T2.out.rd.dO (by rw[HRD.out.1];exact hn0);have cb:=hbc c (by rw[HRD.out.1];exact YU);have fb:=WZ c;obtain⟨bu,hbu⟩:∃b,gb bs c=b:=⟨_,rfl⟩
     rw[hbu]at cb;have d0:=T2.out.c0;have d1:=T2.out.c1;have d2:=T2.out.c2;have t1:((m:Nat):Int).tdiv 4=(c:Int):=by rw[<-hc];exact SZ m 4
     have t2:((q:Nat):Int).tdiv 4=(d:Int):=by rw[<-hdq];exact SZ q 4
     have t3:IntKind.i64.wrap (c:Int)=(c:Int):=SF _ oZ;have t4:IntKind.i64.wrap (d:Int)=(d:Int):=SF _ oZ;have t5:IntKind.i64.wrap ((i:Int)-1)=(j:Int):=by rw[show(i:Int)-1=(j:Int) by omega];exact SF _ oZ
     have HX:Hid (bK sg st l i=x/\bK sg st l (i-1)=y/\gn mt x=m/\gn mt y=q/\m/4=c/\q/4=d):=⟨hx,by rw[Y1];exact hy,hm,hq,hc,hdq⟩;have HIJ:Hid (j+1=i):=Rb hj;have HB:Hid (bu=true↔c∈l.map (·.1)):=Rb (by rw[<-hbu];exact HRD.out.2 c YU);have T5:=T2;clear hx hy WS hcf m1 m3 hm hq hc hdq h2 hbc WZ hbu hj Y1
     cases bu with
     |true=>
      have HNO2:Hid (∀j,1<=j->j<i+1->¬(gn mt (bK sg st l j)/4=gn mt (bK sg st l (j-1))/4/\gn mt (bK sg st l j)/4∉l.map (·.1))):=Rb fun j h1 h2=>by by_cases e:j=i;{rw[e];obtain⟨e1,e2,e3,e4,e5,e6⟩:=HX.out;rw[e1,e3,e5];exact fun h=>h.2 (HB.out.1 rfl)};{exact HNO.out j h1 oZ}
      go_wp2_with fail
      go_quiet(fail)
      go_wp2_with fail
      go_quiet(fail)
      go_wp2_with fail;go_roundg g'
      case rel=>exact⟨i+1,oZ,oZ,rfl,by go_num,HNO2,Rb (T5.out.call Wa.out (RJ (Rh _ _) _))⟩
      case measure=>omega
     |false=>
      by_cases hdc:d=c
      ·have t6:((d:Int)!=(c:Int))=false:=by rw[RK];omega
       have HDC:=Rb hdc;obtain⟨e1,e2,e3,e4,e5,e6⟩:=HX.out;have hgi:gn mt (bK sg st l i)/4=c:=by rw[e1,e3,e5]
       have Yj:gn mt (bK sg st l (i-1))/4=c:=by rw[e2,e4,e6,hdc]
       have Zw:c∉l.map (·.1):=fun h=>by have:=HB.out.2 h;exact absurd this oQ
       have HST:=Rb (HG.out.step HH.out HV.out HC.out hi1 hiS hgi Yj Zw);obtain⟨p1,p2⟩:=HG.out.pair HH.out HV.out HC.out hi1 hiS hgi Yj;have n1:=(cZ HH.out.d XP hy2 (c:=c)).1 (by rw[e2]at p1;exact p1);have n2:=(cZ HH.out.d hx1 hx2 (c:=c)).2 (by rw[e1]at p2;exact p2);have HN1:Hid (aP sg mt y=ae (oC sg c) 1/\aP sg mt x=oC sg c):=⟨n1.1,n2.1⟩;clear e1 e2 e3 e4 e5 e6 hgi Yj Zw p1 p2 n1 n2 hdc;go_wp2_with fail
       go_quiet(fail)
       go_wp2_with fail
       go_quiet(fail)
       refine EZ (fun Z=>yr w Z P A1 (some ⟨b2,o2,none⟩) c1 c2 sg mt gc kc Sn gr Bc (.slice A5 nl k5) cs bs (b_ sg l)) ((T5.out.call Wa.out (RJ (Rh _ _) _)).call Wa.out (RJ (Rh _ _) _)) (fun Z HZ=>?_);have T6:=Rb HZ;clear HZ T5 T2 d0 d1 d2 cx cy fx fy kx ky cb fb t1 t2 t3 t4 t6 hgr1 hgr2 wr;obtain⟨b1,o1,e9,-,-⟩:=T6.out.rs.at_ YU;subst e9;have hs:=HH.out.d.2.2.2.2.1 c YU;obtain⟨s,hsc⟩:∃s,gi sg c=s:=⟨_,rfl⟩
       rw[hsc]at hs;have HSC:=Rb hsc;have VU: -256<=(i:Int)*s:=by rcases hs with e|e<;>rw[e]<;>omega
       have VN:(i:Int)*s<=256:=by rcases hs with e|e<;>rw[e]<;>omega
       have HBL:Hid (0<bs.length):=Rb (by rw[HRD.out.1];exact hn0);obtain⟨-,-,-,-,hbc,WZ⟩:=T6.out.rd.dO HBL.out;have cb:=hbc c (by rw[HRD.out.1];exact YU);have fb:=WZ c;generalize gb bs c=bu at cb;clear hbc WZ hsc hs;go_upto_region 10 with fail
       refine EZ (fun Z=>yr w Z P (some ⟨b1,o1,none⟩) (some ⟨b2,o2,none⟩) c1 c2 sg mt gc kc Sn gr Bc (.slice A5 nl k5) cs (bs.set c true) (b_ sg l)) (T6.out.Qo Wa.out HRD.out.1 HBL.out c) (fun Z7 HZ=>?_);have T7:=Rb HZ;clear HZ T6 cb fb Z bu;have d0:=T7.out.c0;have ks:=aN T7.out.rs YU;rw[HSC.out]at ks;have HBL2:Hid (0<(bs.set c true).length):=Rb (by rw[Ry];exact HBL.out);have XK:Hid ((b_ sg l).length<1099511627776):=Rb (by rw[HWL.out,Yv.out];omega);have HLZ:Hid ((b_ sg l++[(i:Int)*s]).length=nl+1):=Rb (by rw[Rz,HWL.out,Yv.out];rfl);go_upto_region 11 with(at_builtin;refine BV (y:=(i:Int)*s) T7.out.wd XK.out T7.out.lt rfl rfl Tryz.underlying22 rfl rfl ?_;intro v8 w8 ho8 hg8 hob8;have T8:=Rb (T7.out.push Wa.out HBL2.out ho8 hg8 hob8);obtain⟨A6,k6,Wq,-,-,-⟩:=ho8.shape;rw[HLZ.out]at Wq;clear ho8 hg8 hob8 T7 d0 ks XK HLZ;subst Wq)
       have d0:=T8.out.c0;have d1:=T8.out.c1;have d2:=T8.out.c2;have ZC:=Rb HCU.out.1;have HCJ:Hid (gi cs j=(y:Int)):=Rb (by rw[HCU.out.2 j hjS];have h9:=HX.out.2.1;have e:=HIJ.out;rw[show i-1=j by omega]at h9;rw[h9]);have HCI:Hid (gi cs i=(x:Int)):=Rb (by rw[HCU.out.2 i hiS];have:=HX.out.1;rw[this]);obtain⟨-,-,-,-,WS,hcf⟩:=T8.out.cu.ints_at (by rw[ZC.out];omega);have cy:=WS j (by rw[ZC.out];exact hjS);rw[HCJ.out]at cy;have fy:=hcf j;clear WS hcf
       go_region_with(go_at_call 89;refine(vE (some ⟨b1,o1,none⟩) (some ⟨b2,o2,none⟩) c1 c2 sg mt _ P (by exact T8.out.rs) (by exact T8.out.rm) (fun b hb=>by have:=(Wa.out b hb).1;have:=T8.out.lt;show b<w8.heap.size;omega) HH.out.d _ y rfl XP hy2).mono ?_;rintro e w9 ⟨rfl,hb9⟩;rw[HN1.out.1];have T9:=Rb (T8.out.call Wa.out ((Rh w8.heap.size w8).drew.trans hb9));have hcy:=(Ri (a:=⟨gc,j,none⟩) (((Rh w8.heap.size w8).drew.trans hb9).block gc (by have:=T8.out.lg;have:=T8.out.lt;show gc<w8.heap.size;omega))).trans cy;have hfy:=(Ro (a:=⟨gc,j,none⟩) (((Rh w8.heap.size w8).drew.trans hb9).block gc (by have:=T8.out.lg;have:=T8.out.lt;show gc<w8.heap.size;omega))).trans fy;clear hb9)
       all_goals
        refine EZ (fun Z=>yr w Z P (some ⟨b1,o1,none⟩) (some ⟨b2,o2,none⟩) c1 c2 sg mt gc kc Sn gr Bc (.slice A6 (nl+1) k6) (cs.set j (ae (oC sg c) 1:Nat)) (bs.set c true) (b_ sg l++[(i:Int)*s])) (by first|exact T9.out.JN Wa.out ZC.out HBL2.out j _|exact(T9.out.JN Wa.out ZC.out HBL2.out j _).call Wa.out (Rh _ _).drew) (fun Z9 HZ=>?_);have V9:=Rb HZ;clear HZ T9 hcy hfy cy fy d0 d1 d2 T8;have d0:=V9.out.c0;have d1:=V9.out.c1;have d2:=V9.out.c2;have HCL2:Hid ((cs.set j (ae (oC sg c) 1:Int)).length=Sn):=Rb (by rw[Ry];exact ZC.out);obtain⟨-,-,-,-,WS,hcf⟩:=V9.out.cu.ints_at (by rw[HCL2.out];omega);have cx:=WS i (by rw[HCL2.out];exact hiS);rw[dB (by rw[ZC.out];exact hjS),Rc (by have:=HIJ.out;omega),HCI.out]at cx;have fx:=hcf i;clear WS hcf;go_wp2_with fail
        go_region_with(go_at_call 89;refine(vE (some ⟨b1,o1,none⟩) (some ⟨b2,o2,none⟩) c1 c2 sg mt _ P (by exact V9.out.rs) (by exact V9.out.rm) (fun b hb=>by have:=(Wa.out b hb).1;have:=V9.out.lt;show b<Z9.heap.size;omega) HH.out.d _ x rfl hx1 hx2).mono ?_;rintro e w9 ⟨rfl,hb9⟩;rw[HN1.out.2];have T11:=Rb (V9.out.call Wa.out ((Rh Z9.heap.size Z9).drew.trans hb9));have hcx:=(Ri (a:=⟨gc,i,none⟩) (((Rh Z9.heap.size Z9).drew.trans hb9).block gc (by have:=V9.out.lg;have:=V9.out.lt;show gc<Z9.heap.size;omega))).trans cx;have hfx:=(Ro (a:=⟨gc,i,none⟩) (((Rh Z9.heap.size Z9).drew.trans hb9).block gc (by have:=V9.out.lg;have:=V9.out.lt;show gc<Z9.heap.size;omega))).trans fx;clear hb9)
        all_goals
         refine EZ (fun Z=>yr w Z P (some ⟨b1,o1,none⟩) (some ⟨b2,o2,none⟩) c1 c2 sg mt gc kc Sn gr Bc (.slice A6 (nl+1) k6) ((cs.set j (ae (oC sg c) 1:Nat)).set i (oC sg c:Nat)) (bs.set c true) (b_ sg l++[(i:Int)*s])) (by first|exact T11.out.JN Wa.out HCL2.out HBL2.out i _|exact(T11.out.JN Wa.out HCL2.out HBL2.out i _).call Wa.out (Rh _ _).drew) (fun Z10 HZ=>?_);have T12:=Rb HZ;clear HZ T11 hcx hfx cx fx d0 d1 d2 V9;go_wp2_with fail;go_roundg g
         case rel=>refine⟨l++[(c,i)],_,_,by rw[Rz,Yv.out];simp;omega,HST,Rb (HCU.out.snoc (c:=c) hi1 hiS),Rb (HRD.out.snoc (i:=i) YU),?_⟩;rw[Cq,HSC.out,show i-1=j by have:=HIJ.out;omega];exact T12
         case measure=>omega
      ·have t6:((d:Int)!=(c:Int))=true:=by rw[RZ];omega
       have HNO2:Hid (∀j,1<=j->j<i+1->¬(gn mt (bK sg st l j)/4=gn mt (bK sg st l (j-1))/4/\gn mt (bK sg st l j)/4∉l.map (·.1))):=Rb fun j h1 h2=>by by_cases e:j=i;{rw[e];obtain⟨e1,e2,e3,e4,e5,e6⟩:=HX.out;rw[e1,e2,e3,e4,e5,e6];exact fun h=>hdc h.1.symm};{exact HNO.out j h1 oZ}
       clear hdc;go_wp2_with fail
       go_quiet(fail)
       go_wp2_with fail
       go_quiet(fail)
       go_wp2_with fail;go_roundg g'
       case rel=>exact⟨i+1,oZ,oZ,rfl,by go_num,HNO2,Rb (T5.out.call Wa.out (RJ (Rh _ _) _))⟩
       case measure=>omega
theorem K_{f g:Nat->Nat}{h:Nat}(e:∀k,f (it f k h)=g (it f k h)):∀k,it f k h=it g k h
 |0=>rfl
 |k+1=>by show f (it f k h)=g (it g k h);rw[e k,K_ e k]
theorem C5{f g:Nat->Nat}{h:Nat}(e:∀k,it f k h=it g k h):∀u k,wH f h u k=wH g h u k
 |0,_=>rfl
 |u+1,k=>by show(if _ then _ else _)=(if _ then _ else _);rw[e k,C5 e u (k+1)]
theorem MM{f g:Nat->Nat}{N h:Nat}(e:∀k,it f k h=it g k h):bJ f N h=bJ g N h:=by unfold bJ eC;rw[C5 e];exact List.map_congr_left fun k _=>e k
def dU(mt:List Int)(h:Nat):Nat:=e_ (au mt) mt.length il h
def gZ(sg mt:List Int)(i:Nat):List Nat:=(aD sg mt).getD i []
theorem vf{N:Nat}{l:List Nat}(hn:l.Nodup)(hl:∀x∈l,x<N){P:Nat->Bool}(hP:∀x,x<N->(P x=true↔x∈l)):cW P N=l.length:=by
 have:((List.range N).filter P).Perm l:=(SJ (SD.filter _) hn).2 fun x=>by rw[R3,Rm];exact⟨fun h=>(hP x h.1).1 h.2,fun h=>⟨hl x h,(hP x (hl x h)).2 h⟩⟩
 exact this.length_eq
theorem lG{mt:List Int}(hP:aO (au mt) mt.length){x y:Nat}(hx:x<mt.length)(hy:y<mt.length):dU mt x=dU mt y↔y∈bJ (au mt) mt.length x:=by
 have hw:∀h,h<mt.length->il (au mt h)=il h:=fun h _=>rfl
 unfold dU;constructor
 ·intro h
  obtain⟨l1,l2⟩:=fw (f:=au mt) (wt:=il) hP hw hx rfl;have hm:=(rL (f:=au mt) (wt:=il) hP hw hy rfl l1).2 h;have e:(bR (au mt) mt.length il mt.length)[e_ (au mt) mt.length il x]=bJ (au mt) mt.length (fu (au mt) mt.length x):=by have:=RH l1;rw[this]at l2;injection l2
  rw[e]at hm;exact aM hP hx (c_ hP hx).1 hm
 {intro h;unfold e_;rw[iE hP hx h]}
section
variable{sg mt:List Int}{L:Int}
theorem Hf{i:Nat}(hi:i<(aD sg mt).length):∃r,r<mt.length/\ai sg r=true/\gZ sg mt i=bJ (aP sg mt) mt.length r:=by
 have hm:(aD sg mt)[i]∈aD sg mt:=R7 hi;have e:gZ sg mt i=(aD sg mt)[i]:=by unfold gZ;rw[Rw,RH hi];rfl
 rw[e];unfold aD bR at hm;rw[So]at hm;obtain⟨r,hr,e2⟩:=hm;rw[R3,Rm,RA]at hr;exact⟨r,hr.1,hr.2.1,e2.symm⟩
variable(H:Bd sg mt L)
include H
theorem Bd.qV{i h:Nat}(hi:i<(aD sg mt).length)(hh:h<mt.length)(ho:ai sg h=true):h∈gZ sg mt i↔i=e_ (aP sg mt) mt.length (ai sg) h:=by
 have e:gZ sg mt i=(aD sg mt)[i]:=by unfold gZ;rw[Rw,RH hi];rfl
 rw[e];exact rL (aI H.d) (fZ H.d) hh ho hi
theorem Bd.fw{h:Nat}(hh:h<mt.length)(ho:ai sg h=true):e_ (aP sg mt) mt.length (ai sg) h<(aD sg mt).length:=(Go.Proofs.YtdbhigmklejicaaGreat.fw (aI H.d) (fZ H.d) hh ho).1
theorem Bd.eK{i h:Nat}(hi:i<(aD sg mt).length)(hm:h∈gZ sg mt i):h<mt.length/\ai sg h=true:=by obtain⟨r,h1,h2,h3⟩:=Hf hi;rw[h3]at hm;have hs:sC sg mt r h:=hm;exact⟨sC.lt H.d h1 hs,sC.out H.d h1 h2 hs⟩
theorem Bd.ke{i:Nat}(hi:i<(aD sg mt).length):(gZ sg mt i).getD 0 0∈gZ sg mt i/\0<(gZ sg mt i).length/\gZ sg mt i=bJ (aP sg mt) mt.length ((gZ sg mt i).getD 0 0)/\(gZ sg mt i).Nodup:=by
 obtain⟨r,h1,h2,h3⟩:=Hf hi;have hp:=(bz (aI H.d) h1).1;have hl:0<(gZ sg mt i).length:=by rw[h3,eJ];exact hp
 have e0:(gZ sg mt i).getD 0 0=r:=by rw[h3,Rw,RH (by rw[eJ];exact hp)];simp[bJ,it]
 refine⟨?_,hl,by rw[e0];exact h3,by rw[h3];exact vm (aI H.d) h1⟩;rw[e0,h3];exact bE (aI H.d) h1
variable{p:Nat->Int}{x0:Nat}(V:BS sg mt p x0)
include V
def BR(p:Nat->Int)(x0 h:Nat):Nat:=(p x0-p h).toNat
theorem Bd.jC{h:Nat}(hh:h<mt.length)(ho:ai sg h=true):p h=p x0-BR p x0 h/\BR p x0 h<(aD sg mt).length:=by
 obtain⟨d,h1,h2⟩:=(H.levels V).1 h hh ho;have e:BR p x0 h=d:=by unfold BR;omega
 rw[e];exact⟨h2,h1⟩
def jl(sg mt:List Int)(p:Nat->Int)(x0 i:Nat):Nat:=BR p x0 ((gZ sg mt i).getD 0 0)
theorem Bd.yf{i h:Nat}(hi:i<(aD sg mt).length)(hm:h∈gZ sg mt i):BR p x0 h=jl sg mt p x0 i:=by
 obtain⟨h1,-,h3,-⟩:=H.ke hi;obtain⟨a,b⟩:=H.eK hi h1;have hs:sC sg mt ((gZ sg mt i).getD 0 0) h:=by have:=hm;rw[h3]at this;exact this
 obtain⟨c,d⟩:=H.eK hi hm;have:=((H.same V) a b c d).1 hs;unfold jl BR;rw[this]
theorem Bd.Hn{i:Nat}(hi:i<(aD sg mt).length):jl sg mt p x0 i<(aD sg mt).length:=by obtain⟨h1,-,-,-⟩:=H.ke hi;obtain⟨a,b⟩:=H.eK hi h1;exact((H.jC V) a b).2
theorem Bd.lZ{h:Nat}(hh:h<mt.length)(ho:ai sg h=true):jl sg mt p x0 (e_ (aP sg mt) mt.length (ai sg) h)=BR p x0 h:=by have hi:=H.fw hh ho;exact((H.yf V) hi ((H.qV hi hh ho).2 rfl)).symm
theorem Bd.lY{i j:Nat}(hi:i<(aD sg mt).length)(hj:j<(aD sg mt).length)(e:jl sg mt p x0 i=jl sg mt p x0 j):i=j:=by
 obtain⟨h1,-,-,-⟩:=H.ke hi;obtain⟨k1,-,k3,-⟩:=H.ke hj;obtain⟨a,b⟩:=H.eK hi h1;obtain⟨c,d⟩:=H.eK hj k1;have e1:=((H.jC V) a b).1;have e2:=((H.jC V) c d).1;have hs:sC sg mt ((gZ sg mt j).getD 0 0) ((gZ sg mt i).getD 0 0):=((H.same V) c d a b).2 (by unfold jl at e;rw[e1,e2,e]);have hm:(gZ sg mt i).getD 0 0∈gZ sg mt j:=by rw[k3];exact hs
 rw[(H.qV hi a b).1 h1,(H.qV hj a b).1 hm]
theorem Bd.t_{d:Nat}(hd:d<(aD sg mt).length):∃i,i<(aD sg mt).length/\jl sg mt p x0 i=d:=by obtain⟨y,h1,h2,h3⟩:=(H.levels V).2 d hd;refine⟨_,H.fw h1 h2,?_⟩;rw[(H.lZ V) h1 h2];unfold BR;omega
theorem Bd.AD{c:Nat}(hc:c<sg.length):jl sg mt p x0 (e_ (aP sg mt) mt.length (ai sg) (oC sg c))=jl sg mt p x0 (e_ (aP sg mt) mt.length (ai sg) (ae (oC sg c) 1))+1:=by obtain⟨o1,o2,-,-⟩:=bZ H.d hc;obtain⟨l1,l2⟩:=aK H.d hc 1;rw[(H.lZ V) l2 o1,(H.lZ V) l1 o2];have e1:=((H.jC V) l2 o1).1;have e2:=((H.jC V) l1 o2).1;have e3:=jO H.d V.f V.e hc;omega
theorem Bd.AB{d:Nat}(hd:d+1<(aD sg mt).length):∃c,c<sg.length/\jl sg mt p x0 (e_ (aP sg mt) mt.length (ai sg) (ae (oC sg c) 1))=d/\jl sg mt p x0 (e_ (aP sg mt) mt.length (ai sg) (oC sg c))=d+1:=by
 obtain⟨y,h1,h2,h3⟩:=(H.levels V).2 (d+1) hd;obtain⟨e,hw,he⟩:=(H.Pt V) h1 h2;obtain rfl:e=d+1:=oZ;obtain⟨z,-,c,hc,-,c2⟩:=hw;obtain⟨o1,o2,-,-⟩:=bZ H.d hc;obtain⟨l1,l2⟩:=aK H.d hc 1;have hp:=((H.same V) l2 o1 h1 h2).1 c2;have hl:=(H.AD V) hc;have e1:jl sg mt p x0 (e_ (aP sg mt) mt.length (ai sg) (oC sg c))=d+1:=by rw[(H.lZ V) l2 o1];unfold BR;omega
 exact⟨c,hc,oZ,e1⟩
theorem Bd.GN{i:Nat}(hi:i<(aD sg mt).length)(h0:jl sg mt p x0 i=0):(∀h∈gZ sg mt i,dU mt h=dU mt ((gZ sg mt i).getD 0 0))/\cW (fun h=>decide (dU mt h=dU mt ((gZ sg mt i).getD 0 0))) mt.length=(gZ sg mt i).length:=by
 have hPF:aO (au mt) mt.length:=aU H.d.2.2.2.2.2.1 H.d.2.1;obtain⟨h1,-,h3,h4⟩:=H.ke hi;obtain⟨a,b⟩:=H.eK hi h1;obtain⟨r,hr⟩:∃r,(gZ sg mt i).getD 0 0=r:=⟨_,rfl⟩
 unfold jl at h0;rw[hr]at h0 h1 h3 a b⊢;have e1:=((H.jC V) a b).1;have hs:sC sg mt x0 r:=((H.same V) V.lt V.o a b).2 (by rw[e1,h0];omega);have step:∀k,aP sg mt (it (aP sg mt) k r)=au mt (it (aP sg mt) k r):=by
  intro k;have hk:sC sg mt r (it (aP sg mt) k r):=(aG (aI H.d) a).2 ⟨k,rfl⟩;have VA:=sC.lt H.d a hk;have hko:=sC.out H.d a b hk;generalize it (aP sg mt) k r=x at hk VA hko;have hc:gn mt x/4<sg.length:=by have:=(H.d.2.2.2.2.2.1.gn VA).2.1;have:=H.d.2.1;omega
  rcases vD H.d VA hko with e|e
  {obtain⟨n1,n2⟩:=(cZ H.d VA hko (c:=gn mt x/4)).1 e;rw[n1,n2]};{exfalso;obtain⟨n1,-⟩:=(cZ H.d VA hko (c:=gn mt x/4)).2 e;have VK:sC sg mt x0 (oC sg (gn mt x/4)):=sC.trans H.d V.lt hs (sC.trans H.d a hk (by rw[<-n1];exact sC.next H.d VA));exact V.top _ hc (sC.symm H.d V.lt VK)}
 have hc:bJ (aP sg mt) mt.length r=bJ (au mt) mt.length r:=MM (K_ step);have Vm:∀h,h∈gZ sg mt i↔h∈bJ (au mt) mt.length r:=fun h=>by rw[h3,hc]
 refine⟨fun h hm=>((lG hPF a (H.eK hi hm).1).2 ((Vm h).1 hm)).symm,?_⟩;refine vf h4 (fun x hx=>(H.eK hi hx).1) fun x hx=>?_
 rw[RE,Vm,<-lG hPF a hx];exact eq_comm
theorem Bd.GR{i:Nat}(hi:i<(aD sg mt).length)(hf:∀h∈gZ sg mt i,dU mt h=dU mt ((gZ sg mt i).getD 0 0))(hn:cW (fun h=>decide (dU mt h=dU mt ((gZ sg mt i).getD 0 0))) mt.length=(gZ sg mt i).length):jl sg mt p x0 i=0:=by
 have hPF:aO (au mt) mt.length:=aU H.d.2.2.2.2.2.1 H.d.2.1;obtain⟨h1,-,h3,h4⟩:=H.ke hi;obtain⟨a,b⟩:=H.eK hi h1;obtain⟨r,hr⟩:∃r,(gZ sg mt i).getD 0 0=r:=⟨_,rfl⟩
 have We:jl sg mt p x0 i=BR p x0 r:=by unfold jl;rw[hr]
 rw[hr]at h1 h3 a b hf hn;rw[We];have Vx:∀z,z<mt.length->dU mt z=dU mt r->z∈gZ sg mt i:=by
  intro z hz e;refine Rq fun Vh=>?_
  have Yz:(z::gZ sg mt i).Nodup:=SC.2 ⟨Vh,h4⟩;have e1:cW (fun h=>decide (h∈z::gZ sg mt i)) mt.length=(z::gZ sg mt i).length:=vf Yz (fun x hx=>by
   rcases RV.1 hx with rfl|hx
   {exact hz}
   ·exact(H.eK hi hx).1) fun x _=>by rw[RE]
  have e2:=kB (A:=fun h=>decide (h∈z::gZ sg mt i)) (B:=fun h=>decide (dU mt h=dU mt r)) (N:=mt.length) (M:=mt.length) id (fun x hx hy=>⟨hx,by
   have hy:=RU hy;show decide (dU mt x=dU mt r)=true;rw[RE];rcases RV.1 hy with rfl|hy
   {exact e}
   ·exact hf x hy⟩) (fun x y _ _ _ _ e=>e)
  rw[e1,hn,SI]at e2;omega
 have hb:¬hasB sg mt r:=by rintro⟨c,hc,hm⟩;have hz:=dJ hPF a hm;have:=(H.eK hi (Vx _ hz ((lG hPF a hz).2 hm).symm)).2;rw[(bZ H.d hc).2.2.1]at this;exact absurd this oQ
 obtain⟨ht,-⟩:=H.tW a b hb;have:=((H.same V) a b V.lt V.o).1 (H.CV a b V.lt V.o ht V.top);unfold BR;omega
theorem H7{x z:Nat}(hx:x<mt.length)(hz:z∈bJ (au mt) mt.length x):p z=p x:=by
 have hPF:aO (au mt) mt.length:=aU H.d.2.2.2.2.2.1 H.d.2.1;obtain⟨k,rfl⟩:=(aG hPF hx).1 hz
 induction k with
 |zero=>rfl
 |succ k ih=>show p (au mt (it (au mt) k x))=_;rw[V.f _ (hPF.bL k hx)];exact ih ((aG hPF hx).2 ⟨k,rfl⟩)
theorem Bd.LO{j e:Nat}(hj:j<(aD sg mt).length)(he:e<mt.length)(oe:ai sg e=true)(hl:jl sg mt p x0 j=BR p x0 e+1):∃z∈gZ sg mt j,dU mt z=dU mt (gn mt e):=by
 have hPF:aO (au mt) mt.length:=aU H.d.2.2.2.2.2.1 H.d.2.1;obtain⟨-,g1,-,-⟩:=H.d.2.2.2.2.2.1.gn he;have Vg:=(H.Hn V) hj;obtain⟨c,hc,c1,c2⟩:=(H.AB V) (show BR p x0 e+1<(aD sg mt).length by omega);have hb:¬Eo sg mt e:=fun h=>h c hc (by
  obtain⟨o1,o2,-,-⟩:=bZ H.d hc;obtain⟨l1,l2⟩:=aK H.d hc 1;refine((H.same V) l1 o2 he oe).2 ?_;rw[(H.lZ V) l1 o2]at c1;have e1:=((H.jC V) l1 o2).1;have e2:=((H.jC V) he oe).1;rw[e1,e2,c1])
 obtain⟨z,hz,oz⟩:=H.FR he oe hb;have VR:=dJ hPF g1 hz;refine⟨z,?_,((lG hPF g1 VR).2 hz).symm⟩;rw[H.qV hj VR oz];refine(H.lY V) hj (H.fw VR oz) ?_;rw[(H.lZ V) VR oz,hl];have e1:=H7 H V g1 hz;have e2:=V.e e he;rw[Re oe]at e2;have e3:=((H.jC V) he oe).1;unfold BR at e3⊢;omega
theorem Bd.Mu{S:Nat}(hS:S=(aD sg mt).length){st:Nat->Nat}(h:∀j,j<S->∃i,i<S/\jl sg mt p x0 i=j/\st j∈gZ sg mt i)(hf:∀j,1<=j->j<S->dU mt (st j)=dU mt (gn mt (st (j-1)))):Cut sg mt p x0 S st:=by
 have hPF:aO (au mt) mt.length:=aU H.d.2.2.2.2.2.1 H.d.2.1;subst hS;have h1:∀j,j<(aD sg mt).length->st j<mt.length/\ai sg (st j)=true/\p (st j)=p x0-j:=fun j hj=>by obtain⟨i,hi,e,hm⟩:=h j hj;obtain⟨a,b⟩:=H.eK hi hm;exact⟨a,b,by rw[((H.jC V) a b).1,(H.yf V) hi hm,e]⟩
 refine⟨h1,fun j hj1 hj=>?_⟩;have g1:=(H.d.2.2.2.2.2.1.gn (h1 (j-1) oZ).1).2.1;exact(lG hPF g1 (h1 j hj).1).1 (hf j hj1 hj).symm
end
open Go.Maps
structure iW(D:DataW Unit)(F:Int->Int):Prop where
 m:IsMap D
 at_:∀x,D.atKey (.int .i64 x) (.lit (.int .i64 0))= .lit (.int .i64 (F x))
theorem iW.put{D:DataW Unit}{F:Int->Int}(h:iW D F)(l c:Int):iW (D.put (.int .i64 l) (.lit (.int .i64 c))) (fun x=>if x=l then c else F x):=by refine⟨h.m.put _ _,fun x=>?_⟩;by_cases e:x=l;{subst e;rw[atKey_put_same h.m (show WideAt.IsKeyLit (.int .i64 x)from trivial),Re rfl]};{rw[atKey_put_other (fun e'=>e (by injection e')),Rc e];exact h.at_ x}
theorem iW.congr{D:DataW Unit}{F G:Int->Int}(h:iW D F)(hFG:∀x,F x=G x):iW D G:=⟨h.m,fun x=>by rw[h.at_,hFG]⟩
theorem iW.nil:iW (.map []) (fun _=>0):=⟨isMap_empty,fun _=>rfl⟩
theorem Bx:Keyed Tryz.prog 3:=int_keyed Tryz.underlying3
theorem Hc(w:World):(zeroValue 3).run Tryz.prog w= .ok (.int .i64 0) w:=by kernel_rfl
theorem pR{x:Int}(h: -9223372036854775808<=x/\x<=9223372036854775807):(Lit.int .i64 x).wf=true:=by have Zr:IntKind.i64.min= -9223372036854775808:=rfl;have hmax:IntKind.i64.max=9223372036854775807:=rfl;simp only[Lit.wf,RA,RE];omega
def yC(w:World)(bm N:Nat)(F:Nat->Nat):Prop:=∃(km:Nat)(D:DataW Unit)(G:Int->Int),w.ownsMap Tryz.prog 3 (plainElem Tryz.prog 3) bm km D/\iW D G/\(∀h,h<N->G (h:Int)=(F h:Int))/\∀x:Int,Go.Maps.has D (.int .i64 x)=decide (0<=x/\x<N)
theorem gO{H:Type}{P:Program}{k:TypeId}{R:Value->Option (DataW H×List MemPlace)}{w w':World}{b n:Nat}{D:DataW H}(h:w.ownsMap P k R b n D)(he:w'.heap[b]?=w.heap[b]?):w'.ownsMap P k R b n D:=by obtain⟨es,clock,hb,F,hs,hD⟩:=h;exact⟨es,clock,he.trans hb,F,hs,hD⟩
theorem yC.same{w w':World}{bm N:Nat}{F:Nat->Nat}(h:yC w bm N F)(he:w'.heap[bm]?=w.heap[bm]?):yC w' bm N F:=by obtain⟨km,D,G,h1,h2,h3⟩:=h;exact⟨km,D,G,gO h1 he,h2,h3⟩
theorem yC.look{w:World}{bm N:Nat}{F:Nat->Nat}(h:yC w bm N F){x:Nat}(hx:x<N)(hl:N<=1000):(Instr.lookup 105 (.map (some bm)) (.int .i64 (x:Int)) false).run Tryz.prog w= .ok (.int .i64 (F x:Int)) w:=by
 obtain⟨km,D,G,h1,h2,h3⟩:=h;have Yw:keyOf Tryz.prog 3 (.int .i64 (x:Int))=some (.int .i64 (x:Int)):=keyOf_int_mk Tryz.underlying3 (pR oZ);obtain⟨c,VG,Zo,-⟩:=h1.lookup_int Bx Tryz.underlying105 Tryz.underlying3 (Hc w) Yw;have e:=Zo.symm.trans (h2.at_ (x:Int));injection e with e
 injection e with _ e
 rw[VG,e,h3.1 x hx]
def yz(sg mt:List Int)(Sn:Nat)(idx:Nat->Nat):List (List Nat):=(List.range Sn).map fun j=>gZ sg mt (idx j)
theorem ri(sg mt:List Int)(Sn:Nat)(idx:Nat->Nat):(rows (yz sg mt Sn idx)).length=Sn:=by unfold rows yz;simp
theorem Gg{sg mt:List Int}{Sn:Nat}{idx:Nat->Nat}{k:Nat}(hk:k<Sn):(rows (yz sg mt Sn idx)).getD k []=ints (gZ sg mt (idx k)):=by unfold rows yz;rw[Rw,RH (by simpa using hk)];simp
def Kl(sg mt:List Int)(idx:Nat->Nat)(ch:List Int)(k:Nat):Prop:=ch.length=k/\∀j,j<k->gi ch j=(gn ch j:Int)/\gn ch j∈gZ sg mt (idx j)/\(1<=j->dU mt (gn ch j)=dU mt (gn mt (gn ch (j-1))))
theorem Kl.snoc{sg mt:List Int}{idx:Nat->Nat}{ch:List Int}{k h:Nat}(H:Kl sg mt idx ch k)(hm:h∈gZ sg mt (idx k))(hf:1<=k->dU mt h=dU mt (gn mt (gn ch (k-1)))):Kl sg mt idx (ch++[(h:Int)]) (k+1):=by
 obtain⟨h1,h2⟩:=H;have e1:∀j,j<k->gi (ch++[(h:Int)]) j=gi ch j:=fun j hj=>by unfold gi;rw[Rw,Rw,TE oZ]
 have e2:gi (ch++[(h:Int)]) k=(h:Int):=by unfold gi;rw[Rw,Uc oZ,h1];simp
 have e3:∀j,j<k->gn (ch++[(h:Int)]) j=gn ch j:=fun j hj=>by unfold gn;rw[e1 j hj]
 have e4:gn (ch++[(h:Int)]) k=h:=by unfold gn;rw[e2];rfl
 refine⟨by rw[Rz,h1];rfl,fun j hj=>?_⟩;by_cases e:j=k;{subst e;rw[e2,e4];exact⟨rfl,hm,fun h3=>by rw[e3 _ oZ];exact hf h3⟩};{have YP:j<k:=oZ;rw[e1 j YP,e3 j YP];obtain⟨a,b,c⟩:=h2 j YP;exact⟨a,b,fun h3=>by rw[e3 _ oZ];exact c h3⟩}
structure ET(w wr:World)(P R:Nat->Prop)(A1 A2 Ac:Option Addr)(c1 c2:Nat)(sg mt:List Int)(xss:List (List Int))(bm:Nat)(v:Value)(ch:List Int):Prop where
 c0:wr.cell? ⟨w.heap.size,0,none⟩=some (.slice A1 sg.length c1)
 c1:wr.cell? ⟨w.heap.size,1,none⟩=some (.slice A2 mt.length c2)
 c2:wr.cell? ⟨w.heap.size,2,none⟩=some (.int .i64 0)
 rm:RI wr P A2 mt
 rx:RL wr R Ac xss
 fm:yC wr bm mt.length (dU mt)
 ch:OI wr (w.heap.size+1) v ch
 lt:w.heap.size+1<=wr.heap.size
 bl:Below w.heap.size w wr
section
variable{w wr w':World}{P R:Nat->Prop}{A1 A2 Ac:Option Addr}{c1 c2:Nat}{sg mt:List Int}{xss:List (List Int)}{bm:Nat}{v v':Value}{ch ch':List Int}
theorem ET.step(h:ET w wr P R A1 A2 Ac c1 c2 sg mt xss bm v ch)(hP:∀b,P b\/R b\/b=bm->b<w.heap.size)(hb:Below (w.heap.size+1) wr w')(ho:OI w' (w.heap.size+1) v' ch'):ET w w' P R A1 A2 Ac c1 c2 sg mt xss bm v' ch':=by
 have hl:=h.lt;have o:∀i,w'.cell? ⟨w.heap.size,i,none⟩=wr.cell? ⟨w.heap.size,i,none⟩:=fun i=>hb.cell (p:=⟨w.heap.size,i,none⟩) oJ
 exact⟨(o _).trans h.c0,(o _).trans h.c1,(o _).trans h.c2,h.rm.ak fun b Vz=>hb.block b (by have:=hP b (.inl Vz);omega),h.rx.ak fun b Vz=>hb.block b (by have:=hP b (.inr (.inl Vz));omega),h.fm.same (hb.block bm (by have:=hP bm (.inr (.inr rfl));omega)),ho,RQ hl hb.size,h.bl.trans (hb.mono oZ)⟩
theorem ET.call(h:ET w wr P R A1 A2 Ac c1 c2 sg mt xss bm v ch)(hP:∀b,P b\/R b\/b=bm->b<w.heap.size)(hb:Below wr.heap.size wr w'):ET w w' P R A1 A2 Ac c1 c2 sg mt xss bm v ch:=h.step hP (hb.mono h.lt) (h.ch.below hb (Rf _))
theorem ET.push{y:Int}(h:ET w wr P R A1 A2 Ac c1 c2 sg mt xss bm v ch)(hP:∀b,P b\/R b\/b=bm->b<w.heap.size)(ho:OI w' (w.heap.size+1) v' ch')(hg:(wr.alloc (.cells #[.int .i64 y] 3)).grownBy w' v.ownBlock):ET w w' P R A1 A2 Ac c1 c2 sg mt xss bm v' ch':=
 h.step hP (h.ch.eL (Rh _ _) h.lt _ hg) ho
end
def Jm(mt ch:List Int)(k h:Nat):Prop:=k=0\/dU mt h=dU mt (gn mt (gn ch (k-1)))
def K4(mt ch:List Int)(k:Nat)(row:List Nat)(i:Nat)(v:Int):Prop:=(v= -1/\∀j,j<i->¬Jm mt ch k (row.getD j 0))\/∃h,h∈row/\v=(h:Int)/\Jm mt ch k h
def Ra(sg mt:List Int)(Sn:Nat)(idx:Nat->Nat)(w:World)(e:Ending)(w':World):Prop:=
 ∃v ch,Kl sg mt idx ch Sn/\e= .returned v/\OI w' w.heap.size v ch/\Below w.heap.size w w'
theorem Bd.C9{sg mt:List Int}{L:Int}(H:Bd sg mt L){i:Nat}(hi:i<(aD sg mt).length):(gZ sg mt i).length<=mt.length:=by obtain⟨h1,-,h3,-⟩:=H.ke hi;obtain⟨a,b⟩:=H.eK hi h1;rw[h3,eJ];exact(bz (aI H.d) a).2.1
theorem Fs{A1 A2 Ac:Option Addr}{c1 c2 cc:Nat}{sg mt:List Int}{p:Nat->Int}{x0 Sn bm:Nat}{idx:Nat->Nat}(w:World)(P R:Nat->Prop)(hP:∀b,P b\/R b\/b=bm->b<w.heap.size)(hy:RI w P A2 mt)(hr:RL w R Ac (rows (yz sg mt Sn idx)))(hf:yC w bm mt.length (dU mt))
  (H:Bd sg mt 0)(V:BS sg mt p x0)(Xu:Sn=(aD sg mt).length)(hS2:Sn<=256)(V2:∀j,j<Sn->idx j<Sn/\jl sg mt p x0 (idx j)=j):
  Calls Tryz.prog 67 #[.agg #[.slice A1 sg.length c1,.slice A2 mt.length c2,.int .i64 0],.slice Ac Sn cc,.map (some bm)] w (Ra sg mt Sn idx w):=by
 have HH:=Rb H;have HV:=Rb V;have Wk:=Rb Xu;have Wa:=Rb hP;have HIX:=Rb V2;have VQ:mt.length<=256:=by have:=H.d.1;have:=H.d.2.1;omega
 have h1:=Ru w (.cells #[.slice A1 sg.length c1,.slice A2 mt.length c2,.int .i64 0] 24);have Vi:Below w.heap.size w (w.alloc (.cells #[.slice A1 sg.length c1,.slice A2 mt.length c2,.int .i64 0] 24)):=(Rh _ _).alloc (Rf _) _;have T0:Hid (ET w (w.alloc (.cells #[.slice A1 sg.length c1,.slice A2 mt.length c2,.int .i64 0] 24)) P R A1 A2 Ac c1 c2 sg mt (rows (yz sg mt Sn idx)) bm (.slice none 0 0) []):=by refine Rb ⟨?_,?_,?_,hy.ak fun b hb=>Vi.block b (hP b (.inl hb)),hr.ak fun b hb=>Vi.block b (hP b (.inr (.inl hb))),hf.same (Vi.block bm (hP bm (.inr (.inr rfl)))),OR.nil _ _,oX,Vi⟩<;>(rw[Rt _ _ _ _ _ _ h1];rfl)
 clear hP hy hr hf H V Xu h1 Vi V2;go_enter Tryz.func67,Tryz.ntmps67
 go_wp2_with fail;go_loopg[7,16] Sn (fun g v i wx=>∃(k:Nat)(ch:List Int),k+g=Sn/\i= .int .i64 k/\Hid (Kl sg mt idx ch k)/\Hid (ET w wx P R A1 A2 Ac c1 c2 sg mt (rows (yz sg mt Sn idx)) bm v ch))
 case atStart=>exact⟨0,[],oZ,rfl,Rb ⟨rfl,fun j h=>absurd h (RG _)⟩,T0⟩
 case round=>
  clear T0;obtain⟨k,ch,hkg,rfl,HC,T1⟩:=hrel;obtain⟨A5,k5,WK,-,-,-⟩:=T1.out.ch.shape;rw[HC.out.1]at WK;subst WK
  cases gk with
  |zero=>obtain rfl:k=Sn:=oZ;go_wp2_with fail;(first|rw[Exit.noGoto_ret]|skip);refine RC (v:= .slice A5 k k5) (by simp[results,Tryz.results67,go_sem]) rfl ?_;exact⟨_,ch,HC.out,rfl,T1.out.ch.mono oZ,T1.out.bl⟩
  |succ g=>
   have Vg:k<Sn:=oZ;obtain⟨bx,ox,hAc,-,hcg⟩:=T1.out.rx.at_ (k:=k) (by rw[ri];exact Vg);obtain⟨Ak,ck,ZE,Ys,-⟩:=hcg k (by rw[ri];exact Vg);rw[Gg Vg,aH]at ZE;rw[Gg Vg]at Ys;subst hAc;obtain⟨row,VB⟩:∃row,gZ sg mt (idx k)=row:=⟨_,rfl⟩
   rw[VB]at ZE Ys;have WD:row.length<=256:=by rw[<-VB];have:=HH.out.C9 (i:=idx k) (by rw[<-Wk.out];exact(HIX.out k Vg).1);omega
   have X3:=Rb VB;have HRK:=Rb Ys;clear hcg Ys VB;go_wp2_with fail;go_loopg[10,23] row.length (fun g v i wx=>∃(j:Nat)(le:Int),j+g=row.length/\i= .int .i64 j/\v= .int .i64 le/\Hid (K4 mt ch k row j le)/\Hid (RI wx R Ak (ints row))/\Hid (ET w wx P R A1 A2 (some ⟨bx,ox,none⟩) c1 c2 sg mt (rows (yz sg mt Sn idx)) bm (.slice A5 k k5) ch))
   case atStart=>exact⟨0,-1,oZ,rfl,rfl,Rb (.inl ⟨rfl,fun j h=>absurd h (RG _)⟩),HRK,T1⟩
   case round=>
    clear T1 HRK ZE;obtain⟨j,le,hjg,rfl,rfl,HL,HR2,T2⟩:=hrel
    cases gk with
    |zero=>
     obtain rfl:j=row.length:=oZ;have hex:∃h,h∈row/\Jm mt ch k h:=by
      have hik:=HIX.out k Vg;rcases Se k with Yg|Yg
      {obtain⟨h1,-⟩:=HH.out.ke (i:=idx k) (by rw[<-Wk.out];exact hik.1);rw[X3.out]at h1;exact⟨_,h1,.inl Yg⟩}
      ·obtain⟨hc1,Xd,-⟩:=HC.out.2 (k-1) oZ
       have hiq:=HIX.out (k-1) oZ;obtain⟨Vo,hco⟩:=HH.out.eK (i:=idx (k-1)) (by rw[<-Wk.out];exact hiq.1) Xd;obtain⟨z,VU,VN⟩:=HH.out.LO HV.out (show idx k<(aD sg mt).length by rw[<-Wk.out];exact hik.1) Vo hco (by
        rw[hik.2,(HH.out.yf HV.out) (by rw[<-Wk.out];exact hiq.1) Xd,hiq.2];omega)
       rw[X3.out]at VU;exact⟨z,VU,.inr VN⟩
     obtain⟨h,hm,rfl,hfit⟩:∃h,h∈row/\le=((h:Nat):Int)/\Jm mt ch k h:=by
      rcases HL.out with⟨-,e⟩|e
      {obtain⟨h,h1,h2⟩:=hex;obtain⟨i,hi,e2⟩:=Te h1;refine absurd h2 ?_;have:=e i hi;rw[Rw,RH hi]at this;rw[<-e2];exact this};{exact e}
     have HCS:Hid (Kl sg mt idx (ch++[(h:Int)]) (k+1)):=Rb (HC.out.snoc (by rw[X3.out];exact hm) fun hk=>hfit.elim (fun e=>absurd e oZ) id);have XK:Hid (ch.length<1099511627776):=Rb (by rw[HC.out.1];omega);clear hex hm hfit HL;go_wp2_with(at_builtin;refine BV (y:=(h:Int)) T2.out.ch XK.out T2.out.lt rfl rfl Tryz.underlying22 rfl rfl ?_;intro v8 w8 ho8 hg8 hob8;have T8:=Rb (T2.out.push Wa.out ho8 hg8);clear ho8 hg8 hob8);go_roundg g
     case rel=>exact⟨k+1,_,oZ,by go_num,HCS,T8⟩
     case measure=>omega
    |succ g'=>
     have hj:j<row.length:=oZ;obtain⟨bk,ok,e9,-,-⟩:=HR2.out.at_ (k:=j) (by rw[aH];exact hj);subst e9;have kx:=aN HR2.out (k:=j) (by rw[aH];exact hj);rw[je hj]at kx;obtain⟨h,hh⟩:∃h,gN row j=h:=⟨_,rfl⟩
     rw[hh]at kx;have Vm:h∈row:=by rw[<-hh];unfold gN;rw[Rw,RH hj];exact R7 hj
     have Zo:=HH.out.eK (i:=idx k) (by rw[<-Wk.out];exact(HIX.out k Vg).1) (h:=h) (by rw[X3.out];exact Vm);have HM:=Rb Vm;have HHE:=Rb hh;have V4:h<mt.length:=Zo.1;clear Vm Zo hh;rcases Se k with Yg|Yg
     ·subst Yg
      have HFT:Hid (Jm mt ch 0 h):=Rb (.inl rfl);go_wp2_with fail
      go_quiet(fail)
      by_cases We:le<0
      ·have d0:decide (le<0)=true:=Rj We
       have Yv:Hid (K4 mt ch 0 row (j+1) (h:Int)):=Rb (.inr ⟨h,HM.out,rfl,HFT.out⟩);go_wp2_with fail;go_roundg g'
       case rel=>exact⟨j+1,_,oZ,by go_num,rfl,Yv,HR2,Rb (by first|exact T2.out|exact T2.out.call Wa.out (RJ (Rh _ _) _)|exact(T2.out.call Wa.out (RJ (Rh _ _) _)).call Wa.out (RJ (Rh _ _) _))⟩
       case measure=>omega
      ·have d0:decide (le<0)=false:=Rl We
       by_cases Xw:(h:Int)<le
       ·have d1:decide ((h:Int)<le)=true:=Rj Xw
        have Yv:Hid (K4 mt ch 0 row (j+1) (h:Int)):=Rb (.inr ⟨h,HM.out,rfl,HFT.out⟩);go_wp2_with fail;go_roundg g'
        case rel=>exact⟨j+1,_,oZ,by go_num,rfl,Yv,HR2,Rb (by first|exact T2.out|exact T2.out.call Wa.out (RJ (Rh _ _) _)|exact(T2.out.call Wa.out (RJ (Rh _ _) _)).call Wa.out (RJ (Rh _ _) _))⟩
        case measure=>omega
       ·have d1:decide ((h:Int)<le)=false:=Rl Xw
        have Yv:Hid (K4 mt ch 0 row (j+1) le):=Rb (by
         rcases HL.out with e|e
         {exact absurd We oZ}
         ·exact .inr e)
        go_wp2_with fail;go_roundg g'
        case rel=>exact⟨j+1,_,oZ,by go_num,rfl,Yv,HR2,Rb (by first|exact T2.out|exact T2.out.call Wa.out (RJ (Rh _ _) _)|exact(T2.out.call Wa.out (RJ (Rh _ _) _)).call Wa.out (RJ (Rh _ _) _))⟩
        case measure=>omega
     ·obtain⟨q,hq⟩:∃q,q+1=k:=⟨k-1,oZ⟩
      have hqk:q<k:=oZ;obtain⟨hc1,Xd,-⟩:=HC.out.2 q hqk;obtain⟨c,hc⟩:∃c,gn ch q=c:=⟨_,rfl⟩
      rw[hc]at hc1 Xd;obtain⟨Vo,-⟩:=HH.out.eK (i:=idx q) (by rw[<-Wk.out];exact(HIX.out q oZ).1) Xd;obtain⟨Ax,kx',hvx,-,-,hAx⟩:=T2.out.ch.shape;obtain⟨gch,hA5⟩:=hAx (by intro e;have:=HC.out.1;rw[e]at this;simp at this;omega);injection hvx with e1 e2 e3
      rw[hA5]at e1;subst e1;obtain⟨-,-,-,-,WS,-⟩:=T2.out.ch.ints_at (by rw[HC.out.1];omega);have cc:=WS q (by rw[HC.out.1];exact hqk);rw[hc1]at cc;obtain⟨b2,o2,e9,-,-⟩:=T2.out.rm.at_ Vo;subst e9;have km:=aN T2.out.rm Vo;obtain⟨m1,m2,-,-⟩:=HH.out.d.2.2.2.2.2.1.gn Vo;obtain⟨m,hm⟩:∃m,gn mt c=m:=⟨_,rfl⟩
      rw[m1,hm]at km;rw[hm]at m2;have a1:=T2.out.c1;have L1:∀n,(Instr.lookup 105 (.map (some bm)) (.int .i64 (h:Int)) false).run Tryz.prog (wr.drewN n)= .ok (.int .i64 (dU mt h:Int)) (wr.drewN n):=fun n=>yC.look (w:=wr.drewN n) (T2.out.fm.same (w':=wr.drewN n) rfl) V4 oZ
      have L2:∀n,(Instr.lookup 105 (.map (some bm)) (.int .i64 (m:Int)) false).run Tryz.prog (wr.drewN n)= .ok (.int .i64 (dU mt m:Int)) (wr.drewN n):=fun n=>yC.look (w:=wr.drewN n) (T2.out.fm.same (w':=wr.drewN n) rfl) m2 oZ
      have t5:IntKind.i64.wrap ((k:Int)-1)=(q:Int):=by rw[show(k:Int)-1=(q:Int) by omega];exact SF _ oZ
      have hk1:((k:Int)==0)=false:=by rw[Rs];omega
      have HFE:Hid (Jm mt ch k h↔dU mt h=dU mt m):=Rb (by
       unfold Jm;rw[show k-1=q by omega,hc,hm];exact⟨fun e=>e.elim (fun e=>absurd e oZ) id,fun e=> .inr e⟩)
      clear WS hc1 Xd hc m1 hm e2 e3 hAx hA5 Ax kx';by_cases hft:dU mt h=dU mt m
      ·have HFT:Hid (Jm mt ch k h):=Rb (HFE.out.2 hft)
       have t6:((dU mt h:Int)==(dU mt m:Int))=true:=by rw[hft];exact UF _
       clear hft HFE;go_wp2_with fail
       go_quiet(fail)
       by_cases We:le<0
       ·have d0:decide (le<0)=true:=Rj We
        have Yv:Hid (K4 mt ch k row (j+1) (h:Int)):=Rb (.inr ⟨h,HM.out,rfl,HFT.out⟩);go_wp2_with fail;go_roundg g'
        case rel=>exact⟨j+1,_,oZ,by go_num,rfl,Yv,HR2,Rb (by first|exact T2.out|exact T2.out.call Wa.out (RJ (Rh _ _) _)|exact(T2.out.call Wa.out (RJ (Rh _ _) _)).call Wa.out (RJ (Rh _ _) _))⟩
        case measure=>omega
       ·have d0:decide (le<0)=false:=Rl We
        by_cases Xw:(h:Int)<le
        ·have d1:decide ((h:Int)<le)=true:=Rj Xw
         have Yv:Hid (K4 mt ch k row (j+1) (h:Int)):=Rb (.inr ⟨h,HM.out,rfl,HFT.out⟩);go_wp2_with fail;go_roundg g'
         case rel=>exact⟨j+1,_,oZ,by go_num,rfl,Yv,HR2,Rb (by first|exact T2.out|exact T2.out.call Wa.out (RJ (Rh _ _) _)|exact(T2.out.call Wa.out (RJ (Rh _ _) _)).call Wa.out (RJ (Rh _ _) _))⟩
         case measure=>omega
        ·have d1:decide ((h:Int)<le)=false:=Rl Xw
         have Yv:Hid (K4 mt ch k row (j+1) le):=Rb (by
          rcases HL.out with e|e
          {exact absurd We oZ}
          ·exact .inr e)
         go_wp2_with fail;go_roundg g'
         case rel=>exact⟨j+1,_,oZ,by go_num,rfl,Yv,HR2,Rb (by first|exact T2.out|exact T2.out.call Wa.out (RJ (Rh _ _) _)|exact(T2.out.call Wa.out (RJ (Rh _ _) _)).call Wa.out (RJ (Rh _ _) _))⟩
         case measure=>omega
      ·have hnf:¬Jm mt ch k h:=fun e=>hft (HFE.out.1 e)
       have t6:((dU mt h:Int)==(dU mt m:Int))=false:=by rw[Rs];omega
       have Yv:Hid (K4 mt ch k row (j+1) le):=Rb (by
        rcases HL.out with e|e
        {refine .inl ⟨e.1,fun i hi=>?_⟩;by_cases e2:i=j;{subst e2;have:=HHE.out;unfold gN at this;rw[this];exact hnf};{exact e.2 i oZ}}
        ·exact .inr e)
       clear hft HFE hnf;go_wp2_with fail
       go_quiet(fail)
       go_wp2_with fail;go_roundg g'
       case rel=>exact⟨j+1,_,oZ,by go_num,rfl,Yv,HR2,Rb (by first|exact T2.out|exact T2.out.call Wa.out (RJ (Rh _ _) _)|exact(T2.out.call Wa.out (RJ (Rh _ _) _)).call Wa.out (RJ (Rh _ _) _))⟩
       case measure=>omega
def GZ(w:World)(bm n:Nat)(G:Nat->Nat):Prop:=∃(D:DataW Unit),w.ownsMap Tryz.prog 3 (plainElem Tryz.prog 3) bm n D/\iW D (fun x=>if 0<=x then(G x.toNat:Int)else 0)
theorem GZ.same{w w':World}{bm n:Nat}{G:Nat->Nat}(h:GZ w bm n G)(he:w'.heap[bm]?=w.heap[bm]?):GZ w' bm n G:=by obtain⟨D,h1,h2⟩:=h;exact⟨D,gO h1 he,h2⟩
theorem GZ.look{w:World}{bm n:Nat}{G:Nat->Nat}(h:GZ w bm n G){x:Nat}(hx:x<=1000):(Instr.lookup 105 (.map (some bm)) (.int .i64 (x:Int)) false).run Tryz.prog w= .ok (.int .i64 (G x:Int)) w:=by
 obtain⟨D,h1,h2⟩:=h;have Yw:keyOf Tryz.prog 3 (.int .i64 (x:Int))=some (.int .i64 (x:Int)):=keyOf_int_mk Tryz.underlying3 (pR oZ);obtain⟨c,VG,Zo,-⟩:=h1.lookup_int Bx Tryz.underlying105 Tryz.underlying3 (Hc w) Yw;have e:=Zo.symm.trans (h2.at_ (x:Int));injection e with e
 injection e with _ e
 rw[VG,e,Re oZ,Si]
def B7(F G:Nat->Nat)(row:List Nat):Bool:=decide ((∀h∈row,F h=F (gN row 0))/\G (F (gN row 0))=row.length)
theorem Aa{Ak:Option Addr}{ck b3 b10 bm bs N n:Nat}{F G:Nat->Nat}{row:List Nat}(w:World)(S:Nat->Prop)(hr:RI w S Ak (ints row))(c3:w.cell? ⟨b3,0,none⟩=some (.map (some bm)))(c10:w.cell? ⟨b10,0,none⟩=some (.map (some bs)))(hf:yC w bm N F)(hs:GZ w bs n G)(VB:∀h∈row,h<N)(hN:N<=256)(hF:∀h,h<N->F h<=1000)(hG:∀h,G h<=1000)(h0:0<row.length)(hl:row.length<=256):
  Calls Tryz.prog 88 #[.slice Ak row.length ck,.pointer (some ⟨b3,0,none⟩),.pointer (some ⟨b10,0,none⟩)] w fun e w'=>e= .returned (.bool (B7 F G row))/\∃n,w'=w.drewN n:=by
 obtain⟨bk,ok,e9,-,-⟩:=hr.at_ (k:=0) (by rw[aH];exact h0);subst e9;have k0:=aN hr (k:=0) (by rw[aH];exact h0);rw[je h0,Tx]at k0;have Vm:∀j,j<row.length->gN row j∈row:=fun j hj=>by unfold gN;rw[Rw,RH hj];exact R7 hj
 have hr0:=VB _ (Vm 0 h0);have Y7:=Rb Vm;have X3:=Rb VB;have HR:=Rb hr;have HF:=Rb hF;obtain⟨r,hrr⟩:∃r,gN row 0=r:=⟨_,rfl⟩
 rw[hrr]at k0 hr0;have HRR:=Rb hrr;have WU:=hF r hr0;have Z_:=hG (F r);have HFM:=Rb hf;have HSM:=Rb hs;clear hr Vm VB hrr hF hG hf hs;go_enter Tryz.func88,Tryz.ntmps88
 go_wp2_with fail;go_loopg[9] row.length (fun g v wx=>∃(j nd:Nat),j+g=row.length/\v= .int .i64 j/\wx=w.drewN nd/\Hid (∀i,i<j->F (gN row i)=F r))
 case atStart=>exact⟨0,0,oZ,rfl,rfl,Rb fun j h=>absurd h (RG _)⟩
 case round=>
  obtain⟨j,nd,hjg,rfl,rfl,HJ⟩:=hrel;have L0:∀n,(Instr.lookup 105 (.map (some bm)) (.int .i64 (r:Int)) false).run Tryz.prog (w.drewN n)= .ok (.int .i64 (F r:Int)) (w.drewN n):=fun n=>yC.look (w:=w.drewN n) (HFM.out.same (w':=w.drewN n) rfl) hr0 oZ
  cases gk with
  |zero=>
   obtain rfl:j=row.length:=oZ;have L1:∀n,(Instr.lookup 105 (.map (some bs)) (.int .i64 (F r:Int)) false).run Tryz.prog (w.drewN n)= .ok (.int .i64 (G (F r):Int)) (w.drewN n):=fun n=>GZ.look (w:=w.drewN n) (HSM.out.same (w':=w.drewN n) rfl) WU
   have Vx:∀h∈row,F h=F r:=fun h hh=>by obtain⟨i,hi,e2⟩:=Te hh;have:=HJ.out i hi;unfold gN at this;rw[Rw,RH hi]at this;rw[<-e2];exact this
   have hres:B7 F G row=((G (F r):Int)==(row.length:Int)):=by unfold B7;rw[HRR.out];by_cases e:G (F r)=row.length;{rw[Rj ⟨Vx,e⟩,e];exact(UF _).symm};{rw[Rl (fun h=>e h.2)];exact(Rs.2 oZ).symm}
   have HRES:=Rb hres;clear Vx hres;go_wp2_with fail
   go_quiet(fail)
   go_wp2_with fail;go_ret;exact⟨by rw[HRES.out];rfl,nd+nq,TN _ _ _⟩
  |succ g=>
   have hj:j<row.length:=oZ;have kx:=aN HR.out (k:=j) (by rw[aH];exact hj);rw[je hj]at kx;have hx1:=X3.out _ (Y7.out j hj);have hx2:=Y7.out j hj;obtain⟨x,hx⟩:∃x,gN row j=x:=⟨_,rfl⟩
   rw[hx]at kx hx1 hx2;have L1:∀n,(Instr.lookup 105 (.map (some bm)) (.int .i64 (x:Int)) false).run Tryz.prog (w.drewN n)= .ok (.int .i64 (F x:Int)) (w.drewN n):=fun n=>yC.look (w:=w.drewN n) (HFM.out.same (w':=w.drewN n) rfl) hx1 oZ
   by_cases hft:F x=F r
   ·have t6:((F x:Int)!=(F r:Int))=false:=by rw[RK];omega
    have HJ2:Hid (∀i,i<j+1->F (gN row i)=F r):=Rb fun i hi=>by by_cases e:i=j;{rw[e,hx];exact hft};{exact HJ.out i oZ}
    clear hft;go_wp2_with fail
    go_quiet(fail)
    go_wp2_with fail;go_roundg g
    case rel=>exact⟨j+1,_,oZ,by go_num,rfl,HJ2⟩
    case measure=>omega
   ·have t6:((F x:Int)!=(F r:Int))=true:=by rw[RZ];omega
    have HRES:Hid (B7 F G row=false):=Rb (by
     unfold B7;rw[HRR.out,Rl];exact fun h=>hft (h.1 x hx2))
    clear hft;go_wp2_with fail
    go_quiet(fail)
    go_wp2_with fail;go_ret;exact⟨by rw[HRES.out];rfl,nd+nq,TN _ _ _⟩
def pT(left:Lit->Bool)(N:Nat):Nat:=cW (fun h=> !left (.int .i64 (h:Int))) N
def pA(F:Nat->Nat)(left:Lit->Bool)(N y:Nat):Nat:=cW (fun h=> !left (.int .i64 (h:Int))&&decide (F h=y)) N
theorem Pc(a b:Nat):Lit.sameKey (.int .i64 (a:Int)) (.int .i64 (b:Int))=decide (a=b):=by show decide (IntKind.i64=IntKind.i64/\(a:Int)=(b:Int))=_;refine Sj.2 ⟨fun h=>by have:=h.2;omega,fun h=>⟨rfl,by rw[h]⟩⟩
theorem vy{F:Nat->Nat}{left:Lit->Bool}{N h:Nat}(hh:h<N)(hl:left (.int .i64 (h:Int))=true)(y:Nat):pA F (fun z=>left z&& !z.sameKey (.int .i64 (h:Int))) N y=pA F left N y+if F h=y then 1 else 0:=by
 unfold pA;have e1:∀x,x<N->((!(left (.int .i64 (x:Int))&& !Lit.sameKey (.int .i64 (x:Int)) (.int .i64 (h:Int))))&&decide (F x=y))=((!left (.int .i64 (x:Int))&&decide (F x=y))||(decide (x=h)&&decide (F x=y))):=fun x _=>by
  rw[Pc]
  cases left (.int .i64 (x:Int))<;>cases decide (x=h)<;>cases decide (F x=y)<;>rfl
 rw[aS e1,Cs N (fun x _ h1 h2=>by
  rw[RA,RE]at h2;rw[RA,h2.1,hl]at h1;exact absurd h1.1 oQ)]
 congr 1;by_cases e:F h=y
 ·rw[Re e,aS (Q:=fun x=>decide (x=h)) (fun x _=>by
   by_cases e2:x=h;{rw[e2,Rj rfl,Rj e];rfl}
   ·rw[Rl e2];rfl),nW,Re hh]
 ·rw[Rc e,aS (Q:=fun _=>false) (fun x _=>by
   by_cases e2:x=h;{rw[e2,Rl e,UX]}
   ·rw[Rl e2];rfl),eD]
theorem Ei{left:Lit->Bool}{N h:Nat}(hh:h<N)(hl:left (.int .i64 (h:Int))=true):pT (fun z=>left z&& !z.sameKey (.int .i64 (h:Int))) N=pT left N+1:=by
 have e:∀l:Lit->Bool,pT l N=pA (fun _=>0) l N 0:=fun l=>aS fun x _=>by rw[Rj rfl,Bool.and_true]
 rw[e,e,vy hh hl,Re rfl]
def Mz(sg mt:List Int)(h:Nat):Nat:=e_ (aP sg mt) mt.length (ai sg) h
section
variable{sg mt:List Int}{L:Int}{p:Nat->Int}{x0:Nat}(H:Bd sg mt L)(V:BS sg mt p x0)
include H V
theorem Bd.QO{c:Nat}(hc:c<sg.length):∃a b:Nat,qn sg mt c=((a:Int),(b:Int))/\a<(aD sg mt).length/\b<(aD sg mt).length/\
  ((jl sg mt p x0 a=jl sg mt p x0 b+1/\a=Mz sg mt (oC sg c)/\b=Mz sg mt (ae (oC sg c) 1))\/(jl sg mt p x0 b=jl sg mt p x0 a+1/\b=Mz sg mt (oC sg c)/\a=Mz sg mt (ae (oC sg c) 1))):=by
 obtain⟨a,b,h1,h2,h3,h4,h5⟩:=Gk H.d hc;have hl:=(H.AD V) hc;refine⟨a,b,h1,h2,h3,?_⟩;unfold Mz;rcases H.d.2.2.2.2.1 c hc with e|e
 ·have ho:oC sg c=4*c+1:=Re e
  have hv:eT sg c=4*c+1:=Re e;have ht:ae (4*c+1) 1=4*c+2:=by unfold ae;omega
  rw[ho,ht]at hl;rw[hv]at h5;rw[ho,ht];exact .inr ⟨by rw[h4,h5];exact hl,h5,h4⟩
 ·have ho:oC sg c=4*c+2:=Rc (by rw[e];decide)
  have hv:eT sg c=4*c+3:=Rc (by rw[e];decide);have ht:ae (4*c+2) 1=4*c+3:=by unfold ae;omega
  rw[ho,ht]at hl;rw[hv]at h5;rw[ho,ht];exact .inl ⟨by rw[h4,h5];exact hl,h4,h5⟩
omit H V
def Gb(sg mt:List Int)(p:Nat->Int)(x0 k i:Nat)(v:Int):Prop:=
 (v= -1/\∀c,c<i->jl sg mt p x0 (Mz sg mt (oC sg c))≠k+1)\/∃z,z<(aD sg mt).length/\jl sg mt p x0 z=k+1/\v=(z:Int)
theorem Gb.step{k i:Nat}{v:Int}(h:Gb sg mt p x0 k i v)(hn:jl sg mt p x0 (Mz sg mt (oC sg i))≠k+1):Gb sg mt p x0 k (i+1) v:=by
 rcases h with⟨h1,h2⟩|h
 {refine .inl ⟨h1,fun c hc=>?_⟩;by_cases e:c=i;{rw[e];exact hn};{exact h2 c oZ}};{exact .inr h}
include H V
theorem Bd.M_:∃idx:Nat->Nat,∀j,j<(aD sg mt).length->idx j<(aD sg mt).length/\jl sg mt p x0 (idx j)=j:=by refine⟨fun j=>if h:j<(aD sg mt).length then Classical.choose (H.t_ V h)else 0,fun j hj=>?_⟩;simp only[dif_pos hj];exact Classical.choose_spec (H.t_ V hj)
theorem Bd.MU{idx:Nat->Nat}(V2:∀j,j<(aD sg mt).length->idx j<(aD sg mt).length/\jl sg mt p x0 (idx j)=j){k:Nat}{v:Int}(h:Gb sg mt p x0 k sg.length v):v=if k+1<(aD sg mt).length then(idx (k+1):Int)else-1:=by
 by_cases hk:k+1<(aD sg mt).length
 ·rw[Re hk]
  rcases h with⟨-,h2⟩|⟨z,h1,h2,h3⟩
  {obtain⟨c,hc,-,h4⟩:=(H.AB V) hk;exact absurd h4 (h2 c hc)};{obtain⟨a,b⟩:=V2 (k+1) hk;rw[h3,(H.lY V) h1 a (by rw[h2,b])]}
 ·rw[Rc hk]
  rcases h with⟨h1,-⟩|⟨z,h1,h2,h3⟩
  {exact h1};{have:=(H.Hn V) h1;omega}
theorem Bd.QH{i:Nat}(hi:i<(aD sg mt).length):B7 (dU mt) (fun y=>cW (fun h=>decide (dU mt h=y)) mt.length) (gZ sg mt i)=decide (jl sg mt p x0 i=0):=by unfold B7;refine Sj.2 ⟨fun h=>(H.GR V) hi h.1 h.2,fun h=>(H.GN V) hi h⟩
end
structure Ew(w0 w wx:World)(gu Sn:Nat)(v:Value)(us:List Bool)(vs:List Value)(xss:List (List Int)):Prop where
 bl:Below w.heap.size w wx
 us:OB wx gu (.slice (some ⟨gu,0,none⟩) Sn Sn) us
 rr:ER 22 wx w0.heap.size (fun _=>False) v vs xss
 ro:OR 22 id wx (gu+1) v vs
 eg:gu=w.heap.size
 lt:gu+1<=wx.heap.size
section
variable{w0 w wx w':World}{gu Sn:Nat}{v v':Value}{us:List Bool}{vs:List Value}{xss:List (List Int)}
theorem Ew.call(h:Ew w0 w wx gu Sn v us vs xss)(hb:Below wx.heap.size wx w'):Ew w0 w w' gu Sn v us vs xss:=by have hl:=h.lt;have hg:=h.eg;obtain⟨r1,r2,r3,r4⟩:=h.rr;exact⟨h.bl.trans (hb.mono oZ),h.us.below hb (Rf _),⟨r1.below hb (Rf _),r2,r3,fun k hk=>⟨(r4 k hk).1.below hb (Rf _),(r4 k hk).2⟩⟩,h.ro.below hb (Rf _),hg,RQ hl hb.size⟩
theorem Ew.P7(h:Ew w0 w wx gu Sn v us vs xss)(hl:us.length=Sn)(hk:∀k (h:k<vs.length),vs[k].ownBlock≠some gu)(k:Nat):Ew w0 w (wx.setCell ⟨gu,k,none⟩ (.bool true)) gu Sn v (us.set k true) vs xss:=by
 have hg:=h.eg;have hkk:∀b,b≠gu->(wx.setCell ⟨gu,k,none⟩ (.bool true)).heap[b]?=wx.heap[b]?:=fun b hb=>Rn _ _ _ _ hb
 have hr:=h.us;rw[show(Value.slice (some ⟨gu,0,none⟩) Sn Sn)= .slice (some ⟨gu,0,none⟩) us.length Sn by rw[hl]]at hr;have Xs:=hr.stored (k:=k) true;rw[Ry,hl]at Xs;have hv:∀g,v.ownBlock=some g->g≠gu:=fun g hv=>by have:=(h.ro.lt g hv).1;omega
 obtain⟨r1,r2,r3,r4⟩:=h.rr;exact⟨h.bl.setCell oJ _,Xs,⟨r1.ak fun g hg=>hkk g (hv g hg),r2,r3,fun k VA=>⟨(r4 k VA).1.ak fun g hg=>hkk g (fun e=>hk k VA (by rw[hg,e])),(r4 k VA).2⟩⟩,h.ro.ak fun g hg=>hkk g (hv g hg),hg,by rw[az];exact h.lt⟩
theorem Ew.push{u:Value}{x:List Int}(h:Ew w0 w wx gu Sn v us vs xss)(hw0:w0.heap.size<=w.heap.size)(hu:OI wx w0.heap.size u x)(ho:OR 22 id w' (gu+1) v' (vs++[u]))(hg:(wx.alloc (.cells #[u] 22)).grownBy w' v.ownBlock)(Vu:v'.ownBlock=v.ownBlock\/v'.ownBlock=some (wx.heap.size+1)):Ew w0 w w' gu Sn v' us (vs++[u]) (xss++[x]):=by have hl:=h.lt;have hgu:=h.eg;have VF:Below (gu+1) wx w':=h.ro.eL (Rh _ _) h.lt _ hg;exact⟨h.bl.trans (VF.mono oZ),h.us.ak fun g X6=>VF.block g (by have:=mT X6;omega),ER.push oQ h.rr hu (fun _ _ h=>h) (fun b hF=>hF.elim) (ho.mono oZ) hg Vu,ho,hgu,RQ hl VF.size⟩
end
structure Po(w wr:World)(bm:Nat)(sg mt:List Int)(v1 v2:Value):Prop where
 c3:wr.cell? ⟨w.heap.size+1,0,none⟩=some (.map (some bm))
 fm:yC wr bm mt.length (dU mt)
 rr:RR 22 wr w.heap.size (fun _=>False) v1 (rows (aD sg mt))
 op:OP wr w.heap.size v2 (fV sg mt sg.length)
 lt:w.heap.size+2<=wr.heap.size
 bl:Below w.heap.size w wr
theorem Po.below{w wr w':World}{bm:Nat}{sg mt:List Int}{v1 v2:Value}(h:Po w wr bm sg mt v1 v2)(YM:bm<w.heap.size)(hb:Below wr.heap.size wr w'):Po w w' bm sg mt v1 v2:=by have hl:=h.lt;exact⟨(hb.cell (p:=⟨w.heap.size+1,0,none⟩) oJ).trans h.c3,h.fm.same (hb.block bm oZ),h.rr.below hb (Rf _),h.op.below hb (Rf _),RQ hl hb.size,h.bl.trans (hb.mono oZ)⟩
theorem tD{sg mt:List Int}{i:Nat}(hi:i<(aD sg mt).length):(rows (aD sg mt)).getD i []=ints (gZ sg mt i):=by rw[jN hi];unfold gZ;rw[Rw,RH hi];rfl
theorem AQ{sg mt:List Int}{L:Int}(hd:cJ sg mt L){h:Nat}(hh:h<mt.length):dU mt h<mt.length:=by have h1:=(fw (f:=au mt) (wt:=il) (aU hd.2.2.2.2.2.1 hd.2.1) (fun h _=>rfl) hh rfl).1;have h2:=dM (au mt) mt.length il mt.length;rw[aE]at h2;exact RB h1 h2
theorem Gq{A1 A2:Option Addr}{c1 c2:Nat}{sg mt:List Int}{p:Nat->Int}{x0 bm:Nat}{idx:Nat->Nat}(w:World)(S:Nat->Prop)(hx:RI w S A1 sg)(hy:RI w S A2 mt)(hS:∀b,S b->b<w.heap.size)(YM:bm<w.heap.size)(hf:yC w bm mt.length (dU mt))
  (H:Bd sg mt 0)(V:BS sg mt p x0)(V2:∀j,j<(aD sg mt).length->idx j<(aD sg mt).length/\jl sg mt p x0 (idx j)=j):
  Calls Tryz.prog 68 #[.agg #[.slice A1 sg.length c1,.slice A2 mt.length c2,.int .i64 0],.map (some bm)] w fun e w'=>∃v,e= .returned v/\RR 22 w' w.heap.size (fun _=>False) v (rows (yz sg mt (aD sg mt).length idx))/\Below w.heap.size w w':=by
 have HD:=Rb ((bI.start (c1:=c1) (c2:=c2) (L:=0) S hx hy hS).below ((Rh _ _).alloc (Rf _) (.cells #[.map (some bm)] 105)));have HH:=Rb H;have HV:=Rb V;have HIX:=Rb V2;go_enter Tryz.func68,Tryz.ntmps68
 go_wp2_with fail;have Wn:Below w.heap.size w ((w.alloc (.cells #[.slice A1 sg.length c1,.slice A2 mt.length c2,.int .i64 0] 24)).alloc (.cells #[.map (some bm)] 105)):=((Rh _ _).alloc (Rf _) _).alloc oX _;have h3:((w.alloc (.cells #[.slice A1 sg.length c1,.slice A2 mt.length c2,.int .i64 0] 24)).alloc (.cells #[.map (some bm)] 105)).cell? ⟨w.heap.size+1,0,none⟩=some (.map (some bm)):=by have:=Ru (w.alloc (.cells #[.slice A1 sg.length c1,.slice A2 mt.length c2,.int .i64 0] 24)) (.cells #[.map (some bm)] 105);rw[show(w.alloc (.cells #[.slice A1 sg.length c1,.slice A2 mt.length c2,.int .i64 0] 24)).heap.size=w.heap.size+1 by simp]at this;rw[Rt _ _ _ _ _ _ this];rfl
 have WO:((w.alloc (.cells #[.slice A1 sg.length c1,.slice A2 mt.length c2,.int .i64 0] 24)).alloc (.cells #[.map (some bm)] 105)).heap.size=w.heap.size+2:=oX;obtain⟨W,hW⟩:∃W,(w.alloc (.cells #[.slice A1 sg.length c1,.slice A2 mt.length c2,.int .i64 0] 24)).alloc (.cells #[.map (some bm)] 105)=W:=⟨_,rfl⟩
 rw[hW]at HD Wn h3 WO⊢;have hfW:=hf.same (Wn.block bm YM);refine(FP A1 A2 c1 c2 sg mt 0 W (·<W.heap.size) HD.out.rs HD.out.rm (fun _ h=>h) H.d).mono ?_;rintro e w1 ⟨v1,rfl,ZB,Vi⟩;have Vp:=Rb (HD.out.below Vi);clear HD;have k0:=Vp.out.c0;have k1:=Vp.out.c1;have k2:=Vp.out.c2;go_wp2_with fail;refine(u_ A1 A2 c1 c2 sg mt 0 w1 (·<w1.heap.size) Vp.out.rs Vp.out.rm (fun _ h=>h) HH.out.d).mono ?_;rintro e w2 ⟨v2,rfl,Wt,Vj⟩;have T0:Hid (Po w w2 bm sg mt v1 v2):=by have VV:=Vi.size;have Xp:=Vj.size;have hb:=Wn.trans ((Vi.trans (Vj.mono VV)).mono oZ);exact Rb ⟨((Vi.trans (Vj.mono VV)).cell (p:=⟨w.heap.size+1,0,none⟩) oJ).trans h3,hf.same (hb.block bm YM),(ZB.below Vj (Rf _)).mono oZ,Wt.mono oZ,oZ,hb⟩
 clear Vp k0 k1 k2 ZB Vi Wt Vj Wn h3 WO hW hfW hx hy hS hf H V V2 W w1;obtain⟨Av,cv,Yx,-,-,-⟩:=T0.out.rr.shape;rw[aE]at Yx;subst Yx;obtain⟨Ae,de,WA,-,-⟩:=T0.out.op.shape;rw[fh]at WA;subst WA;have hmm:=@run_makeMap Tryz.prog;have Vi:Below w2.heap.size w2 ((w2.alloc (.map #[] 0)).alloc (.cells #[.map (some w2.heap.size)] 105)):=((Rh _ _).alloc (Rf _) _).alloc oX _;have T1:=Rb (T0.out.below YM Vi);have o1:((w2.alloc (.map #[] 0)).alloc (.cells #[.map (some w2.heap.size)] 105)).ownsMap Tryz.prog 3 (plainElem (H:=Unit) Tryz.prog 3) w2.heap.size 0 (.map []):=(World.ownsMap_made (P:=Tryz.prog) (k:=3) (R:=plainElem (H:=Unit) Tryz.prog 3) w2).alloc _;have c10:((w2.alloc (.map #[] 0)).alloc (.cells #[.map (some w2.heap.size)] 105)).cell? ⟨w2.heap.size+1,0,none⟩=some (.map (some w2.heap.size)):=by have:=Ru (w2.alloc (.map #[] 0)) (.cells #[.map (some w2.heap.size)] 105);rw[show(w2.alloc (.map #[] 0)).heap.size=w2.heap.size+1 by simp]at this;rw[Rt _ _ _ _ _ _ this];rfl
 have HO1:=Rb o1;have HC10:=Rb c10;have k3:=T1.out.c3;have ZY:=T0.out.lt;clear o1;obtain⟨km,D,G,Vq,hMI,hG,hkeys⟩:=T1.out.fm;have HOW:=Rb Vq;have HMI:Hid (iW D G/\(∀h,h<mt.length->G (h:Int)=(dU mt h:Int))/\∀x:Int,has D (.int .i64 x)=decide (0<=x/\x<mt.length)):=⟨hMI,hG,hkeys⟩;clear Vq hMI hG hkeys
 go_wp2_with(first
  |(at_range;refine wpList_range_own _ rfl _ 105 rfl 3 3 Bx Tryz.underlying105 _ bm km _ rfl HOW.out ?_;intro w0 hrg0 hgr0 WO;have HRG:=Rb hrg0;have HGR:=Rb hgr0;clear hrg0 hgr0 WO))
 clear hmm;go_frame;have VQ:mt.length<=256:=by have:=HH.out.d.1;have:=HH.out.d.2.1;omega
 have Vj:=Vi.grown HGR.out Vi.size (fun j hj=>by cases hj);have VI:w2.heap.size+2=((w2.alloc (.map #[] 0)).alloc (.cells #[.map (some w2.heap.size)] 105)).heap.size:=oX;have VP:=T1.out.lt;have S0:Hid (GZ w0 w2.heap.size (pT (has D) mt.length) (pA (dU mt) (has D) mt.length)):=by
  have Vx:∀h,h<mt.length->has D (.int .i64 (h:Int))=true:=fun h hh=>by rw[HMI.out.2.2,RE];omega
  have e1:pT (has D) mt.length=0:=by unfold pT;rw[aS (Q:=fun _=>false) (fun x hx=>by rw[Vx x hx];rfl),eD]
  have e2:∀y,pA (dU mt) (has D) mt.length y=0:=fun y=>by unfold pA;rw[aS (Q:=fun _=>false) (fun x hx=>by rw[Vx x hx];rfl),eD]
  refine Rb ⟨.map [],?_,iW.nil.congr fun x=>by rw[e2];split<;>rfl⟩;rw[e1];exact gO HO1.out (HGR.out.block w2.heap.size oZ (fun e=>by cases e))
 have c10':Hid (w0.cell? ⟨w2.heap.size+1,0,none⟩=some (.map (some w2.heap.size))):=Rb ((Ri (a:=⟨w2.heap.size+1,0,none⟩) (HGR.out.block (w2.heap.size+1) oZ (fun e=>by cases e))).trans HC10.out);have HL0:Hid (∀x:Int,has D (.int .i64 x)=true->0<=x/\x<mt.length):=Rb fun x hx=>by rw[HMI.out.2.2 x,RE]at hx;exact hx
 obtain⟨r,hr⟩:∃r,((w2.alloc (.map #[] 0)).alloc (.cells #[.map (some w2.heap.size)] 105)).heap.size=r:=⟨_,rfl⟩
 rw[hr]at HRG VI⊢;have VW:=Rb Vj;clear Vi Vj hr HO1 HC10 HOW k3 c10 HGR VP;go_loopw[12] (fun _ wr=>∃(left:Lit->Bool)(cn:Nat),Hid (wr.ranges Tryz.prog 3 (plainElem Tryz.prog 3) bm r km D left cn)/\Hid (GZ wr w2.heap.size (pT left mt.length) (pA (dU mt) left mt.length))/\Hid (∀x:Int,left (.int .i64 x)=true->0<=x/\x<mt.length)/\Hid (Below w2.heap.size w2 wr)/\Hid (wr.cell? ⟨w2.heap.size+1,0,none⟩=some (.map (some w2.heap.size)))) (fun _ wr=>wr.rangeLeft bm r)
 case atStart=>exact⟨_,_,HRG,S0,HL0,VW,c10'⟩
 case round=>
  clear HRG S0 HL0 VW c10';obtain⟨left,cn,HR,HS,HL,HB,HC⟩:=hrel
  go_wp2_with(first
   |(at_next;refine wpList_next_ranges_ii _ rfl _ rfl 3 3 .i64 .i64 Bx Tryz.underlying3 Tryz.underlying3 bm r km _ _ _ rfl HR.out ?_ ?_))
  ·intro hcz VT
   have Ww:Hid (GZ wr w2.heap.size (pT left mt.length) (fun y=>cW (fun h=>decide (dU mt h=y)) mt.length)):=by
    have e:pA (dU mt) left mt.length=fun y=>cW (fun h=>decide (dU mt h=y)) mt.length:=funext fun y=>by unfold pA;exact aS fun x _=>by rw[VT];rfl
    rw[<-e];exact HS
   have Vh:bm≠w2.heap.size:=oZ;generalize pT left mt.length=nb at Ww;have hsw:=HB.out.size;have T2:=Rb (T0.out.below YM HB.out);clear HR HS HL VT hcz left cn HMI T1 T0;have k10:=HC.out;have k3:=T2.out.c3;go_wp2_with fail;obtain⟨Sn,Xu⟩:∃n,(aD sg mt).length=n:=⟨_,rfl⟩
   have hS256:Sn<=256:=by have:=dM (aP sg mt) mt.length (ai sg) mt.length;rw[aE]at this;unfold aD at Xu;omega
   have Wk:=Rb Xu;rw[Xu]at T2⊢;clear Xu k3 k10;go_loopg[47] Sn (fun g v wx=>∃(i nd:Nat),i+g=Sn/\v= .int .i64 i/\wx=wr.drewN nd/\Hid (∀j,j<i->jl sg mt p x0 j≠0))
   case atStart=>exact⟨0,0,oZ,rfl,rfl,Rb fun j h=>absurd h (RG _)⟩
   case round=>
    obtain⟨i,nd,hig,rfl,rfl,HNO⟩:=hrel
    cases gk with
    |zero=>exfalso;obtain⟨z,h1,h2⟩:=HH.out.t_ HV.out (S9 (Rv _) (HH.out.fw HV.out.lt HV.out.o));exact HNO.out z (by rw[Wk.out]at h1;omega) h2
    |succ g=>
     have hiS:i<Sn:=oZ;obtain⟨bc,cb,Ak,ck,hAv,Vs,Vv,ZE,Ys,hlk⟩:=T2.out.rr.at_ (k:=i) (by rw[aE,Wk.out];exact hiS);have hiC:i<(aD sg mt).length:=by rw[Wk.out];exact hiS
     rw[tD hiC,aH]at ZE;rw[tD hiC]at Ys;injection hAv with e1 e2 e3
     subst e1;obtain⟨-,We,-,-⟩:=HH.out.ke hiC;have W7:=HH.out.C9 hiC;have HIF:=Rb (HH.out.QH HV.out hiC);have Vm:∀h∈gZ sg mt i,h<mt.length:=fun h hh=>(HH.out.eK hiC hh).1
     obtain⟨row,VB⟩:∃row,gZ sg mt i=row:=⟨_,rfl⟩
     rw[VB]at ZE Ys We W7 HIF Vm;have X3:=Rb VB;have HRK:=Rb Ys;have Y7:=Rb Vm;have k3:=T2.out.c3;have k10:=HC.out;clear Ys hlk e2 e3 VB Vm;by_cases h0:jl sg mt p x0 i=0
     ·rw[Rj h0]at HIF
      have mk:=fun W=>gH 94 Tryz.underlying94 Sn oZ W
      have L0:∀m,Ew w wr ((wr.drewN m).alloc (.cells (Array.replicate Sn (Value.bool false)) 4)) wr.heap.size Sn (.slice none 0 0) (List.replicate Sn false) [] []:=fun m=>by have hb:Below wr.heap.size wr ((wr.drewN m).alloc (.cells (Array.replicate Sn (Value.bool false)) 4)):=(RJ (Rh _ _) m).alloc (Rf _) _;have hu:=OB.new (wr.drewN m) wr.heap.size Sn (Rf _) (by unfold maxLen;omega);rw[TZ]at hu;exact⟨hb,hu,⟨OR.nil _ _,by simp[Value.ownBlock],rfl,oX⟩,OR.nil _ _,rfl,oX⟩
      have HL0:=Rb L0;clear L0;go_wp2_with fail;refine(Aa (F:=dU mt) (G:=fun y=>cW (fun h=>decide (dU mt h=y)) mt.length) (N:=mt.length) (n:=nb) (row:=row) (wr.drewN nd) (fun b=>w.heap.size<=b/\b<wr.heap.size) HRK.out k3 k10 (T2.out.fm.same (w':=wr.drewN nd) rfl) (Ww.out.same (w':=wr.drewN nd) rfl) Y7.out VQ (fun h hh=>by have:=AQ HH.out.d hh;omega) (fun h=>RQ (jD _ _) oZ) We oZ).mono ?_;rintro e w9 ⟨rfl,n9,rfl⟩;rw[HIF.out];rw[TN];go_wp2_with fail;clear mk;obtain⟨W,hW⟩:∃x,(wr.drewN (nd+n9)).alloc (.cells (Array.replicate Sn (Value.bool false)) 4)=x:=⟨_,rfl⟩
      have HQ0:=Rb (HL0.out (nd+n9));rw[hW]at HQ0⊢;clear hW HL0;have e0:i=idx 0:=by obtain⟨a,b⟩:=HIX.out 0 (by rw[Wk.out];omega);exact HH.out.lY HV.out hiC a (by rw[h0,b])
      subst e0;have HU0:Hid ((List.replicate Sn false).length=Sn/\∀z,z<Sn->gb (List.replicate Sn false) z=decide (jl sg mt p x0 z<0)):=Rb ⟨Sd,fun z hz=>by rw[CR (by rw[Sd];exact hz)];simp⟩;obtain⟨wr0,hwr0⟩:∃x:World,x=wr:=⟨_,rfl⟩
      subst hwr0;clear HIF ZE HRK Y7 k3 k10 h0 HNO Ww W7 We hig;clear X3;go_loopg[14,17] Sn (fun g v14 v17 wx=>∃(k:Nat)(us:List Bool)(vs:List Value),k+g=Sn/\v14= .int .i64 (if k<Sn then(idx k:Int)else-1)/\Hid (us.length=Sn/\∀z,z<Sn->gb us z=decide (jl sg mt p x0 z<k))/\Hid (∀j (h:j<vs.length) (g:Nat),vs[j].ownBlock=some g->g<wr0.heap.size)/\Hid (Ew w wr0 wx wr0.heap.size Sn v17 us vs (rows (yz sg mt k idx))))
      case atStart=>exact⟨0,_,[],oZ,by rw[Re oZ],HU0,Rb (fun j h=>absurd h (RG _)),HQ0⟩
      case round=>
       clear HQ0 HU0;obtain⟨k,us,vs,hkg,rfl,HU,HVB,HQ⟩:=hrel
       cases gk with
       |zero=>obtain rfl:k=Sn:=oZ;rw[Rc oZ];go_wp2_with fail;go_ret;refine⟨_,rfl,?_,T2.out.bl.trans (HQ.out.bl.mono oZ)⟩;rw[Wk.out];exact⟨vs,HQ.out.rr⟩
       |succ g3=>
        have hkS:k<Sn:=oZ;rw[Re hkS];obtain⟨hat1,hat2⟩:=HIX.out k (by rw[Wk.out];exact hkS);obtain⟨X4,Zo⟩:∃a,idx k=a:=⟨_,rfl⟩
        rw[Zo]at hat1 hat2⊢;have HAT:=Rb Zo;have hatS:X4<Sn:=by rw[<-Wk.out];exact hat1
        obtain⟨vc,Zs⟩:=T2.out.rr;have Xr:vc.length=Sn:=by rw[Zs.2.2.1,aE,Wk.out]
        obtain⟨gq,cq,hvq,hg4,hg5,-,-,Vk,-⟩:=Zs.1.block oZ;injection hvq with e1 e2 e3
        injection e1 with e1
        injection e1 with e1
        subst e1;have kc:=(HQ.out.bl.cell (p:=⟨bc,X4,none⟩) hg5).trans (Vk X4 oZ);obtain⟨ZZ,-⟩:=Zs.2.2.2 X4 oZ;obtain⟨u,hu⟩:∃u,vc[X4]'oZ=u:=⟨_,rfl⟩
        rw[tD hat1]at ZZ;rw[hu]at kc ZZ;simp only[id]at kc;obtain⟨Au,cu,hvu,-,-,-⟩:=ZZ.shape;rw[aH]at hvu;obtain⟨lu,hlu⟩:∃l,(gZ sg mt X4).length=l:=⟨_,rfl⟩
        rw[hlu]at hvu;subst hvu;have HU1:=Rb ZZ;have HUB:Hid (∀g,(Value.slice Au lu cu).ownBlock=some g->g<wr0.heap.size):=Rb fun g hg=>(ZZ.lt g hg).2
        obtain⟨-,VU,VN,-,hbc,WZ⟩:=HQ.out.us.dO (by rw[HU.out.1];omega);have cb:=hbc X4 (by rw[HU.out.1];exact hatS);have fb:=WZ X4;have hiat:(0:Int)<=(X4:Int)/\(X4:Int)<(Sn:Int):=oZ;clear Zs Vk hu ZZ hbc WZ Xr e2 e3 hlu Zo;have Xo:=Rb (HQ.out.P7 HU.out.1 (fun j h e=>Sq _ (HVB.out j h _ e)) X4);have YO:Hid (vs.length<1099511627776):=Rb (by
         have h1:=HQ.out.rr.2.2.1;rw[ri]at h1;omega)
        obtain⟨A7,d7,h17,-,-,-⟩:=HQ.out.ro.shape;obtain⟨l7,hl7⟩:∃l,vs.length=l:=⟨_,rfl⟩
        rw[hl7]at h17;subst h17;clear hl7;have hsz7:=Xo.out.lt;go_wp2_with(at_builtin;refine nG (f:=id) (y:=Value.slice Au lu cu) lN rfl oQ rfl Xo.out.ro YO.out hsz7 rfl rfl Tryz.underlying39 rfl (by rw[az];rfl) ?_;intro v' w' ho hg Vu);have hwl:=T2.out.lt;have ZY:=T2.out.bl.size;have hsc:(wr.setCell ⟨wr0.heap.size,X4,none⟩ (.bool true)).heap.size=wr.heap.size:=az _ _ _;have hrr:rows (yz sg mt (k+1) idx)=rows (yz sg mt k idx)++[ints (gZ sg mt X4)]:=by unfold rows yz;rw[Sk,SB,SB,<-HAT.out];rfl
        have Zp:=Rb (Xo.out.push oZ (HU1.out.below (Xo.out.bl) (Rf _)) ho hg Vu);rw[<-hrr]at Zp;have HU2:Hid ((us.set X4 true).length=Sn/\∀z,z<Sn->gb (us.set X4 true) z=decide (jl sg mt p x0 z<(k+1:Nat))):=Rb ⟨by rw[Ry];exact HU.out.1,fun z hz=>by
         rw[mJ (by rw[HU.out.1];exact hatS)];by_cases e:z=X4;{rw[Re e,e,Rj oZ]}
         ·rw[Rc e,HU.out.2 z hz]
          refine Sj.2 ?_;have:jl sg mt p x0 z≠k:=fun h=>e (HH.out.lY HV.out (by rw[Wk.out];exact hz) hat1 (by rw[h,hat2]))
          omega⟩
        have HVB2:Hid (∀j (h:j<(vs++[Value.slice Au lu cu]).length) (g:Nat),(vs++[Value.slice Au lu cu])[j].ownBlock=some g->g<wr0.heap.size):=Rb (fun j h g hgg=>by
         rw[List.getElem_append]at hgg;split at hgg;{exact HVB.out j _ g hgg}
         ·rw[List.getElem_singleton]at hgg
          exact HUB.out g hgg)
        have HN0:Hid (Gb sg mt p x0 k 0 (-1)):=Rb (.inl ⟨rfl,fun c h=>absurd h (RG _)⟩);obtain⟨u2,hu2⟩:∃x,us.set X4 true=x:=⟨_,rfl⟩
        rw[hu2]at Zp HU2;obtain⟨vs2,HQ3,HVB3⟩:∃vs2:List Value,Hid (Ew w wr0 w' wr0.heap.size Sn v' u2 vs2 (rows (yz sg mt (k+1) idx)))/\Hid (∀j (h:j<vs2.length) (g:Nat),vs2[j].ownBlock=some g->g<wr0.heap.size):=⟨_,Zp,HVB2⟩
        clear Zp HVB2;clear ho hg Vu hsc hrr hu2 Xo HQ HU HVB YO HU1 HUB hsz7 kc cb fb VU VN hwl ZY;go_loopg[14,75] sg.length (fun g v14 i wx=>∃(c:Nat)(x:Int),c+g=sg.length/\i= .int .i64 c/\v14= .int .i64 x/\Hid (Gb sg mt p x0 k c x)/\Hid (Ew w wr0 wx wr0.heap.size Sn v' u2 vs2 (rows (yz sg mt (k+1) idx))))
        case atStart=>exact⟨0,-1,oZ,rfl,rfl,HN0,HQ3⟩
        case round=>
         clear HN0 HQ3;obtain⟨c,x,hcg,rfl,rfl,HN,HQ⟩:=hrel
         cases gk with
         |zero=>
          obtain rfl:c=sg.length:=oZ;have hx:=(HH.out.MU HV.out HIX.out HN.out);rw[Wk.out]at hx;have HX:=Rb hx;clear hx;go_wp2_with fail;go_roundg g3
          case rel=>exact⟨k+1,u2,vs2,oZ,by rw[HX.out],HU2,HVB3,HQ⟩
          case measure=>omega
         |succ g4=>
          have hc:c<sg.length:=oZ;have hc64:c<256:=by have:=HH.out.d.2.1;omega
          obtain⟨ge,dd,hve,-,hges,-,hce⟩:=T2.out.op.at_ (k:=c) (by rw[fh];exact hc);injection hve with a1 a2 a3
          subst a1;obtain⟨p1,p2⟩:=hce c (by rw[fh];exact hc);have e:(fV sg mt sg.length)[c]'(by rw[fh];exact hc)=qn sg mt c:=by simp[fV]
          simp only[e]at p1 p2;obtain⟨a,b,hab,ha,hb,hlev⟩:=HH.out.QO HV.out hc;rw[Wk.out]at ha hb;rw[hab]at p1 p2;simp only at p1 p2;have q1:=(HQ.out.bl.cell (p:=⟨ge,2*c,none⟩) hges).trans p1;have q2:=(HQ.out.bl.cell (p:=⟨ge,2*c+1,none⟩) hges).trans p2;rw[SP]at q1 q2;have HA:=Rb (HQ.out.call ((Rh _ wr).alloc (Rf _) (.cells #[.int .i64 a,.int .i64 b] 78)));obtain⟨-,VU,VN,-,hbc,-⟩:=HA.out.us.dO (by rw[HU2.out.1];omega);have t1:=hbc a (by rw[HU2.out.1];exact ha);have t2:=hbc b (by rw[HU2.out.1];exact hb);rw[HU2.out.2 a ha]at t1;rw[HU2.out.2 b hb]at t2;have Wx:=Ru wr (.cells #[.int .i64 a,.int .i64 b] 78);have b1:(wr.alloc (.cells #[.int .i64 a,.int .i64 b] 78)).cell? ⟨wr.heap.size,0,none⟩=some (.int .i64 a):=by rw[Rt _ _ _ _ _ _ Wx];rfl
          have b2:(wr.alloc (.cells #[.int .i64 a,.int .i64 b] 78)).cell? ⟨wr.heap.size,1,none⟩=some (.int .i64 b):=by rw[Rt _ _ _ _ _ _ Wx];rfl
          have hab2:a≠b:=by rintro rfl;rcases hlev with⟨h,-⟩|⟨h,-⟩<;>omega
          have HLEV:=Rb hlev;clear hce e p1 p2 hab Wx hbc hlev a2 a3;by_cases hA:a=X4
          ·subst hA
           have hBn:((b:Int)==(a:Int))=false:=by rw[Rs];omega
           have hAy:((a:Int)==(a:Int))=true:=UF _;rw[Rj oZ]at t1;by_cases hl:jl sg mt p x0 b<(k+1:Nat)
           ·rw[Rj hl]at t2
            have X8:Hid (Gb sg mt p x0 k (c+1) x):=Rb (HN.out.step (by rcases HLEV.out with⟨h1,h2,h3⟩|⟨h1,h2,h3⟩<;>(rw[<-h2];omega)));go_wp2_with fail;go_roundg g4
            case rel=>exact⟨c+1,x,oZ,by go_num,rfl,X8,HA⟩
            case measure=>omega
           ·rw[Rl hl]at t2
            have X8:Hid (Gb sg mt p x0 k (c+1) (b:Int)):=Rb (.inr ⟨b,by rw[Wk.out];exact hb,by rcases HLEV.out with⟨h1,h2,h3⟩|⟨h1,h2,h3⟩<;>omega,rfl⟩);go_wp2_with fail;go_roundg g4
            case rel=>exact⟨c+1,_,oZ,by go_num,rfl,X8,HA⟩
            case measure=>omega
          ·by_cases hB:b=X4
           ·subst hB
            have hBn:((a:Int)==(b:Int))=false:=by rw[Rs];omega
            have hAy:((b:Int)==(b:Int))=true:=UF _;rw[Rj oZ]at t2;by_cases hl:jl sg mt p x0 a<(k+1:Nat)
            ·rw[Rj hl]at t1
             have X8:Hid (Gb sg mt p x0 k (c+1) x):=Rb (HN.out.step (by rcases HLEV.out with⟨h1,h2,h3⟩|⟨h1,h2,h3⟩<;>(rw[<-h2];omega)));go_wp2_with fail;go_roundg g4
             case rel=>exact⟨c+1,x,oZ,by go_num,rfl,X8,HA⟩
             case measure=>omega
            ·rw[Rl hl]at t1
             have X8:Hid (Gb sg mt p x0 k (c+1) (a:Int)):=Rb (.inr ⟨a,by rw[Wk.out];exact ha,by rcases HLEV.out with⟨h1,h2,h3⟩|⟨h1,h2,h3⟩<;>omega,rfl⟩);go_wp2_with fail;go_roundg g4
             case rel=>exact⟨c+1,_,oZ,by go_num,rfl,X8,HA⟩
             case measure=>omega
           ·have hBn:((b:Int)==(X4:Int))=false:=by rw[Rs];omega
            have hAn:((a:Int)==(X4:Int))=false:=by rw[Rs];omega
            have X8:Hid (Gb sg mt p x0 k (c+1) x):=Rb (HN.out.step (by
             rcases HLEV.out with⟨h1,h2,h3⟩|⟨h1,h2,h3⟩
             {rw[<-h2];exact fun h=>hB (HH.out.lY HV.out (by rw[Wk.out];exact hb) hat1 oZ)}
             ·rw[<-h2]
              exact fun h=>hA (HH.out.lY HV.out (by rw[Wk.out];exact ha) hat1 oZ)))
            clear hA hB;go_wp2_with fail;go_roundg g4
            case rel=>exact⟨c+1,x,oZ,by go_num,rfl,X8,HA⟩
            case measure=>omega
     ·rw[Rl h0]at HIF
      have HNO2:Hid (∀j,j<i+1->jl sg mt p x0 j≠0):=Rb fun j hj=>by by_cases e:j=i;{rw[e];exact h0};{exact HNO.out j oZ}
      go_wp2_with fail;refine(Aa (F:=dU mt) (G:=fun y=>cW (fun h=>decide (dU mt h=y)) mt.length) (N:=mt.length) (n:=nb) (row:=row) (wr.drewN nd) (fun b=>w.heap.size<=b/\b<wr.heap.size) HRK.out k3 k10 (T2.out.fm.same (w':=wr.drewN nd) rfl) (Ww.out.same (w':=wr.drewN nd) rfl) Y7.out VQ (fun h hh=>by have:=AQ HH.out.d hh;omega) (fun h=>RQ (jD _ _) oZ) We oZ).mono ?_;rintro e w9 ⟨rfl,n9,rfl⟩;rw[HIF.out];rw[TN];go_wp2_with fail;go_roundg g
      case rel=>exact⟨i+1,_,oZ,by go_num,rfl,HNO2⟩
      case measure=>omega
  ·intro x cc w1 cnt1 hwx hwc hlx Zo hrg1 V5 Vs VV hen
   obtain⟨h,rfl⟩:∃h:Nat,x=(h:Int):=⟨x.toNat,by have:=HL.out x hlx;omega⟩
   have hh:h<mt.length:=by have:=HL.out _ hlx;omega
   obtain rfl:cc=(dU mt h:Int):=by
    have e:=(Zo (.lit (.int .i64 0))).symm.trans (HMI.out.1.at_ (h:Int));injection e with e
    injection e with _ e
    rw[e,HMI.out.2.1 h hh]
   obtain⟨y,hy⟩:∃y,dU mt h=y:=⟨_,rfl⟩
   have VJ:y<mt.length:=by rw[<-hy];exact AQ HH.out.d hh
   rw[hy]at hen;have Vv:=HB.out.size;have Wg:=Rb (HS.out.same (Vs.block w2.heap.size (by have:=HC.out;have:=HR.out.lt;omega) (fun e=>by injection e;omega)));have Vr:=Rb (HB.out.grown Vs Vv (fun j hj=>by injection hj;omega));have Wu:Hid (w1.cell? ⟨w2.heap.size+1,0,none⟩=some (.map (some w2.heap.size))):=Rb ((Ri (a:=⟨w2.heap.size+1,0,none⟩) (Vs.block (w2.heap.size+1) (by have:=HR.out.lt;omega) (fun e=>by injection e;omega))).trans HC.out);obtain⟨D2,Zc,Wb⟩:=Wg.out;have Za:=Rb Zc;have hat2:=Wb.at_ (y:Int);obtain⟨f,hf⟩:∃f,pA (dU mt) left mt.length y=f:=⟨_,rfl⟩
   have hfl:f<=256:=by rw[<-hf];exact RQ (jD _ _) VQ
   rw[Re oZ,Si,hf]at hat2;have HAT:=Rb hat2;have Yw:keyOf Tryz.prog 3 (.int .i64 (y:Int))=some (.int .i64 (y:Int)):=keyOf_int_mk Tryz.underlying3 (pR oZ);have HKEY:=Rb Yw;have Xr:pT left mt.length<=256:=RQ (jD _ _) VQ;have HMJ:Hid (iW (D2.put (.int .i64 (y:Int)) (.lit (.int .i64 ((f:Int)+1)))) (fun x=>if 0<=x then(pA (dU mt) (fun z=>left z&& !z.sameKey (.int .i64 (h:Int))) mt.length x.toNat:Int)else 0)):=Rb ((Wb.put (y:Int) ((f:Int)+1)).congr fun x=>by
    rw[vy hh hlx];by_cases e:x=(y:Int);{rw[Re e,Re oZ,e,Si,hf,Re hy];rfl}
    ·rw[Rc e]
     by_cases e2:0<=x;{rw[Re e2,Re e2,Rc oZ,Tx]}
     ·rw[Rc e2,Rc e2])
   have HR1:=Rb hrg1;have HLT:=Rb V5;have HL1:Hid (∀x:Int,(left (.int .i64 x)&& !Lit.sameKey (.int .i64 x) (.int .i64 (h:Int)))=true->0<=x/\x<mt.length):=Rb fun x hx=>by rw[RA]at hx;exact HL.out x hx.1
   have HVN:=Rb (Ei hh hlx);have k10:=Wu.out;clear hwx hlx hrg1 V5 Zo hwc Vs Zc Wb hat2 hf Yw HS Wg
   go_wp2_with(first
    |(at_lookup;refine wpList_lookup_own_int _ rfl _ _ 105 rfl 3 3 .i64 Bx Tryz.underlying105 Tryz.underlying3 (Hc _) w2.heap.size (pT left mt.length) _ rfl Za.out _ _ rfl HKEY.out ?_;intro cc Zo hwc;(obtain rfl:cc=(f:Int):=by have e:=Zo.symm.trans HAT.out;injection e with e;injection e);clear Zo hwc)
    |(at_mapUpdate;refine wpList_mapUpdate_own _ rfl _ _ _ 105 rfl 3 3 Bx Tryz.underlying105 _ w2.heap.size (pT left mt.length) _ rfl Za.out (by unfold maxLen;omega) _ _ _ rfl rfl HKEY.out _ [] (plainElem_int Tryz.underlying3 (pR oZ)) ?_;intro w3 Y9 XH;have HO3:=Rb Y9;have HG3:=Rb XH;clear Y9 XH))
   have Vh:bm≠w2.heap.size:=oZ;have HR3:=Rb (HR1.out.kept HG3.out (fun e=>by injection e;omega) (fun e=>by injection e;omega));have XY:=Rb (Vr.out.grown HG3.out Vr.out.size (fun j hj=>by injection hj;omega));have HC3:Hid (w3.cell? ⟨w2.heap.size+1,0,none⟩=some (.map (some w2.heap.size))):=Rb ((Ri (a:=⟨w2.heap.size+1,0,none⟩) (HG3.out.block (w2.heap.size+1) (by have:=HR1.out.lt;omega) (fun e=>by injection e;omega))).trans Wu.out);have HS3:Hid (GZ w3 w2.heap.size (pT (fun z=>left z&& !z.sameKey (.int .i64 (h:Int))) mt.length) (pA (dU mt) (fun z=>left z&& !z.sameKey (.int .i64 (h:Int))) mt.length)):=by refine Rb ⟨_,?_,HMJ.out⟩;rw[HVN.out];exact HO3.out
   go_frame;go_roundw
   case rel=>exact⟨_,cnt1,HR3,HS3,HL1,XY,HC3⟩
   case measure=>rw[HR3.out.left_eq,HR.out.left_eq];exact HLT.out
def zN(D:DataW Unit)(N:Nat)(F:Nat->Nat)(ps:Nat->Bool):Prop:=∃G,iW D G/\(∀h,h<N->ps h=true->G (h:Int)=(F h:Int))/\∀x:Int,has D (.int .i64 x)=decide (0<=x/\x<N/\ps x.toNat=true)
theorem zN.nil(N:Nat)(F:Nat->Nat):zN (.map []) N F (fun _=>false):=⟨fun _=>0,iW.nil,fun h _ hp=>by simp at hp,fun x=>by simp[has]⟩
theorem zN.congr{D:DataW Unit}{N:Nat}{F:Nat->Nat}{ps ps':Nat->Bool}(h:zN D N F ps)(e:∀x,x<N->ps' x=ps x):zN D N F ps':=by obtain⟨G,h1,h2,h3⟩:=h;refine⟨G,h1,fun x hx hp=>h2 x hx (by rw[<-e x hx];exact hp),fun x=>?_⟩;rw[h3 x];refine Sj.2 ⟨fun⟨a,b,c⟩=>⟨a,b,by rw[e _ oZ];exact c⟩,fun⟨a,b,c⟩=>⟨a,b,by rw[<-e _ oZ];exact c⟩⟩
theorem zN.put{D:DataW Unit}{N:Nat}{F:Nat->Nat}{ps:Nat->Bool}(H:zN D N F ps){h:Nat}(hh:h<N):zN (D.put (.int .i64 (h:Int)) (.lit (.int .i64 (F h:Int)))) N F (fun z=>ps z||decide (z=h)):=by obtain⟨G,h1,h2,h3⟩:=H;refine⟨_,h1.put _ _,fun x hx hp=>?_,fun x=>?_⟩;{by_cases e:x=h;{subst e;rw[Re rfl]};{rw[Rc oZ];refine h2 x hx ?_;simpa[e]using hp}};{by_cases e:x=(h:Int);{subst e;rw[has_put_same h1.m (show WideAt.IsKeyLit (.int .i64 (h:Int))from trivial)];refine(Rj ⟨oZ,oZ,?_⟩).symm;simp};{rw[has_put_other (fun e'=>e (by injection e')),h3 x];refine Sj.2 ⟨fun⟨a,b,c⟩=>⟨a,b,by simp[c]⟩,fun⟨a,b,c⟩=>⟨a,b,?_⟩⟩;have:¬x.toNat=h:=oZ;simpa[this]using c}}
def zY(mt:List Int)(i j h:Nat):Bool:=decide (dU mt h<i)||(decide (dU mt h=i)&&decide (h∈((aC mt).getD i []).take j))
section
variable{sg mt:List Int}{L:Int}(hd:cJ sg mt L)
include hd
theorem B_{i h:Nat}(hi:i<(aC mt).length)(hh:h<mt.length):h∈(aC mt).getD i []↔dU mt h=i:=by
 have e:(aC mt).getD i []=(aC mt)[i]:=by rw[Rw,RH hi];rfl
 rw[e];have hP:aO (au mt) mt.length:=aU hd.2.2.2.2.2.1 hd.2.1;have:=rL (f:=au mt) (wt:=il) hP (fun h _=>rfl) hh rfl hi;exact⟨fun h=>(this.1 h).symm,fun h=>this.2 h.symm⟩
theorem FA{i h:Nat}(hi:i<(aC mt).length)(hm:h∈(aC mt).getD i []):h<mt.length:=by
 have e:(aC mt).getD i []=(aC mt)[i]:=by rw[Rw,RH hi];rfl
 rw[e]at hm;have hm':(aC mt)[i]∈aC mt:=R7 hi;generalize(aC mt)[i]=row at hm hm';unfold aC bR at hm';rw[So]at hm';obtain⟨r,hr,e2⟩:=hm';rw[R3,Rm]at hr;have hP:aO (au mt) mt.length:=aU hd.2.2.2.2.2.1 hd.2.1;rw[<-e2]at hm;obtain⟨k,rfl⟩:=(aG hP hr.1).1 hm;exact hP.bL k hr.1
theorem Nl{i:Nat}(hi:i<(aC mt).length):((aC mt).getD i []).length<=mt.length:=by
 have e:(aC mt).getD i []=(aC mt)[i]:=by rw[Rw,RH hi];rfl
 rw[e];have hm':(aC mt)[i]∈aC mt:=R7 hi;generalize(aC mt)[i]=row at hm';unfold aC bR at hm';rw[So]at hm';obtain⟨r,hr,e2⟩:=hm';rw[R3,Rm]at hr;rw[<-e2,eJ];exact(bz (aU hd.2.2.2.2.2.1 hd.2.1) hr.1).2.1
theorem Pb{h:Nat}(hh:h<mt.length):dU mt h<(aC mt).length:=
 (fw (f:=au mt) (wt:=il) (aU hd.2.2.2.2.2.1 hd.2.1) (fun _ _=>rfl) hh rfl).1
omit hd in
theorem Gd(h:Nat):zY mt 0 0 h=false:=by unfold zY;simp
theorem Gl{i j h:Nat}(hi:i<(aC mt).length)(hj:j<((aC mt).getD i []).length)(hh:((aC mt).getD i []).getD j 0=h)(x:Nat):zY mt i (j+1) x=(zY mt i j x||decide (x=h)):=by
 have Yj:((aC mt).getD i [])[j]=h:=by rw[<-hh];generalize(aC mt).getD i []=row at hj;rw[Rw,RH hj];rfl
 have hm:h∈(aC mt).getD i []:=by rw[<-Yj];exact R7 hj
 have hf:=(B_ hd hi (FA hd hi hm)).1 hm;unfold zY;have e:((aC mt).getD i []).take (j+1)=((aC mt).getD i []).take j++[h]:=by rw[Uy,RH hj];rw[Yj];rfl
 rw[e];by_cases e2:x=h;{subst e2;simp[hf]};{simp[e2]}
theorem Jz{i:Nat}(hi:i<(aC mt).length){x:Nat}(hx:x<mt.length):zY mt (i+1) 0 x=zY mt i ((aC mt).getD i []).length x:=by unfold zY;rw[SR,UE];have h1:=B_ hd hi hx;by_cases e:dU mt x=i;{rw[Rj (h1.2 e),Rj e,Rj (oZ:dU mt x<i+1)];simp};{rw[Rl e];have:decide (dU mt x<i+1)=decide (dU mt x<i):=Sj.2 oZ;rw[this];simp}
theorem CY{x:Nat}(hx:x<mt.length):zY mt (aC mt).length 0 x=true:=by unfold zY;rw[Rj (Pb hd hx)];rfl
theorem zN.full{w:World}{bm km:Nat}{D:DataW Unit}(ho:w.ownsMap Tryz.prog 3 (plainElem Tryz.prog 3) bm km D)(H:zN D mt.length (dU mt) (zY mt (aC mt).length 0)):yC w bm mt.length (dU mt):=by obtain⟨G,h1,h2,h3⟩:=H;refine⟨km,D,G,ho,h1,fun h hh=>h2 h hh (CY hd hh),fun x=>?_⟩;rw[h3 x];refine Sj.2 ⟨fun h=>⟨h.1,h.2.1⟩,fun h=>⟨h.1,h.2,CY hd oZ⟩⟩
end
structure IZ(bm:Nat)(w w':World):Prop where
 g:w.grownBy w' (some bm)
theorem IZ.refl(bm:Nat)(w:World):IZ bm w w:=⟨UR _ _⟩
theorem IZ.grown{bm:Nat}{w w' w2:World}(h:IZ bm w w')(hg:w'.grownBy w2 (some bm)):IZ bm w w2:=⟨h.g.trans hg⟩
theorem IZ.PL{bm:Nat}{w w':World}(h:IZ bm w w'){b:Nat}(h1:b<w.heap.size)(h2:b≠bm):w'.heap[b]?=w.heap[b]?:=h.g.block b h1 (fun e=>h2 (by injection e))
section
variable{sg mt:List Int}{L:Int}(H:Bd sg mt L){p:Nat->Int}{x0:Nat}(V:BS sg mt p x0)
include H V
theorem Bd.Mi{idx:Nat->Nat}{ch:List Int}(V2:∀j,j<(aD sg mt).length->idx j<(aD sg mt).length/\jl sg mt p x0 (idx j)=j)(hc:Kl sg mt idx ch (aD sg mt).length):
  Cut sg mt p x0 (aD sg mt).length (gn ch)/\NG sg (gn ch) [] (aD sg mt).length ch:=
 ⟨H.Mu V rfl (fun j hj=>⟨idx j,(V2 j hj).1,(V2 j hj).2,(hc.2 j hj).2.1⟩) (fun j h1 h2=>(hc.2 j h2).2.2 h1),hc.1,fun j hj=>(hc.2 j hj).1⟩
end
end Go.Proofs.YtdbhigmklejicaaGreat
