/- Lemmas, each under its own premises. -/
import Derived.Test.YtdbhigmklejicaaGreatZ03
import Derived.Deep.RegionWith
import Derived.BigRegion
namespace Go.Proofs.YtdbhigmklejicaaGreat
set_option maxHeartbeats 16000000
set_option maxRecDepth 100000
def sI:Nat->(Nat->Int)->Int
 |0,_=>0
 |n+1,f=>sI n f+f n
theorem aj:∀{n:Nat}{f g:Nat->Int},(∀k,k<n->f k=g k)->sI n f=sI n g
 |0,_,_,_=>rfl
 |n+1,f,g,h=>by show sI n f+f n=sI n g+g n;rw[aj fun k hk=>h k oZ,h n oZ]
theorem dX:∀(n:Nat)(f g:Nat->Int),sI n (fun k=>f k+g k)=sI n f+sI n g
 |0,_,_=>rfl
 |n+1,f,g=>by show sI n _+(f n+g n)=(sI n f+f n)+(sI n g+g n);rw[dX n f g];omega
theorem bj:∀(n:Nat)(t:Int)(f:Nat->Int),sI n (fun k=>t*f k)=t*sI n f
 |0,t,_=>(RF t).symm
 |n+1,t,f=>by show sI n _+t*f n=t*(sI n f+f n);rw[bj n t f,Ty]
theorem lP(n:Nat)(f:Nat->Int):sI n (fun k=> -f k)= -sI n f:=by have:=bj n (-1) f;rw[show(-1:Int)*sI n f= -sI n f by omega]at this;rw[<-this];exact aj fun k _=>by omega
theorem q_:∀(n:Nat),sI n (fun _=>0)=0
 |0=>rfl
 |n+1=>by show sI n _+0=0;rw[q_ n];rfl
theorem aX{n:Nat}{f:Nat->Int}(h:∀k,k<n->f k=0):sI n f=0:=by rw[aj h,q_]
theorem eF:∀(n:Nat)(f:Nat->Int),sI (n+1) f=f 0+sI n (fun k=>f (k+1))
 |0,f=>by show 0+f 0=f 0+0;omega
 |n+1,f=>by show sI (n+1) f+f (n+1)=f 0+(sI n (fun k=>f (k+1))+f (n+1));rw[eF n f];omega
theorem cI:∀{n k:Nat}(f:Nat->Int),k<n->(∀j,j<n->j≠k->f j=0)->sI n f=f k
 |n+1,k,f,hk,h=>by show sI n f+f n=f k;by_cases e:k=n;{subst e;rw[aX fun j hj=>h j oZ oZ];omega};{rw[cI f oZ fun j hj Vh=>h j oZ Vh,h n oZ oZ];omega}
theorem mO{n p q:Nat}(f:Nat->Int)(hp:p<n)(hq:q<n)(hpq:p≠q)(h:∀j,j<n->j≠p->j≠q->f j=0):sI n f=f p+f q:=by
 have e:sI n f=sI n (fun j=>(if j=p then f p else 0)+(if j=q then f q else 0)):=aj fun j hj=>by by_cases h1:j=p;{subst h1;rw[Re rfl,Rc hpq];omega};{by_cases h2:j=q;{subst h2;rw[Rc h1,Re rfl];omega};{rw[Rc h1,Rc h2,h j hj h1 h2];rfl}}
 rw[e,dX,cI (k:=p) _ hp (fun j _ hj=>Rc hj),cI (k:=q) _ hq (fun j _ hj=>Rc hj),Re rfl,Re rfl]
theorem ft:∀(n m:Nat)(f:Nat->Nat->Int),sI n (fun i=>sI m (fun j=>f i j))=sI m (fun j=>sI n (fun i=>f i j))
 |0,m,f=>(q_ m).symm
 |n+1,m,f=>by show sI n _+sI m _=sI m (fun j=>sI n (fun i=>f i j)+f n j);rw[dX,ft n m f]
def jS(j:Nat):Int:=if j%2=0 then 1 else-1
theorem tP(j:Nat):jS (j+1)= -jS j:=by unfold jS;split<;>split<;>omega
def sk(j k:Nat):Nat:=if k<j then k else k+1
theorem y_(j k:Nat):sk j k≠j:=by unfold sk;split<;>omega
theorem sM{j k n:Nat}(hk:k<n):sk j k<n+1:=by unfold sk;split<;>omega
theorem ID{j a b:Nat}(h:sk j a=sk j b):a=b:=by unfold sk at h;split at h<;>split at h<;>omega
theorem oG(k:Nat):sk 0 k=k+1:=by unfold sk;rw[Rc oZ]
theorem I8{j k n:Nat}(hj:j<n+1)(hk:k<n+1)(h:k≠j):∃l,l<n/\sk j l=k:=by by_cases e:k<j;{exact⟨k,oZ,by unfold sk;rw[Re e]⟩};{exact⟨k-1,oZ,by unfold sk;rw[Rc oZ];omega⟩}
abbrev Mx:=Nat->Nat->Int
def bS:Nat->Mx->Int
 |0,_=>1
 |n+1,A=>sI (n+1) fun j=>jS j*A 0 j*bS n fun i k=>A (i+1) (sk j k)
theorem dr(n:Nat)(A:Mx):bS (n+1) A=sI (n+1) fun j=>jS j*A 0 j*bS n fun i k=>A (i+1) (sk j k):=rfl
theorem aR:∀{n:Nat}{A B:Mx},(∀i j,i<n->j<n->A i j=B i j)->bS n A=bS n B
 |0,_,_,_=>rfl
 |n+1,A,B,h=>by
  rw[dr,dr];refine aj fun j hj=>?_
  rw[h 0 j oZ hj,aR fun i k hi hk=>h (i+1) (sk j k) oZ (sM hk)]
theorem me:∀{n:Nat}{A B C:Mx}{c:Nat}{t:Int},c<n->(∀i j,i<n->j<n->j≠c->B i j=A i j/\C i j=A i j)->(∀i,i<n->C i c=A i c+t*B i c)->bS n C=bS n A+t*bS n B
 |n+1,A,B,C,c,t,hc,h,hC=>by
  rw[dr,dr,dr,<-bj,<-dX];refine aj fun j hj=>?_
  by_cases e:j=c
  ·subst e
   have e1:bS n (fun i k=>C (i+1) (sk j k))=bS n (fun i k=>A (i+1) (sk j k)):=aR fun i k hi hk=>(h _ _ oZ (sM hk) (y_ _ _)).2
   have e2:bS n (fun i k=>B (i+1) (sk j k))=bS n (fun i k=>A (i+1) (sk j k)):=aR fun i k hi hk=>(h _ _ oZ (sM hk) (y_ _ _)).1
   rw[e1,e2,hC 0 oZ,Ty,Int.add_mul,<-RO,<-RO,<-RO,RW (jS j) t]
  ·obtain⟨l,hl,e'⟩:=I8 (j:=j) hj hc (fun e'=>e e'.symm)
   rw[(h 0 j oZ hj e).1,(h 0 j oZ hj e).2,
    me (A:=fun i k=>A (i+1) (sk j k)) (B:=fun i k=>B (i+1) (sk j k)) (C:=fun i k=>C (i+1) (sk j k)) (c:=l) (t:=t) hl
     (fun i k hi hk Vh=>h _ _ oZ (sM hk) (fun e2=>Vh (ID (e2.trans e'.symm))))
     (fun i hi=>by rw[e'];exact hC _ oZ),Ty,<-RO,<-RO,<-RO,RO,RW _ t,<-RO,<-RO]
theorem qQ:∀{n:Nat}{A:Mx}{c:Nat},c+1<n->(∀i,i<n->A i c=A i (c+1))->bS n A=0
 |n+1,A,c,hc,h=>by
  rw[dr,mO (p:=c) (q:=c+1) _ oZ hc oZ (fun j hj h1 h2=>?_)]
  ·have e:bS n (fun i k=>A (i+1) (sk c k))=bS n (fun i k=>A (i+1) (sk (c+1) k)):=aR fun i k hi hk=>by
    by_cases e:k=c;{subst e;rw[show sk k k=k+1 by unfold sk;rw[Rc oZ],show sk (k+1) k=k by unfold sk;rw[Re oZ]];exact(h _ oZ).symm};{congr 1;unfold sk;split<;>split<;>omega}
   rw[e,h 0 oZ,tP,SG,SG];omega
  ·have:bS n (fun i k=>A (i+1) (sk j k))=0:=by
    by_cases Vg:j<c
    ·refine qQ (c:=c-1) oZ fun i hi=>?_
     rw[show sk j (c-1)=c by unfold sk;rw[Rc oZ];omega,show sk j (c-1+1)=c+1 by unfold sk;rw[Rc oZ];omega];exact h _ oZ
    ·refine qQ (c:=c) oZ fun i hi=>?_
     rw[show sk j c=c by unfold sk;rw[Re oZ],show sk j (c+1)=c+1 by unfold sk;rw[Re oZ]];exact h _ oZ
   rw[this,RF]
def cV(A:Mx)(c:Nat)(f:Nat->Int):Mx:=fun i j=>if j=c then f i else A i j
def kP(p q k:Nat):Nat:=if k=p then q else if k=q then p else k
theorem CE(p q:Nat):kP p q p=q:=by unfold kP;rw[Re rfl]
theorem Cu(p q:Nat):kP p q q=p:=by unfold kP;by_cases h:q=p<;>simp[h]
theorem qp{p q k:Nat}(h1:k≠p)(h2:k≠q):kP p q k=k:=by unfold kP;rw[Rc h1,Rc h2]
theorem qU(p q k:Nat):kP p q (kP p q k)=k:=by by_cases h1:k=p;{subst h1;rw[CE,Cu]};{by_cases h2:k=q;{subst h2;rw[Cu,CE]};{rw[qp h1 h2,qp h1 h2]}}
theorem ig{p q k n:Nat}(hp:p<n)(hq:q<n)(hk:k<n):kP p q k<n:=by unfold kP;split;{exact hq};{split<;>assumption}
theorem nZ{n:Nat}{A:Mx}{p q:Nat}(hp:p<n)(hq:q<n)(Vh:p≠q)(same:∀x:Nat->Int,bS n (cV (cV A p x) q x)=0):bS n (fun i j=>A i (kP p q j))= -bS n A:=by
 have key:∀f g:Nat->Int,bS n (cV (cV A p f) q g)+bS n (cV (cV A p g) q f)=0:=by
  intro f g;have add2:∀(x y z:Nat->Int),bS n (cV (cV A p x) q (fun i=>y i+z i))=bS n (cV (cV A p x) q y)+bS n (cV (cV A p x) q z):=by
   intro x y z
   have:=me (n:=n) (A:=cV (cV A p x) q y) (B:=cV (cV A p x) q z) (C:=cV (cV A p x) q (fun i=>y i+z i)) (c:=q) (t:=1) hq
    (fun i j _ _ Vh=>⟨by unfold cV;rw[Rc Vh,Rc Vh],by unfold cV;rw[Rc Vh,Rc Vh]⟩) (fun i _=>by unfold cV;simp)
   rw[this];omega
  have add1:∀(x y z:Nat->Int),bS n (cV (cV A p (fun i=>x i+y i)) q z)=bS n (cV (cV A p x) q z)+bS n (cV (cV A p y) q z):=by
   intro x y z
   have:=me (n:=n) (A:=cV (cV A p x) q z) (B:=cV (cV A p y) q z) (C:=cV (cV A p (fun i=>x i+y i)) q z) (c:=p) (t:=1) hp
    (fun i j _ _ Vh=>⟨by unfold cV;by_cases e:j=q<;>simp[e,Vh],by unfold cV;by_cases e:j=q<;>simp[e,Vh]⟩) (fun i _=>by unfold cV;simp[Vh])
   rw[this];omega
  have h:=same (fun i=>f i+g i);rw[add2,add1,add1,same,same]at h;omega
 have h:=key (fun i=>A i q) (fun i=>A i p);have e1:bS n (cV (cV A p fun i=>A i q) q fun i=>A i p)=bS n (fun i j=>A i (kP p q j)):=aR fun i j _ _=>by unfold cV;by_cases h1:j=q;{subst h1;rw[Re rfl,Cu]};{by_cases h2:j=p;{subst h2;rw[Rc h1,Re rfl,CE]};{rw[Rc h1,Rc h2,qp h2 h1]}}
 have e2:bS n (cV (cV A p fun i=>A i p) q fun i=>A i q)=bS n A:=aR fun i j _ _=>by unfold cV;by_cases h1:j=q;{subst h1;rw[Re rfl]};{by_cases h2:j=p;{subst h2;rw[Rc h1,Re rfl]};{rw[Rc h1,Rc h2]}}
 rw[e1,e2]at h;omega
theorem uP{n:Nat}{A:Mx}{c:Nat}(hc:c+1<n):bS n (fun i j=>A i (kP c (c+1) j))= -bS n A:=
 nZ oZ hc oZ fun x=>qQ (c:=c) hc fun i _=>by unfold cV;simp
theorem xT:∀(d:Nat){n:Nat}{A:Mx}{c:Nat},c+d+1<n->(∀i,i<n->A i c=A i (c+d+1))->bS n A=0
 |0,n,A,c,hc,h=>qQ hc h
 |d+1,n,A,c,hc,h=>by
  have h1:=uP (A:=A) (c:=c+d+1) hc;rw[xT d (n:=n) (A:=fun i j=>A i (kP (c+d+1) (c+d+1+1) j)) (c:=c) oZ (fun i hi=>by
   show A i (kP (c+d+1) (c+d+1+1) c)=A i (kP (c+d+1) (c+d+1+1) (c+d+1));rw[qp oZ oZ,CE];exact h i hi)]at h1
  omega
theorem jW{n:Nat}{A:Mx}{c d:Nat}(hc:c<n)(hd:d<n)(Vh:c≠d)(h:∀i,i<n->A i c=A i d):bS n A=0:=by
 rcases US Vh with Vg|Vg
 {exact xT (d-c-1) (c:=c) oZ (fun i hi=>by rw[show c+(d-c-1)+1=d by omega];exact h i hi)};{exact xT (c-d-1) (c:=d) oZ (fun i hi=>by rw[show d+(c-d-1)+1=c by omega];exact(h i hi).symm)}
theorem rQ:∀(n:Nat)(A:Mx),bS (n+1) A=sI (n+1) fun i=>jS i*A i 0*bS n fun k l=>A (sk i k) (l+1)
 |0,A=>by show 0+jS 0*A 0 0*1=0+jS 0*A 0 0*1;rfl
 |n+1,A=>by
  rw[dr,eF (n+1) (fun j=>jS j*A 0 j*bS (n+1) fun i k=>A (i+1) (sk j k)),eF (n+1) (fun i=>jS i*A i 0*bS (n+1) fun k l=>A (sk i k) (l+1))];have e0:bS (n+1) (fun i k=>A (i+1) (sk 0 k))=bS (n+1) (fun k l=>A (sk 0 k) (l+1)):=aR fun i j _ _=>by rw[oG,oG]
  rw[e0];congr 1;have hl:∀j,j<n+1->jS (j+1)*A 0 (j+1)*bS (n+1) (fun i k=>A (i+1) (sk (j+1) k))=sI (n+1) fun i=>jS (j+1)*A 0 (j+1)*(jS i*A (i+1) 0*bS n fun k l=>A (sk i k+1) (sk j l+1)):=by
   intro j hj;rw[rQ n,<-bj];refine aj fun i hi=>?_
   congr 2;refine aR fun k l hk hl=>?_
   congr 1;unfold sk;split<;>split<;>omega
  have hr:∀i,i<n+1->jS (i+1)*A (i+1) 0*bS (n+1) (fun k l=>A (sk (i+1) k) (l+1))=sI (n+1) fun j=>jS (i+1)*A (i+1) 0*(jS j*A 0 (j+1)*bS n fun k l=>A (sk i k+1) (sk j l+1)):=by
   intro i hi;rw[dr,<-bj];refine aj fun j hj=>?_
   rw[show sk (i+1) 0=0 by unfold sk;rw[Re oZ]];congr 2;refine aR fun k l hk hl=>?_
   congr 1;unfold sk;split<;>split<;>omega
  rw[aj hl,aj hr,ft];refine aj fun i hi=>aj fun j hj=>?_
  rw[tP,tP];generalize bS n _=D;generalize A 0 (j+1)=x;generalize A (i+1) 0=y;generalize jS i=s;generalize jS j=t;simp only[SG];congr 1;rw[show t*x*(s*y*D)=(t*x*(s*y))*D from(RO _ _ _).symm,show s*y*(t*x*D)=(s*y*(t*x))*D from(RO _ _ _).symm,RW (t*x) (s*y)]
theorem gA:∀(n:Nat)(A:Mx),bS n (fun i j=>A j i)=bS n A
 |0,_=>rfl
 |n+1,A=>by
  rw[dr,rQ];refine aj fun j _=>?_
  rw[gA n fun k l=>A (sk j k) (l+1)]
theorem Jx{n:Nat}{A B C:Mx}{r:Nat}{t:Int}(hr:r<n)(h:∀i j,i<n->j<n->i≠r->B i j=A i j/\C i j=A i j)(hC:∀j,j<n->C r j=A r j+t*B r j):bS n C=bS n A+t*bS n B:=by rw[<-gA n A,<-gA n B,<-gA n C];exact me hr (fun i j hi hj Vh=>h j i hj hi Vh) hC
theorem lH{n:Nat}{A:Mx}{c d:Nat}(hc:c<n)(hd:d<n)(Vh:c≠d)(h:∀j,j<n->A c j=A d j):bS n A=0:=by rw[<-gA n A];exact jW hc hd Vh h
theorem F8{n:Nat}{A:Mx}{r s:Nat}{t:Int}(hr:r<n)(hs:s<n)(Vh:r≠s):bS n (fun i j=>if j=r then A i j+t*A i s else A i j)=bS n A:=by
 rw[me (A:=A) (B:=cV A r fun i=>A i s) (c:=r) (t:=t) hr (fun i j _ _ hj=>⟨by unfold cV;rw[Rc hj],by rw[Rc hj]⟩) (fun i _=>by unfold cV;rw[Re rfl,Re rfl]),
  jW (A:=cV A r fun i=>A i s) hr hs Vh (fun i _=>by unfold cV;rw[Re rfl,Rc (fun e=>Vh e.symm)])]
 omega
theorem GJ{n:Nat}{A:Mx}{r s:Nat}{t:Int}(hr:r<n)(hs:s<n)(Vh:r≠s):bS n (fun i j=>if i=r then A i j+t*A s j else A i j)=bS n A:=by rw[<-gA n A,<-gA];exact F8 (A:=fun i j=>A j i) hr hs Vh
theorem mj{n:Nat}{A:Mx}{p q:Nat}(hp:p<n)(hq:q<n)(Vh:p≠q):bS n (fun i j=>A i (kP p q j))= -bS n A:=
 nZ hp hq Vh fun x=>jW hp hq Vh fun i _=>by unfold cV;simp[Vh]
theorem uV{n:Nat}{A:Mx}{p q:Nat}(hp:p<n)(hq:q<n)(Vh:p≠q):bS n (fun i j=>A (kP p q i) j)= -bS n A:=by rw[<-gA n A,<-gA];exact mj (A:=fun i j=>A j i) hp hq Vh
theorem LJ{n:Nat}{A:Mx}{c:Nat}(hc:c<n)(h:∀i,i<n->A i c=0):bS n A=0:=by have:=me (n:=n) (A:=A) (B:=A) (C:=A) (c:=c) (t:=1) hc (fun _ _ _ _ _=>⟨rfl,rfl⟩) (fun i hi=>by rw[h i hi];rfl);omega
theorem yc{n:Nat}{A:Mx}{r:Nat}(hr:r<n)(h:∀j,j<n->A r j=0):bS n A=0:=by rw[<-gA n A];exact LJ hr h
def pI:Nat->(Nat->Int)->Int
 |0,_=>1
 |n+1,f=>pI n f*f n
theorem lM:∀{n:Nat}{f g:Nat->Int},(∀k,k<n->f k=g k)->pI n f=pI n g
 |0,_,_,_=>rfl
 |n+1,f,g,h=>by show pI n f*f n=pI n g*g n;rw[lM fun k hk=>h k oZ,h n oZ]
theorem yX:∀(n:Nat)(f:Nat->Int),pI (n+1) f=f 0*pI n (fun k=>f (k+1))
 |0,f=>by show 1*f 0=f 0*1;rw[SH,Uo]
 |n+1,f=>by show pI (n+1) f*f (n+1)=f 0*(pI n (fun k=>f (k+1))*f (n+1));rw[yX n f,RO]
theorem vT:∀{n:Nat}{A:Mx},(∀i j,i<n->j<i->A i j=0)->bS n A=pI n fun i=>A i i
 |0,_,_=>rfl
 |n+1,A,h=>by
  rw[rQ,cI (k:=0) _ oZ (fun i hi Vh=>by rw[h i 0 hi oZ,RF,Sc]),yX,
   vT (A:=fun k l=>A (sk 0 k) (l+1)) (fun i j hi hj=>by show A (sk 0 i) (j+1)=0;rw[oG];exact h _ _ oZ oZ)]
  rw[show jS 0=1 from rfl,SH];congr 1
inductive kO(n c:Nat):Mx->Mx->Prop
 |refl (A:Mx):kO n c A A
 |cong {A B C:Mx}:kO n c A B->(∀i j,i<n->j<c->C i j=B i j)->kO n c A C
 |xF {A B:Mx} (r s:Nat) (t:Int):r<n->s<n->r≠s->kO n c A B->kO n c A (fun i j=>if i=r then B i j+t*B s j else B i j)
 |cadd {A B:Mx} (r s:Nat) (t:Int):r<c->s<c->r≠s->kO n c A B->kO n c A (fun i j=>if j=r then B i j+t*B i s else B i j)
 |Jd {A B:Mx} (r s:Nat):r<n->s<n->r≠s->kO n c A B->kO n c A (fun i j=>B (kP r s i) j)
 |Jj {A B:Mx} (r s:Nat):r<c->s<c->r≠s->kO n c A B->kO n c A (fun i j=>B i (kP r s j))
 |Ad {A B:Mx} (r:Nat):r<n->kO n c A B->kO n c A (fun i j=>if i=r then-B i j else B i j)
 |cneg {A B:Mx} (r:Nat):r<c->kO n c A B->kO n c A (fun i j=>if j=r then-B i j else B i j)
section
variable{n c:Nat}{A B C:Mx}
theorem kO.trans(h:kO n c A B)(h2:kO n c B C):kO n c A C:=by
 induction h2 with
 |refl=>exact h
 |cong _ hc ih=>exact .cong ih hc
 |xF r s t h1 h2 h3 _ ih=>exact .xF r s t h1 h2 h3 ih
 |cadd r s t h1 h2 h3 _ ih=>exact .cadd r s t h1 h2 h3 ih
 |Jd r s h1 h2 h3 _ ih=>exact .Jd r s h1 h2 h3 ih
 |Jj r s h1 h2 h3 _ ih=>exact .Jj r s h1 h2 h3 ih
 |Ad r h1 _ ih=>exact .Ad r h1 ih
 |cneg r h1 _ ih=>exact .cneg r h1 ih
theorem kO.of(h:∀i j,i<n->j<c->B i j=A i j):kO n c A B:= .cong (.refl A) h
theorem kO.symm(h:kO n c A B):kO n c B A:=by
 induction h with
 |refl=>exact .refl _
 |cong _ hc ih=>exact kO.trans (.of fun i j hi hj=>(hc i j hi hj).symm) ih
 |@xF B r s t h1 h2 h3 _ ih=>refine kO.trans (.cong (.xF r s (-t) h1 h2 h3 (.refl _)) fun i j _ _=>?_) ih;by_cases e:i=r;{subst e;rw[Re rfl,Re rfl,Rc (TM h3),SG];omega};{rw[Rc e,Rc e]}
 |@cadd B r s t h1 h2 h3 _ ih=>refine kO.trans (.cong (.cadd r s (-t) h1 h2 h3 (.refl _)) fun i j _ _=>?_) ih;by_cases e:j=r;{subst e;rw[Re rfl,Re rfl,Rc (TM h3),SG];omega};{rw[Rc e,Rc e]}
 |Jd r s h1 h2 h3 _ ih=>exact kO.trans (.cong (.Jd r s h1 h2 h3 (.refl _)) fun i j _ _=>by rw[qU]) ih
 |Jj r s h1 h2 h3 _ ih=>exact kO.trans (.cong (.Jj r s h1 h2 h3 (.refl _)) fun i j _ _=>by rw[qU]) ih
 |Ad r h1 _ ih=>refine kO.trans (.cong (.Ad r h1 (.refl _)) fun i j _ _=>?_) ih;by_cases e:i=r;{rw[Re e,Re e];omega};{rw[Rc e,Rc e]}
 |cneg r h1 _ ih=>refine kO.trans (.cong (.cneg r h1 (.refl _)) fun i j _ _=>?_) ih;by_cases e:j=r;{rw[Re e,Re e];omega};{rw[Rc e,Rc e]}
theorem kO.C7(A:Mx)(p:Nat)(hp:p<n)(q:Nat->Int):∀k,k<=n->kO n c A (fun i j=>if i<k/\i≠p then A i j+q i*A p j else A i j)
 |0,_=> .of fun i j _ _=>by rw[Rc oZ]
 |k+1,hk=>by
  have ih:=kO.C7 A p hp q k oZ;by_cases e:k=p;{subst e;exact .cong ih fun i j _ _=>by by_cases h:i<k/\i≠k;{rw[Re h,Re ⟨oZ,h.2⟩]};{rw[Rc h,Rc oZ]}}
  ·refine .cong (.xF k p (q k) oZ hp e ih) fun i j _ _=>?_
   by_cases h:i=k;{subst h;simp only[if_true,Sq,U9,UG];rw[Re ⟨oZ,e⟩,Rc oZ]};{rw[Rc h];by_cases h2:i<k/\i≠p;{rw[Re h2,Re ⟨oZ,h2.2⟩]};{rw[Rc h2,Rc oZ]}}
end
def Dv(n c k:Nat)(A:Mx)(g:Int):Prop:=∀is js:Nat->Nat,(∀a,a<k->is a<n)->(∀b,b<k->js b<c)->g∣bS k fun a b=>A (is a) (js b)
theorem sU{k r:Nat}(A:Mx)(V:Mx)(x:Nat->Int)(hr:r<k):∀n,bS k (fun a b=>if a=r then sI n (fun i=>x i*V i b)else A a b)=sI n fun i=>x i*bS k fun a b=>if a=r then V i b else A a b
 |0=>yc hr fun j _=>by rw[Re rfl];rfl
 |n+1=>by
  rw[Jx (A:=fun a b=>if a=r then sI n (fun i=>x i*V i b)else A a b) (B:=fun a b=>if a=r then V n b else A a b) (r:=r) (t:=x n) hr (fun i j _ _ Vh=>⟨by rw[Rc Vh,Rc Vh],by rw[Rc Vh,Rc Vh]⟩) (fun j _=>by rw[Re rfl,Re rfl,Re rfl];rfl),
   sU A V x hr n]
  rfl
theorem Bs{g:Int}:∀{n:Nat}{f:Nat->Int},(∀i,i<n->g∣f i)->g∣sI n f
 |0,_,_=>Int.dvd_zero g
 |n+1,_,h=>TX (Bs fun i hi=>h i oZ) (h n oZ)
theorem yV{k n:Nat}{V:Mx}{g:Int}(h:∀is:Nat->Nat,(∀a,a<k->is a<n)->g∣bS k fun a b=>V (is a) b)(X:Mx):
  ∀t,t<=k->∀is:Nat->Nat,(∀a,a<k->is a<n)->g∣bS k fun a b=>if a<t then sI n (fun i=>X a i*V i b)else V (is a) b
 |0,_,is,Xh=>by have:=h is Xh;rwa [aR (B:=fun a b=>if a<0 then sI n (fun i=>X a i*V i b)else V (is a) b) fun a b _ _=>by rw[Rc oZ]]at this
 |t+1,ht,is,Xh=>by
  rw[aR (B:=fun a b=>if a=t then sI n (fun i=>X t i*V i b)else(if a<t then sI n (fun i=>X a i*V i b)else V (is a) b)) fun a b _ _=>by
   by_cases e:a=t;{subst e;rw[Re oZ,Re rfl]}
   ·rw[Rc e]
    by_cases e2:a<t;{rw[Re oZ,Re e2]}
    ·rw[Rc oZ,Rc e2],sU _ _ _ oZ]
  refine Bs fun i hi=>TP ?_
  have:=yV h X t oZ (fun a=>if a=t then i else is a) fun a ha=>by show(if a=t then i else is a)<n;split;{exact hi};{exact Xh a ha}
  rwa [aR (B:=fun a b=>if a=t then V i b else(if a<t then sI n (fun i=>X a i*V i b)else V (is a) b)) fun a b _ _=>by
   by_cases e:a=t;{subst e;rw[Rc oZ,Re rfl,Re rfl]}
   ·rw[Rc e,Rc e]]at this
theorem G0{k n:Nat}{V:Mx}{g:Int}(h:∀is:Nat->Nat,(∀a,a<k->is a<n)->g∣bS k fun a b=>V (is a) b)(X:Mx):g∣bS k fun a b=>sI n fun i=>X a i*V i b:=by
 by_cases hk:k=0;{subst hk;exact h (fun _=>0) fun a ha=>by omega};by_cases hn:n=0;{subst hn;rw[yc (r:=0) oZ fun j _=>rfl];exact Int.dvd_zero g};have:=yV h X k (Rf _) (fun _=>0) fun a _=>by omega
 rwa [aR (B:=fun a b=>sI n fun i=>X a i*V i b) fun a b ha _=>by rw[Re ha]]at this
section
variable{n c k:Nat}{A B:Mx}{g:Int}
theorem Dv.tr(h:Dv n c k A g):Dv c n k (fun i j=>A j i) g:=fun is js Xh XM=>by rw[<-gA];exact h js is XM Xh
theorem Dv.rows(h:Dv n c k A g){m:Nat}(X:Mx):Dv m c k (fun i j=>sI n fun l=>X i l*A l j) g:=fun is js _ XM=>
 G0 (V:=fun i b=>A i (js b)) (fun is' his'=>h is' js his' XM) fun a i=>X (is a) i
theorem Dv.congr(h:Dv n c k A g)(hc:∀i j,i<n->j<c->B i j=A i j):Dv n c k B g:=fun is js Xh XM=>by rw[aR (B:=fun a b=>A (is a) (js b)) fun a b ha hb=>hc _ _ (Xh a ha) (XM b hb)];exact h is js Xh XM
theorem Dv.xF(h:Dv n c k A g){r s:Nat}(t:Int)(hr:r<n)(hs:s<n)(Vh:r≠s):Dv n c k (fun i j=>if i=r then A i j+t*A s j else A i j) g:=by
 refine(h.rows (m:=n) fun i l=>if i=r then(if l=r then 1 else if l=s then t else 0)else if l=i then 1 else 0).congr fun i j hi hj=>?_
 by_cases e:i=r;{subst e;rw[Re rfl,mO (p:=i) (q:=s) _ hr hs Vh (fun l _ h1 h2=>by rw[Re rfl,Rc h1,Rc h2,Sc]),Re rfl,Re rfl,Re rfl,Rc (TM Vh),Re rfl,SH]};{rw[Rc e,cI (k:=i) _ hi (fun l _ h1=>by rw[Rc e,Rc h1,Sc]),Rc e,Re rfl,SH]}
theorem Dv.Ad(h:Dv n c k A g){r:Nat}:Dv n c k (fun i j=>if i=r then-A i j else A i j) g:=by
 refine(h.rows (m:=n) fun i l=>if l=i then(if i=r then-1 else 1)else 0).congr fun i j hi hj=>?_
 rw[cI (k:=i) _ hi (fun l _ h1=>by rw[Rc h1,Sc]),Re rfl];by_cases e:i=r;{rw[Re e,Re e];omega};{rw[Rc e,Rc e];omega}
theorem Dv.eqv(hE:kO n c A B)(h:Dv n c k A g):Dv n c k B g:=by
 induction hE with
 |refl=>exact h
 |cong _ hc ih=>exact ih.congr hc
 |xF r s t h1 h2 h3 _ ih=>exact ih.xF t h1 h2 h3
 |cadd r s t h1 h2 h3 _ ih=>exact(ih.tr.xF t h1 h2 h3).tr
 |Jd r s h1 h2 h3 _ ih=>exact fun is js Xh XM=>ih (fun a=>kP r s (is a)) js (fun a ha=>ig h1 h2 (Xh a ha)) XM
 |Jj r s h1 h2 h3 _ ih=>exact fun is js Xh XM=>ih is (fun b=>kP r s (js b)) Xh fun b hb=>ig h1 h2 (XM b hb)
 |Ad r h1 _ ih=>exact ih.Ad
 |cneg r h1 _ ih=>exact ih.tr.Ad.tr
end
theorem Ii{k:Nat}{js:Nat->Nat}(hi:∀a b,a<k+1->b<k+1->js a=js b->a=b):∃b,b<k+1/\k<=js b:=by
 apply Rq;intro VT;have Yz:((List.range (k+1)).map js).Nodup:=by rw[List.Nodup,Tq];refine(Tc (n:=k+1)).imp_of_mem ?_;intro a b ha hb hab e;rw[Rm]at ha hb;have:=hi a b ha hb e;omega
 have Ye:(List.range (k+1)).map js⊆List.range k:=by
  intro x hx;rw[So]at hx;obtain⟨b,hb,rfl⟩:=hx;rw[Rm]at hb⊢;rcases SN (js b) k with h|h
  {exact h};{exact absurd ⟨b,hb,h⟩ VT}
 have:=Yz.length_le_of_subset Ye;simp at this;omega

def enc(q:Nat):Nat->(Nat->Nat)->Nat
 |0,_=>0
 |c+1,x=>x 0+q*enc q c fun j=>x (j+1)
theorem DB{q:Nat}:∀{c:Nat}{x y:Nat->Nat},(∀j,j<c->x j=y j)->enc q c x=enc q c y
 |0,_,_,_=>rfl
 |c+1,x,y,h=>by show x 0+q*enc q c _=y 0+q*enc q c _;rw[h 0 oZ,DB fun j hj=>h (j+1) oZ]
def pN:Nat->(Nat->Nat)->Nat
 |0,_=>1
 |n+1,f=>pN n f*f n
theorem tI:∀{n:Nat}{f g:Nat->Nat},(∀k,k<n->f k=g k)->pN n f=pN n g
 |0,_,_,_=>rfl
 |n+1,f,g,h=>by show pN n f*f n=pN n g*g n;rw[tI fun k hk=>h k oZ,h n oZ]
theorem zd:∀(n:Nat)(f:Nat->Nat),pN (n+1) f=f 0*pN n (fun k=>f (k+1))
 |0,f=>by show 1*f 0=f 0*1;rw[Uq,Ta]
 |n+1,f=>by show pN (n+1) f*f (n+1)=f 0*(pN n (fun k=>f (k+1))*f (n+1));rw[zd n f,Tl]
def sN:Nat->(Nat->Nat)->Nat
 |0,_=>0
 |n+1,f=>sN n f+f n
theorem sV:∀{n:Nat}{f g:Nat->Nat},(∀k,k<n->f k=g k)->sN n f=sN n g
 |0,_,_,_=>rfl
 |n+1,f,g,h=>by show sN n f+f n=sN n g+g n;rw[sV fun k hk=>h k oZ,h n oZ]
theorem KS:∀{n:Nat}{f g:Nat->Nat},(∀k,k<n->f k<=g k)->sN n f<=sN n g
 |0,_,_,_=>Rf _
 |n+1,f,g,h=>by
  have h1:=KS (n:=n) (f:=f) (g:=g) fun k hk=>h k oZ
  have h2:=h n oZ;show sN n f+f n<=sN n g+g n;omega
theorem Iw:∀(n t:Nat)(f:Nat->Nat),sN n (fun k=>f k*t)=sN n f*t
 |0,t,_=>(Uh t).symm
 |n+1,t,f=>by show sN n _+f n*t=(sN n f+f n)*t;rw[Iw n t f,U3]
theorem vI:∀(n:Nat)(f:Nat->Int),(sI n f).natAbs<=sN n fun k=>(f k).natAbs
 |0,_=>Rf _
 |n+1,f=>by have:=vI n f;have h2:=Int.natAbs_add_le (sI n f) (f n);show(sI n f+f n).natAbs<=sN n _+(f n).natAbs;omega
theorem Hh{j:Nat}:∀{n:Nat}(f:Nat->Nat),j<n+1->sN (n+1) f=sN n (fun k=>f (sk j k))+f j
 |0,f,h=>by rw[show j=0 by omega];rfl
 |n+1,f,h=>by show sN (n+1) f+f (n+1)=(sN n (fun k=>f (sk j k))+f (sk j n))+f j;by_cases e:j=n+1;{subst e;rw[show sk (n+1) n=n by unfold sk;rw[Re oZ],sV (n:=n) (g:=f) fun k hk=>by show f (sk (n+1) k)=f k;unfold sk;rw[Re oZ]];rfl};{rw[Hh (j:=j) (n:=n) f oZ,show sk j n=n+1 by unfold sk;rw[Rc oZ]];omega}
theorem K7{j:Nat}:∀{n:Nat}(f:Nat->Nat),j<n+1->pN (n+1) f=pN n (fun k=>f (sk j k))*f j
 |0,f,h=>by rw[show j=0 by omega];rfl
 |n+1,f,h=>by show pN (n+1) f*f (n+1)=(pN n (fun k=>f (sk j k))*f (sk j n))*f j;by_cases e:j=n+1;{subst e;rw[show sk (n+1) n=n by unfold sk;rw[Re oZ],tI (n:=n) (g:=f) fun k hk=>by show f (sk (n+1) k)=f k;unfold sk;rw[Re oZ]];rfl};{rw[K7 (j:=j) (n:=n) f oZ,show sk j n=n+1 by unfold sk;rw[Rc oZ],Tl,Tl,SP (f j)]}
theorem Gn:∀{n:Nat}{f g:Nat->Nat},(∀k,k<n->f k<=g k)->pN n f<=pN n g
 |0,_,_,_=>Rf _
 |n+1,f,g,h=>S4 (Gn fun k hk=>h k oZ) (h n oZ)
theorem Fa:∀{n:Nat}{f:Nat->Nat},(∀k,k<n->1<=f k)->1<=pN n f
 |0,_,_=>Rf _
 |n+1,f,h=>S4 (m₁:=1) (n₁:=1) (Fa fun k hk=>h k oZ) (h n oZ)
def uk(J k:Nat):Nat:=if k<J then k else k-1
theorem sA{J k:Nat}(h:k≠J):sk J (uk J k)=k:=by unfold sk uk;by_cases h1:k<J;{rw[Re h1,Re h1]};{rw[Rc h1,Rc oZ];omega}
theorem KZ{J k n:Nat}(h:k≠J)(hk:k<n+1)(hJ:J<n+1):uk J k<n:=by unfold uk;split<;>omega
theorem wT:∀{k c:Nat}{js:Nat->Nat}(f:Nat->Nat),(∀a b,a<k->b<k->js a=js b->a=b)->(∀b,b<k->js b<c)->sN k (fun b=>f (js b))<=sN c f
 |0,_,_,_,_,_=>Rv _
 |k+1,c,js,f,hi,hl=>by
  have hJ:=hl k oZ;obtain⟨c',rfl⟩:∃x,c=x+1:=⟨c-1,oZ⟩
  have Vh:∀b,b<k->js b≠js k:=fun b hb e=>by have:=hi b k oZ oZ e;omega
  rw[Hh f hJ];have ih:=wT (k:=k) (c:=c') (js:=fun b=>uk (js k) (js b)) (fun x=>f (sk (js k) x)) (fun a b ha hb e=>hi a b oZ oZ (by
   have e:uk (js k) (js a)=uk (js k) (js b):=e;rw[<-sA (Vh a ha),<-sA (Vh b hb),e])) (fun b hb=>KZ (Vh b hb) (hl b oZ) hJ)
  rw[sV (g:=fun b=>f (js b)) fun b hb=>by rw[sA (Vh b hb)]]at ih;show sN k _+f (js k)<=_;omega
theorem wF:∀{k n:Nat}{js:Nat->Nat}(f:Nat->Nat),(∀i,i<n->1<=f i)->(∀a b,a<k->b<k->js a=js b->a=b)->(∀b,b<k->js b<n)->pN k (fun b=>f (js b))<=pN n f
 |0,_,_,_,h1,_,_=>Fa h1
 |k+1,n,js,f,h1,hi,hl=>by
  have hJ:=hl k oZ;obtain⟨c',rfl⟩:∃x,n=x+1:=⟨n-1,oZ⟩
  have Vh:∀b,b<k->js b≠js k:=fun b hb e=>by have:=hi b k oZ oZ e;omega
  rw[K7 f hJ];have ih:=wF (k:=k) (n:=c') (js:=fun b=>uk (js k) (js b)) (fun x=>f (sk (js k) x)) (fun i hi=>h1 _ (sM hi)) (fun a b ha hb e=>hi a b oZ oZ (by
   have e:uk (js k) (js a)=uk (js k) (js b):=e;rw[<-sA (Vh a ha),<-sA (Vh b hb),e])) (fun b hb=>KZ (Vh b hb) (hl b oZ) hJ)
  rw[tI (g:=fun b=>f (js b)) fun b hb=>by rw[sA (Vh b hb)]]at ih;exact S4 ih (Rf _)
theorem BH(j:Nat):(jS j).natAbs=1:=by unfold jS;split<;>rfl
theorem uS:∀(k:Nat)(A:Mx),(bS k A).natAbs<=pN k fun a=>sN k fun b=>(A a b).natAbs
 |0,_=>Rf _
 |k+1,A=>by
  rw[dr,zd];refine RQ (vI _ _) ?_;rw[<-Iw];refine KS fun j hj=>?_
  rw[Ud,Ud,BH,Uq];refine Tu _ (RQ (uS k _) (Gn fun a _=>?_));have:=Hh (j:=j) (fun b=>(A (a+1) b).natAbs) hj;omega
def gS(n c:Nat)(m:Mx):Nat:=pN n fun i=>max (sN c fun j=>(m i j).natAbs) 1
theorem lk{n c k:Nat}(m:Mx){is js:Nat->Nat}(hi:∀a b,a<k->b<k->is a=is b->a=b)(hil:∀a,a<k->is a<n)(hj:∀a b,a<k->b<k->js a=js b->a=b)(WH:∀a,a<k->js a<c):
  (bS k fun a b=>m (is a) (js b)).natAbs<=gS n c m:=by
 refine RQ (uS k _) ?_;refine RQ (Gn (g:=fun a=>max (sN c fun j=>(m (is a) j).natAbs) 1) fun a _=>?_) (wF (fun i=>max (sN c fun j=>(m i j).natAbs) 1) (fun _ _=>U_ ..) hi hil);exact RQ (wT (fun j=>(m (is a) j).natAbs) hj WH) (Nat.le_max_left ..)
theorem BP{n c k p:Nat}{m:Mx}(hb:gS n c m<p)(h:Dv n c k m (p:Int)):Dv n c k m 0:=by
 intro is js Xh XM;have hd:=h is js Xh XM;suffices hz:(bS k fun a b=>m (is a) (js b))=0 by rw[hz];exact Int.dvd_refl 0
 by_cases hi:∀a b,a<k->b<k->is a=is b->a=b
 ·by_cases hj:∀a b,a<k->b<k->js a=js b->a=b
  ·have hm:=lk m hi Xh hj XM
   obtain⟨t,ht⟩:=hd;rw[ht]at hm⊢;rw[Ud,Int.natAbs_natCast]at hm;have:t.natAbs=0:=by
    rcases Se t.natAbs with h|h
    {exact h};{have:=Tu p h;omega}
   rw[Int.natAbs_eq_zero.1 this,RF]
  ·have:∃a b,a<k/\b<k/\a≠b/\js a=js b:=by
    apply Rq;intro VT;exact hj fun a b ha hb e=>by apply Rq;exact fun Vh=>VT ⟨a,b,ha,hb,Vh,e⟩
   obtain⟨a,b,ha,Vz,Vh,e⟩:=this;exact jW ha Vz Vh fun i _=>by rw[e]
 ·have:∃a b,a<k/\b<k/\a≠b/\is a=is b:=by
   apply Rq;intro VT;exact hi fun a b ha hb e=>by apply Rq;exact fun Vh=>VT ⟨a,b,ha,hb,Vh,e⟩
  obtain⟨a,b,ha,Vz,Vh,e⟩:=this;exact lH ha Vz Vh fun j _=>by rw[e]
theorem rA{p:Int}:∀{k:Nat}{A B:Mx},(∀i j,i<k->j<k->p∣A i j-B i j)->p∣bS k A-bS k B
 |0,_,_,_=>⟨0,by show(1:Int)-1=p*0;rw[RF];rfl⟩
 |k+1,A,B,h=>by
  rw[dr,dr];have e:∀f g:Nat->Int,sI (k+1) f-sI (k+1) g=sI (k+1) fun j=>f j-g j:=fun f g=>by have:=dX (k+1) (fun j=>f j-g j) g;rw[aj (g:=f) fun j _=>by show f j-g j+g j=f j;omega]at this;omega
  rw[e];refine Bs fun j hj=>?_
  have h1:=h 0 j oZ hj;have h2:=rA (p:=p) (k:=k) (A:=fun i l=>A (i+1) (sk j l)) (B:=fun i l=>B (i+1) (sk j l)) fun i l hi hl=>h (i+1) (sk j l) oZ (sM hl)
  generalize bS k (fun i l=>A (i+1) (sk j l))=x at h2;generalize bS k (fun i l=>B (i+1) (sk j l))=y at h2;have e2:jS j*A 0 j*x-jS j*B 0 j*y=(A 0 j-B 0 j)*(jS j*x)+(x-y)*(jS j*B 0 j):=by rw[Int.sub_mul,Int.sub_mul,<-RO,<-RO,<-RO,<-RO,RW (A 0 j),RW (B 0 j)];rw[RW x (jS j),RW y (jS j),Int.mul_right_comm (jS j) x,Int.mul_right_comm (jS j) y];omega
  rw[e2];exact TX (Int.dvd_trans h1 (Int.dvd_mul_right ..)) (Int.dvd_trans h2 (Int.dvd_mul_right ..))
open Go.RowKit
def bP(xss:List (List Int))(i:Nat):Nat:=(xss.getD i []).length
def AH(xss:List (List Int)):Prop:=(∀i,i<xss.length->bP xss i=bP xss 0)/\xss.length<=64/\bP xss 0<=64
instance(xss:List (List Int)):Decidable (AH xss):=by unfold AH;infer_instance
theorem zl{xss:List (List Int)}(h:xss.length=0):bP xss 0=0:=by have:xss=[]:=Sh h;subst this;rfl
theorem qA(A:Option Addr)(cap:Nat)(xss:List (List Int))(n:Nat)(w:World)(T:Nat->Prop)(hx:pZ w T A xss)(hn:xss.length=n):
  Calls Tryz.prog 110 #[.slice A n cap] w fun e w'=>e= .returned (.int .i64 (bP xss 0:Nat))/\w=w':=by
 by_cases h0:n=0
 ·subst h0
  have HR:=Rb (zl hn);clear hn hx;go_enter Tryz.func110,Tryz.ntmps110
  go_wp2_with fail;go_ret;exact⟨by rw[HR.out];rfl,rfl⟩
 ·obtain⟨b,off,rfl,-,hc⟩:=hx.at_ (k:=0) oZ
  obtain⟨Ak,ck,c1,-,-⟩:=hc 0 oZ;rw[Tx]at c1;have h0':((n:Int)==0)=false:=by rw[Rs];omega
  clear hx hc hn;have c2:w.cell? ⟨b,off,none⟩=some (.slice Ak (bP xss 0) ck):=c1;clear c1;go_enter Tryz.func110,Tryz.ntmps110
  go_wp2_with fail;go_ret;exact⟨rfl,rfl⟩
theorem yh(A:Option Addr)(cap:Nat)(xss:List (List Int))(n:Nat)(w:World)(T:Nat->Prop)(hx:pZ w T A xss)(hn:xss.length=n)(Y0:n<=maxLen):
  Calls Tryz.prog 103 #[.slice A n cap] w fun e w'=>e= .returned (.bool (decide (AH xss)))/\w=w':=by
 unfold maxLen at Y0;have HX:=Rb hx;have HN:=Rb hn;clear hx hn;go_enter Tryz.func103,Tryz.ntmps103
 go_wp2_with fail;go_loopw[7] (fun i' wr=>∃k:Nat,k<=n/\i'= .int .i64 k/\w=wr/\Hid (∀i,i<k->bP xss i=bP xss 0)) (fun i _=>n-(intOf i).toNat)
 case atStart=>exact⟨0,Rv _,rfl,rfl,fun i hi=>by omega⟩
 case round=>
  obtain⟨k,hk,rfl,rfl,HA⟩:=hrel;by_cases Vg:k<n
  ·obtain⟨b,off,rfl,-,hc⟩:=HX.out.at_ (k:=k) (by rw[HN.out];exact Vg)
   obtain⟨A0,c0,c1,-,-⟩:=hc 0 (by rw[HN.out];omega);obtain⟨Ak,ck,c2,-,-⟩:=hc k (by rw[HN.out];exact Vg);rw[Tx]at c1;replace c1:w.cell? ⟨b,off,none⟩=some (.slice A0 (bP xss 0) c0):=c1;replace c2:w.cell? ⟨b,off+k,none⟩=some (.slice Ak (bP xss k) ck):=c2;clear hc;have hnp:0<n:=oZ;by_cases he:bP xss k=bP xss 0
   ·have WB:((bP xss k:Int)!=(bP xss 0:Int))=false:=by rw[RK];omega
    have ZW:Hid (∀i,i<k+1->bP xss i=bP xss 0):=by intro i hi;by_cases e:i=k;{rw[e];exact he};{exact HA.out i oZ}
    clear he HA;go_wp2_with fail;go_roundw
    case rel=>exact⟨k+1,oZ,by go_num,by trivial,ZW⟩
    case measure=>simp[intOf];omega
   ·have WB:((bP xss k:Int)!=(bP xss 0:Int))=true:=by rw[RZ];omega
    have HD:=Rb (Rl (show¬AH xss from fun h=>he (h.1 k (by rw[HN.out];exact Vg))));go_wp2_with fail;go_ret;exact⟨aF HD.out.symm,rfl⟩
  ·have WW:Hid (∀i,i<n->bP xss i=bP xss 0):=fun i hi=>HA.out i oZ
   by_cases VO:n<=64;{by_cases hc64:bP xss 0<=64;{have HD:=Rb (Rj (show AH xss from⟨by rw[HN.out];exact WW.out,by rw[HN.out];exact VO,hc64⟩));go_wp2_with fail;refine(qA A cap xss n w T HX.out HN.out).mono ?_;rintro e w1 ⟨rfl,rfl⟩;go_wp2_with fail;go_ret;exact⟨aF ((Rj oZ).trans HD.out.symm),rfl⟩};{have HD:=Rb (Rl (show¬AH xss from fun h=>hc64 h.2.2));go_wp2_with fail;refine(qA A cap xss n w T HX.out HN.out).mono ?_;rintro e w1 ⟨rfl,rfl⟩;go_wp2_with fail;go_ret;exact⟨aF ((Rl oZ).trans HD.out.symm),rfl⟩}};{have HD:=Rb (Rl (show¬AH xss from fun h=>VO (by have:=h.2.1;rw[HN.out]at this;exact this)));go_wp2_with fail;go_ret;exact⟨aF HD.out.symm,rfl⟩}
theorem OG{c:Nat}{f:Nat->Nat}{j:Nat}(hj:j<c):f j<=sN c f:=by have:=wT (k:=1) (c:=c) (js:=fun _=>j) f (fun a b ha hb _=>by omega) (fun _ _=>hj);have e:sN 1 (fun _=>f j)=f j:=Sr _;exact e▸this
theorem Pv{j c:Nat}{f:Nat->Nat}(hj:j<=c):sN j f<=sN c f:=
 wT (k:=j) (c:=c) (js:=id) f (fun a b _ _ e=>e) (fun b hb=>by show b<c;omega)
theorem Ke{j n:Nat}{f:Nat->Nat}(h1:∀i,i<n->1<=f i)(hj:j<=n):pN j f<=pN n f:=
 wF (k:=j) (n:=n) (js:=id) f h1 (fun a b _ _ e=>e) (fun b hb=>by show b<n;omega)
theorem O2{n:Nat}{f:Nat->Nat}{i:Nat}(h1:∀i,i<n->1<=f i)(hi:i<n):f i<=pN n f:=by have:=wF (k:=1) (n:=n) (js:=fun _=>i) f h1 (fun a b ha hb _=>by omega) (fun _ _=>hi);have e:pN 1 (fun _=>f i)=f i:=Uq _;exact e▸this
def IX(c:Nat)(m:Mx)(i:Nat):Nat:=max (sN c fun j=>(m i j).natAbs) 1
theorem Ka{n c i:Nat}{m:Mx}(hi:i<n):IX c m i<=gS n c m:=O2 (f:=IX c m) (fun _ _=>U_ ..) hi
theorem CJ{n c i j:Nat}{m:Mx}(hi:i<n)(hj:j<c):(m i j).natAbs<=gS n c m:=
 RQ (RQ (OG (f:=fun j=>(m i j).natAbs) hj) (Nat.le_max_left ..)) (Ka hi)
theorem I9{n c k:Nat}{m:Mx}(hk:k<=n):pN k (IX c m)<=gS n c m:=Ke (f:=IX c m) (fun _ _=>U_ ..) hk
theorem zW(A:Option Addr)(cap:Nat)(xss:List (List Int))(n c:Nat)(w:World)(T:Nat->Prop)(hx:pZ w T A xss)(hn:xss.length=n)(hc:∀i,i<n->bP xss i=c)(Y0:n<=64)(Vo:c<=64)
  (hb:∀i j,i<n->j<c->-9223372036854775808<=eI xss i j/\eI xss i j<=9223372036854775807):
  Calls Tryz.prog 104 #[.slice A n cap] w fun e w'=>e= .returned (.bool (decide (gS n c (eI xss)<=1125899906842624)))/\w=w':=by
 have HX:=Rb hx;have HN:=Rb hn;have HC:=Rb hc;have HB:=Rb hb;clear hx hn hc hb;go_enter Tryz.func104,Tryz.ntmps104
 go_wp2_with fail;go_loopw[3,11] (fun b' i' wr=>∃k q:Nat,k<=n/\i'= .int .i64 k/\b'= .int .u64 q/\w=wr/\Hid (q=pN k (IX c (eI xss))/\1<=q/\q<=1125899906842624)) (fun _ i _=>n-(intOf i).toNat)
 case atStart=>exact⟨0,1,Rv _,rfl,rfl,rfl,rfl,oQ,oQ⟩
 case round=>
  obtain⟨k,q,hk,rfl,rfl,rfl,HQ⟩:=hrel;by_cases Vg:k<n
  ·obtain⟨b,off,rfl,-,VE⟩:=HX.out.at_ (k:=k) (by rw[HN.out];exact Vg)
   obtain⟨Ak,ck,c1,hr,-⟩:=VE k (by rw[HN.out];exact Vg);have ZE:=HC.out k Vg;unfold bP at ZE;rw[ZE]at c1;have HR:=Rb hr;have HCK:=Rb ZE;clear hr VE ZE;go_wp2_with fail;go_loopw[6,17] (fun s' j' wr=>∃j s:Nat,j<=c/\j'= .int .i64 j/\s'= .int .u64 s/\w=wr/\Hid (s=sN j fun j=>(eI xss k j).natAbs)/\Hid (s<=j*1125899906842624)) (fun _ j _=>c-(intOf j).toNat)
   case atStart=>exact⟨0,0,Rv _,rfl,rfl,rfl,rfl,by show 0<=0*_;omega⟩
   case round=>
    obtain⟨j,s,hj,rfl,rfl,rfl,HS,HSL⟩:=hrel;by_cases hlj:j<c
    ·obtain⟨bk,ok,rfl,-,hcj⟩:=HR.out.at_ (k:=j) (by rw[HCK.out];exact hlj)
     have c4:=hcj j (by rw[HCK.out];exact hlj);obtain⟨x,hx⟩:∃x,gi (xss.getD k []) j=x:=⟨_,rfl⟩
     rw[hx]at c4;have hxe:eI xss k j=x:=hx;have hxb:=HB.out k j Vg hlj;rw[hxe]at hxb;have XI:(eI xss k j).natAbs=x.natAbs:=by rw[hxe]
     obtain⟨y,hy⟩:∃y,x.natAbs=y:=⟨_,rfl⟩
     rw[hy]at XI;have HAB:=Rb (De x hxb.1 hxb.2 w);rw[hy]at HAB;have HXN:=Rb XI;clear hx hxe hxb hcj XI hy;by_cases hbig:1125899906842624<y
     ·have HD:=Rb (Rl (show¬gS n c (eI xss)<=1125899906842624 from fun h=>by
       have:=CJ (m:=eI xss) Vg hlj;rw[HXN.out]at this;omega))
      go_wp2_with fail;refine HAB.out.mono ?_;rintro e w1 ⟨rfl,rfl⟩;go_wp2_with fail;go_ret;exact⟨aF HD.out.symm,rfl⟩
     ·obtain⟨t,ht⟩:∃t,s+y=t:=⟨_,rfl⟩
      have hsl:=HSL.out;have x1:IntKind.u64.wrap ((s:Int)+(y:Int))=(t:Int):=by rw[II,ht];exact bN _ oZ
      have HS':Hid (t=sN (j+1) fun j=>(eI xss k j).natAbs):=by show t=sN j _+(eI xss k j).natAbs;rw[<-HS.out,HXN.out,ht]
      have HSL':Hid (t<=(j+1)*1125899906842624):=by show t<=_;omega
      clear ht HS HSL hsl;go_wp2_with fail;refine HAB.out.mono ?_;rintro e w1 ⟨rfl,rfl⟩;go_wp2_with fail;refine HAB.out.mono ?_;rintro e w1 ⟨rfl,rfl⟩;go_wp2_with fail;go_roundw
      case rel=>exact⟨j+1,t,oZ,by go_num,rfl,by trivial,HS',HSL'⟩
      case measure=>simp[intOf];omega
    ·obtain rfl:j=c:=oZ
     obtain⟨v,hv⟩:∃v,max s 1=v:=⟨_,rfl⟩
     obtain⟨g,hg⟩:∃g,1125899906842624/q=g:=⟨_,rfl⟩
     obtain⟨WG,YB,hq3⟩:=HQ.out;have hvr:IX j (eI xss) k=v:=by unfold IX;rw[<-HS.out];exact hv
     have hpk:pN (k+1) (IX j (eI xss))=q*v:=by show pN k _*_=_;rw[<-WG,hvr]
     have hsl:=HSL.out;have Xr:v<=72057594037927936/\1<=v:=oZ;have x1:(if(s:Int)<1 then 1 else(s:Int))=(v:Int):=by split<;>omega
     have x2:(1125899906842624:Int).tdiv (q:Int)=(g:Int):=by rw[<-hg];exact SZ 1125899906842624 q
     have x2':(1125899906842624:Int)/(q:Int)=(g:Int):=by rw[<-hg];rfl
     have VS:g<=1125899906842624:=by rw[<-hg];exact Nat.div_le_self _ _
     have x3:IntKind.u64.wrap (g:Int)=(g:Int):=bN _ oZ;have x4:¬(q:Int)=0:=oZ;have hdiv:g<v↔1125899906842624<v*q:=by rw[<-hg];exact TD oZ
     have HDV:=Rb hdiv;have HPK:=Rb hpk;have Vi:=I9 (c:=j) (m:=eI xss) (show k+1<=n by omega);have HBP:=Rb Vi;clear hv hg WG hvr hpk HS HSL hsl hdiv Vi VS;by_cases hbig:g<v
     ·have HD:=Rb (Rl (show¬gS n j (eI xss)<=1125899906842624 from fun h=>by
       have h1:=HDV.out.1 hbig;have h2:=HBP.out;rw[HPK.out,SP]at h2;omega))
      have z1:decide (g<v)=true:=Rj hbig;go_wp2_with fail;go_ret;exact⟨aF HD.out.symm,rfl⟩
     ·obtain⟨q2,hq2'⟩:∃x,q*v=x:=⟨_,rfl⟩
      have hle:q2<=1125899906842624:=by rw[<-hq2',SP];exact Nat.le_of_not_lt fun h=>hbig (HDV.out.2 h)
      have Yf:1<=q2:=by rw[<-hq2'];exact Nat.mul_pos YB Xr.2
      have x5:IntKind.u64.wrap ((q:Int)*(v:Int))=(q2:Int):=by rw[<-T',hq2'];exact bN _ oZ
      have ZT:Hid (q2=pN (k+1) (IX j (eI xss))/\1<=q2/\q2<=1125899906842624):=Rb ⟨by rw[HPK.out,hq2'],Yf,hle⟩;have z1:decide (g<v)=false:=Rl hbig;clear hq2' hle Yf HQ HPK HDV HBP;go_wp2_with fail;go_roundw
      case rel=>exact⟨k+1,q2,oZ,by go_num,rfl,by trivial,ZT⟩
      case measure=>simp[intOf];omega
  ·obtain rfl:k=n:=oZ
   have HD:=Rb (Rj (show gS k c (eI xss)<=1125899906842624 by
    show pN k (IX c (eI xss))<=_;rw[<-HQ.out.1];exact HQ.out.2.2))
   go_wp2_with fail;go_ret;exact⟨aF HD.out.symm,rfl⟩
theorem vv{k r:Nat}{A:Mx}{q:Nat->Int}(hr:r<k)(hq:q r=0):∀t,t<=k->bS k (fun x y=>if x<t then A x y+q x*A r y else A x y)=bS k A
 |0,_=>aR fun i j _ _=>Rc oZ
 |t+1,ht=>by
  refine Eq.trans ?_ (vv (A:=A) hr hq t oZ);by_cases e:t=r
  ·subst e
   refine aR fun i j _ _=>?_
   by_cases h:i=t;{subst h;rw[Re oZ,Rc oZ,hq];omega};{by_cases h2:i<t;{rw[Re h2,Re oZ]};{rw[Rc h2,Rc oZ]}}
  ·refine Eq.trans ?_ (GJ (A:=fun x y=>if x<t then A x y+q x*A r y else A x y) (r:=t) (s:=r) (t:=q t) oZ hr (fun h=>e h))
   refine aR fun i j _ _=>?_
   have hrr:(if r<t then A r j+q r*A r j else A r j)=A r j:=by split;{rw[hq];omega};{rfl}
   by_cases h:i=t;{subst h;rw[Re oZ,Re rfl,Rc oZ,hrr]};{rw[Rc h];by_cases h2:i<t;{rw[Re h2,Re oZ]};{rw[Rc h2,Rc oZ]}}
theorem DW{k r:Nat}{A:Mx}{q:Nat->Int}(hr:r<k)(hq:q r=0):bS k (fun x y=>A x y+q x*A r y)=bS k A:=by refine Eq.trans ?_ (vv (A:=A) hr hq k (Rf _));exact aR fun i j hi _=>by rw[Re hi]
def nM(a:Nat->Nat->Nat):Mx:=fun i j=>(a i j:Int)
structure QW(n c:Nat)(m:Mx)(r:Nat)(a:Nat->Nat->Nat)(z:Int)(σ τ:Nat->Nat)(s:Int)(B:Mx):Prop where
 sg:s=1\/s= -1
 sl:∀i,i<n->σ i<n
 tl:∀j,j<c->τ j<c
 sd:n=c->bS n (fun i j=>m (σ i) (τ j))=s*bS n m
 eq:kO n c m B
 md:∀i j,i<n->j<c->(PM:Int)∣nM a i j-B i j
 mn:∀k (is js:Nat->Nat),r<=k->(∀x,x<r->is x=x)->(∀x,r<=x->x<k->r<=is x/\is x<n)->(∀y,y<k->js y<c)->
  (PM:Int)∣bS k (fun x y=>nM a (is x) (js y))-bS k (fun x y=>m (σ (is x)) (τ (js y)))
 lt:∀i j,i<n->j<c->a i j<PM
 tri:∀i j,i<n->j<r->j<i->a i j=0
 piv:∀i,i<r->a i i≠0
 rn:r<=n
 rc:r<=c
 zz:z=s*pI r fun i=>(a i i:Int)
def El(n c:Nat)(m:Mx)(r:Nat)(a:Nat->Nat->Nat)(z:Int):Prop:=∃σ τ s B,QW n c m r a z σ τ s B
theorem El.start{n c:Nat}{m:Mx}{a:Nat->Nat->Nat}(h:∀i j,i<n->j<c->a i j<PM/\(PM:Int)∣nM a i j-m i j):El n c m 0 a 1:=
 ⟨id,id,1,m,.inl rfl,fun _ h=>h,fun _ h=>h,fun _=>(SH _).symm,.refl _,fun i j hi hj=>(h i j hi hj).2,
  fun k is js _ _ Xh XM=>rA fun i j hi hj=>(h _ _ (Xh i (Rv _) hi).2 (XM j hj)).2,fun i j hi hj=>(h i j hi hj).1,fun i j _ h=>by omega,fun i h=>by omega,Rv _,Rv _,rfl⟩
theorem El.congr{n c r:Nat}{m:Mx}{a b:Nat->Nat->Nat}{z:Int}(h:El n c m r a z)(hb:∀i j,i<n->j<c->b i j=a i j):El n c m r b z:=by obtain⟨σ,τ,s,B,h⟩:=h;refine⟨σ,τ,s,B,h.sg,h.sl,h.tl,h.sd,h.eq,fun i j hi hj=>?_,fun k is js hk h1 h2 h3=>?_,fun i j hi hj=>?_,fun i j hi hj Y1=>?_,fun i hi=>?_,h.rn,h.rc,?_⟩;{have:=h.md i j hi hj;unfold nM at this⊢;rwa [hb i j hi hj]};{have e:=h.mn k is js hk h1 h2 h3;rwa [aR (A:=fun x y=>nM b (is x) (js y)) (B:=fun x y=>nM a (is x) (js y))];intro x y hx hy;unfold nM;rw[hb];{by_cases hxr:x<r;{rw[h1 x hxr];have:=h.rn;omega};{exact(h2 x oZ hx).2}};{exact h3 y hy}};{rw[hb i j hi hj];exact h.lt i j hi hj};{rw[hb i j hi (by have:=h.rc;omega)];exact h.tri i j hi hj Y1};{rw[hb i i (by have:=h.rn;omega) (by have:=h.rc;omega)];exact h.piv i hi};{rw[h.zz];congr 1;exact lM fun i hi=>by rw[hb i i (by have:=h.rn;omega) (by have:=h.rc;omega)]}
theorem El.Jd{n c r i:Nat}{m:Mx}{a:Nat->Nat->Nat}{z:Int}(h:El n c m r a z)(hri:r<=i)(hi:i<n)(Vh:i≠r):El n c m r (fun x y=>a (kP i r x) y) (-z):=by
 obtain⟨σ,τ,s,B,h⟩:=h;have hr:r<n:=oZ;have fx:∀x,x<r->kP i r x=x:=fun x hx=>qp oZ oZ
 have ge:∀x,r<=x->r<=kP i r x:=fun x hx=>by unfold kP;split<;>(try split)<;>omega
 refine⟨fun x=>σ (kP i r x),τ,-s,fun x y=>B (kP i r x) y,?_,fun x hx=>h.sl _ (ig hi hr hx),h.tl,fun e=>?_,.Jd i r hi hr Vh h.eq,fun x y hx hy=>h.md _ y (ig hi hr hx) hy,fun k is js hk h1 h2 h3=>?_,
  fun x y hx hy=>h.lt _ y (ig hi hr hx) hy,fun x y hx hy hyx=>?_,fun x hx=>?_,h.rn,h.rc,?_⟩
 {have:=h.sg;omega};{rw[SG,<-h.sd e];exact uV (A:=fun x y=>m (σ x) (τ y)) hi hr Vh};{exact h.mn k (fun x=>kP i r (is x)) js hk (fun x hx=>by rw[h1 x hx,fx x hx]) (fun x hx hxk=>⟨ge _ (h2 x hx hxk).1,ig hi hr (h2 x hx hxk).2⟩) h3};{by_cases hxr:x<r;{rw[fx x hxr];exact h.tri x y hx hy hyx};{exact h.tri _ y (ig hi hr hx) hy (by have:=ge x oZ;omega)}};{rw[fx x hx];exact h.piv x hx};{rw[h.zz,SG];congr 2;exact lM fun x hx=>by rw[fx x hx]}
theorem El.Jj{n c r j:Nat}{m:Mx}{a:Nat->Nat->Nat}{z:Int}(h:El n c m r a z)(hrj:r<=j)(hj:j<c)(Vh:j≠r):El n c m r (fun x y=>a x (kP j r y)) (-z):=by
 obtain⟨σ,τ,s,B,h⟩:=h;have hr:r<c:=oZ;have fx:∀x,x<r->kP j r x=x:=fun x hx=>qp oZ oZ
 refine⟨σ,fun y=>τ (kP j r y),-s,fun x y=>B x (kP j r y),?_,h.sl,fun y hy=>h.tl _ (ig hj hr hy),fun e=>?_,.Jj j r hj hr Vh h.eq,fun x y hx hy=>h.md x _ hx (ig hj hr hy),fun k is js hk h1 h2 h3=>?_,
  fun x y hx hy=>h.lt x _ hx (ig hj hr hy),fun x y hx hy hyx=>?_,fun x hx=>?_,h.rn,h.rc,?_⟩
 {have:=h.sg;omega};{rw[SG,<-h.sd e];exact mj (A:=fun x y=>m (σ x) (τ y)) oZ oZ Vh};{exact h.mn k is (fun y=>kP j r (js y)) hk h1 h2 fun y hy=>ig hj hr (h3 y hy)};{rw[fx y hy];exact h.tri x y hx hy hyx};{rw[fx x hx];exact h.piv x hx};{rw[h.zz,SG];congr 2;exact lM fun x hx=>by rw[fx x hx]}
def um(r:Nat)(a:Nat->Nat->Nat)(i:Nat):Nat:=a i r*pB (a r r)%PM
def rM(r:Nat)(a:Nat->Nat->Nat)(i j:Nat):Nat:=if r<i/\r<=j then kG (a i j) (um r a i*a r j%PM) PM else a i j
theorem rj(p:Nat)(x:Nat):(p:Int)∣(x:Int)-((x%p:Nat):Int):=⟨(x/p:Nat),by
 have:=Tt x p;have e:((p*(x/p)+x%p:Nat):Int)=(x:Int):=by rw[this]
 rw[Int.natCast_add,T']at e;omega⟩
theorem Ji{r n c:Nat}{a:Nat->Nat->Nat}(hl:∀i j,i<n->j<c->a i j<PM)(hr:r<n)(htri:∀i j,i<n->j<r->j<i->a i j=0){i j:Nat}(hi:i<n)(hj:j<c):
  (PM:Int)∣nM (rM r a) i j-(nM a i j+(if r<i then-(um r a i:Int)else 0)*nM a r j):=by
 unfold nM rM;by_cases h:r<i;{rw[Re h];by_cases h2:r<=j;{rw[Re ⟨h,h2⟩];have e1:=xR (hl i j hi hj) (RY (um r a i*a r j) (show 0<PM by decide));have e2:=rj PM (um r a i*a r j);rw[T']at e2;have e3:=TX e1 e2;have e4:=Int.dvd_neg.2 e1;have e5:=UL e4 (Int.dvd_neg.2 e2);rw[SG];generalize((um r a i:Nat):Int)*((a r j:Nat):Int)=u at e5 e3 e2⊢;generalize((um r a i*a r j%PM:Nat):Int)=v at e1 e2 e3 e4 e5;have:=TX e4 e2;rwa [show-(((a i j:Nat):Int)-v-((kG (a i j) (um r a i*a r j%PM) PM:Nat):Int))+(u-v)=((kG (a i j) (um r a i*a r j%PM) PM:Nat):Int)-(((a i j:Nat):Int)+ -u) by omega]at this};{rw[Rc (fun e=>h2 e.2),htri i j hi oZ oZ,htri r j hr oZ oZ];exact⟨0,by rw[show((0:Nat):Int)=0 from rfl];omega⟩}};{rw[Rc h,Rc (fun e=>h e.1)];exact⟨0,oZ⟩}
theorem J1{r:Nat}{a:Nat->Nat->Nat}{i:Nat}(hi:a i r<PM)(hp:a r r<PM)(h0:a r r≠0):um r a i*a r r%PM=a i r:=by unfold um;rw[Nat.mod_mul_mod,Tl,SP (pB (a r r)),SQ,inv_mul (Ul h0) hp,Ta,UJ,TV hi]
theorem El.step{n c r:Nat}{m:Mx}{a:Nat->Nat->Nat}{z:Int}(h:El n c m r a z)(hr:r<n)(hc:r<c)(h0:a r r≠0):El n c m (r+1) (rM r a) (z*(a r r:Int)):=by
 obtain⟨σ,τ,s,B,h⟩:=h;have hm:=fun{i j:Nat} (hi:i<n) (hj:j<c)=>Ji h.lt hr h.tri hi hj
 have hq:(if r<r then-(um r a r:Int)else 0)=0:=Rc (Sq _);refine⟨σ,τ,s,_,h.sg,h.sl,h.tl,h.sd,kO.trans h.eq (kO.C7 B r hr (fun i=>if r<i then-(um r a i:Int)else 0) n (Rf _)),fun i j hi hj=>?_,fun k is js hk h1 h2 h3=>?_,fun i j hi hj=>?_,fun i j hi hj Y1=>?_,fun i hi=>?_,hr,hc,?_⟩;{have e1:=hm hi hj;have e2:=h.md i j hi hj;have e3:=h.md r j hr hj;by_cases e:i=r;{subst e;rw[Rc (fun e=>e.2 rfl)];rw[hq,Sc,R6]at e1;have:=TX e1 e2;rwa [show nM (rM i a) i j-nM a i j+(nM a i j-B i j)=nM (rM i a) i j-B i j by omega]at this};{rw[Re ⟨hi,e⟩];generalize(if r<i then-(um r a i:Int)else 0)=q at e1;have e4:=TX (TX e1 e2) (Int.dvd_trans e3 (Int.dvd_mul_left q (nM a r j-B r j)));rw[U4]at e4;generalize q*nM a r j=u at e4;generalize q*B r j=v at e4⊢;rwa [show nM (rM r a) i j-(nM a i j+u)+(nM a i j-B i j)+(u-v)=nM (rM r a) i j-(B i j+v) by omega]at e4}}
 ·have hisn:∀x,x<k->is x<n:=fun x hx=>by
   by_cases e:x<r+1;{rw[h1 x e];omega};{exact(h2 x oZ hx).2}
  have e1:=rA (p:=(PM:Int)) (k:=k) (A:=fun x y=>nM (rM r a) (is x) (js y)) (B:=fun x y=>nM a (is x) (js y)+(if r<is x then-(um r a (is x):Int)else 0)*nM a (is r) (js y)) fun x y hx hy=>by rw[h1 r oZ];exact hm (hisn x hx) (h3 y hy)
  have e2:=DW (k:=k) (r:=r) (A:=fun x y=>nM a (is x) (js y)) (q:=fun x=>if r<is x then-(um r a (is x):Int)else 0) oZ (by
   show(if r<is r then-(um r a (is r):Int)else 0)=0;rw[h1 r oZ];exact hq)
  rw[e2]at e1;have e3:=h.mn k is js oZ (fun x hx=>h1 x oZ) (fun x hx hxk=>by
   by_cases e:x=r;{subst e;rw[h1 x oZ];exact⟨Rf _,hr⟩}
   ·have:=h2 x oZ hxk;exact⟨oZ,this.2⟩) h3
  have:=TX e1 e3;generalize bS k (fun x y=>nM (rM r a) (is x) (js y))=d1 at*;generalize bS k (fun x y=>nM a (is x) (js y))=d2 at*;rwa [show d1-d2+(d2-bS k fun x y=>m (σ (is x)) (τ (js y)))=d1-bS k fun x y=>m (σ (is x)) (τ (js y)) by omega]at this
 {unfold rM;split;{exact nC (h.lt i j hi hj) (RY _ oQ)};{exact h.lt i j hi hj}};{unfold rM;by_cases e:j=r;{subst e;rw[Re ⟨Y1,Rf _⟩,J1 (h.lt i j hi hc) (h.lt j j hr hc) h0];unfold kG;rw[Rc (Sq _),Nat.sub_self]};{rw[Rc oZ];exact h.tri i j hi oZ Y1}};{unfold rM;rw[Rc oZ];by_cases e:i=r;{subst e;exact h0};{exact h.piv i oZ}};{show z*(a r r:Int)=s*(pI r (fun i=>(rM r a i i:Int))*(rM r a r r:Int));rw[h.zz,lM (f:=fun i=>(rM r a i i:Int)) (g:=fun i=>(a i i:Int)) fun i hi=>by unfold rM;rw[Rc oZ]];unfold rM;rw[Rc oZ,RO]}
structure O8(n c:Nat)(m:Mx)(r:Nat)(v:Int):Prop where
 rn:r<=n
 rc:r<=c
 up:Dv n c (r+1) m 0
 mn:∃(is js:Nat->Nat)(s:Int),(∀x,x<r->is x<n)/\(∀y,y<r->js y<c)/\(s=1\/s= -1)/\v=s*bS r fun x y=>m (is x) (js y)
 nz:v≠0
 dt:n=c->r=n->v=bS n m
 bd:v.natAbs<=gS n c m
theorem Kk{f:Nat->Nat}:∀{r:Nat},(∀i,i<r->0<f i/\f i<PM)->¬(PM:Int)∣pI r fun i=>(f i:Int)
 |0,_,h=>by obtain⟨t,ht⟩:=h;have ht:(1:Int)=(PM:Int)*t:=ht;have hp:(PM:Int)=2305843009213693951:=rfl;rw[hp]at ht;omega
 |r+1,hf,h=>by have h:(PM:Int)∣pI r (fun i=>(f i:Int))*(f r:Int):=h;refine Kk (r:=r) (fun i hi=>hf i oZ) ?_;have e:=inv_mul (hf r oZ).1 (hf r oZ).2;have e2:=rj PM (f r*pB (f r));rw[e,T']at e2;have h2:=Int.dvd_mul_of_dvd_left (c:=(pB (f r):Int)) h;have h3:=TP (b:=(pI r fun i=>(f i:Int))) e2;have h4:=UL h2 h3;generalize(pI r fun i=>(f i:Int))=P at h4⊢;rw[RO,<-U4]at h4;generalize((f r:Nat):Int)*((pB (f r):Nat):Int)=u at h4;rwa [show u-(u-((1:Nat):Int))=1 by omega,Uo]at h4
def LB(mi:Nat):Int:=if 1152921504606846975<mi then-((PM-mi:Nat):Int)else(mi:Int)
theorem MD{mi:Nat}{x:Int}(hm:mi<PM)(hx:x.natAbs<=1125899906842624)(h:(PM:Int)∣(mi:Int)-x):LB mi=x:=by obtain⟨t,ht⟩:=h;have hp:PM=2305843009213693951:=rfl;rw[hp]at ht hm;unfold LB;rw[hp];split<;>omega
theorem El.last{n c r mi:Nat}{m:Mx}{a:Nat->Nat->Nat}{z:Int}(h:El n c m r a z)(hz:∀i j,r<=i->i<n->r<=j->j<c->a i j=0)(hb:gS n c m<=1125899906842624)(hm:mi<PM)(hmz:(PM:Int)∣(mi:Int)-z):O8 n c m r (LB mi):=by
 obtain⟨σ,τ,s,B,h⟩:=h;have hlead:=h.mn r id id (Rf _) (fun x _=>rfl) (fun x hx hxr=>by omega) (fun y hy=>by show y<c;have:=h.rc;omega);have hut:bS r (fun x y=>nM a (id x) (id y))=pI r fun i=>(a i i:Int):=vT fun i j hi hj=>by show((a i j:Nat):Int)=0;rw[h.tri i j (by have:=h.rn;omega) oZ hj];rfl
 rw[hut]at hlead;have hpn:¬(PM:Int)∣pI r fun i=>(a i i:Int):=Kk fun i hi=>⟨Ul (h.piv i hi),h.lt i i (by have:=h.rn;omega) (by have:=h.rc;omega)⟩
 have hpe:((PM:Nat):Int)=2305843009213693951:=rfl;have hup:Dv n c (r+1) m 0:=by
  have e0:Dv n c (r+1) (nM a) 0:=by
   intro is js Xh XM;have:bS (r+1) (fun x y=>nM a (is x) (js y))=0:=by
    by_cases hex:∃x,x<r+1/\r<=is x
    ·obtain⟨x,hx,hxr⟩:=hex
     refine yc hx fun j hj=>?_
     show((a (is x) (js j):Nat):Int)=0;by_cases e:js j<r;{rw[h.tri _ _ (Xh x hx) e oZ];rfl};{rw[hz _ _ hxr (Xh x hx) oZ (XM j hj)];rfl}
    ·have hinj:∃x y,x<r+1/\y<r+1/\x≠y/\is x=is y:=by
      apply Rq;intro VT;obtain⟨b,hb,ZF⟩:=Ii (k:=r) (js:=is) fun x y hx hy e=>by apply Rq;exact fun Vh=>VT ⟨x,y,hx,hy,Vh,e⟩
      exact hex ⟨b,hb,ZF⟩
     obtain⟨x,y,hx,hy,Vh,e⟩:=hinj;exact lH hx hy Vh fun j _=>by rw[e]
   rw[this];exact Int.dvd_refl 0
  have e1:Dv n c (r+1) B (PM:Int):=fun is js Xh XM=>by
   have d1:=rA (p:=(PM:Int)) (k:=r+1) (A:=fun x y=>nM a (is x) (js y)) (B:=fun x y=>B (is x) (js y)) fun x y hx hy=>h.md _ _ (Xh x hx) (XM y hy)
   have d2:=e0 is js Xh XM;rw[Int.zero_dvd.1 d2]at d1;rw[Int.zero_sub]at d1;exact(Int.dvd_neg.1 d1)
  exact BP (p:=PM) (by have:PM=2305843009213693951:=rfl;omega) (Dv.eqv h.eq.symm e1)
 have hmb:=fun{k:Nat} (is js:Nat->Nat) (Xh:∀x,x<k->is x<n) (XM:∀y,y<k->js y<c) (Vh:bS k (fun x y=>m (is x) (js y))≠0)=>lk (n:=n) (c:=c) m (k:=k) (is:=is) (js:=js)
  (fun x y hx hy e=>Rq fun Vw=>Vh (lH hx hy Vw fun j _=>by rw[e])) Xh (fun x y hx hy e=>Rq fun Vw=>Vh (jW hx hy Vw fun j _=>by rw[e])) XM
 have hdz:bS r (fun x y=>m (σ x) (τ y))≠0:=fun e=>hpn (by
  have e:bS r (fun x y=>m (σ (id x)) (τ (id y)))=0:=e;rwa [e,Int.sub_zero]at hlead)
 have hsl:∀x,x<r->σ x<n:=fun x hx=>h.sl x (by have:=h.rn;omega)
 have htl:∀y,y<r->τ y<c:=fun y hy=>h.tl y (by have:=h.rc;omega)
 have YN:=hmb σ τ hsl htl hdz;have VV:(s*bS r fun x y=>m (σ x) (τ y)).natAbs=(bS r fun x y=>m (σ x) (τ y)).natAbs:=by rcases h.sg with e|e<;>rw[e]<;>omega
 have hv:LB mi=s*bS r fun x y=>m (σ x) (τ y):=by refine MD hm oZ ?_;have e:=TX hmz (TP (b:=s) hlead);rw[U4,<-h.zz]at e;have e:(PM:Int)∣(mi:Int)-z+(z-s*bS r fun x y=>m (σ x) (τ y)):=e;rwa [show(mi:Int)-z+(z-s*bS r fun x y=>m (σ x) (τ y))=(mi:Int)-s*bS r fun x y=>m (σ x) (τ y) by omega]at e
 refine⟨h.rn,h.rc,hup,⟨σ,τ,s,hsl,htl,h.sg,hv⟩,?_,fun e1 e2=>?_,by rw[hv,VV];exact YN⟩
 ·rw[hv]
  intro e;have:(s*bS r fun x y=>m (σ x) (τ y)).natAbs=0:=by rw[e];rfl
  rw[VV]at this;exact hdz (Int.natAbs_eq_zero.1 this)
 {subst e2;rw[hv,h.sd e1,<-RO];rcases h.sg with e|e<;>rw[e]<;>omega}
theorem Hs:(Tryz.prog.info? 140).map (fun i=>(i.zero,i.size,i.bytes))=some (some (.int .u64 0),1,8):=by kernel_rfl
theorem Ev:(Tryz.prog.info? 151).map (fun i=>(i.zero,i.size,i.bytes))=some (some (.slice none 0 0),1,24):=by kernel_rfl
theorem Ge(n:Nat)(hn:n<=1099511627776)(w:World):
  (Instr.makeSlice 151 (.int .i64 (n:Int)) (.int .i64 (n:Int))).run Tryz.prog w= .ok (.slice (some ⟨w.heap.size,0,none⟩) n n) (w.alloc (.cells (List.replicate n (Value.int .u64 0)).toArray 140)):=by
 obtain⟨i0,hi,V6,VU,VN⟩:=S7 Hs;have h:=run_make (P:=Tryz.prog) w 151 140 i0 (.int .u64 0) Tryz.underlying151 hi V6 .i64 .i64 n n oZ (TK _) (by rw[VN];omega) oZ;simp only[Si]at h;rw[h,VU];have e:madeCells (Value.int .u64 0).cells (n*1)=(List.replicate n (Value.int .u64 0)).toArray:=by apply TT.1;rw[Ta,show(Value.int .u64 0).cells=#[Value.int .u64 0]from rfl,Tn]
 rw[e]
theorem DZ(n:Nat)(hn:n<=1099511627776)(w:World):
  (Instr.makeSlice 148 (.int .i64 (n:Int)) (.int .i64 (n:Int))).run Tryz.prog w= .ok (.slice (some ⟨w.heap.size,0,none⟩) n n) (w.alloc (.cells (List.replicate n (Value.slice none 0 0)).toArray 151)):=by
 obtain⟨i0,hi,V6,VU,VN⟩:=S7 Ev;have h:=run_make (P:=Tryz.prog) w 148 151 i0 (.slice none 0 0) Tryz.underlying148 hi V6 .i64 .i64 n n oZ (TK _) (by rw[VN];omega) oZ;simp only[Si]at h;rw[h,VU];have e:madeCells (Value.slice none 0 0).cells (n*1)=(List.replicate n (Value.slice none 0 0)).toArray:=by apply TT.1;rw[Ta,show(Value.slice none 0 0).cells=#[Value.slice none 0 0]from rfl,Tn]
 rw[e]
theorem cN{w:World}{n k:Nat}{v:Value}{t:TypeId}(hk:k<n):(w.alloc (.cells (List.replicate n v).toArray t)).cell? ⟨w.heap.size,k,none⟩=some v/\(w.alloc (.cells (List.replicate n v).toArray t)).frozen? ⟨w.heap.size,k,none⟩=false:=by refine⟨?_,?_⟩;{rw[RT];simp[hk]};{exact Ts w _ t k}
def up{α:Type}(f:Nat->α)(i:Nat)(v:α)(x:Nat):α:=if x=i then v else f x
theorem MX.push{w:World}{S:Nat->Prop}{P:Option Addr}{bA n c i:Nat}{A:Nat->Option Addr}{bs:Nat->Nat}{a:Nat->Nat->Nat}(h:MX w S P bA i c A bs a)(hP:P=some ⟨bA,0,none⟩)(hA:S bA/\bA<w.heap.size)(hS:S w.heap.size)
  {v:Value}(_hi:i<n)(hc:w.cell? ⟨bA,i,none⟩=some v)(hf:w.frozen? ⟨bA,i,none⟩=false):
  MX ((w.alloc (.cells (List.replicate c (Value.int .u64 0)).toArray 140)).setCell ⟨bA,i,none⟩ (.slice (some ⟨w.heap.size,0,none⟩) c c)) S P bA (i+1) c (up A i (some ⟨w.heap.size,0,none⟩)) (up bs i w.heap.size) (up a i fun _=>0):=by
 have h1:=h.alloc (.cells (List.replicate c (Value.int .u64 0)).toArray 140);have Vh:w.heap.size≠bA:=oZ;refine⟨fun _=>⟨hP,hA.1,by simp;omega⟩,fun x hx=>?_,fun x hx=>?_,fun x hx hc=>?_,fun x y hx hy hc e=>?_,fun x y hx hy=>?_,fun x y hx hy=>?_⟩;{unfold up;by_cases e:x=i;{subst e;rw[Re rfl];exact bV ((World.cell?_alloc_old w _ ⟨bA,x,none⟩ qj).trans hc)};{rw[Rc e,aW (by intro e2;injection e2 with _ e2;exact e e2.symm)];exact h1.hd x oZ}};{rw[Rp];by_cases e:x=i;{subst e;exact(Ro (a:=⟨bA,x,none⟩) (Rx w _ bA hA.2)).trans hf};{exact h1.fz x oZ}};{rw[RS];unfold up;by_cases e:x=i;{rw[Re e,Re e];exact⟨rfl,hS,oX,Vh⟩};{rw[Rc e,Rc e];exact h1.ad x oZ hc}};{unfold up at e;by_cases e1:x=i;{by_cases e2:y=i;{omega};{rw[Re e1,Rc e2]at e;have:=(h.ad y oZ hc).2.2.1;omega}};{by_cases e2:y=i;{rw[Rc e1,Re e2]at e;have:=(h.ad x oZ hc).2.2.1;omega};{rw[Rc e1,Rc e2]at e;exact h.ij x y oZ oZ hc e}}};{unfold up;by_cases e:x=i;{rw[Re e,Re e,aW (by intro e2;injection e2 with e2;omega)];exact(cN hy).1};{rw[Rc e,Rc e,aW (by intro e2;injection e2 with e2;exact(h.ad x oZ oZ).2.2.2 e2.symm)];exact h1.en x y oZ hy}};{rw[Rp];unfold up;by_cases e:x=i;{rw[Re e];exact(cN hy).2};{rw[Rc e];exact h1.fr x y oZ hy}}
def rs(m:Nat)(x:Int):Nat:=if x<0 then kG 0 (x.natAbs%m) m else x.natAbs%m
structure BU(w0 w:World)(xss:List (List Int))(m n c i:Nat)(A:Nat->Option Addr)(bs:Nat->Nat)(a:Nat->Nat->Nat):Prop where
 mx:MX w (fun b=>w0.heap.size<=b) (some ⟨w0.heap.size,0,none⟩) w0.heap.size i c A bs a
 sz:w0.heap.size<w.heap.size
 hd:∀x,x<n->(∃v,w.cell? ⟨w0.heap.size,x,none⟩=some v)/\w.frozen? ⟨w0.heap.size,x,none⟩=false
 bel:Below w0.heap.size w0 w
theorem BU.start{w0:World}{xss:List (List Int)}{m n c:Nat}:BU w0 (w0.alloc (.cells (List.replicate n (Value.slice none 0 0)).toArray 151)) xss m n c 0 (fun _=>none) (fun _=>0) (fun _ _=>0):=
 ⟨⟨fun h=>by omega,fun i h=>by omega,fun i h=>by omega,fun i h=>by omega,fun i k h=>by omega,fun i j h=>by omega,fun i j h=>by omega⟩,oX,fun x hx=>⟨⟨_,(cN hx).1⟩,(cN hx).2⟩,(Rh _ _).alloc (Rf _) _⟩
theorem BU.push{w0 w:World}{xss:List (List Int)}{m n c i:Nat}{A:Nat->Option Addr}{bs:Nat->Nat}{a:Nat->Nat->Nat}(h:BU w0 w xss m n c i A bs a)(hi:i<n):
  BU w0 ((w.alloc (.cells (List.replicate c (Value.int .u64 0)).toArray 140)).setCell ⟨w0.heap.size,i,none⟩ (.slice (some ⟨w.heap.size,0,none⟩) c c)) xss m n c (i+1) (up A i (some ⟨w.heap.size,0,none⟩)) (up bs i w.heap.size) (up a i fun _=>0):=by
 obtain⟨⟨v,hv⟩,hf⟩:=h.hd i hi;refine⟨h.mx.push rfl ⟨Rf _,h.sz⟩ h.bel.size hi hv hf,by rw[RS];simp;have:=h.sz;omega,fun x hx=>?_,?_⟩;{obtain⟨⟨u,hu⟩,hg⟩:=h.hd x hx;have hu':(w.alloc (.cells (List.replicate c (Value.int .u64 0)).toArray 140)).cell? ⟨w0.heap.size,x,none⟩=some u:=(Sm w _ ⟨w0.heap.size,x,none⟩ h.sz).trans hu;refine⟨?_,?_⟩;{by_cases e:x=i;{subst e;exact⟨_,bV hu'⟩};{exact⟨u,by rw[aW (by intro e2;injection e2 with _ e2;exact e e2.symm)];exact hu'⟩}};{rw[Rp];exact(Ro (a:=⟨w0.heap.size,x,none⟩) (Rx w _ w0.heap.size h.sz)).trans hg}};{exact(h.bel.alloc h.bel.size _).setCell (Rf _) _}
theorem BU.store{w0 w:World}{xss:List (List Int)}{m n c i:Nat}{A:Nat->Option Addr}{bs:Nat->Nat}{a:Nat->Nat->Nat}(h:BU w0 w xss m n c i A bs a){x y:Nat}(hx:x<i)(hy:y<c)(v:Nat):
  BU w0 (w.setCell ⟨bs x,y,none⟩ (.int .u64 (v:Nat))) xss m n c i A bs (fun p q=>if p=x/\q=y then v else a p q):=by
 obtain⟨h1,h2,h3,h4⟩:=h.mx.ad x hx oZ;refine⟨h.mx.store hx hy v,by rw[RS];exact h.sz,fun z hz=>?_,h.bel.setCell h2 _⟩;rw[Rp,aW (by intro e;injection e with e;exact h4 e)];exact h.hd z hz
theorem BU.drewN{w0 w:World}{xss:List (List Int)}{m n c i:Nat}{A:Nat->Option Addr}{bs:Nat->Nat}{a:Nat->Nat->Nat}(h:BU w0 w xss m n c i A bs a)(k:Nat):BU w0 (w.drewN k) xss m n c i A bs a:=
 ⟨h.mx.drewN k,h.sz,h.hd,⟨h.bel.os,h.bel.tape,h.bel.output,h.bel.size,h.bel.block⟩⟩
theorem xw(A0:Option Addr)(cap:Nat)(xss:List (List Int))(n c md:Nat)(w:World)(T:Nat->Prop)(hx:pZ w T A0 xss)(hT:∀b,T b->b<w.heap.size)(hn:xss.length=n)(hc:∀i,i<n->(xss.getD i []).length=c)(Y0:n<=1000)(Vo:c<=1000)
  (hb:∀i j,i<n->j<c->-1125899906842624<=eI xss i j/\eI xss i j<=1125899906842624)(hm:0<md/\md<=4611686018427387904):
  Calls Tryz.prog 112 #[.slice A0 n cap,.int .u64 md] w fun e w'=>∃P bA A bs,e= .returned (.slice P n n)/\Below w.heap.size w w'/\MX w' (fun b=>w.heap.size<=b) P bA n c A bs (fun i j=>rs md (eI xss i j)):=by
 have WY:=DZ n oZ;have HX:=Rb hx;have HT:=Rb hT;have HN:=Rb hn;have HC:=Rb hc;have HB:=Rb hb;have HM:=Rb hm;have H0:=Rb (BU.start (w0:=w) (xss:=xss) (m:=md) (n:=n) (c:=c));clear hx hT hn hc hb hm;go_enter Tryz.func112,Tryz.ntmps112
 go_wp2_with fail;clear WY;go_loopw[15] (fun i wr=>∃(k:Nat)(A:Nat->Option Addr)(bs:Nat->Nat)(a:Nat->Nat->Nat),k<=n/\i= .int .i64 k/\Hid (BU w wr xss md n c k A bs a)/\Hid (∀x y,x<k->y<c->a x y=rs md (eI xss x y))) (fun i _=>n-(intOf i).toNat)
 case atStart=>exact⟨0,_,_,_,Rv _,rfl,by simpa using H0,fun x y hx=>by omega⟩
 case round=>
  clear H0;obtain⟨k,A,bs,a,hk,rfl,HR,HV⟩:=hrel;by_cases Vg:k<n
  ·have hx:=HX.out.imp (T:=(·<w.heap.size)) HT.out
   obtain⟨b,off,rfl,VF,VE⟩:=hx.at_ (k:=k) (by rw[HN.out];exact Vg);obtain⟨Ak,ck,c1,hr,-⟩:=VE k (by rw[HN.out];exact Vg);rw[HC.out k Vg,<-HR.out.bel.cell (p:=⟨b,off+k,none⟩) VF]at c1;have HRI:=Rb hr;obtain⟨⟨v0,c0⟩,f0⟩:=HR.out.hd k Vg;have s0:=HR.out.sz;have ZY:b<wr.heap.size:=oZ;have HP:=Rb (HR.out.push (i:=k) Vg);have WY:=Ge c oZ;have c0':(wr.alloc (.cells (Array.replicate c (Value.int .u64 0)) 140)).cell? ⟨w.heap.size,k,none⟩=some v0:=(Sm wr _ ⟨w.heap.size,k,none⟩ s0).trans c0;have f0':(wr.alloc (.cells (Array.replicate c (Value.int .u64 0)) 140)).frozen? ⟨w.heap.size,k,none⟩=false:=(Tb wr _ ⟨w.heap.size,k,none⟩ qj).trans f0;have HV1:Hid (∀x y,x<k->y<c->up a k (fun _=>0) x y=rs md (eI xss x y)):=by intro x y hx hy;unfold up;rw[Rc oZ];exact HV.out x y hx hy
   have HU:Hid (up A k (some ⟨wr.heap.size,0,none⟩) k=some ⟨wr.heap.size,0,none⟩/\up bs k wr.heap.size k=wr.heap.size):=⟨Re rfl,Re rfl⟩;clear hx VE hr VF;go_wp2_with fail;generalize up A k (some ⟨wr.heap.size,0,none⟩)=A' at HP HU;generalize up bs k wr.heap.size=Zj at HP HU;generalize up a k (fun _=>0)=a' at HP HV1;rw[show(List.replicate c (Value.int .u64 0)).toArray=Array.replicate c (Value.int .u64 0) by simp,World.setCell_alloc_past _ _ _ _ s0]at HP;generalize(wr.setCell ⟨w.heap.size,k,none⟩ (.slice (some ⟨wr.heap.size,0,none⟩) c c)).alloc (.cells (Array.replicate c (Value.int .u64 0)) 140)=w1 at HP⊢;clear WY c0' f0' c0 c1 f0 HV HR ZY s0;generalize wr.heap.size=gb at HU⊢;clear v0;have ZW:=Rb HU.out.1;have YC:=Rb HU.out.2;have ZC:=Rb (HC.out k Vg);clear HU;go_loopw[28] (fun i wx=>∃(j:Nat)(a2:Nat->Nat->Nat),j<=c/\i= .int .i64 j/\Hid (BU w wx xss md n c (k+1) A' Zj a2)/\Hid (∀x y,x<k->y<c->a2 x y=rs md (eI xss x y))/\Hid (∀y,y<j->a2 k y=rs md (eI xss k y))) (fun i _=>c-(intOf i).toNat)
   case atStart=>exact⟨0,a',Rv _,rfl,HP,HV1,fun y hy=>by omega⟩
   case round=>
    clear HP HV1;obtain⟨j,a2,hj,rfl,HP,HV1,Zi⟩:=hrel;by_cases hlj:j<c
    ·have c2:=HP.out.mx.hd k oZ
     rw[ZW.out]at c2;have c3:=HP.out.mx.en k j oZ hlj;have f3:=HP.out.mx.fr k j oZ hlj;rw[YC.out]at c3 f3;have hrw:=HRI.out.below HP.out.bel;obtain⟨bk,ok,rfl,-,hcj⟩:=hrw.at_ (k:=j) (by rw[ZC.out];exact hlj);have c4:=hcj j (by rw[ZC.out];exact hlj);obtain⟨x,hx⟩:∃x,gi (xss.getD k []) j=x:=⟨_,rfl⟩
     rw[hx]at c4;have hxb:=HB.out k j Vg hlj;rw[show eI xss k j=x from hx]at hxb;obtain⟨r,hr⟩:∃r,x.natAbs%md=r:=⟨_,rfl⟩
     have hmd:=HM.out;have hrm:r<md:=by rw[<-hr];exact RY _ hmd.1
     have x1:¬(md:Int)=0:=oZ;have x2:((x.natAbs:Nat):Int).tmod (md:Int)=(r:Int):=by rw[<-hr];exact UT _ md
     have x3:((x.natAbs:Nat):Int)%(md:Int)=(r:Int):=by rw[<-hr];rfl
     have x4:IntKind.u64.wrap (r:Int)=(r:Int):=bN _ oZ;have HXE:=Rb (show eI xss k j=x from hx);have Zz:=Rb hr;have HRM:=Rb hrm;have HXB:=Rb hxb;clear hx hr hrm hmd hxb hcj hrw;go_upto_region 9 with fail
     go_cut []from 33 to 60 (fun wx=>wx=(wr.setCell ⟨gb,j,none⟩ (.int .u64 r)).drew)
     case first=>
      go_region_with(go_at_call 111;refine(De x (by have:=HXB.out.1;omega) (by have:=HXB.out.2;omega) _).mono ?_;rintro e w1 ⟨rfl,rfl⟩)
      all_goals
       go_wp2_with fail
       go_meet
       case rel=>rfl
     case rest=>
      subst hcut;have HG:∃a3,BU w (wr.setCell ⟨gb,j,none⟩ (.int .u64 r)).drew xss md n c (k+1) A' Zj a3/\(∀x' y,x'<k->y<c->a3 x' y=rs md (eI xss x' y))/\(∀y,y<j->a3 k y=rs md (eI xss k y))/\a3 k j=r:=by have h1:=(HP.out.store (x:=k) (y:=j) oZ hlj r).drewN 1;rw[YC.out]at h1;refine⟨_,h1,fun x' y hx' hy=>?_,fun y hy=>?_,Re ⟨rfl,rfl⟩⟩;{rw[Rc oZ];exact HV1.out x' y hx' hy};{rw[Rc oZ];exact Zi.out y hy}
      clear c2 c3 f3 c4 HP HV1 Zi;generalize(wr.setCell ⟨gb,j,none⟩ (.int .u64 r)).drew=w1 at HG⊢;obtain⟨a3,h1,h2,h3,h4⟩:=HG;have d2:=h1.mx.hd k oZ;rw[ZW.out]at d2;have d3:=h1.mx.en k j oZ hlj;have g3:=h1.mx.fr k j oZ hlj;rw[YC.out,h4]at d3;rw[YC.out]at g3;have HP:=Rb h1;have HV1:=Rb h2;have Zi:=Rb h3;have HV3:=Rb h4;clear h1 h2 h3 h4;by_cases Wm:x<0
      ·obtain⟨q,hq⟩:∃q,kG 0 r md=q:=⟨_,rfl⟩
       have hmd:=HM.out;have Xf:q<md:=by rw[<-hq];exact nC hmd.1 HRM.out
       have HRS:Hid (rs md x=q):=by unfold rs;rw[Re Wm,Zz.out];exact hq
       have HQ:=Rb hq;clear hmd hq Xf;go_wp2_with fail
       go_region_with(go_at_call 115;refine(ns 0 r md HM.out.1 HRM.out (by have:=HM.out.2;omega) _).mono ?_;rintro e w2 ⟨rfl,rfl⟩;rw[HQ.out])
       all_goals
        have h1:=(HP.out.store (x:=k) (y:=j) oZ hlj q).drewN 1;rw[YC.out]at h1;have X7:=Rb h1;have HV1':Hid (∀x' y,x'<k->y<c->(if x'=k/\y=j then q else a3 x' y)=rs md (eI xss x' y)):=by intro x' y hx' hy;rw[Rc oZ];exact HV1.out x' y hx' hy
        have HV2':Hid (∀y,y<j+1->(if k=k/\y=j then q else a3 k y)=rs md (eI xss k y)):=by intro y hy;by_cases e:y=j;{rw[Re ⟨rfl,e⟩,e,HXE.out,HRS.out]};{rw[Rc (fun h=>e h.2)];exact Zi.out y oZ}
        clear h1 HP HV1 Zi HV3 d2 d3 g3;go_wp2_with fail;go_roundw
        case rel=>exact⟨j+1,_,oZ,by go_num,X7,HV1',HV2'⟩
        case measure=>simp[intOf];omega
      ·have HV2':Hid (∀y,y<j+1->a3 k y=rs md (eI xss k y)):=by
        intro y hy;by_cases e:y=j;{rw[e,HXE.out,HV3.out];unfold rs;rw[Rc Wm,Zz.out]};{exact Zi.out y oZ}
       clear Zi HV3 d2 d3 g3;go_wp2_with fail;go_roundw
       case rel=>exact⟨j+1,_,oZ,by go_num,HP,HV1,HV2'⟩
       case measure=>simp[intOf];omega
    ·have HV':Hid (∀x y,x<k+1->y<c->a2 x y=rs md (eI xss x y)):=by
      intro x y hx hy;by_cases e:x=k;{subst e;exact Zi.out y oZ};{exact HV1.out x y oZ hy}
     clear HV1 Zi;go_wp2_with fail;go_roundw
     case rel=>exact⟨k+1,_,_,_,oZ,by go_num,HP,HV'⟩
     case measure=>simp[intOf];omega
  {obtain rfl:k=n:=oZ;go_wp2_with fail;go_ret;exact⟨_,_,_,_,rfl,HR.out.bel,HR.out.mx.congr HV.out⟩}
theorem nN(k:Nat):xg k k=id:=by funext x;unfold xg;split<;>(try split)<;>simp_all
structure MF(w w':World)(S:Nat->Prop)(P:Option Addr)(bA n c:Nat)(A:Nat->Option Addr)(bs:Nat->Nat)(a:Nat->Nat->Nat)(k i j:Nat):Prop where
 hi:k<=i/\i<n
 hj:k<=j/\j<c
 nz:a i j≠0
 mx:MX w' S P bA n c (fun x=>A (xg i k x)) (fun x=>bs (xg i k x)) (fun x y=>a (xg i k x) (xg j k y))
 fm:Fm S w w'
def b1(i k:Nat):Nat:=if i=k then 0 else 1
theorem G7{w:World}{S:Nat->Prop}{P:Option Addr}{bA n c:Nat}{A:Nat->Option Addr}{bs:Nat->Nat}{a:Nat->Nat->Nat}(k:Nat)(h:MX w S P bA n c A bs a)(hn:n<=1000)(hc:c<=1000)(hk:k<=1000):
  Calls Tryz.prog 113 #[.slice P n n,.int .i64 k] w fun e w'=>
   (e= .returned (.tuple #[.int .i64 0,.bool false])/\w=w'/\∀i j,k<=i->i<n->k<=j->j<c->a i j=0)\/
   ∃i j,e= .returned (.tuple #[.int .i64 (b1 i k+b1 j k:Nat),.bool true])/\MF w w' S P bA n c A bs a k i j:=by
 have HX:=Rb h;clear h;go_enter Tryz.func113,Tryz.ntmps113
 go_wp2_with fail;go_loopw[6] (fun i' wr=>∃i:Nat,k<=i/\(i<=n\/i=k)/\i'= .int .i64 i/\w=wr/\Hid (∀x y,k<=x->x<i->k<=y->y<c->a x y=0)) (fun i _=>n-(intOf i).toNat)
 case atStart=>exact⟨k,Rf _,.inr rfl,rfl,rfl,fun x y h1 h2=>by omega⟩
 case round=>
  obtain⟨i,hki,Vn,rfl,rfl,HZ⟩:=hrel;by_cases Vg:i<n
  ·obtain⟨rfl,hA,hAl⟩:=HX.out.top oZ
   have c1:=HX.out.hd i Vg;clear Vn;go_wp2_with fail;go_loopw[7] (fun j' wr=>∃j:Nat,k<=j/\(j<=c\/j=k)/\j'= .int .i64 j/\w=wr/\Hid (∀y,k<=y->y<j->a i y=0)) (fun j _=>c-(intOf j).toNat)
   case atStart=>exact⟨k,Rf _,.inr rfl,rfl,rfl,fun y h1 h2=>by omega⟩
   case round=>
    obtain⟨j,hkj,hjn,rfl,rfl,HY⟩:=hrel;by_cases hlj:j<c
    ·obtain⟨hAi,-,-,-⟩:=HX.out.ad i Vg oZ
     rw[hAi]at c1;have c2:=HX.out.en i j Vg hlj;obtain⟨v,hv⟩:∃v,a i j=v:=⟨_,rfl⟩
     rw[hv]at c2;have HVV:=Rb hv;have HAI:=Rb hAi;clear hv hjn hAi;by_cases h0:v=0
     ·subst h0
      have HY':Hid (∀y,k<=y->y<j+1->a i y=0):=by intro y h1 h2;by_cases e:y=j;{rw[e];exact HVV.out};{exact HY.out y h1 oZ}
      clear HY HVV;go_wp2_with fail;go_roundw
      case rel=>exact⟨j+1,oZ,oZ,by go_num,by trivial,HY'⟩
      case measure=>simp[intOf];omega
     ·have h0':((v:Int)==0)=false:=by rw[Rs];omega
      clear HY HZ
      go_upto_if 38 with fail
      go_cut [8]from 39 to 56 (fun e wx=>e= .int .i64 (b1 i k:Nat)/\Hid (MX wx S (some ⟨bA,0,none⟩) bA n c (fun x=>A (xg i k x)) (fun x=>bs (xg i k x)) (fun x y=>a (xg i k x) y))/\Hid (Fm S w wx))
      case first=>
       by_cases hik:i=k
       ·subst hik
        have HR:Hid (MX w S (some ⟨bA,0,none⟩) bA n c (fun x=>A (xg i i x)) (fun x=>bs (xg i i x)) (fun x y=>a (xg i i x) y)):=by rw[nN];exact HX.out
        have hb:b1 i i=0:=Re rfl;go_wp2_with fail
        go_meet
        case rel=>exact⟨by rw[hb];rfl,HR,Fm.refl _ _⟩
       ·have hb:b1 i k=1:=Rc hik
        have c3:=HX.out.hd k oZ;have f1:=HX.out.fz i Vg;have f3:=HX.out.fz k oZ;have HB:=Rb hb;have Vh:((i:Int)!=(k:Int))=true:=by rw[RZ];omega
        have hR:=HX.out.rows Vg (show k<n by omega);have hF:=((Fm.refl S w).set hA i (.slice (A k) c c)).set hA k (.slice (A i) c c);rw[HAI.out]at hR hF;have HR:=Rb hR;have HF:=Rb hF;clear hR hF;have c4:∀(v:Value)(m:Nat),((w.drewN m).setCell ⟨bA,i,none⟩ v).cell? ⟨bA,k,none⟩=some (.slice (A k) c c):=fun v m=>(aW (by intro e;injection e with _ e;exact hik e)).trans c3
        clear hb;go_wp2_with fail;go_region
        all_goals
         go_wp2_with fail
         go_meet
         case rel=>exact⟨by rw[HB.out];rfl,HR.out.drew,HF.out.drew⟩
      case rest=>
       obtain⟨rfl,HR,HF⟩:=hcut;clear c1 c2;by_cases hjk:j=k
       ·subst hjk
        have hb:b1 j j=0:=Re rfl;have HE:Hid (((b1 i j:Nat):Int)=((b1 i j+b1 j j:Nat):Int)):=by rw[hb];rfl
        clear hb;go_wp2_with fail;go_ret2;refine .inr ⟨i,j,by rw[HE.out];rfl,⟨hki,Vg⟩,⟨hkj,hlj⟩,by rw[HVV.out];exact h0,?_,HF.out⟩;rw[nN];exact HR.out
       ·have hb:b1 j k=1:=Rc hjk
        have HE:Hid (wrap64 (((b1 i k:Nat):Int)+1)=((b1 i k+b1 j k:Nat):Int)):=by
         have:b1 i k<=1:=by unfold b1;split<;>omega
         rw[hb];rw[show((b1 i k+1:Nat):Int)=((b1 i k:Nat):Int)+1 by omega];exact IntWalk.wrap64_in (((b1 i k:Nat):Int)+1) oZ
        have Vh:((j:Int)!=(k:Int))=true:=by rw[RZ];omega
        have HT:=HR.out.top oZ;clear hb;go_wp2_with fail;go_loopw[60] (fun t' wr=>∃t:Nat,t<=n/\t'= .int .i64 t/\Hid (MX wr S (some ⟨bA,0,none⟩) bA n c (fun x=>A (xg i k x)) (fun x=>bs (xg i k x)) (fun x y=>if x<t then a (xg i k x) (xg j k y)else a (xg i k x) y))/\Hid (Fm S w wr)) (fun t _=>n-(intOf t).toNat)
        case atStart=>exact⟨0,Rv _,rfl,HR,HF⟩
        case round=>
         clear HR HF;obtain⟨t,ht,rfl,HR,HF⟩:=hrel;by_cases VP:t<n
         ·have c1:=HR.out.hd t VP
          obtain⟨e1,e2,-,-⟩:=HR.out.ad t VP oZ;rw[e1]at c1;have c2:=HR.out.en t j VP hlj;have c3:=HR.out.en t k VP oZ;have f2:=HR.out.fr t j VP hlj;have f3:=HR.out.fr t k VP oZ;rw[Rc oZ]at c2 c3;have hsw:=HR.out.swap VP hlj (show k<c by omega) hjk;rw[Rc (Sq _)]at hsw;rw[Rc (Sq _)]at hsw;have Zz:=Rb (hsw.congr (b:=fun x y=>if x<t+1 then a (xg i k x) (xg j k y)else a (xg i k x) y) fun x y _ _=>by
           by_cases e:x=t;{subst e;rw[Re rfl,Rc (Sq _),Re (R9 _)]}
           ·rw[Rc e]
            by_cases e2:x<t;{rw[Re e2,Re oZ]}
            ·rw[Rc e2,Rc oZ])
          have HF':=Rb ((HF.out.set e2 j (.int .u64 (a (xg i k t) k:Nat))).set e2 k (.int .u64 (a (xg i k t) j:Nat)));clear hsw HR HF e1 e2;generalize bs (xg i k t)=g at c1 c2 c3 f2 f3 Zz HF';generalize a (xg i k t) k=p at c3 Zz HF';generalize a (xg i k t) j=q at c2 Zz HF';have c4:∀(v:Value)(m:Nat),((wr.drewN m).setCell ⟨g,j,none⟩ v).cell? ⟨g,k,none⟩=some (.int .u64 (p:Nat)):=fun v m=>(aW (by intro e;injection e with _ e;exact hjk e)).trans c3
          go_wp2_with fail;go_region
          all_goals
           go_wp2_with fail;go_roundw
           case rel=>exact⟨t+1,oZ,by go_num,Zz.out.drew,HF'.out.drew⟩
           case measure=>simp[intOf];omega
         {have Zz:=Rb (HR.out.congr (b:=fun x y=>a (xg i k x) (xg j k y)) fun x y hx _=>Re oZ);clear HR;go_wp2_with fail;go_ret2;refine .inr ⟨i,j,by rw[HE.out];rfl,⟨hki,Vg⟩,⟨hkj,hlj⟩,by rw[HVV.out];exact h0,Zz.out,HF.out⟩}
    ·have HZ':Hid (∀x y,k<=x->x<i+1->k<=y->y<c->a x y=0):=by
      intro x y h1 h2 h3 h4;by_cases e:x=i;{rw[e];exact HY.out y h3 oZ};{exact HZ.out x y h1 oZ h3 h4}
     clear HY HZ hjn;go_wp2_with fail;go_roundw
     case rel=>exact⟨i+1,oZ,oZ,by go_num,by trivial,HZ'⟩
     case measure=>simp[intOf];omega
  {go_wp2_with fail;go_ret2;exact .inl ⟨rfl,rfl,fun i' j' h1 h2 h3 h4=>HZ.out i' j' h1 oZ h3 h4⟩}
theorem El.swap{n c r i j:Nat}{m:Mx}{a:Nat->Nat->Nat}{z:Int}(h:El n c m r a z)(hi:r<=i/\i<n)(hj:r<=j/\j<c):El n c m r (fun x y=>a (xg i r x) (xg j r y)) (if b1 i r+b1 j r=1 then-z else z):=by unfold b1;by_cases e1:i=r;{subst e1;rw[Re rfl,nN];by_cases e2:j=i;{subst e2;rw[Re rfl,nN,Rc oZ];exact h};{rw[Rc e2,Re oZ];exact h.Jj hj.1 hj.2 e2}};{rw[Rc e1];by_cases e2:j=r;{subst e2;rw[Re rfl,nN,Re oZ];exact h.Jd hi.1 hi.2 e1};{rw[Rc e2,Rc oZ];have:=(h.Jd hi.1 hi.2 e1).Jj hj.1 hj.2 e2;rwa [Ue]at this}}
def IY(ex mi p:Nat):Nat:=if ex=1 then kG 0 (mi*p%PM) PM else mi*p%PM
theorem MC(ex mi p:Nat):IY ex mi p<PM:=by unfold IY;split;{exact nC oQ (RY _ oQ)};{exact RY _ oQ}
theorem JI{ex mi p:Nat}{z:Int}(h:(PM:Int)∣(mi:Int)-z):(PM:Int)∣(IY ex mi p:Int)-(if ex=1 then-z else z)*(p:Int):=by have e1:=rj PM (mi*p);have e2:=TP (b:=(p:Int)) h;rw[U4,RW,RW (p:Int) z]at e2;rw[T']at e1;unfold IY;by_cases e:ex=1;{rw[Re e,Re e,SG];have e3:=xR (show 0<PM by decide) (RY (mi*p) (show 0<PM by decide));generalize((mi*p%PM:Nat):Int)=u at e1 e3;generalize(mi:Int)*(p:Int)=v at e1 e2;generalize z*(p:Int)=t at e2⊢;generalize((kG 0 (mi*p%PM) PM:Nat):Int)=x at e3⊢;have:=UL (UL e1 e3) e2;rw[show v-u-(((0:Nat):Int)-u-x)-(v-t)=x- -t by omega]at this;exact this};{rw[Rc e,Rc e];generalize((mi*p%PM:Nat):Int)=u at e1⊢;generalize(mi:Int)*(p:Int)=v at e1 e2;generalize z*(p:Int)=t at e2⊢;have:=UL e2 e1;rwa [show v-t-(v-u)=u-t by omega]at this}
theorem OD{m:Nat}(hm:0<m)(x:Int):rs m x<m:=by unfold rs;split;{exact nC hm (RY _ hm)};{exact RY _ hm}
theorem MT{m:Nat}(hm:0<m)(x:Int):(m:Int)∣(rs m x:Int)-x:=by have e1:=rj m x.natAbs;unfold rs;split;{have e3:=xR hm (RY x.natAbs hm);generalize((x.natAbs%m:Nat):Int)=u at e1 e3;generalize((kG 0 (x.natAbs%m) m:Nat):Int)=y at e3⊢;have:=UL e1 e3;rw[show((x.natAbs:Nat):Int)-u-(((0:Nat):Int)-u-y)=y-x by omega]at this;exact this};{have:=Int.dvd_neg.2 e1;rwa [show-(((x.natAbs:Nat):Int)-((x.natAbs%m:Nat):Int))=((x.natAbs%m:Nat):Int)-x by omega]at this}
theorem MX.cap{w:World}{N bA n c:Nat}{P:Option Addr}{A:Nat->Option Addr}{bs:Nat->Nat}{a:Nat->Nat->Nat}(h:MX w (fun b=>N<=b) P bA n c A bs a):MX w (fun b=>N<=b/\b<w.heap.size) P bA n c A bs a:=
 ⟨fun hn=>⟨(h.top hn).1,⟨(h.top hn).2.1,(h.top hn).2.2⟩,(h.top hn).2.2⟩,h.hd,h.fz,fun i hi hc=>⟨(h.ad i hi hc).1,⟨(h.ad i hi hc).2.1,(h.ad i hi hc).2.2.1⟩,(h.ad i hi hc).2.2⟩,h.ij,h.en,h.fr⟩
def uE(r i by_:Nat)(a:Nat->Nat->Nat)(k x y:Nat):Nat:=if x=i/\r<=y/\y<k then kG (a i y) (by_*a r y%PM) PM else a x y
theorem yS{w:World}{S:Nat->Prop}{P:Option Addr}{bA n c:Nat}{A:Nat->Option Addr}{bs:Nat->Nat}{a:Nat->Nat->Nat}(r i by_ b5 b9:Nat)(h:MX w S P bA n c A bs a)(hi:i<n)(hr:r<n)(hir:i≠r)(Zs:r<=c)(h0:0<c)(Vo:c<=1000)(Y':by_<PM)(Vg:∀x y,x<n->y<c->a x y<PM)
  (h5:w.cell? ⟨b5,0,none⟩=some (.int .i64 r))(h9:w.cell? ⟨b9,0,none⟩=some (.slice (some ⟨bs r,0,none⟩) c c))(n5:¬S b5)(n9:¬S b9):
  Calls Tryz.prog 117 #[.slice (some ⟨bs i,0,none⟩) c c,.int .u64 by_,.pointer (some ⟨b5,0,none⟩),.pointer (some ⟨b9,0,none⟩)] w fun e w'=>
   e= .returned (.tuple #[])/\MX w' S P bA n c A bs (uE r i by_ a c)/\Fm S w w':=by
 have HX:Hid (MX w S P bA n c A bs (uE r i by_ a r)):=h.congr fun x y _ _=>by unfold uE;rw[Rc oZ]
 have HL:=Rb Vg;have HBY:=Rb Y';have H9:=Rb h9;have HPM:Hid (PM=2305843009213693951):=Rb rfl;clear h Vg Y' h9;go_enter Tryz.func117,Tryz.ntmps117
 go_wp2_with fail;go_loopw[6] (fun k' wr=>∃k:Nat,r<=k/\k<=c/\k'= .int .i64 k/\Hid (MX wr S P bA n c A bs (uE r i by_ a k))/\Hid (Fm S w wr)) (fun k _=>c-(intOf k).toNat)
 case atStart=>exact⟨r,Rf _,Zs,rfl,HX,Fm.refl _ _⟩
 case round=>
  clear HX;obtain⟨k,Ys,hkc,rfl,HX,HF⟩:=hrel;by_cases Vg:k<c
  ·have c1:=HX.out.en i k hi Vg
   have c2:=HX.out.en r k hr Vg;have f1:=HX.out.fr i k hi Vg;obtain⟨-,s1,-,-⟩:=HX.out.ad i hi h0;obtain⟨-,s2,-,-⟩:=HX.out.ad r hr h0;have c5:=(Ri (a:=⟨b5,0,none⟩) (HF.out.block b5 n5)).trans h5;have c9:=(Ri (a:=⟨b9,0,none⟩) (HF.out.block b9 n9)).trans H9.out;have e1:uE r i by_ a k i k=a i k:=Rc oZ;have e2:uE r i by_ a k r k=a r k:=Rc oZ;rw[e1]at c1;rw[e2]at c2;have l1:=HL.out i k hi Vg;have l2:=HL.out r k hr Vg;have Vh:bs i≠bs r:=fun e=>hir (HX.out.ij i r hi hr h0 e)
   obtain⟨p,hp⟩:∃p,a i k=p:=⟨_,rfl⟩
   obtain⟨q,hq⟩:∃q,a r k=q:=⟨_,rfl⟩
   obtain⟨t,ht⟩:∃t,by_*q%PM=t:=⟨_,rfl⟩
   obtain⟨v,hv⟩:∃v,kG p t PM=v:=⟨_,rfl⟩
   have HT:=Rb ht;have HV:=Rb hv;have HTL:Hid (t<PM):=by rw[<-ht];exact RY _ oQ
   rw[hp]at c1 l1;rw[hq]at c2 l2;have HP:=Rb l1;have HQ:=Rb l2;have Wg:=Rb s1;have HX':Hid (∀m,MX ((wr.drewN m).setCell ⟨bs i,k,none⟩ (.int .u64 (v:Nat))) S P bA n c A bs (uE r i by_ a (k+1))):=fun m=>
    ((HX.out.drewN m).store hi Vg v).congr fun x y _ _=>by unfold uE;by_cases e:x=i/\y=k;{rw[Re e,Re ⟨e.1,oZ,oZ⟩,e.2,hp,hq,ht,hv]};{rw[Rc e];by_cases e2:x=i/\r<=y/\y<k;{rw[Re e2,Re ⟨e2.1,e2.2.1,oZ⟩]};{rw[Rc e2,Rc oZ]}}
   have HF':Hid (∀m,Fm S w ((wr.drewN m).setCell ⟨bs i,k,none⟩ (.int .u64 (v:Nat)))):=fun m=>(HF.out.drewN m).set s1 _ _
   clear HX HF e1 e2 l1 l2 hp hq ht hv s1 s2;go_wp2_with fail
   go_region_with(first
    |(go_at_call 114;refine(gE by_ q PM (by have:=HBY.out;have:=HPM.out;omega) (by have:=HQ.out;have:=HPM.out;omega) oQ oQ _).mono ?_;rintro e w1 ⟨rfl,m1,rfl⟩;rw[HT.out])
    |(go_at_call 115;refine(ns p t PM HP.out HTL.out oQ _).mono ?_;rintro e w1 ⟨rfl,rfl⟩;rw[HV.out]))
   all_goals
    go_wp2_with fail;go_roundw
    case rel=>first
     |exact⟨k+1,oZ,oZ,by go_num,HX'.out _,HF'.out _⟩
     |exact⟨k+1,oZ,oZ,by go_num,(HX'.out _).drew,(HF'.out _).drew⟩
    case measure=>simp[intOf];omega
  {obtain rfl:k=c:=oZ;go_wp2_with fail;refine UP (UQ rfl _ _ _) rfl ?_;exact⟨rfl,HX.out,HF.out⟩}
structure xZ(w w1 wr:World)(P:Option Addr)(bA n c:Nat)(A:Nat->Option Addr)(bs:Nat->Nat)(a:Nat->Nat->Nat)(r:Nat):Prop where
 mx:MX wr (fun b=>w.heap.size<=b/\b<w1.heap.size) P bA n c A bs a
 rk:wr.cell? ⟨w1.heap.size,0,none⟩=some (.int .i64 r)
 fz:wr.frozen? ⟨w1.heap.size,0,none⟩=false
 lt:w1.heap.size<wr.heap.size
 le:w.heap.size<=w1.heap.size
 bel:Below w.heap.size w wr
theorem xZ.fm{w w1 wr w2:World}{P:Option Addr}{bA n c:Nat}{A A':Nat->Option Addr}{bs Zj:Nat->Nat}{a a':Nat->Nat->Nat}{r:Nat}(h:xZ w w1 wr P bA n c A bs a r)(hf:Fm (fun b=>w.heap.size<=b/\b<w1.heap.size) wr w2)
  (hm:MX w2 (fun b=>w.heap.size<=b/\b<w1.heap.size) P bA n c A' Zj a'):xZ w w1 w2 P bA n c A' Zj a' r:=
 ⟨hm,(Ri (a:=⟨w1.heap.size,0,none⟩) (hf.block w1.heap.size oZ)).trans h.rk,(Ro (a:=⟨w1.heap.size,0,none⟩) (hf.block w1.heap.size oZ)).trans h.fz,by rw[hf.size];exact h.lt,h.le,h.bel.trans (hf.below fun _ h=>h.1)⟩
theorem xZ.drewN{w w1 wr:World}{P:Option Addr}{bA n c:Nat}{A:Nat->Option Addr}{bs:Nat->Nat}{a:Nat->Nat->Nat}{r:Nat}(h:xZ w w1 wr P bA n c A bs a r)(k:Nat):xZ w w1 (wr.drewN k) P bA n c A bs a r:=
 h.fm ((Fm.refl _ _).drewN k) (h.mx.drewN k)
theorem xZ.alloc{w w1 wr:World}{P:Option Addr}{bA n c:Nat}{A:Nat->Option Addr}{bs:Nat->Nat}{a:Nat->Nat->Nat}{r:Nat}(h:xZ w w1 wr P bA n c A bs a r)(o:Obj):xZ w w1 (wr.alloc o) P bA n c A bs a r:=
 ⟨h.mx.alloc o,(Sm wr o ⟨w1.heap.size,0,none⟩ h.lt).trans h.rk,(Tb wr o ⟨w1.heap.size,0,none⟩ (Nat.ne_of_lt h.lt)).trans h.fz,by simp;have:=h.lt;omega,h.le,h.bel.alloc h.bel.size o⟩
theorem xZ.start{w w1:World}{P:Option Addr}{bA n c:Nat}{A:Nat->Option Addr}{bs:Nat->Nat}{a:Nat->Nat->Nat}(h:MX w1 (fun b=>w.heap.size<=b) P bA n c A bs a)(hb:Below w.heap.size w w1):xZ w w1 (w1.alloc (.cells #[.int .i64 0] 3)) P bA n c A bs a 0:=
 ⟨h.cap.alloc _,by rw[RT];rfl,Ts w1 _ _ 0,oX,hb.size,hb.alloc hb.size _⟩
theorem xZ.PI{w w1 wr:World}{P:Option Addr}{bA n c:Nat}{A:Nat->Option Addr}{bs:Nat->Nat}{a:Nat->Nat->Nat}{r:Nat}(h:xZ w w1 wr P bA n c A bs a r)(q:Nat):xZ w w1 (wr.setCell ⟨w1.heap.size,0,none⟩ (.int .i64 (q:Nat))) P bA n c A bs a q:=
 ⟨h.mx.MS oZ _ _,bV h.rk,by rw[Rp];exact h.fz,by rw[RS];exact h.lt,h.le,h.bel.setCell h.le _⟩
def uo(r:Nat)(a:Nat->Nat->Nat)(t x y:Nat):Nat:=if x<r+1+t then rM r a x y else a x y
theorem NP(r:Nat)(a:Nat->Nat->Nat):uo r a 0=a:=by funext x y;unfold uo rM;split;{rw[Rc oZ]};{rfl}
theorem O6(r:Nat)(a:Nat->Nat->Nat)(t y:Nat):uo r a t r y=a r y:=by unfold uo rM;rw[Re oZ,Rc oZ]
theorem Lr(r:Nat)(a:Nat->Nat->Nat)(t y:Nat):uo r a t (r+1+t) y=a (r+1+t) y:=Rc (Sq _)
theorem He{r:Nat}{a:Nat->Nat->Nat}{t:Nat}(h:a (r+1+t) r=0)(x y:Nat):uo r a t x y=uo r a (t+1) x y:=by unfold uo;by_cases e:x=r+1+t;{subst e;rw[Rc (Sq _),Re oZ];unfold rM um;split;{rw[h,Uh,Nat.zero_mod,Uh,Nat.zero_mod];rfl};{rfl}};{by_cases e2:x<r+1+t;{rw[Re e2,Re oZ]};{rw[Rc e2,Rc oZ]}}
theorem IK{r c:Nat}{a:Nat->Nat->Nat}{t:Nat}(x y:Nat)(hy:y<c):uE r (r+1+t) (um r a (r+1+t)) (uo r a t) c x y=uo r a (t+1) x y:=by unfold uE;by_cases e:x=r+1+t/\r<=y/\y<c;{obtain⟨rfl,h1,-⟩:=e;rw[Re ⟨rfl,h1,hy⟩,O6,Lr];unfold uo rM;rw[Re oZ,Re ⟨oZ,h1⟩]};{rw[Rc e];unfold uo;by_cases e1:x=r+1+t;{subst e1;rw[Rc (Sq _),Re oZ];unfold rM;rw[Rc oZ]};{by_cases e2:x<r+1+t;{rw[Re e2,Re oZ]};{rw[Rc e2,Rc oZ]}}}
theorem M6{r n c:Nat}{a:Nat->Nat->Nat}(h:∀x y,x<n->y<c->a x y<PM)(t:Nat)(x y:Nat)(hx:x<n)(hy:y<c):uo r a t x y<PM:=by unfold uo rM;split;{split;{exact nC (h x y hx hy) (RY _ oQ)};{exact h x y hx hy}};{exact h x y hx hy}
theorem uB(A0:Option Addr)(cap:Nat)(xss:List (List Int))(n c:Nat)(w:World)(T:Nat->Prop)(hx:pZ w T A0 xss)(hT:∀b,T b->b<w.heap.size)(hn:xss.length=n)(hc:∀i,i<n->(xss.getD i []).length=c)(Y0:n<=64)(Vo:c<=64)
    (hb:∀i j,i<n->j<c->-1125899906842624<=eI xss i j/\eI xss i j<=1125899906842624)(YN:gS n c (eI xss)<=1125899906842624):
    Calls Tryz.prog 105 #[.slice A0 n cap] w fun e w'=>∃(r:Nat)(v:Int),e= .returned (.tuple #[.int .i64 r,.int .i64 v])/\Below w.heap.size w w'/\O8 n c (eI xss) r v:=by
  have HRS:=Rb (xw A0 cap xss n c PM w T hx hT hn hc oZ oZ hb oQ);have HBD:=Rb YN;have HPM:Hid (PM=2305843009213693951):=Rb rfl;clear hx hT hn hc hb YN;go_enter Tryz.func105,Tryz.ntmps105
  go_wp2_with fail;refine HRS.out.mono ?_;rintro e w1 ⟨P,bA,A,bs,rfl,Vi,VL⟩;have H0:=Rb (xZ.start VL Vi);have Xq:Hid (El n c (eI xss) 0 (fun i j=>rs PM (eI xss i j)) 1):=Rb (El.start fun i j _ _=>⟨OD oQ _,MT oQ _⟩);clear VL Vi HRS;go_wp2_with fail;go_loopw[6] (fun m' wr=>∃(r mi:Nat)(A:Nat->Option Addr)(bs:Nat->Nat)(a:Nat->Nat->Nat)(z:Int),m'= .int .u64 mi/\Hid (xZ w w1 wr P bA n c A bs a r)/\Hid (El n c (eI xss) r a z)/\Hid (mi<PM/\(PM:Int)∣(mi:Int)-z)) (fun _ wr=>n+1-(intOf ((wr.cell? ⟨w1.heap.size,0,none⟩).getD (.int .i64 0))).toNat)
  case atStart=>exact⟨0,1,A,bs,_,1,rfl,H0,Xq,oQ,⟨0,rfl⟩⟩
  case round=>
    clear H0 Xq;obtain⟨r,mi,A2,bs2,a,z,rfl,HS,HE,HM⟩:=hrel;have c5:=HS.out.rk;have hrn:r<=n:=by obtain⟨σ,τ,s,B,h⟩:=HE.out;exact h.rn
    have Zs:r<=c:=by obtain⟨σ,τ,s,B,h⟩:=HE.out;exact h.rc
    go_wp2_with fail;refine(G7 r HS.out.mx oZ oZ oZ).mono ?_;rintro e w2 (⟨rfl,rfl,hz⟩|⟨i,j,rfl,hf⟩)
    · have HL:=Rb (HE.out.last (mi:=mi) hz HBD.out HM.out.1 HM.out.2)
      have VQ:=HM.out.1;have hpm:=HPM.out;have HSB:=Rb HS.out.bel;clear hz HE;by_cases hbig:1152921504606846975<mi
      · obtain⟨q,hq⟩:∃q,PM-mi=q:=⟨_,rfl⟩
        have HV:=Rb (show LB mi= -(q:Int) by unfold LB;rw[Re hbig,hq]);have x1:IntKind.u64.wrap (2305843009213693951-(mi:Int))=(q:Int):=by rw[show(2305843009213693951:Int)-(mi:Int)=(q:Int) by omega];exact bN _ oZ
        have Xf:q<2305843009213693951:=oZ;clear VQ hpm HM HS HPM hq;go_wp2_with fail;go_ret2;exact⟨r,_,rfl,HSB.out,by rw[<-HV.out];exact HL.out⟩
      · have HV:=Rb (show LB mi=(mi:Int) by unfold LB;rw[Rc hbig])
        clear hpm HM HS HPM;go_wp2_with fail;go_ret2;exact⟨r,_,rfl,HSB.out,by rw[<-HV.out];exact HL.out⟩
    · have Ww:=Rb (HS.out.fm hf.fm hf.mx)
      have WL:=Rb (HE.out.swap hf.hi hf.hj);have hri:=hf.hi;have hrj:=hf.hj;have hnz:a (xg i r r) (xg j r r)≠0:=by
        have e1:∀k,xg k r r=k:=fun k=>by unfold xg;split<;>simp_all
        rw[e1,e1];exact hf.nz
      have HNZ:=Rb hnz;have HEX:=Rb (show b1 i r+b1 j r<=2 by unfold b1;split<;>split<;>decide);generalize b1 i r+b1 j r=ex at WL HEX⊢;have hnz2:(fun x y=>a (xg i r x) (xg j r y)) r r≠0:=hnz;generalize(fun x y=>a (xg i r x) (xg j r y))=a2 at Ww WL hnz2;generalize(fun x=>A2 (xg i r x))=A3 at Ww;generalize(fun x=>bs2 (xg i r x))=bs3 at Ww;have ZG:r<n:=oZ;have hrc':r<c:=oZ;have VP:∀x y,x<n->y<c->a2 x y<PM:=by obtain⟨σ,τ,s,B,h⟩:=WL.out;exact h.lt
      obtain⟨htop,htS,htl⟩:=Ww.out.mx.top oZ;subst htop;have d5:=Ww.out.rk;have dl:=Ww.out.lt;have dh:=Ww.out.mx.hd r ZG;obtain⟨ha,hs3,hl3,-⟩:=Ww.out.mx.ad r ZG oZ;rw[ha]at dh;have de:=Ww.out.mx.en r r ZG hrc';obtain⟨p,hp⟩:∃p,a2 r r=p:=⟨_,rfl⟩
      rw[hp]at de hnz2;have Wr:=VP r r ZG hrc';rw[hp]at Wr;have HP:=Rb hp;have Xc:=Rb Wr;have HLT:=Rb VP;have HFN:=Rb hf.fm;have HMB:=Rb HM.out.1;have HC5:=Rb c5;clear hf c5 HS HE hnz HNZ VP ha hp Wr hs3;go_wp2_with fail;refine(gE mi p PM (by have:=HMB.out;have:=HPM.out;omega) (by have:=Xc.out;have:=HPM.out;omega) oQ oQ _).mono ?_;rintro e w3 ⟨rfl,n1,rfl⟩;have htl1:mi*p%PM<PM:=RY _ oQ;obtain⟨t,ht⟩:∃t,mi*p%PM=t:=⟨_,rfl⟩
      rw[ht]at htl1⊢;have HT1:=Rb htl1;have HT2:=Rb ht;clear ht htl1;have ZH:=Rb ((Ww.out.alloc (.cells #[.slice (some ⟨bs3 r,0,none⟩) c c] 151)).drewN n1);have d9:((w2.alloc (.cells #[.slice (some ⟨bs3 r,0,none⟩) c c] 151)).drewN n1).cell? ⟨w2.heap.size,0,none⟩=some (.slice (some ⟨bs3 r,0,none⟩) c c):=by
        show(w2.alloc _).cell? _=_;rw[RT];rfl
      have l9:w2.heap.size<((w2.alloc (.cells #[.slice (some ⟨bs3 r,0,none⟩) c c] 151)).drewN n1).heap.size:=oX;clear Ww d5 de dh;generalize(w2.alloc (.cells #[.slice (some ⟨bs3 r,0,none⟩) c c] 151)).drewN n1=w4 at ZH d9 l9⊢;have n9:¬(w.heap.size<=w2.heap.size/\w2.heap.size<w1.heap.size):=oZ;generalize w2.heap.size=b9 at d9 l9 n9 dl hl3⊢;have d5:=ZH.out.rk;have de:=ZH.out.mx.en r r ZG hrc';rw[HP.out]at de;have hex:=HEX.out
      go_upto_if 35 with fail
      go_cut [6]from 36 to 37 (fun m wx=>m= .int .u64 (IY ex mi p:Nat)/\wx=w4)
      case first=>
        by_cases h1:ex=1
        · subst h1
          have HV:=Rb (show kG 0 t PM=IY 1 mi p by unfold IY;rw[Re rfl,HT2.out]);go_wp2_with fail;refine(ns 0 t PM oQ HT1.out oQ w4).mono ?_;rintro e w5 ⟨rfl,rfl⟩;rw[HV.out];go_wp2_with fail
          go_meet
          case rel=>exact⟨rfl,rfl⟩
        · have h1':((ex:Int)==1)=false:=by rw[Rs];omega
          have HV:=Rb (show t=IY ex mi p by unfold IY;rw[Rc h1,HT2.out]);go_wp2_with fail
          go_meet
          case rel=>exact⟨by rw[HV.out],rfl⟩
      case rest=>
        obtain⟨rfl,rfl⟩:=hcut;have HM2:=Rb (And.intro (MC ex mi p) (JI (ex:=ex) (p:=p) HM.out.2));generalize IY ex mi p=mi2 at HM2⊢;generalize(if ex=1 then-z else z)=z2 at WL HM2;clear hex HEX HM HMB;go_wp2_with fail;refine(yL p Xc.out wc).mono ?_;rintro e w5 ⟨rfl,n2,rfl⟩;have HS5:=Rb (ZH.out.drewN n2);have e9:(wc.drewN n2).cell? ⟨b9,0,none⟩=some (.slice (some ⟨bs3 r,0,none⟩) c c):=d9;have Xj:Hid (∀y,um r a2 y=a2 y r*pB p%PM):=fun y=>by unfold um;rw[HP.out]
        have HFL:Hid (pB p<PM):=MH p;generalize pB p=fi at Xj HFL⊢;clear ZH d9 d5 de;replace l9:b9<(wc.drewN n2).heap.size:=l9;generalize wc.drewN n2=w6 at HS5 e9 l9⊢;have d5:=HS5.out.rk;obtain⟨d,hd⟩:∃d,n=r+1+d:=⟨n-(r+1),oZ⟩
        have HD:=Rb hd;clear hd;go_upto_region 11 with fail
        go_cut [47,48,49]from 44 to 49 (fun s l k wx=>∃Q,s= .slice Q d d/\(0<d->Q=some ⟨bA,r+1,none⟩)/\l= .int .i64 (d:Nat)/\k= .int .i64 0/\wx=w6)
        case first=>
          have hdn:¬n<r+1:=oZ;have x1:n-(r+1)=d:=by have:=HD.out;omega
          rcases Se d with h0|h0
          · subst h0
            go_wp2_with fail
            all_goals first
              |(exfalso;have:=HD.out;omega)
              |(
                 go_meet
                 case rel=>exact⟨_,rfl,fun h=>by omega,rfl,rfl,rfl⟩)
          · go_wp2_with fail
            all_goals first
              |(exfalso;have:=HD.out;omega)
              |(
                 go_meet
                 case rel=>exact⟨_,rfl,fun _=>rfl,rfl,rfl,rfl⟩)
        case rest=>
          obtain⟨Q,rfl,hQ,rfl,rfl,rfl⟩:=hcut;have HQ:=Rb hQ;have ZI:Hid (xZ w w1 wc (some ⟨bA,0,none⟩) bA n c A3 bs3 (uo r a2 0) r):=by rw[NP];exact HS5.out
          clear HS5 d5 hQ;go_wp2_with fail;go_loopw[49] (fun t' wr=>∃t:Nat,t<=d/\t'= .int .i64 t/\Hid (xZ w w1 wr (some ⟨bA,0,none⟩) bA n c A3 bs3 (uo r a2 t) r)/\wr.cell? ⟨b9,0,none⟩=some (.slice (some ⟨bs3 r,0,none⟩) c c)/\Hid (b9<wr.heap.size)) (fun t _=>d-(intOf t).toNat)
          case atStart=>exact⟨0,Rv _,rfl,ZI,e9,l9⟩
          case round=>
            clear ZI e9 l9;obtain⟨t,ht,rfl,ZI,e9,HL9⟩:=hrel;have d5:=ZI.out.rk;by_cases hltd:t<d
            · have XI:r+1+t<n:=by have:=HD.out;omega
              obtain rfl:=HQ.out oZ;have c1:=ZI.out.mx.hd (r+1+t) XI;obtain⟨ha,hsx,hlx,-⟩:=ZI.out.mx.ad (r+1+t) XI oZ;rw[ha]at c1;have c2:=ZI.out.mx.en (r+1+t) r XI hrc';rw[Lr]at c2;obtain⟨v,hv⟩:∃v,a2 (r+1+t) r=v:=⟨_,rfl⟩
              have Xr:=HLT.out (r+1+t) r XI hrc';rw[hv]at c2 Xr;have HV:=Rb hv;have YO:=Rb Xr;clear hv ha Xr;by_cases h0:v=0
              · subst h0
                have HS7:Hid (xZ w w1 wr (some ⟨bA,0,none⟩) bA n c A3 bs3 (uo r a2 (t+1)) r):=by
                  have e:uo r a2 t=uo r a2 (t+1):=by funext x y;exact He HV.out x y
                  rw[<-e];exact ZI.out
                clear ZI;go_wp2_with fail;go_roundw
                case rel=>exact⟨t+1,oZ,by go_num,HS7,e9,HL9⟩
                case measure=>simp[intOf];omega
              · have h0':((v:Int)!=0)=true:=by rw[RZ];omega
                have HBY:Hid (v*fi%PM=um r a2 (r+1+t)):=by have:=Xj.out (r+1+t);rw[HV.out]at this;exact this.symm
                go_wp2_with fail;refine(gE v fi PM (by have:=YO.out;have:=HPM.out;omega) (by have:=HFL.out;have:=HPM.out;omega) oQ oQ wr).mono ?_;rintro e w7 ⟨rfl,n3,rfl⟩;rw[HBY.out];go_wp2_with fail;refine(yS (w:=wr.drewN n3) (S:=fun b=>w.heap.size<=b/\b<w1.heap.size) (P:=some ⟨bA,0,none⟩) (bA:=bA) (n:=n) (c:=c) (A:=A3) (bs:=bs3) (a:=uo r a2 t) r (r+1+t) (um r a2 (r+1+t)) w1.heap.size b9 (ZI.out.drewN n3).mx XI ZG oZ oZ oZ oZ (RY _ oQ) (fun x y hx hy=>M6 HLT.out t x y hx hy) d5 e9 oZ n9).mono ?_;rintro e w8 ⟨rfl,hm8,hf8⟩;have HS7:=Rb ((ZI.out.drewN n3).fm hf8 (hm8.congr fun x y _ hy=>IK x y hy));have e9':=(Ri (a:=⟨b9,0,none⟩) (hf8.block b9 n9)).trans e9;have HL9':Hid (b9<w8.heap.size):=by rw[hf8.size];exact HL9.out
                clear ZI e9 HL9 hm8 hf8 d5 c1 c2;go_wp2_with fail;go_roundw
                case rel=>exact⟨t+1,oZ,by go_num,HS7,e9',HL9'⟩
                case measure=>simp[intOf];omega
            · obtain rfl:t=d:=oZ
              have Yc:=hnz2;have HE3:Hid (El n c (eI xss) (r+1) (uo r a2 t) (z2*(p:Int))):=by
                have:=WL.out.step ZG hrc' (by rw[HP.out];exact Yc);rw[HP.out]at this;exact this.congr fun x y hx _=>by unfold uo;rw[Re (by have:=HD.out;omega)]
              have HS7:=Rb (ZI.out.PI (r+1));have f5:=ZI.out.fz;have d5':(wr.setCell ⟨w1.heap.size,0,none⟩ (.int .i64 ((r+1:Nat):Int))).cell? ⟨w1.heap.size,0,none⟩=some (.int .i64 ((r+1:Nat):Int)):=HS7.out.rk;clear ZI;go_wp2_with fail;go_roundw
              case rel=>exact⟨r+1,mi2,A3,bs3,_,_,rfl,HS7,HE3,HM2⟩
              case measure=>
                have h1:=HC5.out;have h2:(wr.setCell ⟨w1.heap.size,0,none⟩ (.int .i64 ((r:Int)+1))).cell? ⟨w1.heap.size,0,none⟩=some (.int .i64 ((r:Int)+1)):=HS7.out.rk;rw[h1,h2];show n+1-((r:Int)+1).toNat<n+1-(r:Int).toNat;omega
structure AM(w:World)(A:Option Addr)(n:Nat)(xss:List (List Int)):Prop where
 rd:pZ w (·<w.heap.size) A xss
 ln:xss.length=n
 nl:n<=maxLen
 rg:∀i j,i<n->j<bP xss i->-9223372036854775808<=eI xss i j/\eI xss i j<=9223372036854775807
theorem AM.call{w w':World}{A:Option Addr}{n:Nat}{xss:List (List Int)}(h:AM w A n xss)(hb:Below w.heap.size w w'):AM w' A n xss:=
 ⟨(h.rd.below hb).imp fun _ hl=>RB hl hb.size,h.ln,h.nl,h.rg⟩
def EI(xss:List (List Int)):Prop:=gS xss.length (bP xss 0) (eI xss)<=1125899906842624
instance(xss:List (List Int)):Decidable (EI xss):=by unfold EI;infer_instance
section
variable{w:World}{A:Option Addr}{n cap:Nat}{xss:List (List Int)}
theorem AM.Qt(h:AM w A n xss)(b:Bool)(hb:decide (AH xss)=b):Calls Tryz.prog 103 #[.slice A n cap] w fun e w'=>e= .returned (.bool b)/\w=w':=by subst hb;exact yh A cap xss n w _ h.rd h.ln h.nl
theorem AM.QC(h:AM w A n xss)(hm:AH xss)(b:Bool)(hb:decide (EI xss)=b):Calls Tryz.prog 104 #[.slice A n cap] w fun e w'=>e= .returned (.bool b)/\w=w':=by subst hb;have hl:=h.ln;have:=zW A cap xss n (bP xss 0) w _ h.rd h.ln (fun i hi=>hm.1 i oZ) (by have:=hm.2.1;omega) hm.2.2 (fun i j hi hj=>h.rg i j hi (by rw[hm.1 i oZ];exact hj));rw[show decide (EI xss)=decide (gS n (bP xss 0) (eI xss)<=1125899906842624)from Sj.2 (by unfold EI;rw[hl])];exact this
theorem AM.elim(h:AM w A n xss)(hm:AH xss)(hs:EI xss):
  Calls Tryz.prog 105 #[.slice A n cap] w fun e w'=>∃(r:Nat)(v:Int),e= .returned (.tuple #[.int .i64 r,.int .i64 v])/\Below w.heap.size w w'/\O8 n (bP xss 0) (eI xss) r v:=by
 have hl:=h.ln;unfold EI at hs;rw[hl]at hs;exact uB A cap xss n (bP xss 0) w _ h.rd (fun _ h=>h) h.ln (fun i hi=>hm.1 i oZ) (by have:=hm.2.1;omega) hm.2.2 (fun i j hi hj=>by
  have:=CJ (m:=eI xss) hi hj;omega) hs
end
def yD(xss:List (List Int)):Nat:=if AH xss then if EI xss then 0 else 9 else 1
structure Pg(n c:Nat)(m:Mx)(r:Nat):Prop where
 rn:r<=n
 rc:r<=c
 up:Dv n c (r+1) m 0
 mn:∃is js:Nat->Nat,(∀x,x<r->is x<n)/\(∀y,y<r->js y<c)/\(bS r fun x y=>m (is x) (js y))≠0
theorem O8.rk{n c r:Nat}{m:Mx}{v:Int}(h:O8 n c m r v):Pg n c m r:=by obtain⟨is,js,s,h1,h2,h3,h4⟩:=h.mn;refine⟨h.rn,h.rc,h.up,is,js,h1,h2,fun e=>h.nz ?_⟩;rw[h4,e,RF]
def Pl(xss:List (List Int))(r:Nat):Prop:=if yD xss=0 then Pg xss.length (bP xss 0) (eI xss) r else r=0
theorem Ga{w:World}{A:Option Addr}{n cap:Nat}{xss:List (List Int)}(h:AM w A n xss):
  Calls Tryz.prog 93 #[.slice A n cap] w fun e w'=>∃r:Nat,e= .returned (.tuple #[.int .i64 r,.int .i64 (yD xss:Nat)])/\Pl xss r/\Below w.heap.size w w':=by
 have H:=Rb h;clear h;by_cases hm:AH xss
 ·have H1:=Rb (H.out.Qt (cap:=cap) true (Rj hm))
  by_cases hs:EI xss
  ·have H2:=Rb (H.out.QC (cap:=cap) hm true (Rj hs))
   have H3:=Rb (H.out.elim (cap:=cap) hm hs);have HE:=Rb (show yD xss=0 by unfold yD;rw[Re hm,Re hs]);clear hm hs;go_enter Tryz.func93,Tryz.ntmps93
   go_wp2_with fail;refine H1.out.mono ?_;rintro e w1 ⟨rfl,rfl⟩;go_wp2_with fail;refine H2.out.mono ?_;rintro e w1 ⟨rfl,rfl⟩;go_wp2_with fail;refine H3.out.mono ?_;rintro e w1 ⟨r,v,rfl,hb,hr⟩;have HR:=Rb hr.rk;have HB:=Rb hb;clear hr hb;go_wp2_with fail;go_ret2;refine⟨r,by rw[HE.out];rfl,?_,HB.out⟩;unfold Pl;rw[Re HE.out,H.out.ln];exact HR.out
  ·have H2:=Rb (H.out.QC (cap:=cap) hm false (Rl hs))
   have HE:=Rb (show yD xss=9 by unfold yD;rw[Re hm,Rc hs]);clear hm hs;go_enter Tryz.func93,Tryz.ntmps93
   go_wp2_with fail;refine H1.out.mono ?_;rintro e w1 ⟨rfl,rfl⟩;go_wp2_with fail;refine H2.out.mono ?_;rintro e w1 ⟨rfl,rfl⟩;go_wp2_with fail;go_ret2;refine⟨0,by rw[HE.out];rfl,?_,Rh _ _⟩;unfold Pl;rw[HE.out,Rc oQ]
 ·have H1:=Rb (H.out.Qt (cap:=cap) false (Rl hm))
  have HE:=Rb (show yD xss=1 by unfold yD;rw[Rc hm]);clear hm;go_enter Tryz.func93,Tryz.ntmps93
  go_wp2_with fail;refine H1.out.mono ?_;rintro e w1 ⟨rfl,rfl⟩;go_wp2_with fail;go_ret2;refine⟨0,by rw[HE.out];rfl,?_,Rh _ _⟩;unfold Pl;rw[HE.out,Rc oQ]
def cn(i:Nat)(R:Nat->Nat):Nat->Nat
 |0=>i
 |k+1=>R k
theorem xE(i:Nat)(R:Nat->Nat):cn i R 0=i:=rfl
theorem kH(i:Nat)(R:Nat->Nat)(k:Nat):cn i R (k+1)=R k:=rfl
def mn(A:Mx)(k:Nat)(R C:Nat->Nat):Int:=bS k fun x y=>A (R x) (C y)
theorem xx(A:Mx)(k:Nat)(R C:Nat->Nat)(j:Nat):∃g:Nat->Int,∀i,mn A (k+1) (cn i R) (cn j C)=mn A k R C*A i j+sI k fun l=>g l*A i (C l):=by
 refine⟨fun l=>jS (l+1)*bS k fun x z=>A (R x) (cn j C (sk (l+1) z)),fun i=>?_⟩;unfold mn;rw[dr,eF];have e0:(bS k fun x z=>A (cn i R (x+1)) (cn j C (sk 0 z)))=bS k fun x y=>A (R x) (C y):=aR fun x y _ _=>by rw[kH,oG,kH]
 rw[e0,xE,xE,show jS 0=1 from rfl];refine congr (congrArg _ (by rw[SH,RW])) (aj fun l _=>?_);simp only[kH];rw[RO,RO,RW (A i (C l))]
theorem L6(A:Mx)(k:Nat)(R C:Nat->Nat)(r j s:Nat):∃h:Nat->Int,∀i,mn A (k+2) (cn i (cn r R)) (cn j (cn s C))=mn A (k+1) (cn r R) (cn s C)*A i j-mn A (k+1) (cn r R) (cn j C)*A i s+sI k fun l=>h l*A i (C l):=by
 refine⟨fun l=>jS (l+1+1)*bS (k+1) fun x z=>A (cn r R x) (cn j (cn s C) (sk (l+1+1) z)),fun i=>?_⟩;unfold mn;rw[dr,eF,eF];have e0:(bS (k+1) fun x z=>A (cn i (cn r R) (x+1)) (cn j (cn s C) (sk 0 z)))=bS (k+1) fun x y=>A (cn r R x) (cn s C y):=aR fun x y _ _=>by rw[kH,oG,kH]
 have e1:(bS (k+1) fun x z=>A (cn i (cn r R) (x+1)) (cn j (cn s C) (sk (0+1) z)))=bS (k+1) fun x y=>A (cn r R x) (cn j C y):=aR fun x y _ _=>by
  rw[kH]
  cases y with
  |zero=>rfl
  |succ y=>rw[show sk (0+1) (y+1)=y+2 by unfold sk;rw[Rc oZ]];rfl
 rw[e0,e1];simp only[xE,kH];rw[show jS 0=1 from rfl,show jS (0+1)= -1 from rfl];have e2:(sI k fun l=>jS (l+1+1)*A i (C l)*bS (k+1) fun x z=>A (cn r R x) (cn j (cn s C) (sk (l+1+1) z)))=sI k fun l=>(jS (l+1+1)*bS (k+1) fun x z=>A (cn r R x) (cn j (cn s C) (sk (l+1+1) z)))*A i (C l):=
  aj fun l _=>by rw[RO,RO,RW (A i (C l))]
 rw[e2];generalize(sI k fun l=>_)=S;generalize(bS (k+1) fun x y=>A (cn r R x) (cn s C y))=X;generalize(bS (k+1) fun x y=>A (cn r R x) (cn j C y))=Y
 grind
theorem nh{A:Mx}{k:Nat}{R C:Nat->Nat}{x y:Nat}(hx:x<k)(hy:y<k)(Vh:x≠y)(h:R x=R y):mn A k R C=0:=lH hx hy Vh fun j _=>by rw[h]
theorem Cz{k:Nat}{M:Mx}{c:Nat->Int}(hd:bS k M≠0)(h:∀x,x<k->(sI k fun y=>M x y*c y)=0):∀y,y<k->c y=0:=fun r hr=>by
 have h1:=sU (k:=k) (r:=r) (fun i j=>M j i) (fun i j=>M j i) c hr k;rw[yc hr (fun b hb=>by rw[Re rfl];rw[<-h b hb];exact aj fun y _=>RW _ _),cI _ hr (fun i hi Vh=>by
  rw[lH hi hr Vh (fun j _=>by rw[Rc Vh,Re rfl]),RF])]at h1
 have e:(bS k fun a b=>if a=r then M b r else M b a)=bS k M:=by rw[<-gA k M];exact aR fun a b _ _=>by by_cases e:a=r;{rw[Re e,e]};{rw[Rc e]}
 rw[e]at h1;rcases Su.1 h1.symm with h2|h2
 {exact h2};{exact absurd h2 hd}
theorem nr(n:Nat)(f g:Nat->Int):sI n (fun k=>f k-g k)=sI n f-sI n g:=by rw[show sI n (fun k=>f k-g k)=sI n (fun k=>f k+ -g k)from aj fun k _=>UW,dX,lP,UW]
theorem KX{A:Mx}{k:Nat}{R C:Nat->Nat}(hb:mn A k R C≠0)(i r j s:Nat):
  mn A k R C*mn A (k+2) (cn i (cn r R)) (cn j (cn s C))=mn A (k+1) (cn r R) (cn s C)*mn A (k+1) (cn i R) (cn j C)-mn A (k+1) (cn i R) (cn s C)*mn A (k+1) (cn r R) (cn j C):=by
 obtain⟨gj,hj⟩:=xx A k R C j;obtain⟨gs,hs⟩:=xx A k R C s;obtain⟨h,hh⟩:=L6 A k R C r j s
 have key:∀i,mn A k R C*mn A (k+2) (cn i (cn r R)) (cn j (cn s C))-(mn A (k+1) (cn r R) (cn s C)*mn A (k+1) (cn i R) (cn j C)-mn A (k+1) (cn i R) (cn s C)*mn A (k+1) (cn r R) (cn j C))=
   sI k fun l=>A i (C l)*(mn A k R C*h l-(mn A (k+1) (cn r R) (cn s C)*gj l-mn A (k+1) (cn r R) (cn j C)*gs l)):=fun i=>by
  have e:(sI k fun l=>A i (C l)*(mn A k R C*h l-(mn A (k+1) (cn r R) (cn s C)*gj l-mn A (k+1) (cn r R) (cn j C)*gs l)))=
    mn A k R C*(sI k fun l=>h l*A i (C l))-(mn A (k+1) (cn r R) (cn s C)*(sI k fun l=>gj l*A i (C l))-mn A (k+1) (cn r R) (cn j C)*(sI k fun l=>gs l*A i (C l))):=by
   rw[<-bj,<-bj,<-bj,<-nr,<-nr];exact aj fun l _=>by grind
  rw[e,hh i,hj i,hs i];generalize(sI k fun l=>h l*A i (C l))=S1;generalize(sI k fun l=>gj l*A i (C l))=S2;generalize(sI k fun l=>gs l*A i (C l))=S3;generalize mn A (k+1) (cn r R) (cn s C)=X;generalize mn A (k+1) (cn r R) (cn j C)=Y;generalize mn A k R C=b
  grind
 have z:=Cz hb (fun x hx=>by
  rw[<-key (R x)];have z1:mn A (k+2) (cn (R x) (cn r R)) (cn j (cn s C))=0:=nh (x:=0) (y:=x+2) oZ oZ oZ rfl;have z2:mn A (k+1) (cn (R x) R) (cn j C)=0:=nh (x:=0) (y:=x+1) oZ oZ oZ rfl;have z3:mn A (k+1) (cn (R x) R) (cn s C)=0:=nh (x:=0) (y:=x+1) oZ oZ oZ rfl;rw[z1,z2,z3];simp)
 have:=key i;rw[aX fun l hl=>by rw[z l hl,RF]]at this;omega
def cB:Nat->(Nat->Bool)->Nat
 |0,_=>0
 |n+1,f=>cB n f+if f n then 1 else 0
theorem ct:∀{n:Nat}{f g:Nat->Bool},(∀k,k<n->f k=g k)->cB n f=cB n g
 |0,_,_,_=>rfl
 |n+1,_,_,h=>by rw[cB,cB,ct fun k hk=>h k oZ,h n oZ]
theorem Ch:∀(n:Nat)(f:Nat->Bool),cB n (fun x=> !f x)+cB n f=n
 |0,_=>rfl
 |n+1,f=>by
  have:=Ch n f;rw[cB,cB]
  cases f n<;>simp<;>omega
theorem pf:∀(n:Nat)(f:Nat->Bool),((List.range n).filter f).length=cB n f
 |0,_=>rfl
 |n+1,f=>by
  rw[Sk,Th,Rz,pf n f,cB]
  cases h:f n<;>simp[h]
theorem ua:∀(n m:Nat)(f:Nat->Bool),cB (n+m) f=cB n f+cB m fun k=>f (n+k)
 |n,0,f=>rfl
 |n,m+1,f=>by rw[<-TO,cB,ua n m f,cB,TO]
theorem Ft:∀(n:Nat)(f:Nat->Bool),cB n f<=n
 |0,_=>Rf _
 |n+1,f=>by have:=Ft n f;rw[cB];split<;>omega
theorem mU:∀(n m:Nat)(f:Nat->Int),sI (n+m) f=sI n f+sI m fun k=>f (n+k)
 |n,0,f=>by rw[Tx];show _=_+0;omega
 |n,m+1,f=>by rw[<-TO];show sI (n+m) f+f (n+m)=sI n f+(sI m (fun k=>f (n+k))+f (n+m));rw[mU n m f];omega
theorem LC{j:Nat}:∀{n:Nat}(f:Nat->Int),j<n+1->sI (n+1) f=sI n (fun k=>f (sk j k))+f j
 |0,f,h=>by have:j=0:=oZ;subst this;rfl
 |n+1,f,h=>by by_cases e:j=n+1;{subst e;show sI (n+1) f+f (n+1)=_;rw[aj (n:=n+1) (f:=f) (g:=fun k=>f (sk (n+1) k)) fun k hk=>by unfold sk;rw[Re oZ]]};{have:=LC (j:=j) (n:=n) f oZ;show sI (n+1) f+f (n+1)=(sI n (fun k=>f (sk j k))+f (sk j n))+f j;rw[this,show sk j n=n+1 by unfold sk;rw[Rc oZ]];omega}
theorem FN:∀{n:Nat}{f:Nat->Int},(∀k,k<n->0<=f k)->0<=sI n f
 |0,_,_=>TK _
 |n+1,f,h=>by
  have:=FN (n:=n) (f:=f) fun k hk=>h k oZ
  have:=h n oZ;show 0<=sI n f+f n;omega
theorem LF:∀(n:Nat)(f:Nat->Int),(∀k,k<n->0<=f k)->sI n f<=0->∀k,k<n->f k=0
 |0,_,_,_=>fun _ hk=>absurd hk (RG _)
 |n+1,f,h,hs=>fun k hk=>by
  have h1:=FN (n:=n) (f:=f) fun k hk=>h k oZ
  have h2:=h n oZ;have hs':sI n f+f n<=0:=hs;by_cases e:k=n;{subst e;omega};{exact LF n f (fun k hk=>h k oZ) oZ k oZ}
theorem rh(a:Int):0<=a*a:=by by_cases h:0<=a;{exact TW h h};{have:=TW (show 0<=-a by omega) (show 0<=-a by omega);rwa [UM]at this}
theorem kt:∀(L:Nat)(es:List (Nat->Int))(m:Nat),es.length=L->L<m->∃c:Nat->Int,(∃x,x<m/\c x≠0)/\∀e∈es,sI m (fun x=>e x*c x)=0
 |0,es,m,hl,hm=>⟨fun _=>1,⟨0,hm,oQ⟩,fun e he=>by rw[List.length_eq_zero_iff.1 hl]at he;simp at he⟩
 |L+1,[],m,hl,hm=>by simp at hl
 |L+1,e::es,m,hl,hm=>by
  have YJ:es.length=L:=by simpa using hl
  by_cases hz:∀x,x<m->e x=0
  ·obtain⟨c,h1,h2⟩:=kt L es m YJ oZ
   refine⟨c,h1,fun f hf=>?_⟩;rcases RV.1 hf with rfl|hf
   {exact aX fun x hx=>by rw[hz x hx,Sc]};{exact h2 f hf}
  ·obtain⟨x0,VK,he0⟩:∃x,x<m/\e x≠0:=Rq fun hn=>hz fun x hx=>Rq fun h=>hn ⟨x,hx,h⟩
   obtain⟨n,rfl⟩:∃n,m=n+1:=⟨m-1,oZ⟩
   obtain⟨c,⟨x,hx,hc⟩,h2⟩:=kt L (es.map fun f j=>e x0*f (sk x0 j)-f x0*e (sk x0 j)) n (by simpa using YJ) oZ;have huk:∀k,uk x0 (sk x0 k)=k:=fun k=>ID (sA (y_ x0 k))
   have YQ:∀f:Nat->Int,sI (n+1) (fun x=>f x*(if x=x0 then-sI n (fun j=>e (sk x0 j)*c j)else e x0*c (uk x0 x)))=
     sI n (fun j=>(e x0*f (sk x0 j)-f x0*e (sk x0 j))*c j):=fun f=>by
    rw[LC _ VK];rw[Re rfl,SX,<-bj,<-UW,<-nr];refine aj fun k _=>?_
    rw[Rc (y_ x0 k),huk]
    grind
   refine⟨fun x=>if x=x0 then-sI n (fun j=>e (sk x0 j)*c j)else e x0*c (uk x0 x),⟨sk x0 x,sM hx,?_⟩,fun f hf=>?_⟩;{show(if _ then _ else _)≠(0:Int);rw[Rc (y_ x0 x),huk];exact fun h=>(Su.1 h).elim he0 hc}
   ·rw[YQ f]
    rcases RV.1 hf with rfl|hf
    {exact aX fun k _=>by rw[Int.sub_self,Sc]};{exact h2 _ (Sb hf)}
def fL(n:Nat)(A:Mx)(v w:Nat->Int):Int:=sI n fun m=>v m*sI n fun l=>A m l*w l
theorem vZ{n:Nat}{A B:Mx}{v v' w w':Nat->Int}(hA:∀i j,i<n->j<n->A i j=B i j)(hv:∀m,m<n->v m=v' m)(hw:∀m,m<n->w m=w' m):fL n A v w=fL n B v' w':=
 aj fun m hm=>by rw[hv m hm,aj fun l hl=>by rw[hA m l hm hl,hw l hl]]
theorem Cv{n k:Nat}{A:Mx}(c:Nat->Int)(V:Mx)(w:Nat->Int):fL n A (fun m=>sI k fun x=>c x*V x m) w=sI k fun x=>c x*fL n A (V x) w:=by
 unfold fL;rw[aj (g:=fun m=>sI k fun x=>c x*(V x m*sI n fun l=>A m l*w l)) fun m _=>by
  rw[RW,<-bj];exact aj fun x _=>by rw[RW,RO],ft]
 exact aj fun x _=>bj _ _ _
theorem CK{n k:Nat}{A:Mx}(c:Nat->Int)(V:Mx)(v:Nat->Int):fL n A v (fun m=>sI k fun x=>c x*V x m)=sI k fun x=>c x*fL n A v (V x):=by
 unfold fL;rw[aj (g:=fun m=>sI k fun x=>c x*(v m*sI n fun l=>A m l*V x l)) fun m _=>by
  rw[aj (g:=fun l=>sI k fun x=>c x*(A m l*V x l)) fun l _=>by
   rw[<-bj];exact aj fun x _=>by rw[<-RO,RW (A m l),RO],ft,<-bj]
  exact aj fun x _=>by rw[bj,<-RO,RW (v m),RO],ft]
 exact aj fun x _=>bj _ _ _
structure Js(n:Nat)(A V:Mx)(d:Nat->Int)(k:Nat):Prop where
 ind:∀c:Nat->Int,(∀m,m<n->sI k (fun x=>c x*V x m)=0)->∀x,x<k->c x=0
 off:∀x y,x<k->y<k->x≠y->fL n A (V x) (V y)=0
 dg:∀x,x<k->fL n A (V x) (V x)=d x
theorem Js.sq{n k:Nat}{A V:Mx}{d:Nat->Int}(h:Js n A V d k)(c:Nat->Int):fL n A (fun m=>sI k fun x=>c x*V x m) (fun m=>sI k fun x=>c x*V x m)=sI k fun x=>c x*c x*d x:=by
 rw[Cv];refine aj fun x hx=>?_
 rw[CK,cI _ hx fun y hy Vh=>by rw[h.off x y hx hy (TM Vh),RF],h.dg x hx,RO]
def OA(n:Nat)(A:Mx)(p q:Nat):Prop:=∃V d,Js n A V d n/\cB n (fun x=>decide (0<d x))=p/\cB n (fun x=>decide (d x<0))=q
def Dn(D:Nat->Nat)(k m:Nat):Prop:=∃l,l<k/\D l=m
theorem Dn.cn{D:Nat->Nat}{k m i:Nat}:Dn (cn i D) (k+1) m↔m=i\/Dn D k m:=by
 constructor
 ·rintro⟨l,hl,h⟩
  cases l with
  |zero=>exact Or.inl h.symm
  |succ l=>exact Or.inr ⟨l,oZ,h⟩
 {rintro(h|⟨l,hl,h⟩);{exact⟨0,oZ,h.symm⟩};{exact⟨l+1,oZ,h⟩}}
def bm(A:Mx)(D:Nat->Nat)(k i j:Nat):Int:=mn A (k+1) (cn i D) (cn j D)
def Sym(n:Nat)(A:Mx):Prop:=∀i j,i<n->j<n->A i j=A j i
theorem gV{n:Nat}{A:Mx}(h:Sym n A)(v w:Nat->Int):fL n A v w=fL n A w v:=by
 unfold fL;rw[aj (g:=fun m=>sI n fun l=>v m*(A m l*w l)) fun m _=>(bj _ _ _).symm,ft];refine aj fun l hl=>?_
 rw[<-bj];exact aj fun m hm=>by rw[h m l hm hl];grind
theorem Pa{n k:Nat}{A:Mx}(h:Sym n A){R C:Nat->Nat}(hR:∀x,x<k->R x<n)(hC:∀x,x<k->C x<n):mn A k R C=mn A k C R:=by unfold mn;rw[<-gA];exact aR fun i j hi hj=>h _ _ (hR j hj) (hC i hi)
theorem ya{A:Mx}{k:Nat}{R C:Nat->Nat}{x y:Nat}(hx:x<k)(hy:y<k)(Vh:x≠y)(h:C x=C y):mn A k R C=0:=jW hx hy Vh fun j _=>by rw[h]
theorem IL{n k:Nat}{A:Mx}{R C:Nat->Nat}(hR:∀x,x<k->R x<n)(hC:∀x,x<k->C x<n):(mn A k R C).natAbs<=gS n n A:=by
 by_cases h1:∀a b,a<k->b<k->R a=R b->a=b
 ·by_cases h2:∀a b,a<k->b<k->C a=C b->a=b
  {exact lk A h1 hR h2 hC}
  ·have:mn A k R C=0:=Rq fun hn=>h2 fun a b ha hb e=>Rq fun Vh=>hn (ya ha hb Vh e)
   rw[this];exact Rv _
 ·have:mn A k R C=0:=Rq fun hn=>h1 fun a b ha hb e=>Rq fun Vh=>hn (nh ha hb Vh e)
  rw[this];exact Rv _
theorem CL{n k i:Nat}{D:Nat->Nat}(hi:i<n)(h:∀x,x<k->D x<n):∀x,x<k+1->cn i D x<n:=fun x hx=>by
 cases x with
 |zero=>exact hi
 |succ x=>exact h x oZ
def EO{α:Type}(f:Nat->α)(k:Nat)(v:α):Nat->α:=fun x=>if x=k then v else f x
theorem cm{α:Type}(f:Nat->α)(k:Nat)(v:α):EO f k v k=v:=Re rfl
theorem dK{α:Type}(f:Nat->α){k x:Nat}(v:α)(h:x<k):EO f k v x=f x:=Rc oZ
theorem Js.add{n k:Nat}{A V:Mx}{d:Nat->Int}(h:Js n A V d k)(v:Nat->Int)(a b:Int)(i j:Nat)(hi:i<n)(hj:j<n)(h0:∀x,x<k->a*V x i+b*V x j=0)(h1:a*v i+b*v j≠0)
  (hl:∀x,x<k->fL n A (V x) v=0)(hr:∀x,x<k->fL n A v (V x)=0):Js n A (EO V k v) (EO d k (fL n A v v)) (k+1):=by
 have hs:∀(c:Nat->Int) m,sI (k+1) (fun x=>c x*EO V k v x m)=sI k (fun x=>c x*V x m)+c k*v m:=fun c m=>by show sI k _+c k*EO V k v k m=_;rw[cm,aj fun x hx=>by rw[dK V v hx]]
 refine⟨fun c hc=>?_,fun x y hx hy Vh=>?_,fun x hx=>?_⟩
 ·have ck:c k=0:=by
   have e1:=hc i hi;have e2:=hc j hj;rw[hs]at e1 e2;have e3:a*sI k (fun x=>c x*V x i)+b*sI k (fun x=>c x*V x j)=0:=by
    rw[<-bj,<-bj,<-dX];exact aX fun x hx=>by
     have:=h0 x hx;have e:a*(c x*V x i)+b*(c x*V x j)=c x*(a*V x i+b*V x j):=by grind
     rw[e,this,RF]
   have e4:c k*(a*v i+b*v j)=0:=by grind
   rcases Su.1 e4 with h|h
   {exact h};{exact absurd h h1}
  have c0:=h.ind c fun m hm=>by have:=hc m hm;rwa [hs,ck,Sc,R6]at this
  intro x hx;by_cases e:x=k;{rw[e,ck]};{exact c0 x oZ}
 {by_cases ex:x=k;{subst ex;rw[cm,dK V v oZ];exact hr y oZ};{rw[dK V v (show x<k by omega)];by_cases ey:y=k;{subst ey;rw[cm];exact hl x oZ};{rw[dK V v oZ];exact h.off x y oZ oZ Vh}}};{by_cases ex:x=k;{subst ex;rw[cm,cm]};{rw[dK V v (show x<k by omega),dK d _ (show x<k by omega)];exact h.dg x oZ}}
def se(n:Nat)(A:Mx)(S:Nat->Prop)(k p q:Nat):Prop:=
 ∃V d,Js n A V d k/\(∀x m,x<k->m<n->¬S m->V x m=0)/\cB k (fun x=>decide (0<d x))=p/\cB k (fun x=>decide (d x<0))=q
theorem se.none(n:Nat)(A:Mx)(S:Nat->Prop):se n A S 0 0 0:=
 ⟨fun _ _=>0,fun _=>0,⟨fun _ _ _ hx=>absurd hx (RG _),fun _ _ hx=>absurd hx (RG _),fun _ hx=>absurd hx (RG _)⟩,fun _ _ hx=>absurd hx (RG _),rfl,rfl⟩
theorem vj(k:Nat)(d:Nat->Int)(v:Int)(f:Int->Bool):cB (k+1) (fun x=>f (EO d k v x))=cB k (fun x=>f (d x))+if f v then 1 else 0:=by show cB k _+(if f (EO d k v k)then 1 else 0)=_;rw[cm,ct fun x hx=>by rw[dK d v hx]]
theorem se.add{n k p q:Nat}{A:Mx}{S:Nat->Prop}(hA:Sym n A)(h:se n A S k p q)(v:Nat->Int)(j:Nat)(hj:j<n)(hjS:¬S j)(hv:v j≠0)(S':Nat->Prop)(hS:∀m,S m->S' m)(hvS:∀m,m<n->¬S' m->v m=0)
  (ho:∀x:Nat->Int,(∀m,m<n->¬S m->x m=0)->fL n A x v=0):se n A S' (k+1) (p+if 0<fL n A v v then 1 else 0) (q+if fL n A v v<0 then 1 else 0):=by
 obtain⟨V,d,hF,hs,rfl,rfl⟩:=h
 refine⟨EO V k v,EO d k (fL n A v v),hF.add v 1 0 j j hj hj (fun x hx=>by rw[hs x j hx hj hjS];rfl) (by rw[SH,Sc,R6];exact hv) (fun x hx=>ho _ fun m hm Zk=>hs x m hx hm Zk)
  (fun x hx=>by rw[gV hA];exact ho _ fun m hm Zk=>hs x m hx hm Zk),fun x m hx hm Zk=>?_,?_,?_⟩
 {by_cases ex:x=k;{rw[ex,cm];exact hvS m hm Zk};{rw[dK V v (show x<k by omega)];exact hs x m oZ hm fun h=>Zk (hS m h)}};{rw[vj k d _ (fun x=>decide (0<x))];simp};{rw[vj k d _ (fun x=>decide (x<0))];simp}
structure h_(n:Nat)(A:Mx)(D:Nat->Nat)(k:Nat)(b:Int)(p q:Nat):Prop where
 dl:∀l,l<k->D l<n
 inj:∀x y,x<k->y<k->D x=D y->x=y
 bb:mn A k D D=b
 b0:b≠0
 fam:se n A (Dn D k) k p q
 sg:0<b↔q%2=0
 pq:p+q=k
theorem h_.start(n:Nat)(A:Mx)(D:Nat->Nat):h_ n A D 0 1 0 0:=
 ⟨fun _ h=>absurd h (RG _),fun _ _ h=>absurd h (RG _),rfl,oQ,se.none _ _ _,oQ,rfl⟩
variable{n:Nat}{A:Mx}{D:Nat->Nat}{k:Nat}{b:Int}{p q:Nat}
theorem h_.vec(h:h_ n A D k b p q){j:Nat}(hj:j<n)(hjD:¬Dn D k j):∃u:Nat->Int,(∀m,m<n->¬Dn D k m->m≠j->u m=0)/\u j=b/\∀i,(sI n fun m=>A i m*u m)=bm A D k i j:=by
 obtain⟨g,hg⟩:=xx A k D D j;have hD:∀m,¬Dn D k m->(sI k fun l=>if D l=m then g l else 0)=0:=fun m hm=>aX fun l hl=>Rc fun e=>hm ⟨l,hl,e⟩
 refine⟨fun m=>(if m=j then b else 0)+sI k fun l=>if D l=m then g l else 0,fun m _ hm Vh=>by dsimp only;rw[Rc Vh,hD m hm];rfl,by dsimp only;rw[Re rfl,hD j hjD];omega,fun i=>?_⟩;unfold bm;rw[hg i,h.bb,aj (g:=fun m=>(A i m*(if m=j then b else 0))+A i m*sI k fun l=>if D l=m then g l else 0) fun m _=>Ty _ _ _,dX,
  cI _ hj fun m _ Vh=>by rw[Rc Vh,RF],Re rfl]
 rw[RW b];refine _root_.congrArg _ ?_;rw[aj (g:=fun m=>sI k fun l=>A i m*if D l=m then g l else 0) fun m _=>(bj _ _ _).symm,ft];refine aj fun l hl=>?_
 rw[cI (k:=D l) _ (h.dl l hl) fun m _ Vh=>by rw[Rc (TM Vh),RF],Re rfl,RW]
theorem rF{x j:Nat}(hx:Dn D k x):bm A D k x j=0:=by obtain⟨l,hl,rfl⟩:=hx;exact nh (x:=0) (y:=l+1) oZ oZ oZ rfl
theorem h_.L7{j:Nat}{u:Nat->Int}(hu:∀i,(sI n fun m=>A i m*u m)=bm A D k i j)(x:Nat->Int)(hx:∀m,m<n->¬Dn D k m->x m=0):fL n A x u=0:=
 aX fun m hm=>by rw[hu m];by_cases e:Dn D k m;{rw[rF e,RF]};{rw[hx m hm e,Sc]}
theorem h_.EJ{i j:Nat}{u v:Nat->Int}(hi:i<n)(hv:∀m,m<n->¬Dn D k m->m≠i->v m=0)(hvi:v i=b)(hu:∀i,(sI n fun m=>A i m*u m)=bm A D k i j):fL n A v u=b*bm A D k i j:=by
 unfold fL;rw[cI _ hi fun m hm Vh=>by
  rw[hu m];by_cases e:Dn D k m;{rw[rF e,RF]}
  ·rw[hv m hm e Vh,Sc],hu i,hvi]
theorem xo{a b:Int}(ha:a≠0)(hb:b≠0):0<a*b↔(0<a↔0<b):=by
 rcases Um ha with h1|h1<;>rcases Um hb with h2|h2
 {have:=Ui h1 h2;omega};{have:=Int.mul_neg_of_neg_of_pos h1 h2;omega};{have:=Int.mul_neg_of_pos_of_neg h1 h2;omega};{have:=TA h1 h2;omega}
theorem h_.lt(h:h_ n A D k b p q){j:Nat}(hj:j<n):∀x,x<k+1->cn j D x<n:=CL hj h.dl
theorem h_.Og(h:h_ n A D k b p q){j:Nat}(hjD:¬Dn D k j):∀x y,x<k+1->y<k+1->cn j D x=cn j D y->x=y:=fun x y hx hy e=>by
 cases x with
 |zero=>
  cases y with
  |zero=>rfl
  |succ y=>exact absurd ⟨y,oZ,e.symm⟩ hjD
 |succ x=>
  cases y with
  |zero=>exact absurd ⟨x,oZ,e⟩ hjD
  |succ y=>exact _root_.congrArg (·+1) (h.inj x y oZ oZ e)
theorem h_.one(h:h_ n A D k b p q)(hA:Sym n A){j:Nat}(hj:j<n)(hjD:¬Dn D k j)(h0:bm A D k j j≠0):
  h_ n A (cn j D) (k+1) (bm A D k j j) (p+if(0<bm A D k j j↔0<b)then 1 else 0) (q+if(0<bm A D k j j↔0<b)then 0 else 1):=by
 obtain⟨u,u1,u2,u3⟩:=h.vec hj hjD;have hb:=h_.EJ hj u1 u2 u3;have hpm:=xo h.b0 h0;have hnz:b*bm A D k j j≠0:=fun e=>(Su.1 e).elim h.b0 h0
 have hf:=h.fam.add hA u j hj hjD (by rw[u2];exact h.b0) (Dn (cn j D) (k+1)) (fun m hm=>Dn.cn.2 (Or.inr hm)) (fun m hm hn=>u1 m hm (fun e=>hn (Dn.cn.2 (Or.inr e))) fun e=>hn (Dn.cn.2 (Or.inl e))) (h_.L7 u3);rw[hb]at hf;have hs:=h.sg;have hpq:=h.pq;have Yi:mn A (k+1) (cn j D) (cn j D)=bm A D k j j:=rfl;generalize bm A D k j j=c at*;refine⟨h.lt hj,h.Og hjD,?_,h0,?_,?_,?_⟩;{exact Yi};{by_cases e:(0<c↔0<b);{rw[Re e,Re e];rw[Re (show 0<b*c by omega),Rc oZ]at hf;exact hf};{rw[Rc e,Rc e];rw[Rc (show¬0<b*c by omega),Re oZ]at hf;exact hf}};{by_cases e:(0<c↔0<b);{rw[Re e];omega};{rw[Rc e];omega}};{by_cases e:(0<c↔0<b);{rw[Re e,Re e];omega};{rw[Rc e,Rc e];omega}}
def m2(A:Mx)(D:Nat->Nat)(k i r j s:Nat):Int:=mn A (k+2) (cn i (cn r D)) (cn j (cn s D))
def tw(A:Mx)(D:Nat->Nat)(k x y i j:Nat):Int:=m2 A D k i x j x+m2 A D k i y j y+m2 A D k i x j y+m2 A D k i y j x
variable{n:Nat}{A:Mx}{D:Nat->Nat}{k:Nat}{b:Int}{p q:Nat}
theorem h_.dj(h:h_ n A D k b p q)(i r j s:Nat):b*m2 A D k i r j s=bm A D k r s*bm A D k i j-bm A D k i s*bm A D k r j:=by have:=KX (A:=A) (k:=k) (R:=D) (C:=D) (by rw[h.bb];exact h.b0) i r j s;rw[h.bb]at this;exact this
theorem h_.sym(h:h_ n A D k b p q)(hA:Sym n A){i j:Nat}(hi:i<n)(hj:j<n):bm A D k i j=bm A D k j i:=Pa hA (h.lt hi) (h.lt hj)
theorem h_.bd(h:h_ n A D k b p q){i j:Nat}(hi:i<n)(hj:j<n):(bm A D k i j).natAbs<=gS n n A:=IL (h.lt hi) (h.lt hj)
theorem h_.Oo(h:h_ n A D k b p q){i r j s:Nat}(hi:i<n)(hr:r<n)(hj:j<n)(hs:s<n):(m2 A D k i r j s).natAbs<=gS n n A:=IL (CL hi (h.lt hr)) (CL hj (h.lt hs))
theorem h_.Qz(h:h_ n A D k b p q):b.natAbs<=gS n n A:=by rw[<-h.bb];exact IL h.dl h.dl
theorem h_.Ot(h:h_ n A D k b p q){x y i j:Nat}(hx:x<n)(hy:y<n)(hi:i<n)(hj:j<n):(tw A D k x y i j).natAbs<=4*gS n n A:=by have h1:=h.Oo hi hx hj hx;have h2:=h.Oo hi hy hj hy;have h3:=h.Oo hi hx hj hy;have h4:=h.Oo hi hy hj hx;unfold tw;generalize gS n n A=B at*;omega
theorem h_.NF(h:h_ n A D k b p q)(hA:Sym n A){x y:Nat}(hx:x<n)(hy:y<n)(h1:bm A D k x x=0)(h2:bm A D k y y=0)(i j:Nat):
  b*tw A D k x y i j=2*bm A D k x y*bm A D k i j-(bm A D k i x+bm A D k i y)*(bm A D k x j+bm A D k y j):=by
 unfold tw;rw[Ty,Ty,Ty,h.dj,h.dj,h.dj,h.dj,h1,h2,h.sym hA hy hx];generalize bm A D k x y=c;generalize bm A D k i j=e;generalize bm A D k i x=f;generalize bm A D k i y=g;generalize bm A D k x j=u;generalize bm A D k y j=v
 grind
theorem h_.Q_(h:h_ n A D k b p q)(hA:Sym n A){x y:Nat}(hx:x<n)(hy:y<n)(h1:bm A D k x x=0)(h2:bm A D k y y=0)(h0:bm A D k x y≠0)(i j:Nat):
  2*bm A D k x y*bm A (cn y (cn x D)) (k+2) i j=tw A D k x y y y*tw A D k x y i j-tw A D k x y i y*tw A D k x y y j:=by
 have e3:=KX (A:=A) (k:=k+1) (R:=cn x D) (C:=cn y D) h0 i y j x;have hsw:mn A (k+1+2) (cn i (cn y (cn x D))) (cn j (cn x (cn y D)))= -bm A (cn y (cn x D)) (k+2) i j:=by
  unfold bm mn;rw[<-mj (p:=1) (q:=2) oZ oZ oZ];refine aR fun a c _ _=>?_
  match c with
  |0=>rfl
  |1=>rfl
  |2=>rfl
  |c+3=>rw[qp oZ oZ];rfl
 rw[hsw]at e3;have m1:=h.dj y x x y;have m2':=h.dj i x j y;have m3:=h.dj i x x y;have m4:=h.dj y x j y;have t1:=h.NF hA hx hy h1 h2 y y;have t2:=h.NF hA hx hy h1 h2 i j;have t3:=h.NF hA hx hy h1 h2 i y;have t4:=h.NF hA hx hy h1 h2 y j;rw[h.sym hA hy hx]at m1 t1;rw[h1,h2]at m1;rw[h1]at m3;rw[h2]at m4 t1 t3 t4;rw[h.sym hA hy hx]at t4;change bm A D k x y* -_=m2 A D k y x x y*m2 A D k i x j y-m2 A D k i x x y*m2 A D k y x j y at e3;have Wn:=h.b0;generalize bm A (cn y (cn x D)) (k+2) i j=X at*;generalize m2 A D k y x x y=n1 at*;generalize m2 A D k i x j y=n2 at*;generalize m2 A D k i x x y=n3 at*;generalize m2 A D k y x j y=n4 at*;generalize tw A D k x y y y=s1 at*;generalize tw A D k x y i j=s2 at*;generalize tw A D k x y i y=s3 at*;generalize tw A D k x y y j=s4 at*;generalize bm A D k x y=c at*;generalize bm A D k i j=e at*;generalize bm A D k i x=f at*;generalize bm A D k i y=g at*;generalize bm A D k x j=u at*;generalize bm A D k y j=v at*;have k1:c*(b*b*X)=c*(-(c*c)*e+c*g*u+c*f*v):=by
  have:c*(b*b*X)= -((b*n1)*(b*n2)-(b*n3)*(b*n4)):=by
   have e4:c*(b*b*X)= -(b*b*(c* -X)):=by simp only[SX,Ue];ac_rfl
   rw[e4,e3,U4];have e5:b*b*(n1*n2)=b*n1*(b*n2):=by ac_rfl
   have e6:b*b*(n3*n4)=b*n3*(b*n4):=by ac_rfl
   rw[e5,e6]
  rw[this,m1,m2',m3,m4]
  grind
 have k2:b*b*X= -(c*c)*e+c*g*u+c*f*v:=TG h0 k1;have k3:b*b*(2*c*X)=b*b*(s1*s2-s3*s4):=by
  have a1:b*b*(2*c*X)=2*c*(b*b*X):=by grind
  have a2:b*b*(s1*s2-s3*s4)=(b*s1)*(b*s2)-(b*s3)*(b*s4):=by grind
  rw[a1,a2,k2,t1,t2,t3,t4]
  grind
 exact TG (fun e=>(Su.1 e).elim Wn Wn) k3
theorem Gc{x y:Nat}:tw A D k x y y y=bm A (cn x D) (k+1) y y:=by have z1:m2 A D k y y y y=0:=nh (x:=0) (y:=1) oZ oZ oZ rfl;have z2:m2 A D k y x y y=0:=ya (x:=0) (y:=1) oZ oZ oZ rfl;have z3:m2 A D k y y y x=0:=nh (x:=0) (y:=1) oZ oZ oZ rfl;unfold tw;rw[z1,z2,z3,R6,R6,R6];rfl
theorem jT{v w x:Nat->Int}(t:Int):fL n A (fun m=>v m+t*w m) x=fL n A v x+t*fL n A w x:=by unfold fL;rw[<-bj,<-dX];exact aj fun m _=>by rw[Int.add_mul,RO]
theorem eR(hA:Sym n A){v w x:Nat->Int}(t:Int):fL n A x (fun m=>v m+t*w m)=fL n A x v+t*fL n A x w:=by rw[gV hA,jT,gV hA,gV hA w]
theorem h_.two(h:h_ n A D k b p q)(hA:Sym n A){x y:Nat}(hx:x<n)(hy:y<n)(hxD:¬Dn D k x)(hyD:¬Dn D k y)(h1:bm A D k x x=0)(h2:bm A D k y y=0)(h0:bm A D k x y≠0):
  h_ n A (cn y (cn x D)) (k+2) (tw A D k x y y y) (p+1) (q+1)/\b*tw A D k x y y y= -(bm A D k x y*bm A D k x y):=by
 have Vh:x≠y:=fun e=>h0 (by rw[<-e];exact h1)
 obtain⟨u,u1,u2,u3⟩:=h.vec hx hxD;obtain⟨v,v1,v2,v3⟩:=h.vec hy hyD;have guu:=h_.EJ hx u1 u2 u3;have gvv:=h_.EJ hy v1 v2 v3;have guv:=h_.EJ hx u1 u2 v3;have gvu:=h_.EJ hy v1 v2 u3;rw[h.sym hA hy hx]at gvu;rw[h1,RF]at guu;rw[h2,RF]at gvv;have ux:u y=0:=u1 y hy hyD (TM Vh);have vx:v x=0:=v1 x hx hxD Vh;have tb:b*tw A D k x y y y= -(bm A D k x y*bm A D k x y):=by
  have:=h.NF hA hx hy h1 h2 y y;rw[h2,h.sym hA hy hx]at this;rw[this]
  grind
 have bc:b*bm A D k x y≠0:=fun e=>(Su.1 e).elim h.b0 h0
 obtain⟨V,d,hF,hs,hp,hq⟩:=h.fam;have ss:fL n A (fun m=>u m+1*v m) (fun m=>u m+1*v m)=2*(b*bm A D k x y):=by rw[jT,eR hA,eR hA,guu,gvv,guv,gvu];omega
 have dd:fL n A (fun m=>u m+ -1*v m) (fun m=>u m+ -1*v m)= -(2*(b*bm A D k x y)):=by rw[jT,eR hA,eR hA,guu,gvv,guv,gvu];omega
 have sd:fL n A (fun m=>u m+1*v m) (fun m=>u m+ -1*v m)=0:=by rw[jT,eR hA,eR hA,guu,gvv,guv,gvu];omega
 have pu:∀(t:Int)(z:Nat->Int),(∀m,m<n->¬Dn D k m->z m=0)->fL n A z (fun m=>u m+t*v m)=0:=fun t z hz=>by rw[eR hA,h_.L7 u3 z hz,h_.L7 v3 z hz];omega
 have F1:=hF.add (fun m=>u m+1*v m) 1 0 x x hx hx (fun z hz=>by rw[hs z x hz hx hxD];rfl) (by rw[u2,vx];have:=h.b0;omega) (fun z hz=>pu 1 _ fun m hm Zk=>hs z m hz hm Zk)
  (fun z hz=>by rw[gV hA];exact pu 1 _ fun m hm Zk=>hs z m hz hm Zk)
 have F2:=F1.add (fun m=>u m+ -1*v m) 1 (-1) x y hx hy (fun z hz=>by
   by_cases e:z=k;{subst e;rw[cm,u2,v2,ux,vx];omega}
   ·rw[dK V _ oZ,hs z x oZ hx hxD,hs z y oZ hy hyD];rfl) (by rw[u2,v2,ux,vx];have:=h.b0;omega)
  (fun z hz=>by
   by_cases e:z=k;{subst e;rw[cm];exact sd}
   ·rw[dK V _ oZ];exact pu (-1) _ fun m hm Zk=>hs z m oZ hm Zk)
  (fun z hz=>by
   by_cases e:z=k;{subst e;rw[cm,gV hA];exact sd}
   ·rw[dK V _ oZ,gV hA];exact pu (-1) _ fun m hm Zk=>hs z m oZ hm Zk)
 rw[ss,dd]at F2;have hDn:∀m,¬Dn (cn y (cn x D)) (k+2) m->¬Dn D k m/\m≠x/\m≠y:=fun m hm=>⟨fun e=>hm (Dn.cn.2 (Or.inr (Dn.cn.2 (Or.inr e)))),fun e=>hm (Dn.cn.2 (Or.inr (Dn.cn.2 (Or.inl e)))),fun e=>hm (Dn.cn.2 (Or.inl e))⟩
 have hyx:¬Dn (cn x D) (k+1) y:=fun e=>(Dn.cn.1 e).elim (fun e=>Vh e.symm) hyD
 have Xz:=h.sg;have hpq:=h.pq;have tnz:tw A D k x y y y≠0:=fun e=>by rw[e,RF]at tb;have:bm A D k x y*bm A D k x y=0:=oZ;exact(Su.1 this).elim h0 h0
 refine⟨⟨CL hy (h.lt hx),?_,Gc.symm,tnz,⟨_,_,F2,fun z m hz hm Zk=>?_,?_,?_⟩,?_,oZ⟩,tb⟩
 ·intro a c ha hc e
  have ci:=h.Og hxD
  cases a with
  |zero=>
   cases c with
   |zero=>rfl
   |succ c=>exact absurd ⟨c,oZ,e.symm⟩ hyx
  |succ a=>
   cases c with
   |zero=>exact absurd ⟨a,oZ,e⟩ hyx
   |succ c=>exact _root_.congrArg (·+1) (ci a c oZ oZ e)
 {obtain⟨d1,d2,d3⟩:=hDn m Zk;by_cases e:z=k+1;{subst e;rw[cm,u1 m hm d1 d2,v1 m hm d1 d3];rfl};{rw[dK _ _ (show z<k+1 by omega)];by_cases e:z=k;{subst e;rw[cm,u1 m hm d1 d2,v1 m hm d1 d3];rfl};{rw[dK _ _ (show z<k by omega)];exact hs z m oZ hm d1}}};{rw[vj (k+1) _ _ (fun z=>decide (0<z)),vj k d _ (fun z=>decide (0<z)),hp];by_cases hc:0<b*bm A D k x y;{rw[Re qj,Rc qj]};{rw[Rc qj,Re qj]}};{rw[vj (k+1) _ _ (fun z=>decide (z<0)),vj k d _ (fun z=>decide (z<0)),hq];by_cases hc:0<b*bm A D k x y;{rw[Rc qj,Re qj]};{rw[Re qj,Rc qj]}}
 ·have Wm:b*tw A D k x y y y<0:=by
   rw[tb];have:=rh (bm A D k x y);have hz:bm A D k x y*bm A D k x y≠0:=fun e=>(Su.1 e).elim h0 h0
   omega
  have:=xo h.b0 tnz;omega
variable{n:Nat}{A:Mx}{D:Nat->Nat}{k:Nat}{b:Int}{p q:Nat}
theorem Js.le{V:Mx}{d:Nat->Int}(h:Js n A V d k):k<=n:=Rq fun Vg=>by
 obtain⟨c,⟨x,hx,hc⟩,Zx⟩:=kt n ((List.range n).map fun m x=>V x m) k oX oZ;exact hc (h.ind c (fun m hm=>by
  have:=Zx _ (Sb (Rm.2 hm));rw[<-this];exact aj fun x _=>RW _ _) x hx)
theorem Iv(c:Nat):∀(n:Nat)(f:Nat->Bool),cB n f<=cB n (fun m=>f m&&decide (m≠c))+1/\(n<=c->cB n f=cB n (fun m=>f m&&decide (m≠c)))
 |0,_=>⟨Rv _,fun _=>rfl⟩
 |n+1,f=>by obtain⟨h1,h2⟩:=Iv c n f;rw[cB,cB];by_cases e:n=c;{subst e;have:=h2 (Rf _);refine⟨?_,fun h=>by omega⟩;rw[<-this,Rl oZ,UX];split<;>omega};{have hd:decide (n≠c)=true:=Rj e;refine⟨?_,fun h=>?_⟩;{rw[hd,Bool.and_true];omega};{rw[hd,Bool.and_true,h2 oZ]}}
theorem FQ:∀(k:Nat)(D:Nat->Nat)(n:Nat)(f:Nat->Bool),(∀m,m<n->f m=true->Dn D k m)->cB n f<=k
 |0,D,n,f,h=>by
  rw[ct (g:=fun _=>false) fun m hm=>by
   cases e:f m
   {rfl}
   ·obtain⟨l,hl,-⟩:=h m hm e;omega]
  have:∀n,cB n (fun _=>false)=0:=fun n=>by
   induction n with
   |zero=>rfl
   |succ n ih=>rw[cB,ih];rfl
  rw[this];exact Rf _
 |k+1,D,n,f,h=>by
  have h1:=(Iv (D k) n f).1;have h2:=FQ k D n (fun m=>f m&&decide (m≠D k)) fun m hm e=>by simp only[RA,RE]at e;obtain⟨l,hl,hd⟩:=h m hm e.1;refine⟨l,?_,hd⟩;by_cases el:l=k;{subst el;exact absurd hd.symm e.2};{omega}
  omega
theorem se.mono{S S':Nat->Prop}(h:se n A S k p q)(hS:∀m,S m->S' m):se n A S' k p q:=by obtain⟨V,d,h1,h2,h3,h4⟩:=h;exact⟨V,d,h1,fun x m hx hm hn=>h2 x m hx hm fun h=>hn (hS m h),h3,h4⟩
theorem h_.inr(h:h_ n A D k b p q)(hA:Sym n A)(dn:Nat->Bool)(hd:∀i,i<n->(dn i=true↔Dn D k i))(hz:∀i j,i<n->j<n->¬Dn D k i->¬Dn D k j->bm A D k i j=0):OA n A p q:=by
 have Vx:∀i j,i<n->j<n->¬Dn D k j->bm A D k i j=0:=fun i j hi hj hjD=>by by_cases e:Dn D k i;{exact rF e};{exact hz i j hi hj e hjD}
 have key:∀t,t<=n->se n A (fun m=>Dn D k m\/m<t) (k+cB t fun m=> !dn m) p q:=fun t=>by
  induction t with
  |zero=>exact fun _=>h.fam.mono fun m hm=>Or.inl hm
  |succ t ih=>
   intro ht;have IH:=ih oZ;by_cases e:dn t=true;{rw[cB,e,Bool.not_true,Rc oQ,Tx];exact IH.mono fun m hm=>by rcases hm with hm|hm;exact Or.inl hm;exact Or.inr oZ}
   ·have ef:dn t=false:=by cases h:dn t;rfl;exact absurd h e
    have htD:¬Dn D k t:=fun h=>e ((hd t oZ).2 h)
    obtain⟨u,u1,u2,u3⟩:=h.vec (show t<n by omega) htD;have V6:fL n A u u=0:=by rw[h_.EJ (show t<n by omega) u1 u2 u3,Vx t t oZ oZ htD,RF]
    have:=IH.add hA u t oZ (fun h=>by rcases h with h|h;exact htD h;omega) (by rw[u2];exact h.b0) (fun m=>Dn D k m\/m<t+1) (fun m hm=>by rcases hm with hm|hm;exact Or.inl hm;exact Or.inr oZ)
     (fun m hm hn=>u1 m hm (fun h=>hn (Or.inl h)) fun h=>hn (Or.inr oZ)) (fun x _=>aX fun m hm=>by rw[u3 m,Vx m t hm oZ htD,RF])
    rw[V6,Rc oQ]at this;rw[cB,ef,Bool.not_false,Re rfl,<-TO];exact this
 obtain⟨V,d,h1,-,h3,h4⟩:=key n (Rf _);have hle:=h1.le;have hc:=Ch n dn;have hi:=FQ k D n dn fun m hm e=>(hd m hm).1 e
 have Zl:k+cB n (fun m=> !dn m)=n:=oZ;rw[Zl]at h1 h3 h4;exact⟨V,d,h1,h3,h4⟩
theorem h_.kn(h:h_ n A D k b p q):k<=n:=by obtain⟨V,d,h1,-⟩:=h.fam;exact h1.le
theorem h_.rk(h:h_ n A D k b p q)(hz:∀i j,i<n->j<n->¬Dn D k i->¬Dn D k j->bm A D k i j=0):Pg n n A k:=by
 have Vx:∀i j,i<n->j<n->bm A D k i j=0:=fun i j hi hj=>by by_cases e:Dn D k i;{exact rF e};{by_cases e2:Dn D k j;{obtain⟨l,hl,rfl⟩:=e2;exact ya (x:=0) (y:=l+1) oZ oZ oZ rfl};{exact hz i j hi hj e e2}}
 refine⟨h.kn,h.kn,fun is js hi hj=>?_,D,D,h.dl,h.dl,by have:=h.b0;rw[<-h.bb]at this;exact this⟩;refine Int.zero_dvd.2 (Rq fun hd=>?_);have hg:∀j,∃g:Nat->Int,j<n->∀i,i<n->b*A i j=sI k fun l=>g l*A i (D l):=fun j=>by obtain⟨g,hg⟩:=xx A k D D j;refine⟨fun l=> -g l,fun hj i hi=>?_⟩;have e:=hg i;rw[h.bb]at e;have e2:=Vx i j hi hj;unfold bm at e2;rw[e2]at e;rw[aj (g:=fun l=> -(g l*A i (D l))) fun l _=>SG _ _,lP];omega
 let G:Nat->Nat->Int:=fun c=>Classical.choose (hg (js c))
 have hG:∀c,c<k+1->∀i,i<n->b*A i (js c)=sI k fun l=>G c l*A i (D l):=fun c hc i hi=>Classical.choose_spec (hg (js c)) (hj c hc) i hi
 obtain⟨y,⟨c,hc,hy⟩,Zx⟩:=kt k ((List.range k).map fun l c=>G c l) (k+1) oX oZ;have hker:=Cz (c:=y) hd fun a ha=>by
  have e:b*(sI (k+1) fun c=>A (is a) (js c)*y c)=0:=by
   rw[<-bj,aj (g:=fun c=>sI k fun l=>A (is a) (D l)*(G c l*y c)) fun c hc=>by
    rw[<-RO,hG c hc (is a) (hi a ha),RW,<-bj];exact aj fun l _=>by rw[RW (y c),RO,RW (A (is a) (D l)),<-RO,RW (G c l*y c)]<;>grind,ft]
   exact aX fun l hl=>by rw[bj];have:=Zx _ (Sb (Rm.2 hl));rw[this,RF]
  rcases Su.1 e with e|e
  {exact absurd e h.b0};{exact e}
 exact hy (hker c hc)
theorem nT(A:Mx)(n:Nat):∀(m:Nat)(D:Nat->Nat),m<=n->(∀l,l<n->D l<n)->(∀x y,x<n->y<n->D x=D y->x=y)->(∀l,m<=l->l<n->D l=l)->mn A n D D=bS n A
 |0,D,_,_,_,hf=>aR fun i j hi hj=>by rw[hf i (Rv _) hi,hf j (Rv _) hj]
 |m+1,D,hm,hl,hi,hf=>by
  have Vg:∀l,l<m+1->D l<m+1:=fun l hlm=>Rq fun h=>by have e1:=hf (D l) oZ (hl l oZ);have:=hi (D l) l (hl l oZ) oZ e1;omega
  obtain⟨c,hc,Wy⟩:=Ii (k:=m) (js:=D) fun a b ha hb e=>hi a b oZ oZ e
  have hD:D c=m:=by have:=Vg c hc;omega
  by_cases e:c=m;{subst e;exact nT A n c D oZ hl hi fun l h1 h2=>by by_cases e:l=c;{rw[e];exact hD};{exact hf l oZ h2}}
  ·have hs:mn A n (fun x=>D (kP c m x)) (fun x=>D (kP c m x))=mn A n D D:=by
    unfold mn;have r1:=uV (n:=n) (A:=fun x y=>A (D x) (D (kP c m y))) (p:=c) (q:=m) oZ oZ e;have r2:=mj (n:=n) (A:=fun x y=>A (D x) (D y)) (p:=c) (q:=m) oZ oZ e;rw[r1,r2,Ue]
   rw[<-hs];have hsw:∀x,x<n->kP c m x<n:=fun x hx=>ig oZ oZ hx
   refine nT A n m _ oZ (fun l h=>hl _ (hsw l h)) (fun x y hx hy e=>?_) fun l h1 h2=>?_
   {have:=hi _ _ (hsw x hx) (hsw y hy) e;rw[<-qU c m x,this,qU]};{by_cases e2:l=m;{rw[e2,Cu];exact hD};{rw[qp oZ e2];exact hf l oZ h2}}
theorem h_.P8(h:h_ n A D k b p q)(hk:k=n):0<bS n A↔q%2=0:=by subst hk;rw[<-nT A k k D (Rf _) h.dl h.inj (fun l h1 h2=>by omega),h.bb];exact h.sg
theorem h_.Ql(h:h_ n A D k b p q)(hk:k=n):bS n A≠0:=by subst hk;rw[<-nT A k k D (Rf _) h.dl h.inj (fun l h1 h2=>by omega),h.bb];exact h.b0
end Go.Proofs.YtdbhigmklejicaaGreat
