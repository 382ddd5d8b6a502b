/- Lemmas, each under its own premises. -/
import Derived.Test.YtdbhigmklejicaaGreatZ02
import Derived.Lib.Mul64
import Derived.Laws.Bits64b
import Derived.IntWalk
import Derived.Deep.DeepCutAuto
import Derived.Deep.CutBlock
namespace Go.Proofs.YtdbhigmklejicaaGreat
set_option maxHeartbeats 16000000
set_option maxRecDepth 100000
structure Gp(G:Type) where
 m:G->G->G
 o:G
 i:G->G
 asc:∀a b c,m (m a b) c=m a (m b c)
 om:∀a,m o a=a
 mo:∀a,m a o=a
 im:∀a,m (i a) a=o
 mi:∀a,m a (i a)=o
section
variable{G:Type}(Γ:Gp G)
theorem Gp.Pu(a b:G):Γ.m (Γ.i a) (Γ.m a b)=b:=by rw[<-Γ.asc,Γ.im,Γ.om]
theorem Gp.NJ(a b:G):Γ.m a (Γ.m (Γ.i a) b)=b:=by rw[<-Γ.asc,Γ.mi,Γ.om]
theorem Gp.lc{a b c:G}(h:Γ.m a b=Γ.m a c):b=c:=by rw[<-Γ.Pu a b,h,Γ.Pu]
theorem Gp.Qr{a b c:G}(h:Γ.m b a=Γ.m c a):b=c:=by
 have e:∀x,Γ.m (Γ.m x a) (Γ.i a)=x:=fun x=>by rw[Γ.asc,Γ.mi,Γ.mo]
 rw[<-e b,h,e]
theorem Gp.ii(a:G):Γ.i (Γ.i a)=a:=Γ.lc (a:=Γ.i a) (by rw[Γ.mi,Γ.im])
theorem Gp.io:Γ.i Γ.o=Γ.o:=Γ.lc (a:=Γ.o) (by rw[Γ.mi,Γ.om])
theorem Gp.Jn(a b:G):Γ.i (Γ.m a b)=Γ.m (Γ.i b) (Γ.i a):=
 Γ.lc (a:=Γ.m a b) (by rw[Γ.mi,Γ.asc,Γ.NJ,Γ.mi])
end
def eB(h:Nat):Nat:=ae h 3
theorem bT(n:Nat):aO eB (4*n):=⟨fun _ hh=>lq hh,fun _ _ _ _ e=>dC e⟩
theorem Nb(c:Nat):eB (4*c)=4*c+3:=by unfold eB ae;omega
theorem OO(c:Nat):eB (4*c+1)=4*c:=by unfold eB ae;omega
theorem Np(c:Nat):eB (4*c+2)=4*c+1:=by unfold eB ae;omega
theorem ND(c:Nat):eB (4*c+3)=4*c+2:=by unfold eB ae;omega
def ends:List (Nat×Nat)->List Nat
 |[]=>[]
 |e::es=>e.1::e.2::ends es
theorem jA:∀{es:List (Nat×Nat)}{z:Nat},z∉ends es->eE es z=z
 |[],_,_=>rfl
 |e::es,z,h=>by unfold ends at h;rw[RV,RV,not_or,not_or]at h;show eE es (sw e.1 e.2 z)=z;rw[uN h.1 h.2.1];exact jA h.2.2
theorem yu:∀{es:List (Nat×Nat)}{z w:Nat},eE es z=eE es w->z=w
 |[],_,_,h=>h
 |e::es,z,w,h=>by have:=yu (es:=es) h;rw[<-zG e.1 e.2 z,this,zG]
section
variable{e:Nat×Nat}{es:List (Nat×Nat)}(hd:(ends (e::es)).Nodup)
include hd
theorem dH:e.1∉ends es/\e.2∉ends es/\e.1≠e.2/\(ends es).Nodup:=by unfold ends at hd;rw[SC,SC,RV,not_or]at hd;exact⟨hd.1.2,hd.2.1,hd.1.1,hd.2.2⟩
theorem yN:eE (e::es) e.1=e.2:=by show eE es (sw e.1 e.2 e.1)=e.2;rw[Ar];exact jA (dH hd).2.1
theorem Es:eE (e::es) e.2=e.1:=by show eE es (sw e.1 e.2 e.2)=e.1;rw[zM];exact jA (dH hd).1
omit hd in
theorem qL{z:Nat}(h1:z≠e.1)(h2:z≠e.2):eE (e::es) z=eE es z:=by show eE es (sw e.1 e.2 z)=_;rw[uN h1 h2]
theorem Ma{z:Nat}(h1:z≠e.1):eE es z≠e.1:=fun h=>h1 (yu (es:=es) (by rw[h,jA (dH hd).1]))
theorem Mo{z:Nat}(h2:z≠e.2):eE es z≠e.2:=fun h=>h2 (yu (es:=es) (by rw[h,jA (dH hd).2.1]))
end
theorem CX:∀{es:List (Nat×Nat)},(ends es).Nodup->∀z,eE es (eE es z)=z
 |[],_,_=>rfl
 |e::es,hd,z=>by have ih:=CX (dH hd).2.2.2 z;by_cases h1:z=e.1;{subst h1;rw[yN hd,Es hd]};{by_cases h2:z=e.2;{subst h2;rw[Es hd,yN hd]};{rw[qL h1 h2,qL (Ma hd h1) (Mo hd h2),ih]}}
section
variable{G:Type}(Γ:Gp G)
def iU(w:Nat->G)(c:Nat):Prop:=Γ.m (w (4*c+3)) (Γ.m (w (4*c+2)) (Γ.m (w (4*c+1)) (w (4*c))))=Γ.o
def yo(n:Nat)(es:List (Nat×Nat))(X:Nat->Prop):Prop:=∀c d,c<n->d<n->X c->X d->kE eB (4*n) es (4*c) (4*d)=true->c=d
structure KP(n:Nat)(es:List (Nat×Nat))(w p:Nat->G):Prop where
 cF:∀h,h<4*n->p (fE eB es h)=p h
 edge:∀h,h<4*n->w h=Γ.m (p h) (Γ.i (p (eE es h)))
structure rX(n:Nat)(es:List (Nat×Nat))(w:Nat->G):Prop where
 anti:∀h,h<4*n->w (eE es h)=Γ.i (w h)
 off:∀h,h<4*n->eE es h=h->w h=Γ.o
variable{Γ}{n:Nat}{es:List (Nat×Nat)}
theorem KP.QQ{w p:Nat->G}(Vn:oW (4*n) es)(hd:(ends es).Nodup)(h:KP Γ n es w p){c:Nat}(hc:c<n):iU Γ w c:=by
 have k:∀x,x<4*n->p (eE es x)=p (eB x):=by intro x hx;have:=h.cF (eE es x) (Ao es Vn x hx);rw[zk,CX hd]at this;exact this.symm
 unfold iU;rw[h.edge (4*c+3) oZ,h.edge (4*c+2) oZ,h.edge (4*c+1) oZ,h.edge (4*c) oZ,
  k (4*c+3) oZ,k (4*c+2) oZ,k (4*c+1) oZ,k (4*c) oZ,ND,Np,OO,Nb]
 simp only[Γ.asc,Γ.Pu,Γ.mi]
theorem kD(Vn:oW (4*n) es){c:Nat}(hc:c<n){s:Nat}(hs:s<4):kE eB (4*n) es (4*c) (4*c+s)=true:=by
 have hE:=gJ (bT n) es Vn;have h0:=qZ (bT n) es Vn (z:=4*c) oZ;have h3:=qZ (bT n) es Vn (z:=4*c+3) oZ;have h2:=qZ (bT n) es Vn (z:=4*c+2) oZ;rw[Nb]at h0;rw[ND]at h3;rw[Np]at h2;have g2:=hE.tr _ _ _ oZ oZ oZ h0 h3;have g1:=hE.tr _ _ _ oZ oZ oZ g2 h2;have Wl:s=0\/s=1\/s=2\/s=3:=oZ;rcases Wl with rfl|rfl|rfl|rfl
 {exact hE.rfl_ _ oZ};{exact g1};{exact g2};{exact h0}
theorem tZ(Vn:oW (4*n) es){c v:Nat}(hc:c<n)(hv:v<4*n){s:Nat}(hs:s<4):kE eB (4*n) es (4*c+s) v=kE eB (4*n) es (4*c) v:=by have hE:=gJ (bT n) es Vn;have h1:=kD Vn hc hs;rw[R_];exact⟨fun h=>hE.tr _ _ _ oZ oZ hv h1 h,fun h=>hE.tr _ _ _ oZ oZ hv (hE.sym _ _ oZ oZ h1) h⟩
theorem pO(Vn:oW (4*n) es){z v:Nat}(hz:z<4*n)(hv:v<4*n):kE eB (4*n) es (eE es z) v=kE eB (4*n) es z v:=by have hE:=gJ (bT n) es Vn;have h1:=qR (bT n) es Vn z hz;have h2:=Ao es Vn z hz;rw[R_];exact⟨fun h=>hE.tr _ _ _ hz h2 hv h1 h,fun h=>hE.tr _ _ _ h2 hz hv (hE.sym _ _ hz h2 h1) h⟩
theorem DO(Vn:oW (4*n) es){z v:Nat}(hz:z<4*n)(hv:v<4*n):kE eB (4*n) es (fE eB es z) v=kE eB (4*n) es z v:=by have hE:=gJ (bT n) es Vn;have h1:=Dh (bT n) es Vn hz;have h2:=(jd (bT n) es Vn).lt z hz;rw[R_];exact⟨fun h=>hE.tr _ _ _ hz h2 hv h1 h,fun h=>hE.tr _ _ _ h2 hz hv (hE.sym _ _ hz h2 h1) h⟩
theorem sf{e:Nat×Nat}(Vn:oW (4*n) (e::es))(hd:(ends (e::es)).Nodup){w:Nat->G}{X:Nat->Prop}(hw:rX Γ n (e::es) w)(hv:∀c,c<n->¬X c->iU Γ w c)
  (ih:∀(w:Nat->G)(X:Nat->Prop),yo n es X->rX Γ n es w->(∀c,c<n->¬X c->iU Γ w c)->∃p,KP Γ n es w p)
  (hk:kE eB (4*n) es e.1 e.2=false)(v v':Nat)(hvv:(v=e.1/\v'=e.2)\/(v=e.2/\v'=e.1))(hX:∀c,c<n->X c->kE eB (4*n) es (4*c) v=false):w v=Γ.o:=by
 obtain⟨i1,i2,i3⟩:=Vn.head;have hE:=gJ (bT n) es Vn.tail;obtain⟨d1,d2,-,d4⟩:=dH hd;have VH:kE eB (4*n) es e.2 e.1=false:=by
  rw[Sf];intro h;rw[hE.sym _ _ i2 i1 h]at hk
  cases hk
 have hvN:v<4*n:=by rcases hvv with⟨rfl,rfl⟩|⟨rfl,rfl⟩<;>assumption
 have hv'v:kE eB (4*n) es v' v=false:=by rcases hvv with⟨rfl,rfl⟩|⟨rfl,rfl⟩<;>assumption
 have hev:eE es v=v:=by rcases hvv with⟨rfl,rfl⟩|⟨rfl,rfl⟩<;>exact jA (by assumption)
 have hout:∀z,z≠v->z≠v'->eE (e::es) z=eE es z:=by
  intro z h1 h2;rcases hvv with⟨rfl,rfl⟩|⟨rfl,rfl⟩
  {exact qL h1 h2};{exact qL h2 h1}
 let w2:Nat->G:=fun h=>if kE eB (4*n) es h v=true/\h≠v then w h else Γ.o
 have hw2v:w2 v=Γ.o:=Rc fun h=>h.2 rfl
 have hw2n:∀h,kE eB (4*n) es h v=false->w2 h=Γ.o:=fun h hh=>Rc fun g=>by rw[hh]at g;cases g.1
 have hw2y:∀h,kE eB (4*n) es h v=true->h≠v->w2 h=w h:=fun h hh hn=>Re ⟨hh,hn⟩
 obtain⟨p,hp⟩:=ih w2 (fun c=>c=v/4) (fun c d _ _ h1 h2 _=>by rw[h1,h2]) ⟨fun h hh=>by
   by_cases h1:h=v;{subst h1;rw[hev,hw2v,Γ.io]}
   ·cases h2:kE eB (4*n) es h v
    {rw[hw2n _ h2,hw2n _ (by rw[pO Vn.tail hh hvN];exact h2),Γ.io]}
    ·have h3:h≠v':=by rintro rfl;rw[hv'v]at h2;cases h2
     have h4:eE es h≠v:=fun e'=>h1 (yu (es:=es) (by rw[e',hev]))
     rw[hw2y _ h2 h1,hw2y _ (by rw[pO Vn.tail hh hvN];exact h2) h4,<-hout h h1 h3];exact hw.anti h hh,fun h hh he=>by
   by_cases h1:h=v;{subst h1;exact hw2v}
   ·cases h2:kE eB (4*n) es h v
    {exact hw2n _ h2}
    ·have h3:h≠v':=by rintro rfl;rw[hv'v]at h2;cases h2
     rw[hw2y _ h2 h1];exact hw.off h hh (by rw[hout h h1 h3];exact he)⟩ (fun c hc Vh=>by
   have hne':∀s,s<4->4*c+s≠v:=fun s hs e'=>Vh oZ
   cases h2:kE eB (4*n) es (4*c) v
   ·have hs:∀s,s<4->w2 (4*c+s)=Γ.o:=fun s hs=>hw2n _ (by rw[tZ Vn.tail hc hvN hs];exact h2)
    unfold iU;rw[hs 3 oZ,hs 2 oZ,hs 1 oZ,show w2 (4*c)=Γ.o from hs 0 oZ,Γ.om,Γ.om,Γ.om]
   ·have hs:∀s,s<4->w2 (4*c+s)=w (4*c+s):=fun s hs=>hw2y _ (by rw[tZ Vn.tail hc hvN hs];exact h2) (hne' s hs)
    have:=hv c hc fun hx=>by rw[hX c hc hx]at h2;cases h2
    unfold iU at this⊢;rw[hs 3 oZ,hs 2 oZ,hs 1 oZ,show w2 (4*c)=w (4*c)from hs 0 oZ];exact this)
 have hc:v/4<n:=oZ;have e4:v=4*(v/4)+v%4:=oZ;have hm:v%4<4:=RY _ oZ;generalize v/4=c at e4 hc;generalize v%4=s at e4 hm;have hkc:kE eB (4*n) es (4*c) v=true:=by rw[e4];exact kD Vn.tail hc hm
 have h1:=hp.QQ Vn.tail d4 hc;have h2:=hv c hc fun hx=>by rw[hX c hc hx]at hkc;cases hkc
 have hs:∀t,t<4->t≠s->w2 (4*c+t)=w (4*c+t):=fun t ht hts=>hw2y _ (by rw[tZ Vn.tail hc hvN ht];exact hkc) (by rw[e4];omega)
 have WO:w2 (4*c+s)=Γ.o:=by rw[<-e4];exact hw2v
 have hz:∀t,t=0->4*c+t=4*c:=fun t ht=>by omega
 rw[e4];unfold iU at h1 h2;have Wl:s=0\/s=1\/s=2\/s=3:=oZ;rcases Wl with rfl|rfl|rfl|rfl
 {rw[hs 3 oZ oZ,hs 2 oZ oZ,hs 1 oZ oZ,show w2 (4*c)=Γ.o from WO]at h1;exact Γ.lc (Γ.lc (Γ.lc (h2.trans h1.symm)))};{rw[hs 3 oZ oZ,hs 2 oZ oZ,show w2 (4*c)=w (4*c)from hs 0 oZ oZ,WO]at h1;exact Γ.Qr (Γ.lc (Γ.lc (h2.trans h1.symm)))};{rw[hs 3 oZ oZ,hs 1 oZ oZ,show w2 (4*c)=w (4*c)from hs 0 oZ oZ,WO]at h1;exact Γ.Qr (Γ.lc (h2.trans h1.symm))};{rw[hs 2 oZ oZ,hs 1 oZ oZ,show w2 (4*c)=w (4*c)from hs 0 oZ oZ,WO]at h1;exact Γ.Qr (h2.trans h1.symm)}
theorem jP{f:Nat->Nat}{N:Nat}(hP:aO f N){T:Type}{p:Nat->T}(hp:∀h,h<N->p (f h)=p h){x y:Nat}(hx:x<N)(h:rc f N x y=true):p y=p x:=by
 obtain⟨k,rfl⟩:=(dY hP hx).1 h;clear h
 induction k with
 |zero=>rfl
 |succ k ih=>show p (f _)=_;rw[hp _ (hP.bL k hx),ih]
theorem yo.tail{e:Nat×Nat}{X:Nat->Prop}(h:yo n (e::es) X):yo n es X:=
 fun c d hc hd h1 h2 hk=>h c d hc hd h1 h2 (cD.2 (.inl hk))
theorem DI{e:Nat×Nat}(Vn:oW (4*n) (e::es))(hd:(ends (e::es)).Nodup){w:Nat->G}{X:Nat->Prop}(hX:yo n (e::es) X)(hw:rX Γ n (e::es) w)(hv:∀c,c<n->¬X c->iU Γ w c)
  (ih:∀(w:Nat->G)(X:Nat->Prop),yo n es X->rX Γ n es w->(∀c,c<n->¬X c->iU Γ w c)->∃p,KP Γ n es w p)
  (hk:kE eB (4*n) es e.1 e.2=false):∃p,KP Γ n (e::es) w p:=by
 obtain⟨i1,i2,i3⟩:=Vn.head;have hE:=gJ (bT n) es Vn.tail;obtain⟨d1,d2,-,d4⟩:=dH hd;have Vw:=hw.anti e.1 i1;rw[yN hd]at Vw;have hwx:w e.1=Γ.o:=by
  by_cases hx:∀c,c<n->X c->kE eB (4*n) es (4*c) e.1=false
  {exact sf Vn hd hw hv ih hk _ _ (.inl ⟨rfl,rfl⟩) hx}
  ·have hy:∀c,c<n->X c->kE eB (4*n) es (4*c) e.2=false:=by
    intro d Xe hxd;rw[Sf];intro hkd;refine hx fun c hc hxc=>?_
    rw[Sf];intro hkc;have:=hX c d hc Xe hxc hxd (cD.2 (.inr (.inl ⟨hkc,hE.sym _ _ oZ i2 hkd⟩)));subst this;rw[hE.tr _ _ _ i1 oZ i2 (hE.sym _ _ oZ i1 hkc) hkd]at hk
    cases hk
   have:=sf Vn hd hw hv ih hk _ _ (.inr ⟨rfl,rfl⟩) hy;rw[this]at Vw;rw[<-Γ.ii (w e.1),<-Vw,Γ.io]
 have hwy:w e.2=Γ.o:=by rw[Vw,hwx,Γ.io]
 obtain⟨p1,hp⟩:=ih w X hX.tail ⟨fun h hh=>by
   by_cases h1:h=e.1;{subst h1;rw[jA d1,hwx,Γ.io]}
   ·by_cases h2:h=e.2
    {subst h2;rw[jA d2,hwy,Γ.io]}
    ·rw[<-qL h1 h2];exact hw.anti h hh,fun h hh he=>by
   by_cases h1:h=e.1;{rw[h1];exact hwx}
   ·by_cases h2:h=e.2
    {rw[h2];exact hwy}
    ·exact hw.off h hh (by rw[qL h1 h2];exact he)⟩ hv
 let p:Nat->G:=fun h=>if kE eB (4*n) es h e.2=true then Γ.m (p1 h) (Γ.m (Γ.i (p1 e.2)) (p1 e.1))else p1 h
 have hpx:p e.1=p1 e.1:=Rc (by rw[hk];simp);have hpy:p e.2=p1 e.1:=(Re (hE.rfl_ _ i2)).trans (Γ.NJ _ _);have hpf:∀z,z<4*n->p (fE eB es z)=p z:=by intro z hz;show(if _ then _ else _)=(if _ then _ else _);rw[DO Vn.tail hz i2,hp.cF z hz]
 refine⟨p,fun h hh=>?_,fun h hh=>?_⟩;{show p (fE eB es (sw e.1 e.2 h))=p h;rw[hpf _ (sr i1 i2 hh)];by_cases h1:h=e.1;{rw[h1,Ar,hpx,hpy]};{by_cases h2:h=e.2;{rw[h2,zM,hpx,hpy]};{rw[uN h1 h2]}}}
 ·by_cases h1:h=e.1
  {rw[h1,yN hd,hpx,hpy,hwx,Γ.mi]}
  ·by_cases h2:h=e.2
   {rw[h2,Es hd,hpx,hpy,hwy,Γ.mi]}
   ·rw[qL h1 h2,hp.edge h hh]
    have hke:=pO Vn.tail hh i2
    cases hkk:kE eB (4*n) es h e.2
    {rw[hkk]at hke;rw[show p h=p1 h from Rc (by rw[hkk];simp),show p (eE es h)=p1 (eE es h)from Rc (by rw[hke];simp)]};{rw[hkk]at hke;rw[show p h=Γ.m (p1 h) (Γ.m (Γ.i (p1 e.2)) (p1 e.1))from Re hkk,show p (eE es h)=Γ.m (p1 (eE es h)) (Γ.m (Γ.i (p1 e.2)) (p1 e.1))from Re hke];simp only[Γ.asc,Γ.Jn,Γ.NJ,Γ.Pu,Γ.ii]}
theorem D4{e:Nat×Nat}(Vn:oW (4*n) (e::es))(hd:(ends (e::es)).Nodup){w:Nat->G}{X:Nat->Prop}(hX:yo n (e::es) X)(hw:rX Γ n (e::es) w)(hv:∀c,c<n->¬X c->iU Γ w c)
  (ih:∀(w:Nat->G)(X:Nat->Prop),yo n es X->rX Γ n es w->(∀c,c<n->¬X c->iU Γ w c)->∃p,KP Γ n es w p)
  (hr:rc (fE eB es) (4*n) e.1 e.2=true):∃p,KP Γ n (e::es) w p:=by
 obtain⟨i1,i2,i3⟩:=Vn.head;obtain⟨d1,d2,-,d4⟩:=dH hd;have hP:=jd (bT n) es Vn.tail;have Xl:=jd (bT n) (e::es) Vn;have hR:=iM Xl;have Vw:=hw.anti e.1 i1;rw[yN hd]at Vw;have hAy:rc (fE eB (e::es)) (4*n) e.1 e.2=false:=zS hP i1 i2 i3 hr
 let u:Nat->G:=fun z=>if rc (fE eB (e::es)) (4*n) e.1 z=true then w e.1 else Γ.o
 have hux:u e.1=w e.1:=Re (hR.rfl_ _ i1);have huy:u e.2=Γ.o:=Rc (by rw[hAy];simp);have huf:∀z,z<4*n->u (fE eB (e::es) z)=u z:=by
  intro z hz;have h1:=nJ Xl hz;have h2:=Xl.lt z hz;have:rc (fE eB (e::es)) (4*n) e.1 (fE eB (e::es) z)=rc (fE eB (e::es)) (4*n) e.1 z:=by rw[R_];exact⟨fun h=>hR.tr _ _ _ i1 h2 hz h (hR.sym _ _ hz h2 h1),fun h=>hR.tr _ _ _ i1 hz h2 h h1⟩
  show(if _ then _ else _)=(if _ then _ else _);rw[this]
 have hur:∀z,z<4*n->u (eE (e::es) z)=u (eB z):=by intro z hz;have:=huf (eE (e::es) z) (Ao _ Vn z hz);rw[zk,CX hd]at this;exact this.symm
 let w1:Nat->G:=fun h=>Γ.m (Γ.i (u h)) (Γ.m (w h) (u (eE (e::es) h)))
 have hw1x:w1 e.1=Γ.o:=by show Γ.m (Γ.i (u e.1)) (Γ.m (w e.1) (u (eE (e::es) e.1)))=Γ.o;rw[yN hd,hux,huy,Γ.mo,Γ.im]
 have hw1y:w1 e.2=Γ.o:=by show Γ.m (Γ.i (u e.2)) (Γ.m (w e.2) (u (eE (e::es) e.2)))=Γ.o;rw[Es hd,hux,huy,Vw,Γ.im,Γ.mo,Γ.io]
 obtain⟨p1,hp⟩:=ih w1 X hX.tail ⟨fun h hh=>by
   by_cases h1:h=e.1;{subst h1;rw[jA d1,hw1x,Γ.io]}
   ·by_cases h2:h=e.2
    {subst h2;rw[jA d2,hw1y,Γ.io]}
    ·rw[<-qL h1 h2]
     show Γ.m (Γ.i (u (eE (e::es) h))) (Γ.m (w (eE (e::es) h)) (u (eE (e::es) (eE (e::es) h))))=Γ.i (Γ.m (Γ.i (u h)) (Γ.m (w h) (u (eE (e::es) h))));rw[CX hd,hw.anti h hh];simp only[Γ.asc,Γ.Jn,Γ.ii],fun h hh he=>by
   by_cases h1:h=e.1;{rw[h1];exact hw1x}
   ·by_cases h2:h=e.2
    {rw[h2];exact hw1y}
    ·have WB:eE (e::es) h=h:=by rw[qL h1 h2];exact he
     show Γ.m (Γ.i (u h)) (Γ.m (w h) (u (eE (e::es) h)))=Γ.o;rw[hw.off h hh WB,WB,Γ.om,Γ.im]⟩ (fun c hc Vh=>by
   have h0:=hv c hc Vh;unfold iU at h0⊢
   show Γ.m (Γ.m (Γ.i (u (4*c+3))) (Γ.m (w (4*c+3)) (u (eE (e::es) (4*c+3))))) (Γ.m (Γ.m (Γ.i (u (4*c+2))) (Γ.m (w (4*c+2)) (u (eE (e::es) (4*c+2)))))
    (Γ.m (Γ.m (Γ.i (u (4*c+1))) (Γ.m (w (4*c+1)) (u (eE (e::es) (4*c+1))))) (Γ.m (Γ.i (u (4*c))) (Γ.m (w (4*c)) (u (eE (e::es) (4*c)))))))=Γ.o
   rw[hur (4*c+3) oZ,hur (4*c+2) oZ,hur (4*c+1) oZ,hur (4*c) oZ,ND,Np,OO,Nb];have h5:∀z,Γ.m (w (4*c+3)) (Γ.m (w (4*c+2)) (Γ.m (w (4*c+1)) (Γ.m (w (4*c)) z)))=z:=by intro z;have:=congrArg (fun x=>Γ.m x z) h0;simpa only[Γ.asc,Γ.om]using this
   simp only[Γ.asc,Γ.NJ,h5,Γ.im])
 let p:Nat->G:=fun h=>Γ.m (u h) (p1 h)
 have V3:p1 e.2=p1 e.1:=jP hP hp.cF i1 hr;refine⟨p,fun h hh=>?_,fun h hh=>?_⟩
 ·have h1:p1 (fE eB (e::es) h)=p1 h:=by
   show p1 (fE eB es (sw e.1 e.2 h))=p1 h;rw[hp.cF _ (sr i1 i2 hh)];by_cases h1:h=e.1;{rw[h1,Ar,V3]};{by_cases h2:h=e.2;{rw[h2,zM,V3]};{rw[uN h1 h2]}}
  show Γ.m _ _=Γ.m _ _;rw[huf h hh,h1]
 ·by_cases h1:h=e.1
  {rw[h1,yN hd];show w e.1=Γ.m (Γ.m (u e.1) (p1 e.1)) (Γ.i (Γ.m (u e.2) (p1 e.2)));rw[hux,huy,V3,Γ.om,Γ.asc,Γ.mi,Γ.mo]}
  ·by_cases h2:h=e.2
   {rw[h2,Es hd];show w e.2=Γ.m (Γ.m (u e.2) (p1 e.2)) (Γ.i (Γ.m (u e.1) (p1 e.1)));rw[hux,huy,V3,Γ.om,Vw,Γ.Jn,Γ.NJ]}
   ·have h3:=hp.edge h hh
    have h4:w h=Γ.m (u h) (Γ.m (w1 h) (Γ.i (u (eE (e::es) h)))):=by show w h=Γ.m (u h) (Γ.m (Γ.m (Γ.i (u h)) (Γ.m (w h) (u (eE (e::es) h)))) (Γ.i (u (eE (e::es) h))));simp only[Γ.asc,Γ.NJ,Γ.mi,Γ.mo]
    rw[h4,h3,<-qL h1 h2];show _=Γ.m (Γ.m (u h) (p1 h)) (Γ.i (Γ.m (u (eE (e::es) h)) (p1 (eE (e::es) h))));simp only[Γ.asc,Γ.Jn]
end
theorem C6{G:Type}{Γ:Gp G}{n:Nat}:∀{es:List (Nat×Nat)},oW (4*n) es->(ends es).Nodup->uf eB (4*n) es->
  ∀(w:Nat->G)(X:Nat->Prop),yo n es X->rX Γ n es w->(∀c,c<n->¬X c->iU Γ w c)->∃p,KP Γ n es w p
 |[],_,_,_,w,_,_,hw,_=>⟨fun _=>Γ.o,fun _ _=>rfl,fun h hh=>by rw[hw.off h hh rfl,Γ.io,Γ.om]⟩
 |e::es,Vn,hd,Wr,w,X,hX,hw,hv=>by
  obtain⟨h1,h2⟩:=Wr.tail (bT n) Vn;have ih:=C6 (Γ:=Γ) Vn.tail (dH hd).2.2.2 h1
  cases hk:kE eB (4*n) es e.1 e.2
  {exact DI Vn hd hX hw hv ih hk};{exact D4 Vn hd hX hw hv ih (h2 hk)}
def kA(mt:List Int)(h:Nat):Nat×Nat:=(h,gn mt h)
def bM(mt:List Int):List (Nat×Nat):=((List.range mt.length).filter fun h=>decide (h<gn mt h)).map (kA mt)
theorem jH{es:List (Nat×Nat)}{z:Nat}:z∈ends es↔∃e,e∈es/\(z=e.1\/z=e.2):=by
 induction es with
 |nil=>simp[ends]
 |cons e es ih=>
  unfold ends;rw[RV,RV,ih];constructor;{rintro(h|h|⟨e',h1,h2⟩);{exact⟨e,SM ..,.inl h⟩};{exact⟨e,SM ..,.inr h⟩};{exact⟨e',SE _ h1,h2⟩}}
  ·rintro⟨e',h1,h2⟩
   rcases RV.1 h1 with rfl|h1
   {exact h2.elim .inl fun h=> .inr (.inl h)};{exact .inr (.inr ⟨e',h1,h2⟩)}
theorem qG:∀es:List (Nat×Nat),(ends es).length=2*es.length
 |[]=>rfl
 |e::es=>by unfold ends;simp only[SI,qG es];omega
theorem IA:∀{es:List (Nat×Nat)},(ends es).Nodup->∀{e:Nat×Nat},e∈es->eE es e.1=e.2/\eE es e.2=e.1
 |[],_,_,h=>by simp at h
 |f::es,hd,e,h=>by
  rcases RV.1 h with rfl|h
  {exact⟨yN hd,Es hd⟩};{obtain⟨d1,d2,-,d4⟩:=dH hd;have m1:e.1∈ends es:=jH.2 ⟨e,h,.inl rfl⟩;have m2:e.2∈ends es:=jH.2 ⟨e,h,.inr rfl⟩;have ih:=IA d4 h;rw[qL (fun e'=>d1 (e'▸m1)) (fun e'=>d2 (e'▸m1)),qL (fun e'=>d1 (e'▸m2)) (fun e'=>d2 (e'▸m2))];exact ih}
section
variable{mt:List Int}(hI:cP mt)
include hI
theorem i_:oW mt.length (bM mt):=by intro e he;unfold bM at he;rw[So]at he;obtain⟨h,hh,rfl⟩:=he;rw[R3,Rm]at hh;have:=hI.gn hh.1;exact⟨hh.1,this.2.1,fun e=>this.2.2.1 e.symm⟩
theorem jc:(ends (bM mt)).Nodup:=by
 have key:∀l:List Nat,l.Nodup->(∀h,h∈l->h<mt.length/\h<gn mt h)->(ends (l.map (kA mt))).Nodup:=by
  intro l
  induction l with
  |nil=>intro _ _;simp[ends]
  |cons h l ih=>
   intro hd hl;rw[SC]at hd;have h1:=hl h (SM ..);have h1g:=hI.gn h1.1;have VT:∀z,(z=h\/z=gn mt h)->z∉ends (l.map (kA mt)):=by
    intro z hz hm;obtain⟨e,he,h3⟩:=jH.1 hm;rw[So]at he;obtain⟨g,hg,rfl⟩:=he;have h2:=hl g (SE _ hg);have h2g:=hI.gn h2.1;have Vh:g≠h:=by rintro rfl;exact hd.1 hg
    unfold kA at h3;simp only at h3;rcases hz with rfl|rfl<;>rcases h3 with h3|h3
    {exact Vh h3.symm};{have:=h2g.2.2.2;rw[<-h3]at this;omega};{have:=h1g.2.2.2;rw[h3]at this;omega};{exact Vh (dZ hI h2.1 h1.1 h3.symm)}
   rw[Tk];unfold ends;rw[SC,SC,RV,not_or];exact⟨⟨fun e=>h1g.2.2.1 e.symm,VT _ (.inl rfl)⟩,VT _ (.inr rfl),ih hd.2 fun g hg=>hl g (SE _ hg)⟩
 unfold bM;refine key _ (SD.filter _) fun h hh=>?_
 rw[R3,Rm,RE]at hh;exact hh
theorem yE{h:Nat}(hh:h<mt.length):eE (bM mt) h=gn mt h:=by have hg:=hI.gn hh;by_cases Vg:h<gn mt h;{have:=IA (jc hI) (e:=kA mt h) (Sb (R3.2 ⟨Rm.2 hh,by simpa using Vg⟩));exact this.1};{have:=IA (jc hI) (e:=kA mt (gn mt h)) (Sb (R3.2 ⟨Rm.2 hg.2.1,by rw[hg.2.2.2];simp;omega⟩));have h2:=this.2;unfold kA at h2;simp only at h2;rw[hg.2.2.2]at h2;exact h2}
theorem AZ{h:Nat}(hh:h<mt.length):fE eB (bM mt) h=au mt h:=by rw[zk,yE hI hh];rfl
theorem qE{n:Nat}(hn:mt.length=4*n):(bM mt).length=2*n:=by
 have h1:=ru (m:=mt.length) (ends (bM mt)) (jc hI) (fun x hx=>by
  obtain⟨e,he,h⟩:=jH.1 hx;have:=i_ hI e he;rcases h with rfl|rfl
  {exact this.1}
  ·exact this.2.1)
 have h2:cW (fun x=>decide (x∈ends (bM mt))) mt.length=cW (fun _=>true) mt.length:=by
  refine aS fun x hx=>Rj ?_
  have hg:=hI.gn hx;by_cases Vg:x<gn mt x;{exact jH.2 ⟨kA mt x,Sb (R3.2 ⟨Rm.2 hx,by simpa using Vg⟩),.inl rfl⟩};{exact jH.2 ⟨kA mt (gn mt x),Sb (R3.2 ⟨Rm.2 hg.2.1,by rw[hg.2.2.2];simp;omega⟩),.inr hg.2.2.2.symm⟩}
 have h3:∀m,cW (fun _=>true) m=m:=by
  intro m
  induction m with
  |zero=>rfl
  |succ m ih=>rw[aT,ih];simp
 rw[h2,h3,qG]at h1;omega
end
def tS(g:Nat->Nat):Nat->Nat
 |0=>0
 |n+1=>tS g n+g n
theorem s_{g g':Nat->Nat}:∀{n:Nat},(∀r,r<n->g r=g' r)->tS g n=tS g' n
 |0,_=>rfl
 |n+1,h=>by show tS g n+g n=tS g' n+g' n;rw[s_ fun r hr=>h r oZ,h n oZ]
theorem Ck(g g':Nat->Nat):∀n,tS (fun r=>g r+g' r) n=tS g n+tS g' n
 |0=>rfl
 |n+1=>by show tS _ n+(g n+g' n)=(tS g n+g n)+(tS g' n+g' n);rw[Ck g g' n];omega
theorem ye:∀n,tS (fun _=>0) n=0
 |0=>rfl
 |n+1=>by show tS _ n+0=0;rw[ye n]
theorem G'(k:Nat):∀n,tS (fun r=>if k=r then 1 else 0) n=if k<n then 1 else 0
 |0=>rfl
 |n+1=>by show tS _ n+(if k=n then 1 else 0)=_;rw[G' k n];by_cases h1:k<n;{rw[Re h1,Rc oZ,Re oZ]};{by_cases h2:k=n;{rw[Rc h1,Re h2,Re oZ]};{rw[Rc h1,Rc h2,Rc oZ]}}
theorem Cg{P:Nat->Bool}{key:Nat->Nat}{n:Nat}:∀{m:Nat},(∀h,h<m->P h=true->key h<n)->tS (fun r=>cW (fun h=>P h&&decide (key h=r)) m) n=cW P m
 |0,_=>ye n
 |m+1,h=>by
  have e:tS (fun r=>cW (fun h=>P h&&decide (key h=r)) (m+1)) n=tS (fun r=>cW (fun h=>P h&&decide (key h=r)) m+if P m=true then(if key m=r then 1 else 0)else 0) n:=by
   refine s_ fun r _=>?_
   rw[aT];congr 1
   cases hp:P m
   {simp};{by_cases hk:key m=r<;>simp[hk]}
  rw[e,Ck,Cg (fun x hx hp=>h x oZ hp),aT];congr 1
  cases hp:P m
  {simp only[S8,UG];exact ye n};{simp only[if_true];rw[G',Re (h m oZ hp)]}
theorem sE(ls:List Nat)(n:Nat):kS ls n=cW (fun x=>decide (gN ls x=x)) n:=by unfold kS cW;congr 1
theorem IP{q:Nat->Bool}:∀n,tS (fun r=>if q r=true then 2 else 0) n=2*cW q n
 |0=>rfl
 |n+1=>by show tS _ n+(if q n=true then 2 else 0)=_;rw[IP n,aT];split<;>omega
section
variable{sg mt:List Int}{L:Int}(hd:cJ sg mt L)
include hd
theorem jJ:cW (a_ (au mt) mt.length) mt.length=sg.length+2*av mt sg.length sg.length:=by
 obtain⟨_,hn,_,_,_,hI,_,hS⟩:=hd;have hs:=(rK hI hn).1 hS;have Zu:∀c,c<sg.length->aA mt sg.length c<sg.length/\aA mt sg.length (aA mt sg.length c)=aA mt sg.length c:=fun c hc=>⟨(df hI hn hc).2.2,jg hI hn hc⟩
 have h1:=Cg (P:=a_ (au mt) mt.length) (key:=fun h=>aA mt sg.length (h/4)) (n:=sg.length) (m:=mt.length) (fun h hh _=>(Zu _ oZ).1);have h2:=Cg (P:=fun _=>true) (key:=fun c=>aA mt sg.length c) (n:=sg.length) (m:=sg.length) (fun c hc _=>(Zu _ hc).1);have h3:∀m,cW (fun _=>true) m=m:=by
  intro m
  induction m with
  |zero=>rfl
  |succ m ih=>rw[aT,ih];simp
 rw[h3]at h2
 have h4:tS (fun r=>cW (fun h=>a_ (au mt) mt.length h&&decide (aA mt sg.length (h/4)=r)) mt.length) sg.length=
   tS (fun r=>cW (fun c=>true&&decide (aA mt sg.length c=r)) sg.length+(if decide (gN (eH mt sg.length) r=r)=true then 2 else 0)) sg.length:=by
  refine s_ fun r hr=>?_
  by_cases hl:aA mt sg.length r=r;{rw[Re (Rj (p:=gN (eH mt sg.length) r=r) hl)];simp only[Bool.true_and];exact hs r hr hl}
  ·rw[Rc (by rw[RE];exact hl)]
   have z1:cW (fun h=>a_ (au mt) mt.length h&&decide (aA mt sg.length (h/4)=r)) mt.length=cW (fun _=>false) mt.length:=by
    refine aS fun h hh=>?_
    rw[Bool.and_eq_false_iff];exact .inr (Rl fun e=>hl (by rw[<-e];exact(Zu _ oZ).2))
   have z2:cW (fun c=>true&&decide (aA mt sg.length c=r)) sg.length=cW (fun _=>false) sg.length:=by
    refine aS fun c hc=>?_
    rw[Bool.and_eq_false_iff];exact .inr (Rl fun e=>hl (by rw[<-e];exact(Zu _ hc).2))
   rw[z1,z2,eD,eD]
 rw[Ck,IP,h1,h2]at h4;rw[h4];unfold av;rw[sE]
end
theorem pD{P:Nat->Bool}{q:Nat->Bool}:∀{n:Nat},(∀c,c<n->P (4*c)=q c/\P (4*c+1)=false/\P (4*c+2)=false/\P (4*c+3)=false)->cW P (4*n)=cW q n
 |0,_=>rfl
 |n+1,h=>by obtain⟨h0,h1,h2,h3⟩:=h n oZ;rw[show 4*(n+1)=4*n+1+1+1+1 by omega,aT,aT,aT,aT,pD fun c hc=>h c oZ,aT,h0,h1,show P (4*n+1+1)=false from h2,show P (4*n+1+1+1)=false from h3];simp
theorem fI{r:Nat->Nat->Bool}{n:Nat}(hr:∀c s,c<n->s<4->r (4*c) (4*c+s)=true){c s:Nat}(hc:c<n)(hs:s<4)(h0:0<s):fg r (4*c+s)=false:=by
 rw[Sf];intro h;have:=bY.1 h (4*c) oZ;rw[hr c s hc hs]at this
 cases this
theorem zo(n:Nat):dw (rc eB (4*n)) (4*n)=n:=by
 have hP:=bT n;have Vn:oW (4*n) []:=fun e he=>by simp at he
 have hr:∀c s,c<n->s<4->rc eB (4*n) (4*c) (4*c+s)=true:=fun c s hc hs=>kD (es:=[]) Vn hc hs
 have hq:∀z k,it eB k z/4=z/4:=by
  intro z k
  induction k with
  |zero=>rfl
  |succ k ih=>show ae (it eB k z) 3/4=_;rw[af,ih]
 have h3:∀m,cW (fun _=>true) m=m:=by
  intro m
  induction m with
  |zero=>rfl
  |succ m ih=>rw[aT,ih];simp
 unfold dw;rw[pD (q:=fun _=>true),h3];intro c hc;refine⟨bY.2 fun y hy=>?_,fI hr hc oZ oZ,fI hr hc oZ oZ,fI hr hc oZ oZ⟩;rw[Sf];intro h;obtain⟨k,hk⟩:=(dY hP oZ).1 h;have:=hq y k;rw[hk]at this;omega
theorem IB{a:Nat->Nat}{N:Nat}(hP:aO a N){r:Nat->Nat->Bool}(hE:uy r N)(hr:∀x,x<N->r x (a x)=true):∀{es:List (Nat×Nat)},oW N es->(∀e,e∈es->r e.1 e.2=true)->∀{z w:Nat},z<N->w<N->kE a N es z w=true->r z w=true
 |[],_,_,_,_,hz,_,h=>Ci hP hE hr hz h
 |e::es,Vn,Zx,z,w,hz,hw,h=>by
  obtain⟨i1,i2,-⟩:=Vn.head;have h0:=Zx e (SM ..);have ih:=fun{z w:Nat}=>IB hP hE hr (es:=es) Vn.tail (fun e he=>Zx e (SE _ he)) (z:=z) (w:=w)
  rcases cD.1 h with h1|⟨h1,h2⟩|⟨h1,h2⟩
  {exact ih hz hw h1};{exact hE.tr _ _ _ hz i1 hw (ih hz i1 h1) (hE.tr _ _ _ i1 i2 hw h0 (ih i2 hw h2))};{exact hE.tr _ _ _ hz i2 hw (ih hz i2 h1) (hE.tr _ _ _ i2 i1 hw (hE.sym _ _ i1 i2 h0) (ih i1 hw h2))}
section
variable{mt:List Int}(hI:cP mt){n:Nat}(hn:mt.length=4*n)
include hI hn
omit hI hn in
theorem JH:uy (fun x y=>decide (aA mt n (x/4)=aA mt n (y/4))) mt.length:=
 ⟨fun _ _=>Rj rfl,fun _ _ _ _ h=>Rj (RU h).symm,fun _ _ _ _ _ _ h1 h2=>Rj ((RU h1).trans (RU h2))⟩
theorem LS{x y:Nat}(hx:x<mt.length)(hy:y<mt.length):kE eB mt.length (bM mt) x y=true↔aA mt n (x/4)=aA mt n (y/4):=by
 have hP:aO eB mt.length:=by rw[hn];exact bT n
 have Vn:=i_ hI;have hE:=gJ hP _ Vn;constructor
 ·intro h
  have:=IB hP JH (fun x _=>Rj (by unfold eB;rw[af])) Vn (fun e he=>Rj (by
   unfold bM at he;rw[So]at he;obtain⟨g,hg,rfl⟩:=he;rw[R3,Rm]at hg;exact oP hI hn hg.1)) hx hy h
  exact RU this
 ·intro h
  have key:∀{c d},Cn mt c d->c<n->kE eB mt.length (bM mt) (4*c) (4*d)=true:=by
   intro c d YR
   induction YR with
   |refl=>intro hc;exact hE.rfl_ _ oZ
   |@step d h YR hl he ih=>
    intro hc;have i1:=ih hc;have hg:=hI.gn hl;have i2:=qR hP _ Vn h hl;rw[yE hI hl]at i2;have i3:kE eB mt.length (bM mt) (4*d) h=true:=by rw[show h=4*d+h%4 by omega,hn];exact kD (by rw[<-hn];exact Vn) oZ oZ
    have i4:kE eB mt.length (bM mt) (4*(gn mt h/4)) (gn mt h)=true:=by
     conv=>lhs;rw[show gn mt h=4*(gn mt h/4)+gn mt h%4 by omega]
     rw[hn];have:=kD (n:=n) (es:=bM mt) (by rw[<-hn];exact Vn) (c:=gn mt h/4) oZ (s:=gn mt h%4) oZ;rwa [show 4*((4*(gn mt h/4)+gn mt h%4)/4)=4*(gn mt h/4) by omega]
    exact hE.tr _ _ _ oZ hl oZ (hE.tr _ _ _ oZ oZ hl i1 i3) (hE.tr _ _ _ hl hg.2.1 oZ i2 (hE.sym _ _ oZ hg.2.1 i4))
  have hc:=key (kL hI hn (c:=x/4) (d:=y/4) oZ oZ h) oZ;have i3:∀z,z<mt.length->kE eB mt.length (bM mt) (4*(z/4)) z=true:=by intro z hz;have:=kD (n:=n) (es:=bM mt) (by rw[<-hn];exact Vn) (c:=z/4) oZ (s:=z%4) oZ;rw[hn];rwa [show 4*(z/4)+z%4=z by omega]at this
  exact hE.tr _ _ _ hx oZ hy (hE.sym _ _ oZ hx (i3 x hx)) (hE.tr _ _ _ oZ oZ hy hc (i3 y hy))
theorem CG:dw (kE eB mt.length (bM mt)) mt.length=av mt n n:=by
 unfold av;rw[sE];unfold dw;rw[hn];have hr:∀c s,c<n->s<4->kE eB (4*n) (bM mt) (4*c) (4*c+s)=true:=fun c s hc hs=>kD (by rw[<-hn];exact i_ hI) hc hs
 have hl:=fun{x y:Nat}=>LS hI hn (x:=x) (y:=y)
 rw[hn]at hl;refine pD fun c hc=>⟨?_,fI hr hc oZ oZ,fI hr hc oZ oZ,fI hr hc oZ oZ⟩
 rw[R_,bY,RE];constructor
 ·intro h
  have h1:=sR hI hn hc;rcases Sl h1 with h2|h2
  {have h3:=h (4*gN (eH mt n) c) oZ;rw[Sf]at h3;refine absurd (hl oZ oZ|>.2 ?_) h3;rw[show 4*gN (eH mt n) c/4=gN (eH mt n) c by omega,show 4*c/4=c by omega];exact jg hI hn hc};{exact h2}
 {intro h y hy;rw[Sf];intro h1;have h2:=(hl oZ oZ).1 h1;rw[show 4*c/4=c by omega]at h2;have h3:=sR hI hn (c:=y/4) oZ;have h4:gN (eH mt n) (y/4)=c:=h2.trans h;omega}
end
section
variable{sg mt:List Int}{L:Int}(hd:cJ sg mt L)
include hd
theorem uJ:uf eB mt.length (bM mt):=by
 have he:=jJ hd;obtain⟨_,hn,_,_,_,hI,_,_⟩:=hd;have hP:aO eB mt.length:=by rw[hn];exact bT _
 have hF:=aU hI hn;unfold uf;have h1:dw (rc (fE eB (bM mt)) mt.length) mt.length=dw (rc (au mt) mt.length) mt.length:=by
  refine iT fun x y hx hy=>?_
  have hk:∀k,it (fE eB (bM mt)) k x=it (au mt) k x:=by
   intro k
   induction k with
   |zero=>rfl
   |succ k ih=>show fE eB (bM mt) _=au mt _;rw[ih,AZ hI (hF.bL k hx)]
  rw[R_,dY (jd hP _ (i_ hI)) hx,dY hF hx];exact⟨fun⟨k,h⟩=>⟨k,by rw[<-hk];exact h⟩,fun⟨k,h⟩=>⟨k,by rw[hk];exact h⟩⟩
 have h2:=zo sg.length;rw[<-hn]at h2;rw[h1,CI hF,he,h2,qE hI hn,CG hI hn];omega
theorem DS{G:Type}(Γ:Gp G)(w:Nat->G)(ha:∀h,h<mt.length->w (gn mt h)=Γ.i (w h))(hv:∀c,c<sg.length->iU Γ w c):
  ∃p:Nat->G,(∀h,h<mt.length->p (au mt h)=p h)/\∀h,h<mt.length->w h=Γ.m (p h) (Γ.i (p (gn mt h))):=by
 have Wr:=uJ hd;obtain⟨_,hn,_,_,_,hI,_,_⟩:=hd;rw[hn]at Wr;have Vn:=i_ hI;rw[hn]at Vn;obtain⟨p,hp⟩:=C6 (Γ:=Γ) Vn (jc hI) Wr w (fun _=>False) (fun _ _ _ _ h=>h.elim) ⟨fun h hh=>by
  rw[yE hI oZ];exact ha h oZ,fun h hh he=>by
  rw[yE hI oZ]at he;exact absurd he (hI.gn oZ).2.2.1⟩ (fun c hc _=>hv c hc)
 refine⟨p,fun h hh=>?_,fun h hh=>?_⟩;{rw[<-AZ hI hh];exact hp.cF h oZ};{rw[hp.edge h oZ,yE hI hh]}
end
def QG:Gp Int:=⟨fun a b=>a+b,0,fun a=> -a,Int.add_assoc,UO,R6,Int.add_left_neg,Int.add_right_neg⟩
theorem numbering{sg mt:List Int}{L:Int}(hd:cJ sg mt L):∃p:Nat->Int,(∀h,h<mt.length->p (au mt h)=p h)/\∀h,h<mt.length->p h-p (gn mt h)=if ai sg h=true then 1 else-1:=by
 obtain⟨p,h1,h2⟩:=DS hd QG (fun h=>if ai sg h=true then 1 else-1) (fun h hh=>by
  have:=hd.2.2.2.2.2.2.1 h hh;revert this
  cases ai sg h<;>cases ai sg (gn mt h)<;>simp[QG]) (fun c hc=>by
  unfold iU;have h0:ai sg (4*c)=false:=by unfold ai;rw[Rc oZ,Rc oZ,Rc oZ]
  have h1:ai sg (4*c+1)=(gi sg c==1):=by unfold ai;rw[Re oZ,show(4*c+1)/4=c by omega]
  have h2:ai sg (4*c+2)=true:=by unfold ai;rw[Rc oZ,Re oZ]
  have h3:ai sg (4*c+3)=(gi sg c== -1):=by unfold ai;rw[Rc oZ,Rc oZ,Re oZ,show(4*c+3)/4=c by omega]
  simp only[h0,h1,h2,h3];rcases hd.2.2.2.2.1 c hc with e|e<;>rw[e]<;>decide)
 refine⟨p,h1,fun h hh=>?_⟩;rw[h2 h hh];show p h-p (gn mt h)=p h+ -p (gn mt h);omega
theorem vn{sg mt:List Int}{L:Int}(hd:cJ sg mt L){h:Nat}(hh:h<mt.length):gn mt h∉bJ (au mt) mt.length h:=by obtain⟨p,h1,h2⟩:=numbering hd;intro hm;have hF:=aU hd.2.2.2.2.2.1 hd.2.1;have e:p (gn mt h)=p h:=jP hF h1 hh (Rj hm);have:=h2 h hh;rw[e]at this;split at this<;>omega
open Go.RowKit
theorem yG(a:Nat)(ha:a<18446744073709551616):bits .and .u64 (a:Int) 4294967295=((a%4294967296:Nat):Int):=by have h:=bits_and_u64_nat a 4294967295 ha oZ;have e:a&&&4294967295=a%4294967296:=Nat.and_two_pow_sub_one_eq_mod a 32;rw[e]at h;exact h
theorem PF(a:Nat):(a:Int)/4294967296=((a/4294967296:Nat):Int):=oZ
theorem xm(a b:Nat):(a:Int)*(b:Int)=((a*b:Nat):Int):=(T' a b).symm
theorem II(a b:Nat):(a:Int)+(b:Int)=((a+b:Nat):Int):=(Int.natCast_add a b).symm
theorem bN(a:Nat)(ha:a<18446744073709551616):IntKind.u64.wrap (a:Int)=(a:Int):=by rw[St];omega
theorem Lu(a:Nat):IntKind.u64.wrap (a:Int)=((a%18446744073709551616:Nat):Int):=by rw[St];omega
theorem vp(x y:Nat)(hx:x<18446744073709551616)(hy:y<18446744073709551616)(w:World):
  Calls Tryz.prog 118 #[.int .u64 x,.int .u64 y] w fun e w'=>e= .returned (.tuple #[.int .u64 ((x*y/18446744073709551616:Nat):Int),.int .u64 ((x*y%18446744073709551616:Nat):Int)])/\w=w':=by
 obtain⟨bd,bt,bw,hhi⟩:=Lib.mul64_hi x y hx hy;have ba:=Lib.half_mul_le (a:=x/4294967296) (b:=y/4294967296) oZ oZ;have bb:=Lib.half_mul_le (a:=x/4294967296) (b:=y%4294967296) oZ oZ;have bc:=Lib.half_mul_le (a:=x%4294967296) (b:=y/4294967296) oZ oZ;have ba':x/4294967296*(y/4294967296)<18446744073709551616:=oZ;have bb':x/4294967296*(y%4294967296)<18446744073709551616:=oZ;have bc':x%4294967296*(y/4294967296)<18446744073709551616:=oZ;have bh1:x/4294967296*(y/4294967296)+(x/4294967296*(y%4294967296)+x%4294967296*(y%4294967296)/4294967296)/4294967296<18446744073709551616:=oZ;have bh:x/4294967296*(y/4294967296)+(x/4294967296*(y%4294967296)+x%4294967296*(y%4294967296)/4294967296)/4294967296+((x/4294967296*(y%4294967296)+x%4294967296*(y%4294967296)/4294967296)%4294967296+x%4294967296*(y/4294967296))/4294967296<18446744073709551616:=oZ;go_enter Tryz.func118,Tryz.ntmps118
 go_wp2;simp only[yG x hx,yG y hy,PF,xm,II,bN _ bd,bN _ bb',bN _ bt,yG _ bt,bN _ bc',bN _ bw,bN _ ba',bN _ bh1,bN _ bh,Lu (x*y)];rw[hhi];go_ret2;exact⟨rfl,rfl⟩
def Om(x n:Nat):Prop:=n<=64/\x<2^n/\(x≠0->1<=n/\2^(n-1)<=x)
def f_:ByteArray:=⟨#[0,1,2,2,3,3,3,3,4,4,4,4,4,4,4,4,5,5,5,5,5,5,5,5,5,5,5,5,5,5,5,5,6,6,6,6,6,6,6,6,6,6,6,6,6,6,6,6,6,6,6,6,6,6,6,6,6,6,6,6,6,6,6,6,7,7,7,7,7,7,7,7,7,7,7,7,7,7,7,7,7,7,7,7,7,7,7,7,7,7,7,7,7,7,7,7,7,7,7,7,7,7,7,7,7,7,7,7,7,7,7,7,7,7,7,7,7,7,7,7,7,7,7,7,7,7,7,7,8,8,8,8,8,8,8,8,8,8,8,8,8,8,8,8,8,8,8,8,8,8,8,8,8,8,8,8,8,8,8,8,8,8,8,8,8,8,8,8,8,8,8,8,8,8,8,8,8,8,8,8,8,8,8,8,8,8,8,8,8,8,8,8,8,8,8,8,8,8,8,8,8,8,8,8,8,8,8,8,8,8,8,8,8,8,8,8,8,8,8,8,8,8,8,8,8,8,8,8,8,8,8,8,8,8,8,8,8,8,8,8,8,8,8,8,8,8,8,8,8,8,8,8,8,8,8,8]⟩
theorem cQ:∀x,(h:x<256)->(f_[x]'h).toNat<=8/\x<2^(f_[x]'h).toNat/\(x≠0->1<=(f_[x]'h).toNat/\2^((f_[x]'h).toNat-1)<=x):=by decide+kernel
theorem eV(t:Int)(h0:0<=t)(h:t<=1000):wrap64 t=t:=by unfold wrap64;omega
theorem DL(x:Nat)(w:World)(g1:decide ((4294967296:Int)<=x)=false)(g2:decide ((65536:Int)<=x)=false)(g3:decide ((256:Int)<=x)=false)(h:x<256):
  Calls Tryz.prog 121 #[.int .u64 x] w fun e w'=>e= .returned (.int .i64 ((0+(f_[x]'h).toNat:Nat):Int))/\w=w':=by
 have ht:=(cQ x h).1;go_enter Tryz.func121,Tryz.ntmps121
 go_wp2_with fail;go_ret;refine⟨cE ?_,rfl⟩;show wrap64 (wrap64 ((f_[x]'h).toNat:Int))=_;rw[eV ((f_[x]'h).toNat:Int) oZ oZ,eV _ oZ oZ];omega
theorem EL(x x3:Nat)(w:World)(g1:decide ((4294967296:Int)<=x)=false)(g2:decide ((65536:Int)<=x)=false)(g3:decide ((256:Int)<=x)=true)(e3:(x:Int)/256=x3)(h:x3<256):
  Calls Tryz.prog 121 #[.int .u64 x] w fun e w'=>e= .returned (.int .i64 ((8+(f_[x3]'h).toNat:Nat):Int))/\w=w':=by
 have ht:=(cQ x3 h).1;go_enter Tryz.func121,Tryz.ntmps121
 go_wp2_with fail;go_ret;refine⟨cE ?_,rfl⟩;show wrap64 (8+wrap64 ((f_[x3]'h).toNat:Int))=_;rw[eV ((f_[x3]'h).toNat:Int) oZ oZ,eV _ oZ oZ];omega
theorem Ez(x x2:Nat)(w:World)(g1:decide ((4294967296:Int)<=x)=false)(g2:decide ((65536:Int)<=x)=true)(e2:(x:Int)/65536=x2)(g3:decide ((256:Int)<=x2)=false)(h:x2<256):
  Calls Tryz.prog 121 #[.int .u64 x] w fun e w'=>e= .returned (.int .i64 ((16+(f_[x2]'h).toNat:Nat):Int))/\w=w':=by
 have ht:=(cQ x2 h).1;go_enter Tryz.func121,Tryz.ntmps121
 go_wp2_with fail;go_ret;refine⟨cE ?_,rfl⟩;show wrap64 (16+wrap64 ((f_[x2]'h).toNat:Int))=_;rw[eV ((f_[x2]'h).toNat:Int) oZ oZ,eV _ oZ oZ];omega
theorem Et(x x2 x3:Nat)(w:World)(g1:decide ((4294967296:Int)<=x)=false)(g2:decide ((65536:Int)<=x)=true)(e2:(x:Int)/65536=x2)(g3:decide ((256:Int)<=x2)=true)(e3:(x2:Int)/256=x3)(h:x3<256):
  Calls Tryz.prog 121 #[.int .u64 x] w fun e w'=>e= .returned (.int .i64 ((24+(f_[x3]'h).toNat:Nat):Int))/\w=w':=by
 have ht:=(cQ x3 h).1;go_enter Tryz.func121,Tryz.ntmps121
 go_wp2_with fail;go_ret;refine⟨cE ?_,rfl⟩;show wrap64 (24+wrap64 ((f_[x3]'h).toNat:Int))=_;rw[eV ((f_[x3]'h).toNat:Int) oZ oZ,eV _ oZ oZ];omega
theorem Dy(x x1:Nat)(w:World)(g1:decide ((4294967296:Int)<=x)=true)(e1:(x:Int)/4294967296=x1)(g2:decide ((65536:Int)<=x1)=false)(g3:decide ((256:Int)<=x1)=false)(h:x1<256):
  Calls Tryz.prog 121 #[.int .u64 x] w fun e w'=>e= .returned (.int .i64 ((32+(f_[x1]'h).toNat:Nat):Int))/\w=w':=by
 have ht:=(cQ x1 h).1;go_enter Tryz.func121,Tryz.ntmps121
 go_wp2_with fail;go_ret;refine⟨cE ?_,rfl⟩;show wrap64 (32+wrap64 ((f_[x1]'h).toNat:Int))=_;rw[eV ((f_[x1]'h).toNat:Int) oZ oZ,eV _ oZ oZ];omega
theorem Er(x x1 x3:Nat)(w:World)(g1:decide ((4294967296:Int)<=x)=true)(e1:(x:Int)/4294967296=x1)(g2:decide ((65536:Int)<=x1)=false)(g3:decide ((256:Int)<=x1)=true)(e3:(x1:Int)/256=x3)(h:x3<256):
  Calls Tryz.prog 121 #[.int .u64 x] w fun e w'=>e= .returned (.int .i64 ((40+(f_[x3]'h).toNat:Nat):Int))/\w=w':=by
 have ht:=(cQ x3 h).1;go_enter Tryz.func121,Tryz.ntmps121
 go_wp2_with fail;go_ret;refine⟨cE ?_,rfl⟩;show wrap64 (40+wrap64 ((f_[x3]'h).toNat:Int))=_;rw[eV ((f_[x3]'h).toNat:Int) oZ oZ,eV _ oZ oZ];omega
theorem Eb(x x1 x2:Nat)(w:World)(g1:decide ((4294967296:Int)<=x)=true)(e1:(x:Int)/4294967296=x1)(g2:decide ((65536:Int)<=x1)=true)(e2:(x1:Int)/65536=x2)(g3:decide ((256:Int)<=x2)=false)(h:x2<256):
  Calls Tryz.prog 121 #[.int .u64 x] w fun e w'=>e= .returned (.int .i64 ((48+(f_[x2]'h).toNat:Nat):Int))/\w=w':=by
 have ht:=(cQ x2 h).1;go_enter Tryz.func121,Tryz.ntmps121
 go_wp2_with fail;go_ret;refine⟨cE ?_,rfl⟩;show wrap64 (48+wrap64 ((f_[x2]'h).toNat:Int))=_;rw[eV ((f_[x2]'h).toNat:Int) oZ oZ,eV _ oZ oZ];omega
theorem DY(x x1 x2 x3:Nat)(w:World)(g1:decide ((4294967296:Int)<=x)=true)(e1:(x:Int)/4294967296=x1)(g2:decide ((65536:Int)<=x1)=true)(e2:(x1:Int)/65536=x2)(g3:decide ((256:Int)<=x2)=true)(e3:(x2:Int)/256=x3)(h:x3<256):
  Calls Tryz.prog 121 #[.int .u64 x] w fun e w'=>e= .returned (.int .i64 ((56+(f_[x3]'h).toNat:Nat):Int))/\w=w':=by
 have ht:=(cQ x3 h).1;go_enter Tryz.func121,Tryz.ntmps121
 go_wp2_with fail;go_ret;refine⟨cE ?_,rfl⟩;show wrap64 (56+wrap64 ((f_[x3]'h).toNat:Int))=_;rw[eV ((f_[x3]'h).toNat:Int) oZ oZ,eV _ oZ oZ];omega
theorem mM{x y k n:Nat}(hk:y=x/2^k)(h1:y<2^n)(h2:y≠0->1<=n/\2^(n-1)<=y)(h0:2^k<=x)(hn:k+n<=64):Om x (k+n):=by
 have hp:0<2^k:=UI oQ;have hy:y≠0:=by rw[hk];have:=Nat.div_pos h0 hp;omega
 obtain⟨a,b⟩:=h2 hy;have hmul:=Tt x (2^k);have Vg:=RY x hp;rw[<-hk]at hmul;refine⟨hn,?_,fun _=>⟨oZ,?_⟩⟩;{rw[Tz];have:2^k*(y+1)<=2^k*2^n:=Tu _ h1;rw[Va]at this;omega};{rw[show k+n-1=k+(n-1) by omega,Tz];have:=Tu (2^k) b;omega}
theorem DP(x:Nat)(hx:x<18446744073709551616)(w:World):Calls Tryz.prog 121 #[.int .u64 x] w fun e w'=>∃n:Nat,e= .returned (.int .i64 n)/\Om x n/\w=w':=by
 by_cases h1:4294967296<=x;{by_cases h2:65536<=(x/4294967296);{by_cases h3:256<=((x/4294967296)/65536);{have ht:=cQ (((x/4294967296)/65536)/256) oZ;refine(DY x (x/4294967296) ((x/4294967296)/65536) (((x/4294967296)/65536)/256) w (Rj oZ) oZ (Rj oZ) oZ (Rj oZ) oZ oZ).mono ?_;rintro e w' ⟨rfl,rfl⟩;exact⟨_,rfl,mM (k:=56) (y:=(((x/4294967296)/65536)/256)) oZ ht.2.1 ht.2.2 oZ oZ,rfl⟩};{have ht:=cQ ((x/4294967296)/65536) oZ;refine(Eb x (x/4294967296) ((x/4294967296)/65536) w (Rj oZ) oZ (Rj oZ) oZ (Rl oZ) oZ).mono ?_;rintro e w' ⟨rfl,rfl⟩;exact⟨_,rfl,mM (k:=48) (y:=((x/4294967296)/65536)) oZ ht.2.1 ht.2.2 oZ oZ,rfl⟩}};{by_cases h3:256<=(x/4294967296);{have ht:=cQ ((x/4294967296)/256) oZ;refine(Er x (x/4294967296) ((x/4294967296)/256) w (Rj oZ) oZ (Rl oZ) (Rj oZ) oZ oZ).mono ?_;rintro e w' ⟨rfl,rfl⟩;exact⟨_,rfl,mM (k:=40) (y:=((x/4294967296)/256)) oZ ht.2.1 ht.2.2 oZ oZ,rfl⟩};{have ht:=cQ (x/4294967296) oZ;refine(Dy x (x/4294967296) w (Rj oZ) oZ (Rl oZ) (Rl oZ) oZ).mono ?_;rintro e w' ⟨rfl,rfl⟩;exact⟨_,rfl,mM (k:=32) (y:=(x/4294967296)) oZ ht.2.1 ht.2.2 oZ oZ,rfl⟩}}}
 {by_cases h2:65536<=x;{by_cases h3:256<=(x/65536);{have ht:=cQ ((x/65536)/256) oZ;refine(Et x (x/65536) ((x/65536)/256) w (Rl oZ) (Rj oZ) oZ (Rj oZ) oZ oZ).mono ?_;rintro e w' ⟨rfl,rfl⟩;exact⟨_,rfl,mM (k:=24) (y:=((x/65536)/256)) oZ ht.2.1 ht.2.2 oZ oZ,rfl⟩};{have ht:=cQ (x/65536) oZ;refine(Ez x (x/65536) w (Rl oZ) (Rj oZ) oZ (Rl oZ) oZ).mono ?_;rintro e w' ⟨rfl,rfl⟩;exact⟨_,rfl,mM (k:=16) (y:=(x/65536)) oZ ht.2.1 ht.2.2 oZ oZ,rfl⟩}};{by_cases h3:256<=x;{have ht:=cQ (x/256) oZ;refine(EL x (x/256) w (Rl oZ) (Rl oZ) (Rj oZ) oZ oZ).mono ?_;rintro e w' ⟨rfl,rfl⟩;exact⟨_,rfl,mM (k:=8) (y:=(x/256)) oZ ht.2.1 ht.2.2 oZ oZ,rfl⟩};{have ht:=cQ x oZ;refine(DL x w (Rl oZ) (Rl oZ) (Rl oZ) oZ).mono ?_;rintro e w' ⟨rfl,rfl⟩;exact⟨_,rfl,⟨oZ,by rw[Sr];exact ht.2.1,fun h=>by rw[Sr];exact ht.2.2 h⟩,rfl⟩}}}
theorem Ik(x:Nat)(hx:x<18446744073709551616)(h0:x≠0)(w:World):Calls Tryz.prog 119 #[.int .u64 x] w fun e w'=>∃s:Nat,e= .returned (.int .i64 s)/\s<=63/\x*2^s<18446744073709551616/\9223372036854775808<=x*2^s/\w=w':=by
 have HX:=Rb hx;have H0:=Rb h0;clear hx h0;go_enter Tryz.func119,Tryz.ntmps119
 go_wp2_with fail;refine(DP x HX.out w).mono ?_;rintro e w1 ⟨n,rfl,⟨h1,h2,h3⟩,rfl⟩;obtain⟨a,b⟩:=h3 H0.out;have hp:2^n*2^(64-n)=18446744073709551616:=by rw[<-Tz,show n+(64-n)=64 by omega]
 have Wt:2^(n-1)*2^(64-n)=9223372036854775808:=by rw[<-Tz,show n-1+(64-n)=63 by omega]
 have h4:x*2^(64-n)<18446744073709551616:=by rw[<-hp];exact Nat.mul_lt_mul_of_pos_right h2 (UI oQ)
 have h5:9223372036854775808<=x*2^(64-n):=by rw[<-Wt];exact To _ b
 have H4:=Rb h4;have H5:=Rb h5;clear hp Wt h4 h5 h2 b;go_wp2_with fail;go_ret;exact⟨64-n,cE oZ,oZ,H4.out,H5.out,rfl⟩
section
variable{Y a b u v q r:Nat}(hY:a*4294967296+b=Y)(ha:2147483648<=a)(Wo:a<4294967296)(hb:b<4294967296)(hu:u<Y)(hv:v<4294967296)
include hY ha Wo hb hu hv
omit hY ha Wo hb in
theorem wI(hY0:0<Y):(u*4294967296+v)/Y<4294967296:=by rw[TD hY0];have:4294967296*(u+1)<=4294967296*Y:=Tu _ hu;rw[Va]at this;omega
omit ha Wo hb hu hv in
theorem vH(hq:q*a+r=u):q*Y=(u-r)*4294967296+q*b:=by rw[<-hY,Nat.mul_add,<-Tl,show q*a=u-r by omega]
theorem qf:(u*4294967296+v)/Y<=u/a/\u/a<=4294967297/\u/a*a+u%a=u/\u%a<4294967296:=by
 have h1:=Nat.div_mul_le_self (u*4294967296+v) Y;refine⟨?_,?_,?_,?_⟩
 ·rw[Nat.le_div_iff_mul_le oZ]
  obtain⟨Q,hQ⟩:∃Q,(u*4294967296+v)/Y=Q:=⟨_,rfl⟩
  rw[hQ]at h1⊢;rw[<-hY,Nat.mul_add,<-Tl]at h1;omega
 ·rcases SN (u/a) 4294967298 with h|h
  {omega};{have h2:=Nat.div_mul_le_self u a;have h3:=To a h;omega}
 {rw[SP];exact Tt u a};{have:=RY u (show 0<a by omega);omega}
omit ha Wo hb in
theorem kl(hq:q*a+r=u)(h:4294967296<=q\/4294967296*r+v<q*b):(u*4294967296+v)/Y<q:=by
 rcases h with h|h
 {have:=wI hu hv (show 0<Y by omega);omega}
 ·rw[TD oZ,vH hY hq]
  have hr:r<=u:=by have:=Rv (q*a);omega
  omega
omit ha Wo hb hv in
theorem nj(hq:q*a+r=u)(hQ:(u*4294967296+v)/Y<=q)(h:q*b<=4294967296*r+v):q=(u*4294967296+v)/Y:=by
 refine T_ ?_ hQ;rw[Nat.le_div_iff_mul_le oZ,vH hY hq];have hr:r<=u:=by have:=Rv (q*a);omega
 omega
omit ha Wo in
theorem jr(hq:q*a+r=u)(hQ:(u*4294967296+v)/Y<=q)(h:4294967296<=r)(WG:q<=4294967296):q=(u*4294967296+v)/Y:=by refine nj hY hu hq hQ ?_;have h1:q*b<=4294967296*b:=To _ WG;omega
omit hY ha Wo hb hv in
theorem rZ:u*4294967296+v=(u*4294967296+v)/Y*Y+(u*4294967296+v)%Y/\(u*4294967296+v)%Y<Y:=by refine⟨?_,RY _ oZ⟩;rw[SP _ Y];exact(Tt _ _).symm
end
theorem E7{hi lo s y Y:Nat}(hs:s<=63)(Yp:lo<18446744073709551616)(hY:y*2^s=Y)(Vg:hi<y)(hYl:Y<18446744073709551616):
  hi*2^s<18446744073709551616/\lo/2^(64-s)<2^s/\hi*2^s+lo/2^(64-s)<Y/\(hi*2^s|||lo/2^(64-s))=hi*2^s+lo/2^(64-s)/\
  (hi*18446744073709551616+lo)*2^s=(hi*2^s+lo/2^(64-s))*18446744073709551616+lo*2^s%18446744073709551616:=by
 have hp:2^(64-s)*2^s=18446744073709551616:=by rw[<-Tz,show 64-s+s=64 by omega]
 have Yq:0<2^s:=UI oQ;have Wr:0<2^(64-s):=UI oQ;have hl:lo/2^(64-s)<2^s:=by rw[TD Wr,SP,hp];exact Yp
 have hh:(hi+1)*2^s<=y*2^s:=To _ Vg;rw[Ug]at hh;refine⟨oZ,hl,oZ,?_,?_⟩;{have:=Nat.two_pow_add_eq_or_of_lt hl hi;rw[SP]at this;exact this.symm}
 ·have hd:=Tt lo (2^(64-s))
  have hm:=RY lo Wr;generalize lo/2^(64-s)=l at*;generalize lo%2^(64-s)=t at*;have e1:lo*2^s=l*18446744073709551616+t*2^s:=by rw[<-hd,U3,SP (2^(64-s)) l,Tl,hp]
  have e2:t*2^s<18446744073709551616:=by rw[<-hp];exact Nat.mul_lt_mul_of_pos_right hm Yq
  rw[e1,Uw (l*18446744073709551616),Nat.add_mul_mod_self_right,TV e2,U3,e1,U3];rw[Nat.mul_right_comm hi];omega
theorem Jq{hi lo s y Y u m m1 m0 R:Nat}(hY:y*2^s=Y)(hU:(hi*18446744073709551616+lo)*2^s=u*18446744073709551616+m)(VL:m/4294967296=m1)(Yb:m%4294967296=m0)
  (hR:(u*4294967296+m1)%Y=R):(R*4294967296+m0)%Y/2^s=(hi*18446744073709551616+lo)%y:=by
 have Yq:0<2^s:=UI oQ;have e1:(R*4294967296+m0)%Y=(u*18446744073709551616+m)%Y:=by
  have e2:((u*4294967296+m1)%Y*4294967296+m0)%Y=((u*4294967296+m1)*4294967296+m0)%Y:=by rw[Nat.add_mod,SQ,UJ,<-SQ,<-Nat.add_mod]
  rw[hR]at e2;rw[e2,show(u*4294967296+m1)*4294967296+m0=u*18446744073709551616+m by omega]
 rw[e1,<-hU,<-hY,Nat.mul_mod_mul_right,Nat.mul_div_cancel _ Yq]
theorem Jh{u m m1 m0 X R:Nat}(h1:m/4294967296=m1)(h2:m%4294967296=m0)(t:(u*4294967296+m1)*4294967296=X+R*4294967296):u*18446744073709551616+m=X+(R*4294967296+m0):=by rw[<-TO,<-t,show(u*4294967296+m1)*4294967296+m0=u*18446744073709551616+m by clear t;omega]
theorem JD{hi lo s y Y u m m1 m0 Q R:Nat}(h0:0<Y)(hY:y*2^s=Y)(hU:(hi*18446744073709551616+lo)*2^s=u*18446744073709551616+m)(VL:m/4294967296=m1)(Yb:m%4294967296=m0)
  (hQ:(u*4294967296+m1)/Y=Q)(hR:(u*4294967296+m1)%Y=R):Q*4294967296+(R*4294967296+m0)/Y=(hi*18446744073709551616+lo)/y:=by
 have Yq:0<2^s:=UI oQ;have e0:Y*Q+R=u*4294967296+m1:=by rw[<-hQ,<-hR];exact Tt _ _
 have e1:(hi*18446744073709551616+lo)/y=(u*18446744073709551616+m)/Y:=by rw[<-hU,<-hY,Nat.mul_div_mul_right _ _ Yq]
 have e2:u*18446744073709551616+m=Y*(Q*4294967296)+(R*4294967296+m0):=by
  have:(Y*Q+R)*4294967296=Y*(Q*4294967296)+R*4294967296:=by rw[U3,Tl]
  rw[e0]at this;exact Jh VL Yb this
 rw[e1,e2,Nat.mul_add_div h0]
theorem MR{hi lo y:Nat}(Vg:hi<y)(Yp:lo<18446744073709551616):(hi*18446744073709551616+lo)/y<18446744073709551616:=by have h1:(hi+1)*18446744073709551616<=y*18446744073709551616:=To _ Vg;have h2:hi*18446744073709551616+lo<y*18446744073709551616:=oZ;generalize hi*18446744073709551616+lo=x at h2⊢;rw[SP]at h2;exact(TD (S9 (Rv _) Vg)).2 h2
def Lx(Y a u v q r:Nat):Prop:=q*a+r=u/\(u*4294967296+v)/Y<=q/\q<=4294967297
theorem EK(hi lo y:Nat)(hy:y<18446744073709551616)(h0:y≠0)(Vg:hi<y)(hh:hi≠0)(Yp:lo<18446744073709551616)(w:World):
  Calls Tryz.prog 109 #[.int .u64 hi,.int .u64 lo,.int .u64 y] w fun e w'=>e= .returned (.tuple #[.int .u64 ((hi*18446744073709551616+lo)/y:Nat),.int .u64 ((hi*18446744073709551616+lo)%y:Nat)])/\w=w':=by
 have HY:=Rb hy;have H0:=Rb h0;have HLO:=Rb Yp;have HH:=Rb hh;have HLT:=Rb Vg;have z0:((y:Int)==0)=false:=by rw[Rs];omega
 have z1:decide ((y:Int)<=(hi:Int))=false:=Rl oZ;have z1n:decide (y<=hi)=false:=Rl oZ;have z1i:¬y<=hi:=oZ;have z2:((hi:Int)==0)=false:=by rw[Rs];omega
 clear hy h0 Yp hh Vg;go_enter Tryz.func109,Tryz.ntmps109
 go_wp2_with fail;refine(Ik y HY.out H0.out w).mono ?_;rintro e w1 ⟨s,rfl,h1,h2,h3,rfl⟩;obtain⟨Y,hY⟩:∃Y,y*2^s=Y:=⟨_,rfl⟩
 rw[hY]at h2 h3;have y1:IntKind.u64.wrap ((y:Int)*2^s)=(Y:Int):=by have:((y:Int)*2^s)=((y*2^s:Nat):Int):=oX;rw[this,hY];exact bN Y h2
 obtain⟨a,ha⟩:∃a,Y/4294967296=a:=⟨_,rfl⟩
 obtain⟨b,hb⟩:∃b,Y%4294967296=b:=⟨_,rfl⟩
 have y2:(Y:Int)/4294967296=(a:Int):=oZ;have y3:bits .and .u64 (Y:Int) 4294967295=(b:Int):=by rw[yG Y h2,hb]
 have y4:¬(a:Int)=0:=oZ;obtain⟨n1,n2,n3,n4,n5⟩:=E7 h1 HLO.out hY HLT.out h2;obtain⟨H,hH⟩:∃x,hi*2^s=x:=⟨_,rfl⟩
 obtain⟨l,hl⟩:∃x,lo/2^(64-s)=x:=⟨_,rfl⟩
 obtain⟨m,hm⟩:∃x,lo*2^s%18446744073709551616=x:=⟨_,rfl⟩
 have y5:IntKind.u64.wrap ((hi:Int)*2^s)=(H:Int):=by have:((hi:Int)*2^s)=((hi*2^s:Nat):Int):=oX;rw[this,hH];exact bN H oZ
 have y6:(lo:Int)/2^(64-s)=(l:Int):=by have:((lo:Int)/2^(64-s))=((lo/2^(64-s):Nat):Int):=oX;rw[this,hl]
 have y7:IntKind.u64.wrap ((lo:Int)*2^s)=(m:Int):=by have:((lo:Int)*2^s)=((lo*2^s:Nat):Int):=oX;rw[this,Lu,hm]
 rw[hH,hl]at n3 n4 n5;rw[hH]at n1;rw[hm]at n5;obtain⟨u,hu⟩:∃x,H+l=x:=⟨_,rfl⟩
 rw[hu]at n3 n4 n5;have y8:bits .or .u64 (H:Int) (l:Int)=(u:Int):=by rw[bits_or_u64_nat H l n1 oZ,n4]
 have VQ:m<18446744073709551616:=by rw[<-hm];exact RY _ oQ
 obtain⟨m1,VL⟩:∃x,m/4294967296=x:=⟨_,rfl⟩
 obtain⟨m0,Yb⟩:∃x,m%4294967296=x:=⟨_,rfl⟩
 have y9:(m:Int)/4294967296=(m1:Int):=oZ;have y10:bits .and .u64 (m:Int) 4294967295=(m0:Int):=by rw[yG m VQ,Yb]
 have XC:m1<4294967296:=oZ;have bm0:m0<4294967296:=oZ;have YG:2147483648<=a:=oZ;have YZ:a<4294967296:=oZ;have bb:b<4294967296:=oZ;have hab:a*4294967296+b=Y:=oZ;obtain⟨k1,k2,k3,k4⟩:=qf hab YG YZ bb n3 XC;obtain⟨q0,XQ⟩:∃x,u/a=x:=⟨_,rfl⟩
 obtain⟨r0,hr0⟩:∃x,u%a=x:=⟨_,rfl⟩
 rw[XQ]at k1 k2 k3;rw[hr0]at k3 k4;obtain⟨p0,Yc⟩:∃x,q0*a=x:=⟨_,rfl⟩
 have x1:(u:Int).tdiv (a:Int)=(q0:Int):=by rw[<-XQ];exact SZ u a
 have x1':(u:Int)/(a:Int)=(q0:Int):=by rw[<-XQ];rfl
 have x2:IntKind.u64.wrap (q0:Int)=(q0:Int):=bN _ oZ;have x3:IntKind.u64.wrap ((q0:Int)*(a:Int))=(p0:Int):=by rw[xm,Yc];exact bN _ oZ
 have x4:IntKind.u64.wrap ((u:Int)-(p0:Int))=(r0:Int):=by rw[show(u:Int)-(p0:Int)=(r0:Int) by omega];exact bN _ oZ
 have KE:=Rb (fun R (hR:(u*4294967296+m1)%Y=R)=>Jq hY n5 VL Yb hR);have KF:=Rb (fun Q R (h0:0<Y) (hQ:(u*4294967296+m1)/Y=Q) (hR:(u*4294967296+m1)%Y=R)=>JD h0 hY n5 VL Yb hQ hR);have KL:=Rb (MR HLT.out HLO.out);have K0:Hid (Lx Y a u m1 q0 r0):=Rb ⟨k3,k1,k2⟩;have KA:=Rb (And.intro hab (And.intro YG (And.intro YZ bb)));have KU:=Rb (And.intro n3 XC);have KM:=Rb bm0;have KY:=Rb h2;have KHM:=Rb Yb;clear hY ha hb h2 h3 n1 n2 n3 n4 n5 hH hl hm hu VQ VL Yb hab k1 k2 k3 XQ hr0 Yc YG XC bm0 bb
 go_upto_block 0 with fail
 clear x1 x1' x2 x3 x4 y1 y2 y3 y5 y6 y7 y8 y9 y10 z0 z1 z1n z1i z2
 go_cut [15] (fun q' wx=>q'= .int .u64 (((u*4294967296+m1)/Y:Nat):Int)/\w=wx)
 case first=>
  go_wp2_with fail;go_loopw[15,16] (fun q' r' wr=>∃q r:Nat,q'= .int .u64 q/\r'= .int .u64 r/\Hid (Lx Y a u m1 q r)/\Hid (r<4294967296)/\w=wr) (fun q' _ _=>(intOf q').toNat)
  case atStart=>exact⟨_,_,rfl,rfl,K0,k4,rfl⟩
  case round=>
   clear K0 k4;obtain⟨q,r,rfl,rfl,KI,KR,rfl⟩:=hrel;obtain⟨hab,YG,YZ,bb⟩:=KA.out;have n3:=KU.out.1;have XC:=KU.out.2;obtain⟨i1,i2,i3⟩:=KI.out;have i4:=KR.out;obtain⟨r',Wi⟩:∃x,r+a=x:=⟨_,rfl⟩
   have x2:IntKind.u64.wrap ((r:Int)+(a:Int))=(r':Int):=by rw[II,Wi];exact bN _ oZ
   by_cases c1:4294967296<=q
   ·have Vg:=kl hab n3 XC i1 (.inl c1)
    obtain⟨q',rfl⟩:∃x,q=x+1:=⟨q-1,oZ⟩
    have VX:Lx Y a u m1 q' r':=⟨by rw[Ug]at i1;omega,oZ,oZ⟩;have KI':=Rb VX;have z1:decide ((4294967296:Int)<=((q'+1:Nat):Int))=true:=Rj oZ;have x1:IntKind.u64.wrap (((q'+1:Nat):Int)-1)=(q':Int):=by rw[show((q'+1:Nat):Int)-1=(q':Int) by omega];exact bN _ oZ
    by_cases c2:4294967296<=r'
    ·have hq:=jr hab bb n3 XC VX.1 VX.2.1 c2 oZ
     have HQ:=Rb hq;have z2:decide ((4294967296:Int)<=(r':Int))=true:=Rj oZ;clear hq VX Vg hab YG YZ bb n3 XC i1 i2 i3 i4 c1 c2 Wi;generalize((q'+1:Nat):Int)=qq at z1 x1⊢;go_wp2_with fail
     go_meet
     case rel=>exact⟨by rw[<-HQ.out],rfl⟩
    ·have z2:decide ((4294967296:Int)<=(r':Int))=false:=Rl oZ
     have KR':=Rb (show r'<4294967296 by omega);clear VX Vg hab YG YZ bb n3 XC i1 i2 i3 i4 c1 c2 Wi;obtain⟨qq,hqq⟩:∃x:Int,((q'+1:Nat):Int)=x:=⟨_,rfl⟩
     have Yr:=Rb hqq;rw[hqq]at z1 x1⊢;clear hqq;go_wp2_with fail;go_roundw
     case rel=>exact⟨q',r',rfl,rfl,KI',KR',by trivial⟩
     case measure=>have:=Yr.out;simp[intOf];omega
   ·obtain⟨pb,Yn⟩:∃x,q*b=x:=⟨_,rfl⟩
    have ZD:pb<=4294967295*4294967295:=by rw[<-Yn];exact S4 oZ oZ
    have x3:IntKind.u64.wrap ((q:Int)*(b:Int))=(pb:Int):=by rw[xm,Yn];exact bN _ oZ
    obtain⟨rv,hrv⟩:∃x,4294967296*r+m1=x:=⟨_,rfl⟩
    have x4:IntKind.u64.wrap (4294967296*(r:Int))=4294967296*(r:Int):=by rw[show 4294967296*(r:Int)=((4294967296*r:Nat):Int) by omega];exact bN _ oZ
    have x5:IntKind.u64.wrap (4294967296*(r:Int)+(m1:Int))=(rv:Int):=by rw[show 4294967296*(r:Int)+(m1:Int)=(rv:Int) by omega];exact bN _ oZ
    have z1:decide ((4294967296:Int)<=(q:Int))=false:=Rl oZ;by_cases c3:rv<pb
    ·have Vg:=kl hab n3 XC i1 (.inr (by rw[Yn];omega))
     have z3:decide (rv<pb)=true:=Rj c3;have XQ:0<q:=S9 (Rv _) Vg;obtain⟨q',hq'⟩:∃x,q=x+1:=⟨q-1,oZ⟩
     have VX:Lx Y a u m1 q' r':=⟨by rw[hq',Ug]at i1;omega,oZ,oZ⟩;have KI':=Rb VX;have x1:IntKind.u64.wrap ((q:Int)-1)=(q':Int):=by rw[show(q:Int)-1=(q':Int) by omega];exact bN _ oZ
     have Xf:q'<q:=oZ;have HQL:=Rb Xf;by_cases c2:4294967296<=r'
     ·have hq:=jr hab bb n3 XC VX.1 VX.2.1 c2 oZ
      have HQ:=Rb hq;have z2:decide ((4294967296:Int)<=(r':Int))=true:=Rj oZ;clear hq VX Vg hab YG YZ bb n3 XC i1 i2 i3 i4 c1 c2 Wi Yn ZD hrv hq' Xf c3 XQ;go_wp2_with fail
      go_meet
      case rel=>exact⟨by rw[<-HQ.out],rfl⟩
     ·have z2:decide ((4294967296:Int)<=(r':Int))=false:=Rl oZ
      have KR':=Rb (show r'<4294967296 by omega);clear VX Vg hab YG YZ bb n3 XC i1 i2 i3 i4 c1 c2 Wi Yn ZD hrv hq' Xf c3 XQ;go_wp2_with fail;go_roundw
      case rel=>exact⟨q',r',rfl,rfl,KI',KR',by trivial⟩
      case measure=>have:=HQL.out;simp[intOf];omega
    ·have hq:=nj hab n3 i1 i2 (by rw[Yn];omega)
     have HQ:=Rb hq;have z3:decide (rv<pb)=false:=Rl c3;clear hq hab YG YZ bb n3 XC i1 i2 i3 i4 c1 Wi Yn ZD hrv c3;go_wp2_with fail
     go_meet
     case rel=>exact⟨by rw[<-HQ.out],rfl⟩
 case rest=>
  obtain⟨rfl,rfl⟩:=hcut;clear K0 k4;obtain⟨Q,hQ⟩:∃x,(u*4294967296+m1)/Y=x:=⟨_,rfl⟩
  obtain⟨R,hR⟩:∃x,(u*4294967296+m1)%Y=x:=⟨_,rfl⟩
  obtain⟨t1,t2⟩:=rZ (v:=m1) KU.out.1;have t3:=wI KU.out.1 KU.out.2 (show 0<Y by have:=KU.out.1;omega);rw[hQ,hR]at t1;rw[hR]at t2;rw[hQ]at t3⊢;have KE':=Rb (KE.out R hR);have KF':=Rb (KF.out Q R oZ hQ hR);obtain⟨hab,YG,YZ,bb⟩:=KA.out;have VJ:=KY.out;obtain⟨k1,k2,k3,k4⟩:=qf hab YG YZ bb t2 KM.out;obtain⟨q0,XQ⟩:∃x,R/a=x:=⟨_,rfl⟩
  obtain⟨r0,hr0⟩:∃x,R%a=x:=⟨_,rfl⟩
  rw[XQ]at k1 k2 k3;rw[hr0]at k3 k4;obtain⟨p0,Yc⟩:∃x,q0*a=x:=⟨_,rfl⟩
  obtain⟨pq,hpq⟩:∃x,Q*Y=x:=⟨_,rfl⟩
  rw[hpq]at t1;have e1:IntKind.u64.wrap (IntKind.u64.wrap (IntKind.u64.wrap ((u:Int)*4294967296)+(m1:Int))-IntKind.u64.wrap ((Q:Int)*(Y:Int)))=(R:Int):=by rw[xm,hpq,St,St,St,St];omega
  have x1:(R:Int).tdiv (a:Int)=(q0:Int):=by rw[<-XQ];exact SZ R a
  have x1':(R:Int)/(a:Int)=(q0:Int):=by rw[<-XQ];rfl
  have x2:IntKind.u64.wrap (q0:Int)=(q0:Int):=bN _ oZ;have x3:IntKind.u64.wrap ((q0:Int)*(a:Int))=(p0:Int):=by rw[xm,Yc];exact bN _ oZ
  have x4:IntKind.u64.wrap ((R:Int)-(p0:Int))=(r0:Int):=by rw[show(R:Int)-(p0:Int)=(r0:Int) by omega];exact bN _ oZ
  have y4:¬(a:Int)=0:=oZ;have K0:Hid (Lx Y a R m0 q0 r0):=Rb ⟨k3,k1,k2⟩;have KR0:=Rb k4;have KRL:=Rb t2;clear k1 k2 k3 k4 t1 t2 t3 hab YG YZ bb VJ XQ hr0 Yc hpq hQ hR KE KF KU
  go_upto_block 2 with fail
  clear e1 x1 x1' x2 x3 x4 y4
  go_cut [18] (fun q' wx=>q'= .int .u64 (((R*4294967296+m0)/Y:Nat):Int)/\w=wx)
  case first=>
   go_wp2_with fail;go_loopw[18,16] (fun q' r' wr=>∃q r:Nat,q'= .int .u64 q/\r'= .int .u64 r/\Hid (Lx Y a R m0 q r)/\Hid (r<4294967296)/\w=wr) (fun q' _ _=>(intOf q').toNat)
   case atStart=>exact⟨_,_,rfl,rfl,K0,KR0,rfl⟩
   case round=>
    clear K0 KR0;obtain⟨q,r,rfl,rfl,KI,KR,rfl⟩:=hrel;obtain⟨hab,YG,YZ,bb⟩:=KA.out;have n3:=KRL.out;have XC:=KM.out;obtain⟨i1,i2,i3⟩:=KI.out;have i4:=KR.out;obtain⟨r',Wi⟩:∃x,r+a=x:=⟨_,rfl⟩
    have x2:IntKind.u64.wrap ((r:Int)+(a:Int))=(r':Int):=by rw[II,Wi];exact bN _ oZ
    by_cases c1:4294967296<=q
    ·have Vg:=kl hab n3 XC i1 (.inl c1)
     obtain⟨q',rfl⟩:∃x,q=x+1:=⟨q-1,oZ⟩
     have VX:Lx Y a R m0 q' r':=⟨by rw[Ug]at i1;omega,oZ,oZ⟩;have KI':=Rb VX;have z1:decide ((4294967296:Int)<=((q'+1:Nat):Int))=true:=Rj oZ;have x1:IntKind.u64.wrap (((q'+1:Nat):Int)-1)=(q':Int):=by rw[show((q'+1:Nat):Int)-1=(q':Int) by omega];exact bN _ oZ
     by_cases c2:4294967296<=r'
     ·have hq:=jr hab bb n3 XC VX.1 VX.2.1 c2 oZ
      have HQ:=Rb hq;have z2:decide ((4294967296:Int)<=(r':Int))=true:=Rj oZ;clear hq VX Vg hab YG YZ bb n3 XC i1 i2 i3 i4 c1 c2 Wi;generalize((q'+1:Nat):Int)=qq at z1 x1⊢;go_wp2_with fail
      go_meet
      case rel=>exact⟨by rw[<-HQ.out],rfl⟩
     ·have z2:decide ((4294967296:Int)<=(r':Int))=false:=Rl oZ
      have KR':=Rb (show r'<4294967296 by omega);clear VX Vg hab YG YZ bb n3 XC i1 i2 i3 i4 c1 c2 Wi;obtain⟨qq,hqq⟩:∃x:Int,((q'+1:Nat):Int)=x:=⟨_,rfl⟩
      have Yr:=Rb hqq;rw[hqq]at z1 x1⊢;clear hqq;go_wp2_with fail;go_roundw
      case rel=>exact⟨q',r',rfl,rfl,KI',KR',by trivial⟩
      case measure=>have:=Yr.out;simp[intOf];omega
    ·obtain⟨pb,Yn⟩:∃x,q*b=x:=⟨_,rfl⟩
     have ZD:pb<=4294967295*4294967295:=by rw[<-Yn];exact S4 oZ oZ
     have x3:IntKind.u64.wrap ((q:Int)*(b:Int))=(pb:Int):=by rw[xm,Yn];exact bN _ oZ
     obtain⟨rv,hrv⟩:∃x,4294967296*r+m0=x:=⟨_,rfl⟩
     have x4:IntKind.u64.wrap (4294967296*(r:Int))=4294967296*(r:Int):=by rw[show 4294967296*(r:Int)=((4294967296*r:Nat):Int) by omega];exact bN _ oZ
     have x5:IntKind.u64.wrap (4294967296*(r:Int)+(m0:Int))=(rv:Int):=by rw[show 4294967296*(r:Int)+(m0:Int)=(rv:Int) by omega];exact bN _ oZ
     have z1:decide ((4294967296:Int)<=(q:Int))=false:=Rl oZ;by_cases c3:rv<pb
     ·have Vg:=kl hab n3 XC i1 (.inr (by rw[Yn];omega))
      have z3:decide (rv<pb)=true:=Rj c3;have XQ:0<q:=S9 (Rv _) Vg;obtain⟨q',hq'⟩:∃x,q=x+1:=⟨q-1,oZ⟩
      have VX:Lx Y a R m0 q' r':=⟨by rw[hq',Ug]at i1;omega,oZ,oZ⟩;have KI':=Rb VX;have x1:IntKind.u64.wrap ((q:Int)-1)=(q':Int):=by rw[show(q:Int)-1=(q':Int) by omega];exact bN _ oZ
      have Xf:q'<q:=oZ;have HQL:=Rb Xf;by_cases c2:4294967296<=r'
      ·have hq:=jr hab bb n3 XC VX.1 VX.2.1 c2 oZ
       have HQ:=Rb hq;have z2:decide ((4294967296:Int)<=(r':Int))=true:=Rj oZ;clear hq VX Vg hab YG YZ bb n3 XC i1 i2 i3 i4 c1 c2 Wi Yn ZD hrv hq' Xf c3 XQ;go_wp2_with fail
       go_meet
       case rel=>exact⟨by rw[<-HQ.out],rfl⟩
      ·have z2:decide ((4294967296:Int)<=(r':Int))=false:=Rl oZ
       have KR':=Rb (show r'<4294967296 by omega);clear VX Vg hab YG YZ bb n3 XC i1 i2 i3 i4 c1 c2 Wi Yn ZD hrv hq' Xf c3 XQ;go_wp2_with fail;go_roundw
       case rel=>exact⟨q',r',rfl,rfl,KI',KR',by trivial⟩
       case measure=>have:=HQL.out;simp[intOf];omega
     ·have hq:=nj hab n3 i1 i2 (by rw[Yn];omega)
      have HQ:=Rb hq;have z3:decide (rv<pb)=false:=Rl c3;clear hq hab YG YZ bb n3 XC i1 i2 i3 i4 c1 Wi Yn ZD hrv c3;go_wp2_with fail
      go_meet
      case rel=>exact⟨by rw[<-HQ.out],rfl⟩
  case rest=>
   obtain⟨rfl,rfl⟩:=hcut;clear K0 KR0;obtain⟨Q2,hQ⟩:∃x,(R*4294967296+m0)/Y=x:=⟨_,rfl⟩
   obtain⟨R2,hR⟩:∃x,(R*4294967296+m0)%Y=x:=⟨_,rfl⟩
   obtain⟨t1,t2⟩:=rZ (v:=m0) KRL.out;have t3:=wI KRL.out KM.out (show 0<Y by have:=KRL.out;omega);have VJ:=KY.out;have Yb:=KM.out;have WD:=KRL.out;rw[hQ,hR]at t1;rw[hR]at t2;rw[hQ]at t3⊢;have hfin:=KE'.out;rw[hR]at hfin;obtain⟨pq,hpq⟩:∃x,Q2*Y=x:=⟨_,rfl⟩
   rw[hpq]at t1;obtain⟨fr,WU⟩:∃x,(hi*18446744073709551616+lo)%y=x:=⟨_,rfl⟩
   rw[WU]at hfin;have HFR:=Rb WU;have e1:IntKind.u64.wrap (IntKind.u64.wrap (IntKind.u64.wrap ((R:Int)*4294967296)+(m0:Int))-IntKind.u64.wrap ((Q2:Int)*(Y:Int)))=(R2:Int):=by rw[xm,hpq,St,St,St,St];omega
   have e2:(R2:Int)/2^s=(fr:Int):=by have:(R2:Int)/2^s=((R2/2^s:Nat):Int):=oX;rw[this,hfin]
   have hfq:=KF'.out;rw[hQ]at hfq;have Xf:=KL.out;obtain⟨qq,hqq⟩:∃x,(hi*18446744073709551616+lo)/y=x:=⟨_,rfl⟩
   rw[hqq]at hfq Xf;have Yr:=Rb hqq;have e3:IntKind.u64.wrap (IntKind.u64.wrap ((Q:Int)*4294967296)+(Q2:Int))=(qq:Int):=by rw[St,St];omega
   clear t1 t2 t3 VJ Yb WD hfin hpq WU hQ hR hfq Xf hqq;go_wp2_with fail;go_ret2;rw[HFR.out,Yr.out];exact⟨rfl,rfl⟩
theorem jV(hi lo y:Nat)(hy:y<18446744073709551616)(h0:y≠0)(Vg:hi<y)(Yp:lo<18446744073709551616)(w:World):
  Calls Tryz.prog 109 #[.int .u64 hi,.int .u64 lo,.int .u64 y] w fun e w'=>e= .returned (.tuple #[.int .u64 ((hi*18446744073709551616+lo)/y:Nat),.int .u64 ((hi*18446744073709551616+lo)%y:Nat)])/\∃n,w'=w.drewN n:=by
 by_cases hh:hi=0
 ·subst hh
  have z0:((y:Int)==0)=false:=by rw[Rs];omega
  have z1n:¬y=0:=h0;have z1:¬(y:Int)=0:=oZ;have HQ:Hid (lo/y<18446744073709551616):=S9 (Nat.div_le_self _ _) Yp;obtain⟨q,hq⟩:∃q,lo/y=q:=⟨_,rfl⟩
  obtain⟨r,hr⟩:∃q,lo%y=q:=⟨_,rfl⟩
  have x1:(lo:Int).tdiv (y:Int)=(q:Int):=by rw[<-hq];exact SZ lo y
  have x2:(lo:Int).tmod (y:Int)=(r:Int):=by rw[<-hr];exact UT lo y
  have x1':(lo:Int)/(y:Int)=(q:Int):=by rw[<-hq];rfl
  have x2':(lo:Int)%(y:Int)=(r:Int):=by rw[<-hr];rfl
  have Xf:q<18446744073709551616:=by rw[<-hq];exact HQ.out
  have WD:r<18446744073709551616:=by have:=RY lo (Ul h0);omega
  have x3:IntKind.u64.wrap (q:Int)=(q:Int):=bN _ Xf;have x4:IntKind.u64.wrap (r:Int)=(r:Int):=bN _ WD;have HR:Hid ((0*18446744073709551616+lo)%y=r):=by rw[Uh,Sr];exact hr
  have ZT:Hid ((0*18446744073709551616+lo)/y=q):=by rw[Uh,Sr];exact hq
  have hyz:decide (y<=0)=false:=Rl oZ;have hyz':¬y<=0:=oZ;have hyz'':decide ((y:Int)<=0)=false:=Rl oZ;clear hq hr Xf WD Vg hy Yp;show Calls Tryz.prog 109 #[.int .u64 0,.int .u64 lo,.int .u64 y] w _;go_enter Tryz.func109,Tryz.ntmps109
  go_wp2_with fail
  go_quiet(fail)
  go_wp2_with fail;go_ret2;rw[HR.out,ZT.out];exact⟨rfl,_,rfl⟩
 {refine(EK hi lo y hy h0 Vg hh Yp w).mono ?_;rintro e w' ⟨rfl,rfl⟩;exact⟨rfl,0,rfl⟩}
theorem Eg(hi lo y:Nat)(hy:y<18446744073709551616)(h0:y≠0)(Yp:lo<18446744073709551616)(w:World):
  Calls Tryz.prog 120 #[.int .u64 hi,.int .u64 lo,.int .u64 y] w fun e w'=>e= .returned (.int .u64 ((hi*18446744073709551616+lo)%y:Nat))/\∃n,w'=w.drewN n:=by
 obtain⟨r,hr⟩:∃q,hi%y=q:=⟨_,rfl⟩
 have hry:r<y:=by rw[<-hr];exact RY hi (Ul h0)
 have HR:Hid ((r*18446744073709551616+lo)%y=(hi*18446744073709551616+lo)%y):=by rw[<-hr];show(hi%y*18446744073709551616+lo)%y=_;rw[Nat.add_mod,SQ,UJ,<-SQ,<-Nat.add_mod]
 have x2:(hi:Int).tmod (y:Int)=(r:Int):=by rw[<-hr];exact UT hi y
 have x2':(hi:Int)%(y:Int)=(r:Int):=by rw[<-hr];rfl
 have x4:IntKind.u64.wrap (r:Int)=(r:Int):=bN _ oZ;have z1n:¬y=0:=h0;have z1:¬(y:Int)=0:=oZ;have HY:=Rb hy;have H0:=Rb h0;have HLO:=Rb Yp;have HRY:=Rb hry;clear hr hry hy Yp h0;go_enter Tryz.func120,Tryz.ntmps120
 go_wp2_with fail;refine(jV r lo y HY.out H0.out HRY.out HLO.out w).mono ?_;rintro e w1 ⟨rfl,n,hw⟩;rw[HR.out];generalize(((r*18446744073709551616+lo)/y:Nat):Int)=q;have HW:=Rb hw;clear hw;go_wp2_with fail;go_ret;exact⟨rfl,n,HW.out⟩
theorem NR(a b:Nat):a*b/18446744073709551616*18446744073709551616+a*b%18446744073709551616=a*b:=by rw[SP];exact Tt _ _
theorem gE(a b m:Nat)(ha:a<18446744073709551616)(hb:b<18446744073709551616)(hm:m<18446744073709551616)(h0:m≠0)(w:World):
  Calls Tryz.prog 114 #[.int .u64 a,.int .u64 b,.int .u64 m] w fun e w'=>e= .returned (.int .u64 (a*b%m:Nat))/\∃n,w'=w.drewN n:=by
 have HA:=Rb ha;have HB:=Rb hb;have HM:=Rb hm;have H0:=Rb h0;obtain⟨h,hh⟩:∃x,a*b/18446744073709551616=x:=⟨_,rfl⟩
 obtain⟨l,hl⟩:∃x,a*b%18446744073709551616=x:=⟨_,rfl⟩
 have HE:=Rb (NR a b);rw[hh,hl]at HE;have HL:Hid (l<18446744073709551616):=by rw[<-hl];exact RY _ oQ
 have HHH:=Rb hh;have WR:=Rb hl;clear ha hb hm h0 hh hl;go_enter Tryz.func114,Tryz.ntmps114
 go_wp2_with fail;refine(vp a b HA.out HB.out w).mono ?_;rintro e w1 ⟨rfl,rfl⟩;rw[HHH.out,WR.out];go_wp2_with fail;refine(Eg h l m HM.out H0.out HL.out w).mono ?_;rintro e w1 ⟨rfl,n,hw⟩;rw[HE.out];have HW:=Rb hw;clear hw;go_wp2_with fail;go_ret;exact⟨rfl,n,HW.out⟩
def kG(a b m:Nat):Nat:=if a<b then a+m-b else a-b
theorem nC{a b m:Nat}(ha:a<m)(hb:b<m):kG a b m<m:=by have:=ha;have:=hb;unfold kG;split<;>omega
theorem xR{a b m:Nat}(_ha:a<m)(_hb:b<m):(m:Int)∣((a:Int)-(b:Int))-(kG a b m:Int):=by unfold kG;split;{exact⟨-1,oZ⟩};{exact⟨0,oZ⟩}
theorem ns(a b m:Nat)(ha:a<m)(hb:b<m)(hm:m<=9223372036854775807)(w:World):
  Calls Tryz.prog 115 #[.int .u64 a,.int .u64 b,.int .u64 m] w fun e w'=>e= .returned (.int .u64 (kG a b m:Nat))/\w=w':=by
 by_cases h:a<b
 ·have e:kG a b m=a+m-b:=Re h
  rw[e];obtain⟨s,hs⟩:∃s,a+m=s:=⟨_,rfl⟩
  obtain⟨t,ht⟩:∃t,a+m-b=t:=⟨_,rfl⟩
  have x1:IntKind.u64.wrap ((a:Int)+(m:Int))=(s:Int):=by rw[II,hs];exact bN _ oZ
  have x2:IntKind.u64.wrap ((s:Int)-(b:Int))=(t:Int):=by rw[show(s:Int)-(b:Int)=(t:Int) by omega];exact bN _ oZ
  have z:decide (a<b)=true:=Rj h;rw[ht];clear ha hb hm e hs ht h;go_enter Tryz.func115,Tryz.ntmps115
  go_wp2_with fail;go_ret;exact⟨rfl,rfl⟩
 ·have e:kG a b m=a-b:=Rc h
  rw[e];obtain⟨t,ht⟩:∃t,a-b=t:=⟨_,rfl⟩
  have x2:IntKind.u64.wrap ((a:Int)-(b:Int))=(t:Int):=by rw[show(a:Int)-(b:Int)=(t:Int) by omega];exact bN _ oZ
  have z:decide (a<b)=false:=Rl h;rw[ht];clear ha hb hm e ht h;go_enter Tryz.func115,Tryz.ntmps115
  go_wp2_with fail;go_ret;exact⟨rfl,rfl⟩
theorem JW(x:Int)(h1: -9223372036854775808<=x)(h2:x<=9223372036854775807):(x<0->IntKind.u64.wrap (wrap64 (-x))=((x.natAbs:Nat):Int))/\(0<=x->IntKind.u64.wrap x=((x.natAbs:Nat):Int)):=by unfold wrap64;rw[St,St];exact⟨fun h=>by omega,fun h=>by omega⟩
theorem De(x:Int)(h1: -9223372036854775808<=x)(h2:x<=9223372036854775807)(w:World):
  Calls Tryz.prog 111 #[.int .i64 x] w fun e w'=>e= .returned (.int .u64 (x.natAbs:Nat))/\w=w':=by
 obtain⟨e1,e2⟩:=JW x h1 h2;by_cases h:x<0
 ·have z:decide (x<0)=true:=Rj h
  have E:=Rb (e1 h);clear h1 h2 h e1 e2;go_enter Tryz.func111,Tryz.ntmps111
  go_wp2_with fail;go_ret;exact⟨cE E.out,rfl⟩
 ·have z:decide (x<0)=false:=Rl h
  have E:=Rb (e2 oZ);clear h1 h2 h e1 e2;go_enter Tryz.func111,Tryz.ntmps111
  go_wp2_with fail;go_ret;exact⟨cE E.out,rfl⟩
def PM:Nat:=2305843009213693951
def EX:Nat:=2305843009213693949
def pB(a:Nat):Nat:=1*a^EX%PM
theorem Gs{r a e T:Nat}(h:r*a^e%PM=T):(e%2=1->(r*a%PM)*(a*a%PM)^(e/2)%PM=T)/\(e%2=0->r*(a*a%PM)^(e/2)%PM=T):=by
 have key:∀x,x*(a*a%PM)^(e/2)%PM=x*a^(2*(e/2))%PM:=by intro x;rw[SQ,<-UK,<-SQ,Nat.mul_pow,<-Tz,Nat.two_mul]
 refine⟨fun h1=>?_,fun h0=>?_⟩;{rw[key,Nat.mod_mul_mod,Tl,<-Nat.pow_succ',<-h];congr 3;omega};{rw[key,<-h];congr 3;omega}
theorem yL(A:Nat)(hA:A<PM)(w:World):
  Calls Tryz.prog 116 #[.int .u64 A] w fun e w'=>e= .returned (.int .u64 (pB A:Nat))/\∃n,w'=w.drewN n:=by
 obtain⟨T,hT⟩:∃t,pB A=t:=⟨_,rfl⟩
 rw[hT];have hT':1*A^EX%PM=T:=hT;have K0:Hid (1*A^EX%PM=T/\1<PM/\A<PM):=Rb ⟨hT',oQ,hA⟩;have HEX:Hid (EX=2305843009213693949):=Rb rfl;clear hT hT' hA;go_enter Tryz.func116,Tryz.ntmps116
 go_wp2_with fail;go_loopw[0,3,4] (fun a' r' e' wr=>∃(a r e:Nat),a'= .int .u64 a/\r'= .int .u64 r/\e'= .int .u64 e/\Hid (r*a^e%PM=T/\r<PM/\a<PM)/\Hid (e<=EX)/\Hid (∃n,wr=w.drewN n)) (fun _ _ e' _=>(intOf e').toNat)
 case atStart=>exact⟨A,1,EX,rfl,rfl,rfl,K0,Rf _,⟨0,rfl⟩⟩
 case round=>
  clear K0;obtain⟨a,r,e,rfl,rfl,rfl,HI,HE,HW⟩:=hrel;have Xi:=HE.out;have hex:=HEX.out;by_cases h0:e=0
  ·subst h0
   have HX:Hid (r=T):=by obtain⟨h1,h2,-⟩:=HI.out;rw[Vb,Ta,TV h2]at h1;exact Rb h1
   clear HI Xi hex;go_wp2_with fail;go_ret;rw[<-HX.out];exact⟨rfl,HW.out⟩
  ·obtain⟨i1,i2,i3⟩:=HI.out
   have hpm:PM=2305843009213693951:=rfl;have z:decide (0<e)=true:=Rj oZ;have z':0<e:=oZ;have zb:bits .and .u64 (e:Int) 1=((e%2:Nat):Int):=by have h:=bits_and_u64_nat e 1 oZ oZ;rw[Nat.and_one_is_mod]at h;exact h
   obtain⟨e2,Yd⟩:∃x,e/2=x:=⟨_,rfl⟩
   have ze:(e:Int)/2=(e2:Int):=oZ;have WL:Hid (e2<=EX):=Rb oZ;have Vg:e2<e:=oZ;have HLT:=Rb Vg;have XD:=Gs i1;rw[Yd]at XD;have HA:=Rb (show a<18446744073709551616 by omega);have HR:=Rb (show r<18446744073709551616 by omega);obtain⟨aa,haa⟩:∃x,a*a%PM=x:=⟨_,rfl⟩
   rw[haa]at XD;have HAA:=Rb haa;have haal:aa<PM:=by rw[<-haa];exact RY _ oQ
   have Wl:e%2=0\/e%2=1:=oZ;clear hpm hex;rcases Wl with hbt|hbt
   ·have HI':Hid (r*aa^e2%PM=T/\r<PM/\aa<PM):=Rb ⟨XD.2 hbt,i2,haal⟩
    have zb0:bits .and .u64 (e:Int) 1=0:=by rw[zb,hbt];rfl
    clear XD i1 i2 i3 haa haal hbt Yd Vg Xi h0 HI zb;go_wp2_with fail;refine(gE a a PM HA.out HA.out oQ oQ wr).mono ?_;rintro e9 w1 ⟨rfl,n1,hw⟩;rw[HAA.out];have HW':Hid (∃n,w1=w.drewN n):=by obtain⟨n,e⟩:=HW.out;exact Rb ⟨n+n1,by rw[hw,e,xU]⟩
    clear hw HW;go_wp2_with fail;go_roundw
    case rel=>exact⟨aa,r,e2,rfl,rfl,rfl,HI',WL,HW'⟩
    case measure=>have:=HLT.out;simp[intOf];omega
   ·obtain⟨ra,hra⟩:∃x,r*a%PM=x:=⟨_,rfl⟩
    have HRA:=Rb hra;rw[hra]at XD;have hral:ra<PM:=by rw[<-hra];exact RY _ oQ
    have HI':Hid (ra*aa^e2%PM=T/\ra<PM/\aa<PM):=Rb ⟨XD.1 hbt,hral,haal⟩;have zb0:bits .and .u64 (e:Int) 1=1:=by rw[zb,hbt];rfl
    clear XD i1 i2 i3 haa haal hbt Yd Vg Xi h0 HI zb hra hral;go_wp2_with fail;refine(gE r a PM HR.out HA.out oQ oQ wr).mono ?_;rintro e9 w1 ⟨rfl,n1,Z'⟩;rw[HRA.out];have HW1:Hid (∃n,w1=w.drewN n):=by obtain⟨n,e⟩:=HW.out;exact Rb ⟨n+n1,by rw[Z',e,xU]⟩
    clear Z' HW;go_wp2_with fail;refine(gE a a PM HA.out HA.out oQ oQ w1).mono ?_;rintro e9 w2 ⟨rfl,n2,hw2⟩;rw[HAA.out];have HW2:Hid (∃n,w2=w.drewN n):=by obtain⟨n,e⟩:=HW1.out;exact Rb ⟨n+n2,by rw[hw2,e,xU]⟩
    clear hw2 HW1;go_wp2_with fail;go_roundw
    case rel=>exact⟨aa,ra,e2,rfl,rfl,rfl,HI',WL,HW2⟩
    case measure=>have:=HLT.out;simp[intOf];omega
def pZ(w:World)(S:Nat->Prop)(A:Option Addr)(xss:List (List Int)):Prop:=
 xss≠[]->∃b off,A=some ⟨b,off,none⟩/\S b/\∀k,k<xss.length->∃Ak ck,w.cell? ⟨b,off+k,none⟩=some (.slice Ak (xss.getD k []).length ck)/\RI w S Ak (xss.getD k [])/\(xss.getD k []).length<=maxLen
theorem pZ.at_{w:World}{S:Nat->Prop}{A:Option Addr}{xss:List (List Int)}(h:pZ w S A xss){k:Nat}(hk:k<xss.length):
  ∃b off,A=some ⟨b,off,none⟩/\S b/\∀k,k<xss.length->∃Ak ck,w.cell? ⟨b,off+k,none⟩=some (.slice Ak (xss.getD k []).length ck)/\RI w S Ak (xss.getD k [])/\(xss.getD k []).length<=maxLen:=
 h (by intro e;subst e;simp at hk)
theorem pZ.ak{w w':World}{S:Nat->Prop}{A:Option Addr}{xss:List (List Int)}(h:pZ w S A xss)(hk:∀b,S b->w'.heap[b]?=w.heap[b]?):pZ w' S A xss:=fun Vh=>by obtain⟨b,off,e,hb,hc⟩:=h Vh;refine⟨b,off,e,hb,fun k Vg=>?_⟩;obtain⟨Ak,ck,h1,h2,h3⟩:=hc k Vg;exact⟨Ak,ck,(Ri (a:=⟨b,off+k,none⟩) (hk b hb)).trans h1,h2.ak hk,h3⟩
theorem pZ.imp{w:World}{S T:Nat->Prop}{A:Option Addr}{xss:List (List Int)}(h:pZ w S A xss)(hS:∀b,S b->T b):pZ w T A xss:=fun Vh=>by obtain⟨b,off,e,hb,hc⟩:=h Vh;refine⟨b,off,e,hS b hb,fun k Vg=>?_⟩;obtain⟨Ak,ck,h1,h2,h3⟩:=hc k Vg;exact⟨Ak,ck,h1,h2.imp hS,h3⟩
theorem pZ.below{w w':World}{B:Nat}{A:Option Addr}{xss:List (List Int)}(h:pZ w (·<B) A xss)(hb:Below B w w'):pZ w' (·<B) A xss:=h.ak fun b Vg=>hb.block b Vg
theorem pZ.drewN{w:World}{S:Nat->Prop}{A:Option Addr}{xss:List (List Int)}(h:pZ w S A xss)(n:Nat):pZ (w.drewN n) S A xss:=h
theorem pZ.nil(w:World)(S:Nat->Prop)(A:Option Addr):pZ w S A []:=fun h=>absurd rfl h
def eI(xss:List (List Int))(i j:Nat):Int:=gi (xss.getD i []) j
structure Fm(S:Nat->Prop)(w w':World):Prop where
 os:w'.os=w.os
 tape:w'.tape=w.tape
 output:w'.output=w.output
 size:w'.heap.size=w.heap.size
 block:∀b,¬S b->w'.heap[b]?=w.heap[b]?
theorem Fm.refl(S:Nat->Prop)(w:World):Fm S w w:=⟨rfl,rfl,rfl,rfl,fun _ _=>rfl⟩
theorem Fm.drew{S:Nat->Prop}{a b:World}(h:Fm S a b):Fm S a b.drew:=⟨h.os,h.tape,h.output,h.size,h.block⟩
theorem Fm.drewN{S:Nat->Prop}{a b:World}(h:Fm S a b)(n:Nat):Fm S a (b.drewN n):=⟨h.os,h.tape,h.output,h.size,h.block⟩
theorem Fm.set{S:Nat->Prop}{a b:World}(h:Fm S a b){g:Nat}(hg:S g)(j:Nat)(v:Value):Fm S a (b.setCell ⟨g,j,none⟩ v):=
 ⟨h.os,h.tape,h.output,by rw[RS];exact h.size,fun x hx=>by rw[Rn _ _ _ x (by rintro rfl;exact hx hg)];exact h.block x hx⟩
theorem Fm.below{S:Nat->Prop}{a b:World}(h:Fm S a b){B:Nat}(hS:∀x,S x->B<=x):Below B a b:=
 ⟨h.os,h.tape,h.output,by rw[h.size];exact Rf _,fun k hk=>h.block k fun hs=>by have:=hS k hs;omega⟩
def xg(i k x:Nat):Nat:=if x=i then k else if x=k then i else x
theorem uT{i k x n:Nat}(hi:i<n)(hk:k<n)(hx:x<n):xg i k x<n:=by unfold xg;split<;>(try split)<;>omega
theorem Nx{i k x y:Nat}(h:xg i k x=xg i k y):x=y:=by unfold xg at h;split at h<;>split at h<;>(try split at h)<;>(try split at h)<;>omega
theorem bV{w:World}{p:Addr}{u v:Value}(h:w.cell? p=some u):(w.setCell p v).cell? p=some v:=Ss (h:=h) ..
theorem aW{w:World}{p q:Addr}{v:Value}(h:p≠q):(w.setCell p v).cell? q=w.cell? q:=R4 (h:=h) ..
structure MX(w:World)(S:Nat->Prop)(P:Option Addr)(bA n c:Nat)(A:Nat->Option Addr)(bs:Nat->Nat)(a:Nat->Nat->Nat):Prop where
 top:0<n->P=some ⟨bA,0,none⟩/\S bA/\bA<w.heap.size
 hd:∀i,i<n->w.cell? ⟨bA,i,none⟩=some (.slice (A i) c c)
 fz:∀i,i<n->w.frozen? ⟨bA,i,none⟩=false
 ad:∀i,i<n->0<c->A i=some ⟨bs i,0,none⟩/\S (bs i)/\bs i<w.heap.size/\bs i≠bA
 ij:∀i k,i<n->k<n->0<c->bs i=bs k->i=k
 en:∀i j,i<n->j<c->w.cell? ⟨bs i,j,none⟩=some (.int .u64 (a i j:Nat))
 fr:∀i j,i<n->j<c->w.frozen? ⟨bs i,j,none⟩=false
section
variable{w w':World}{S:Nat->Prop}{P:Option Addr}{bA n c:Nat}{A:Nat->Option Addr}{bs:Nat->Nat}{a:Nat->Nat->Nat}
theorem MX.ak(h:MX w S P bA n c A bs a)(hs:w.heap.size<=w'.heap.size)(hk:∀b,S b->b<w.heap.size->w'.heap[b]?=w.heap[b]?):MX w' S P bA n c A bs a:=by refine⟨fun hn=>?_,fun i hi=>?_,fun i hi=>?_,fun i hi hc=>?_,h.ij,fun i j hi hj=>?_,fun i j hi hj=>?_⟩;{obtain⟨h1,h2,h3⟩:=h.top hn;exact⟨h1,h2,oZ⟩};{obtain⟨h1,h2,h3⟩:=h.top oZ;exact(Ri (a:=⟨bA,i,none⟩) (hk _ h2 h3)).trans (h.hd i hi)};{obtain⟨h1,h2,h3⟩:=h.top oZ;exact(Ro (a:=⟨bA,i,none⟩) (hk _ h2 h3)).trans (h.fz i hi)};{obtain⟨h1,h2,h3,h4⟩:=h.ad i hi hc;exact⟨h1,h2,oZ,h4⟩};{obtain⟨h1,h2,h3,h4⟩:=h.ad i hi oZ;exact(Ri (a:=⟨bs i,j,none⟩) (hk _ h2 h3)).trans (h.en i j hi hj)};{obtain⟨h1,h2,h3,h4⟩:=h.ad i hi oZ;exact(Ro (a:=⟨bs i,j,none⟩) (hk _ h2 h3)).trans (h.fr i j hi hj)}
theorem MX.drew(h:MX w S P bA n c A bs a):MX w.drew S P bA n c A bs a:=h.ak (Rf _) fun _ _ _=>rfl
theorem MX.drewN(h:MX w S P bA n c A bs a)(k:Nat):MX (w.drewN k) S P bA n c A bs a:=h.ak (Rf _) fun _ _ _=>rfl
theorem MX.alloc(h:MX w S P bA n c A bs a)(o:Obj):MX (w.alloc o) S P bA n c A bs a:=h.ak oX fun b _ hb=>Rx w o b hb
theorem MX.MS(h:MX w S P bA n c A bs a){g:Nat}(hg:¬S g)(j:Nat)(v:Value):MX (w.setCell ⟨g,j,none⟩ v) S P bA n c A bs a:=
 h.ak oX fun b hb _=>Rn w _ _ b (by rintro rfl;exact hg hb)
theorem MX.congr{b:Nat->Nat->Nat}(h:MX w S P bA n c A bs a)(he:∀i j,i<n->j<c->a i j=b i j):MX w S P bA n c A bs b:=
 ⟨h.top,h.hd,h.fz,h.ad,h.ij,fun i j hi hj=>by rw[<-he i j hi hj];exact h.en i j hi hj,h.fr⟩
theorem MX.store(h:MX w S P bA n c A bs a){i j:Nat}(hi:i<n)(hj:j<c)(v:Nat):
  MX (w.setCell ⟨bs i,j,none⟩ (.int .u64 (v:Nat))) S P bA n c A bs (fun x y=>if x=i/\y=j then v else a x y):=by
 obtain⟨h1,h2,h3,h4⟩:=h.ad i hi oZ;refine⟨fun hn=>?_,fun x hx=>?_,fun x hx=>?_,fun x hx hc=>?_,h.ij,fun x y hx hy=>?_,fun x y hx hy=>?_⟩;{rw[RS];exact h.top hn};{rw[aW (by intro e;injection e with e;exact h4 e)];exact h.hd x hx};{rw[Rp];exact h.fz x hx};{rw[RS];exact h.ad x hx hc}
 ·by_cases e:x=i/\y=j
  {obtain⟨rfl,rfl⟩:=e;rw[Re ⟨rfl,rfl⟩];exact bV (h.en x y hi hj)}
  ·rw[Rc e,aW]
   {exact h.en x y hx hy}
   ·intro e2
    injection e2 with e3 e4
    exact e ⟨h.ij x i hx hi oZ e3.symm,e4.symm⟩
 {rw[Rp];exact h.fr x y hx hy}
theorem MX.swap(h:MX w S P bA n c A bs a){i j k:Nat}(hi:i<n)(hj:j<c)(hk:k<c)(_hne:j≠k):
  MX ((w.setCell ⟨bs i,j,none⟩ (.int .u64 (a i k:Nat))).setCell ⟨bs i,k,none⟩ (.int .u64 (a i j:Nat))) S P bA n c A bs (fun x y=>if x=i then a x (xg j k y)else a x y):=by
 refine((h.store hi hj (a i k)).store hi hk (a i j)).congr fun x y _ _=>?_
 unfold xg;by_cases hx:x=i;{subst hx;by_cases e1:y=k;{subst e1;rw[Re ⟨rfl,rfl⟩,Re rfl];by_cases e2:y=j;{subst e2;rw[Re rfl]};{rw[Rc e2,Re rfl]}};{rw[Rc (fun e=>e1 e.2),Re rfl];by_cases e2:y=j;{subst e2;rw[Re ⟨rfl,rfl⟩,Re rfl]};{rw[Rc (fun e=>e2 e.2),Rc e2,Rc e1]}}};{rw[Rc (fun e=>hx e.1),Rc (fun e=>hx e.1),Rc hx]}
theorem MX.rows(h:MX w S P bA n c A bs a){i k:Nat}(hi:i<n)(hk:k<n):
  MX ((w.setCell ⟨bA,i,none⟩ (.slice (A k) c c)).setCell ⟨bA,k,none⟩ (.slice (A i) c c)) S P bA n c (fun x=>A (xg i k x)) (fun x=>bs (xg i k x)) (fun x y=>a (xg i k x) y):=by
 refine⟨fun hn=>?_,fun x hx=>?_,fun x hx=>?_,fun x hx hc=>?_,fun x y hx hy hc e=>?_,fun x y hx hy=>?_,fun x y hx hy=>?_⟩;{rw[RS,RS];exact h.top hn}
 ·have h1:(w.setCell ⟨bA,i,none⟩ (.slice (A k) c c)).cell? ⟨bA,x,none⟩=some (.slice (if x=i then A k else A x) c c):=by
   by_cases e:x=i;{subst e;rw[Re rfl];exact bV (h.hd x hx)};{rw[Rc e,aW (by intro e2;injection e2 with _ e2;exact e e2.symm)];exact h.hd x hx}
  by_cases e:x=k;{subst e;rw[bV h1];unfold xg;by_cases e2:x=i;{subst e2;rw[Re rfl]};{rw[Rc e2,Re rfl]}};{rw[aW (by intro e2;injection e2 with _ e2;exact e e2.symm),h1];unfold xg;by_cases e2:x=i;{rw[Re e2,Re e2]};{rw[Rc e2,Rc e2,Rc e]}}
 {rw[Rp,Rp];exact h.fz x hx};{rw[RS,RS];exact h.ad _ (uT hi hk hx) hc};{exact Nx (h.ij _ _ (uT hi hk hx) (uT hi hk hy) hc e)};{obtain⟨-,-,-,h4⟩:=h.ad _ (uT hi hk hx) oZ;rw[aW (by intro e;injection e with e;exact h4 e.symm),aW (by intro e;injection e with e;exact h4 e.symm)];exact h.en _ y (uT hi hk hx) hy};{rw[Rp,Rp];exact h.fr _ y (uT hi hk hx) hy}
end
section
variable{p g:Nat}
theorem Kc(hp:1<p):∀a b:Nat,g^a%p=1->g^b%p=1->g^Nat.gcd a b%p=1:=by
 intro a b
 induction a,b using Nat.gcd.induction with
 |H0 n=>intro _ h;rwa [Nat.gcd_zero_left]
 |H1 m n hm ih=>
  intro h1 h2;rw[Nat.gcd_rec];refine ih ?_ h1;have e:g^n%p=g^(n%m)%p:=by
   conv=>lhs;rw[<-Tt n m,Tz,Nat.pow_mul,SQ,UK,h1,Nat.one_pow,TV hp,Uq,UJ]
  rw[<-e];exact h2
def L_(L:List Nat):Prop:=∀q∈L,2<=q/\∀d,d<=q->d∣q->d=1\/d=q
theorem yF{e:Nat}:∀{L:List Nat},L_ L->e∣L.foldr (·*·) 1->(∀q∈L,¬q∣e)->e=1
 |[],_,h,_=>Nat.dvd_one.1 h
 |q::L,hL,h,hn=>by
  refine yF (L:=L) (fun q hq=>hL q (SE _ hq)) ?_ (fun q hq=>hn q (SE _ hq));obtain⟨h1,h2⟩:=hL q SM;have hco:Nat.Coprime e q:=by
   have hd:=Nat.gcd_dvd_right e q;rcases h2 _ (Nat.le_of_dvd oZ hd) hd with h3|h3
   {exact h3};{exact absurd (by rw[<-h3];exact Nat.gcd_dvd_left e q) (hn q SM)}
  exact hco.dvd_of_dvd_mul_left h
structure Cb(p g:Nat)(L:List Nat):Prop where
 hp:2<p
 one:g^(p-1)%p=1
 prm:L_ L
 prod:L.foldr (·*·) 1=p-1
 no:∀q∈L,g^((p-1)/q)%p≠1
variable{L:List Nat}(h:Cb p g L)
include h
theorem Cb.order{d:Nat}(h0:0<d)(hd:d<p-1):g^d%p≠1:=by
 intro hg;have hh:=Kc (by have:=h.hp;omega) d (p-1) hg h.one;obtain⟨k,hk⟩:∃k,Nat.gcd d (p-1)=k:=⟨_,rfl⟩
 obtain⟨e,he⟩:=Nat.gcd_dvd_right d (p-1);have hkd:k<=d:=by rw[<-hk];exact Nat.gcd_le_left _ h0
 rw[hk]at hh he;have hn:∃q,q∈L/\q∣e:=by apply Rq;intro VT;have he1:=yF (e:=e) h.prm (by rw[h.prod,he];exact Nat.dvd_mul_left ..) (fun q hq hd=>VT ⟨q,hq,hd⟩);rw[he1,Ta]at he;omega
 obtain⟨q,hq,f,rfl⟩:=hn;have YB:=(h.prm q hq).1;refine h.no q hq ?_;have:(p-1)/q=k*f:=by rw[he,Nat.mul_left_comm,Nat.mul_div_cancel_left _ oZ]
 rw[this,Nat.pow_mul,UK,hh,Nat.one_pow,TV (by have:=h.hp;omega)]
theorem Cb.pair{i:Nat}(hi:i<=p-1):g^i*g^(p-1-i)%p=1:=by rw[<-Tz,show i+(p-1-i)=p-1 by omega];exact h.one
theorem Cb.Qm{i j:Nat}(hij:i<j)(hj:j<p-1):g^i%p≠g^j%p:=by intro e;refine h.order (d:=j-i) oZ oZ ?_;have h1:=h.pair (i:=i) oZ;rw[SQ,e,<-SQ,<-Tz,show j+(p-1-i)=(p-1)+(j-i) by omega,Tz,SQ,h.one,Uq,UJ]at h1;exact h1
theorem Cb.pos{i:Nat}(hi:i<=p-1):0<g^i%p:=by
 rcases Se (g^i%p)with e|e
 {have h1:=h.pair hi;rw[SQ,e,Uh,Nat.zero_mod]at h1;cases h1};{exact e}
omit h in
theorem J6{N:Nat}{f:Nat->Nat}(hf:∀i,i<N->f i<N)(hi:∀i j,i<j->j<N->f i≠f j){y:Nat}(hy:y<N):∃i,i<N/\f i=y:=by
 apply Rq;intro VT;have Yz:((List.range N).map f).Nodup:=by rw[List.Nodup,Tq];refine(Tc (n:=N)).imp_of_mem ?_;intro a b _ hb hab;exact hi a b hab (Rm.1 hb)
 have Ye:(List.range N).map f⊆(List.range N).erase y:=by intro x hx;rw[So]at hx;obtain⟨i,hi,rfl⟩:=hx;rw[Rm]at hi;rw[List.mem_erase_of_ne (fun e=>VT ⟨i,hi,e⟩)];exact Rm.2 (hf i hi)
 have:=Yz.length_le_of_subset Ye;rw[Sa,SW,List.length_erase_of_mem (Rm.2 hy),SW]at this;omega
theorem Cb.L9{a:Nat}(h0:0<a)(ha:a<p):a^(p-1)%p=1:=by
 have hp:=h.hp;obtain⟨i,hi,e⟩:=J6 (N:=p-1) (f:=fun i=>g^i%p-1) (fun i hi=>by
   have:=h.pos (i:=i) oZ;have:=RY (g^i) (show 0<p by omega);show g^i%p-1<p-1;omega) (fun i j hij hj e=>h.Qm hij hj (by
   have:=h.pos (i:=i) oZ;have:=h.pos (i:=j) oZ;have e:g^i%p-1=g^j%p-1:=e;omega)) (y:=a-1) oZ
 have e:g^i%p-1=a-1:=e;have:=h.pos (i:=i) oZ;have ea:a=g^i%p:=oZ;rw[ea,<-UK,<-Nat.pow_mul,SP,Nat.pow_mul,UK,h.one,Nat.one_pow,TV oZ]
end
def Pf(p:Nat):Nat->Nat->Nat->Nat->Nat
 |0,r,_,_=>r
 |f+1,r,a,e=>if e=0 then r else Pf p f (if e%2=1 then r*a%p else r) (a*a%p) (e/2)
theorem H8{p:Nat}:∀(f r a e:Nat),e<2^f->Pf p f r a e%p=r*a^e%p
 |0,r,a,e,h=>by rw[Vb]at h;rw[show e=0 by omega,Vb,Ta];rfl
 |f+1,r,a,e,h=>by
  rw[Nat.pow_succ]at h;rw[Pf];split;{rename_i h0;rw[h0,Vb,Ta]}
  ·rw[H8 f _ _ _ oZ]
   have key:∀x,x*(a*a%p)^(e/2)%p=x*a^(2*(e/2))%p:=by intro x;rw[SQ,<-UK,<-SQ,Nat.mul_pow,<-Tz,Nat.two_mul]
   rw[key];split;{rw[Nat.mod_mul_mod,Tl,<-Nat.pow_succ'];congr 3;omega};{congr 3;omega}
def ML:List Nat:=[2,3,3,5,5,7,11,13,31,41,61,151,331,1321]
theorem LV:L_ ML:=by
 have:∀q∈ML,2<=q/\∀d,d<q+1->d∣q->d=1\/d=q:=by decide+kernel
 exact fun q hq=>⟨(this q hq).1,fun d hd=>(this q hq).2 d oZ⟩
theorem OF{e:Nat}(he:e<2^61):37^e%PM=Pf PM 61 1 37 e%PM:=by rw[H8 61 1 37 e he,Uq]
theorem MY:Cb PM 37 ML:=by have hpm:PM-1<2^61:=oQ;refine⟨oQ,?_,LV,by decide+kernel,fun q hq=>?_⟩;{rw[OF hpm];decide+kernel};{rw[OF (S9 (Nat.div_le_self _ _) hpm)];revert q;decide+kernel}
theorem inv_mul{a:Nat}(h0:0<a)(ha:a<PM):a*pB a%PM=1:=by have h:=MY.L9 h0 ha;unfold pB;rw[Uq,SQ,UJ,<-SQ,<-Nat.pow_succ'];exact h
theorem MH(a:Nat):pB a<PM:=RY _ oQ
end Go.Proofs.YtdbhigmklejicaaGreat
