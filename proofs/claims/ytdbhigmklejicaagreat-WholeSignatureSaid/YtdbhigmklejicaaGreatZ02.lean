/- Lemmas, each under its own premises. -/
import Derived.Test.YtdbhigmklejicaaGreatZ01
import Derived.ArgAppend
import Derived.Deep.RegionHeld3
import Derived.StillTailTactics
namespace Go.Proofs.YtdbhigmklejicaaGreat
set_option maxHeartbeats 16000000
set_option maxRecDepth 100000
def gn(xs:List Int)(k:Nat):Nat:=(gi xs k).toNat
def gN(ls:List Nat)(k:Nat):Nat:=ls.getD k 0
theorem Fh{ls:List Nat}{i k y:Nat}(hi:i<ls.length):gN (ls.set i y) k=if k=i then y else gN ls k:=by by_cases h:k=i;{subst h;simp[gN,hi]};{simp only[h,UG];unfold gN;rw[Rw,Rw,Ua (fun e=>h e.symm)]}
theorem sF{n k:Nat}(h:k<n):gN (List.range n) k=k:=by simp[gN,h]
theorem Mh{ls:List Nat}{k:Nat}(h:k<ls.length):gi (ls.map Int.ofNat) k=(gN ls k:Int):=by simp[gi,gN,h]
theorem CN{ls:List Nat}{k:Nat}(h:k<ls.length):gN ls k=ls[k]:=by simp[gN,h]
def cP(mt:List Int):Prop:=∀h,h<mt.length->0<=gi mt h/\gi mt h<mt.length/\gi mt h≠h/\gi mt (gn mt h)=h
theorem cP.gn{mt:List Int}(hI:cP mt){h:Nat}(hh:h<mt.length):gi mt h=(gn mt h:Int)/\gn mt h<mt.length/\gn mt h≠h/\gn mt (gn mt h)=h:=by
 obtain⟨h1,h2,h3,h4⟩:=hI h hh;have e:gi mt h=(YtdbhigmklejicaaGreat.gn mt h:Int):=by unfold YtdbhigmklejicaaGreat.gn;omega
 refine⟨e,oZ,by intro e';rw[e']at e;exact h3 e,?_⟩;show(gi mt (YtdbhigmklejicaaGreat.gn mt h)).toNat=h;rw[h4];rfl
inductive Cn(mt:List Int)(c:Nat):Nat->Prop
 |refl:Cn mt c c
 |step {d h:Nat}:Cn mt c d->h<mt.length->h/4=d->Cn mt c (gn mt h/4)
theorem Cn.trans{mt:List Int}{c d e:Nat}(h1:Cn mt c d)(h2:Cn mt d e):Cn mt c e:=by
 induction h2 with
 |refl=>exact h1
 |step _ hl he ih=>exact .step ih hl he
theorem Cn.one{mt:List Int}{h:Nat}(hh:h<mt.length):Cn mt (h/4) (gn mt h/4):= .step .refl hh rfl
theorem Cn.symm{mt:List Int}(hI:cP mt){c d:Nat}(h:Cn mt c d):Cn mt d c:=by
 induction h with
 |refl=>exact .refl
 |@step d h _ hl he ih=>obtain⟨_,h2,_,h4⟩:=hI.gn hl;have:=Cn.one (mt:=mt) h2;rw[h4,he]at this;exact this.trans ih
theorem Cn.lt{mt:List Int}(hI:cP mt){n c d:Nat}(hn:mt.length=4*n)(hc:c<n)(h:Cn mt c d):d<n:=by
 induction h with
 |refl=>exact hc
 |step _ hl _ _=>have:=(hI.gn hl).2.1;omega
def Lv(mt:List Int)(r:Nat):Nat->Nat->Prop
 |0,c=>c=r
 |p+1,c=>Lv mt r p c\/∃h,h<mt.length/\Lv mt r p (h/4)/\gn mt h/4=c
theorem Lv.mono{mt:List Int}{r p c:Nat}(h:Lv mt r p c)(q:Nat):Lv mt r (p+q) c:=by
 induction q with
 |zero=>exact h
 |succ q ih=>exact .inl ih
theorem Lv.OS{mt:List Int}{r c:Nat}(h:Cn mt r c):∃p,Lv mt r p c:=by
 induction h with
 |refl=>exact⟨0,rfl⟩
 |step _ hl he ih=>obtain⟨p,hp⟩:=ih;exact⟨p+1,.inr ⟨_,hl,by rw[he];exact hp,rfl⟩⟩
theorem Lv.cn{mt:List Int}{r:Nat}:∀{p c:Nat},Lv mt r p c->Cn mt r c:=by
 intro p
 induction p with
 |zero=>intro c h;rw[show c=r from h];exact .refl
 |succ p ih=>rintro c (h|⟨h,hl,h1,rfl⟩);{exact ih h};{exact .step (ih h1) hl rfl}
theorem Lv.Mw{mt:List Int}{r p:Nat}(h:∀c,Lv mt r (p+1) c->Lv mt r p c):∀q c,Lv mt r q c->Lv mt r p c:=by
 intro q
 induction q with
 |zero=>intro c hc;have:=Lv.mono (mt:=mt) (r:=r) (p:=0) hc p;rwa [Sr]at this
 |succ q ih=>rintro c (hc|⟨g,hl,h1,rfl⟩);{exact ih c hc};{exact h _ (.inr ⟨g,hl,ih _ h1,rfl⟩)}
theorem Lv.grow{mt:List Int}{r:Nat}:∀p,(∃q,q<p/\∀c,Lv mt r (q+1) c->Lv mt r q c)\/∃l:List Nat,l.Nodup/\l.length=p+1/\∀x,x∈l->Lv mt r p x:=by
 intro p
 induction p with
 |zero=>exact .inr ⟨[r],oX,rfl,by intro x hx;simpa[Lv]using hx⟩
 |succ p ih=>
  rcases ih with⟨q,hq,h⟩|⟨l,h1,h2,h3⟩
  {exact .inl ⟨q,oZ,h⟩}
  ·by_cases hs:∀c,Lv mt r (p+1) c->Lv mt r p c
   {exact .inl ⟨p,oZ,hs⟩}
   ·obtain⟨c,hc⟩:=UH.1 hs
    obtain⟨hc1,Xd⟩:=Uu.1 hc;refine .inr ⟨c::l,?_,by simp[h2],?_⟩;{rw[SC];exact⟨fun hm=>Xd (h3 c hm),h1⟩}
    ·intro x hx
     rcases RV.1 hx with rfl|hx
     {exact hc1};{exact .inl (h3 x hx)}
theorem Lv.all{mt:List Int}(hI:cP mt){n r c:Nat}(hn:mt.length=4*n)(hr:r<n)(h:Cn mt r c):Lv mt r n c:=by
 rcases Lv.grow (mt:=mt) (r:=r) n with⟨q,hq,hs⟩|⟨l,h1,h2,h3⟩
 {obtain⟨p,hp⟩:=Lv.OS h;have:=(Lv.Mw hs p c hp).mono (n-q);rwa [show q+(n-q)=n by omega]at this}
 ·exfalso
  have Ye:l⊆List.range n:=fun x hx=>Rm.2 ((h3 x hx).cn.lt hI hn hr)
  have:=h1.length_le_of_subset Ye;simp at this;omega
def wY(mt:List Int)(ls:List Nat)(h:Nat):Nat:=min (gN ls (h/4)) (gN ls (gn mt h/4))
def wm(mt:List Int)(ls:List Nat)(h:Nat):List Nat:=(ls.set (h/4) (wY mt ls h)).set (gn mt h/4) (wY mt ls h)
def nU(mt:List Int)(ls:List Nat)(k:Nat):List Nat:=(List.range k).foldl (wm mt) ls
def Dk(mt:List Int)(ls:List Nat):Nat->List Nat
 |0=>ls
 |p+1=>nU mt (Dk mt ls p) mt.length
def eH(mt:List Int)(n:Nat):List Nat:=Dk mt (List.range n) n
theorem kM(mt:List Int)(ls:List Nat)(k:Nat):nU mt ls (k+1)=wm mt (nU mt ls k) k:=by unfold nU;rw[Sk,List.foldl_append];rfl
structure lD(mt:List Int)(n:Nat)(ls:List Nat):Prop where
 len:ls.length=n
 le:∀c,c<n->gN ls c<=c
 cn:∀c,c<n->Cn mt (gN ls c) c
theorem lD.start(mt:List Int)(n:Nat):lD mt n (List.range n):=
 ⟨oX,fun c hc=>by rw[sF hc];omega,fun c hc=>by rw[sF hc];exact .refl⟩
section
variable{mt:List Int}(hI:cP mt){n:Nat}(hn:mt.length=4*n)
include hI hn
theorem nR{ls:List Nat}(hl:ls.length=n){h:Nat}(hh:h<mt.length)(c:Nat):gN (wm mt ls h) c=if c=gn mt h/4\/c=h/4 then wY mt ls h else gN ls c:=by have h2:=(hI.gn hh).2.1;unfold wm;rw[Fh (by rw[Ry];omega),Fh oZ];by_cases e1:c=gn mt h/4;{rw[Re e1,Re (.inl e1)]};{rw[Rc e1];by_cases e2:c=h/4;{rw[Re e2,Re (.inr e2)]};{rw[Rc e2,Rc (by rintro(h|h)<;>contradiction)]}}
theorem lD.step{ls:List Nat}(H:lD mt n ls){h:Nat}(hh:h<mt.length):lD mt n (wm mt ls h):=by
 obtain⟨_,h2,_,_⟩:=hI.gn hh;have ha:h/4<n:=oZ;have hb:gn mt h/4<n:=oZ;have Vo:∀c,c=gn mt h/4\/c=h/4->wY mt ls h<=c/\Cn mt (wY mt ls h) c:=by
  intro c hc;have e1:=H.le _ ha;have e2:=H.le _ hb;have c1:=H.cn _ ha;have c2:=H.cn _ hb;have j1:=Cn.one (mt:=mt) hh;unfold wY;rcases Nat.le_total (gN ls (h/4)) (gN ls (gn mt h/4))with hle|hle
  ·rw[Nat.min_eq_left hle]
   rcases hc with rfl|rfl
   {exact⟨oZ,c1.trans j1⟩};{exact⟨oZ,c1⟩}
  ·rw[Nat.min_eq_right hle]
   rcases hc with rfl|rfl
   {exact⟨oZ,c2⟩};{exact⟨oZ,c2.trans (j1.symm hI)⟩}
 refine⟨by simp[wm,H.len],fun c hc=>?_,fun c hc=>?_⟩;{rw[nR hI hn H.len hh];split;{rename_i e;exact(Vo c e).1};{exact H.le c hc}};{rw[nR hI hn H.len hh];split;{rename_i e;exact(Vo c e).2};{exact H.cn c hc}}
theorem lD.part{ls:List Nat}(H:lD mt n ls):∀k,k<=mt.length->lD mt n (nU mt ls k):=by
 intro k
 induction k with
 |zero=>intro _;exact H
 |succ k ih=>intro hk;rw[kM];exact(ih oZ).step hI hn oZ
theorem lD.pass{ls:List Nat}(H:lD mt n ls):∀p,lD mt n (Dk mt ls p):=by
 intro p
 induction p with
 |zero=>exact H
 |succ p ih=>exact ih.part hI hn _ (Rf _)
theorem tj{ls:List Nat}{r:Nat}(H:lD mt n ls)(hr:∀d,Cn mt r d->r<=d){c:Nat}(hc:c<n)(h:gN ls c=r):∀k,k<=mt.length->gN (nU mt ls k) c=r:=by
 intro k
 induction k with
 |zero=>intro _;exact h
 |succ k ih=>
  intro hk;have HK:=H.part hI hn k oZ;have e:=ih oZ;have hh:k<mt.length:=oZ;obtain⟨_,h2,_,_⟩:=hI.gn hh;have Zs:Cn mt r c:=by have:=H.cn c hc;rwa [h]at this
  rw[kM,nR hI hn HK.len hh];split
  ·rename_i ec
   have j1:=Cn.one (mt:=mt) hh;have c1:=HK.cn (k/4) oZ;have c2:=HK.cn (gn mt k/4) oZ;unfold wY;rcases ec with rfl|rfl
   {have:=hr _ ((Zs.trans (j1.symm hI)).trans (c1.symm hI));rw[e];omega};{have:=hr _ ((Zs.trans j1).trans (c2.symm hI));rw[e];omega}
  {exact e}
theorem spread{ls:List Nat}{r:Nat}(H:lD mt n ls)(hr:∀d,Cn mt r d->r<=d){h:Nat}(hh:h<mt.length)(e:gN ls (h/4)=r):gN (nU mt ls mt.length) (gn mt h/4)=r:=by
 obtain⟨_,h2,_,_⟩:=hI.gn hh;have hb:gn mt h/4<n:=oZ;have Zs:Cn mt r (h/4):=by have:=H.cn (h/4) oZ;rwa [e]at this
 have HK:=H.part hI hn h oZ;have e1:=tj hI hn H hr (show h/4<n by omega) e h oZ;have e2:gN (nU mt ls (h+1)) (gn mt h/4)=r:=by rw[kM,nR hI hn HK.len hh,Re (.inl rfl)];unfold wY;have:=hr _ ((Zs.trans (Cn.one hh)).trans ((HK.cn (gn mt h/4) hb).symm hI));rw[e1];omega
 have:∀k,h+1<=k->k<=mt.length->gN (nU mt ls k) (gn mt h/4)=r:=by
  intro k
  induction k with
  |zero=>intro h1;omega
  |succ k ih=>
   intro h1 h3;rcases Sl h1 with h4|h4
   ·have e:=ih oZ oZ
    have HK:=H.part hI hn k oZ;have VA:k<mt.length:=oZ;obtain⟨_,g2,_,_⟩:=hI.gn VA;have hrb:Cn mt r (gn mt h/4):=Zs.trans (Cn.one hh);rw[kM,nR hI hn HK.len VA];split
    ·rename_i ec
     have j1:=Cn.one (mt:=mt) VA;have c1:=HK.cn (k/4) oZ;have c2:=HK.cn (gn mt k/4) oZ;unfold wY;rcases ec with ec|ec
     {rw[ec]at hrb e;have:=hr _ ((hrb.trans (j1.symm hI)).trans (c1.symm hI));rw[e];omega};{rw[ec]at hrb e;have:=hr _ ((hrb.trans j1).trans (c2.symm hI));rw[e];omega}
    {exact e}
   {rw[<-h4];exact e2}
 exact this mt.length oZ (Rf _)
theorem Jo{r:Nat}(hr:∀d,Cn mt r d->r<=d)(hrn:r<n):∀p c,Lv mt r p c->gN (Dk mt (List.range n) p) c=r:=by
 intro p
 induction p with
 |zero=>intro c h;rw[show c=r from h];exact sF hrn
 |succ p ih=>rintro c (h|⟨h,hl,h1,rfl⟩);{exact tj hI hn ((lD.start mt n).pass hI hn p) hr (h.cn.lt hI hn hrn) (ih c h) _ (Rf _)};{exact spread hI hn ((lD.start mt n).pass hI hn p) hr hl (ih _ h1)}
theorem df{c:Nat}(hc:c<n):Cn mt (gN (eH mt n) c) c/\(∀d,Cn mt c d->gN (eH mt n) c<=d)/\gN (eH mt n) c<n:=by
 have H:lD mt n (eH mt n):=(lD.start mt n).pass hI hn n;obtain⟨r,hr,hl⟩:=oM (P:=fun x=>Cn mt c x) Cn.refl;have hrn:=hr.lt hI hn hc;have YJ:∀d,Cn mt r d->r<=d:=fun d hd=>hl d (hr.trans hd)
 have e:=Jo hI hn YJ hrn n c (Lv.all hI hn hrn (hr.symm hI));have e':gN (eH mt n) c=r:=e;rw[e'];exact⟨hr.symm hI,hl,hrn⟩
theorem fN{c d:Nat}(hc:c<n)(h:Cn mt c d):gN (eH mt n) c=gN (eH mt n) d:=by have hd:=h.lt hI hn hc;obtain⟨a1,a2,_⟩:=df hI hn hc;obtain⟨b1,b2,_⟩:=df hI hn hd;have e1:=a2 _ (h.trans (b1.symm hI));have e2:=b2 _ ((h.symm hI).trans (a1.symm hI));omega
theorem kL{c d:Nat}(hc:c<n)(hd:d<n)(h:gN (eH mt n) c=gN (eH mt n) d):Cn mt c d:=by obtain⟨a1,_,_⟩:=df hI hn hc;obtain⟨b1,_,_⟩:=df hI hn hd;rw[<-h]at b1;exact(a1.symm hI).trans b1
theorem sR{c:Nat}(hc:c<n):gN (eH mt n) c<=c:=(df hI hn hc).2.1 c .refl
theorem jg{c:Nat}(hc:c<n):gN (eH mt n) (gN (eH mt n) c)=gN (eH mt n) c:=by obtain⟨a1,_,a3⟩:=df hI hn hc;exact fN hI hn a3 a1
theorem oP{h:Nat}(hh:h<mt.length):gN (eH mt n) (h/4)=gN (eH mt n) (gn mt h/4):=
 fN hI hn oZ (Cn.one hh)
end
def kS(ls:List Nat)(r:Nat):Nat:=((List.range r).filter fun x=>gN ls x==x).length
theorem iD(ls:List Nat)(r:Nat):kS ls (r+1)=kS ls r+if gN ls r=r then 1 else 0:=by unfold kS;rw[Sk,Th,Rz];congr 1;by_cases h:gN ls r=r<;>simp[h]
theorem En(ls:List Nat){a b:Nat}(h:a<=b):kS ls a<=kS ls b:=by
 induction b with
 |zero=>have:a=0:=oZ;subst this;exact Rf _
 |succ b ih=>
  rcases Sl h with h1|rfl
  {have:=ih oZ;rw[iD];omega};{exact Rf _}
theorem j_(ls:List Nat){a b:Nat}(h:a<b)(ha:gN ls a=a):kS ls a<kS ls b:=by have h1:=En ls (show a+1<=b from h);rw[iD,Re ha]at h1;omega
theorem zx(ls:List Nat){a b:Nat}(ha:gN ls a=a)(hb:gN ls b=b)(h:kS ls a=kS ls b):a=b:=by
 rcases SK a b with h1|h1|h1
 {have:=j_ ls h1 ha;omega};{exact h1};{have:=j_ ls h1 hb;omega}
theorem rE(ls:List Nat)(r:Nat):kS ls r<=r:=by unfold kS;have:=Tg (fun x=>gN ls x==x) (List.range r);simpa using this
theorem ED(ls:List Nat):∀{n p:Nat},p<kS ls n->∃r,r<n/\gN ls r=r/\kS ls r=p:=by
 intro n
 induction n with
 |zero=>intro p h;simp[kS]at h
 |succ n ih=>intro p h;rw[iD]at h;by_cases h1:p<kS ls n;{obtain⟨r,a,b,c⟩:=ih h1;exact⟨r,oZ,b,c⟩};{by_cases h2:gN ls n=n;{rw[Re h2]at h;exact⟨n,oZ,h2,oZ⟩};{rw[Rc h2]at h;omega}}
def aA(mt:List Int)(n c:Nat):Nat:=gN (eH mt n) c
def av(mt:List Int)(n r:Nat):Nat:=kS (eH mt n) r
structure yx(mt:List Int)(n k:Nat)(p:List Int):Prop where
 len:p.length=n
 val:∀x,x<n->(aA mt n x<k->gi p x=(av mt n (aA mt n x):Int))/\(k<=aA mt n x->gi p x= -1)
structure BI(mt:List Int)(n k:Nat)(p:List Int)(q:List Nat)(a s:Nat):Prop where
 len:p.length=n
 val:∀x,x<n->(aA mt n x<k->gi p x=(av mt n (aA mt n x):Int))/\(k<aA mt n x->gi p x= -1)/\(aA mt n x=k->gi p x= -1\/gi p x=(av mt n k:Int))
 start:gi p k=(av mt n k:Int)
 qv:∀x,x∈q->x<n/\aA mt n x=k/\gi p x=(av mt n k:Int)
 closed:∀x,x<n->aA mt n x=k->gi p x=(av mt n k:Int)->x∉q->∀t,t<4->(x=a/\s<=t)\/gi p (gn mt (4*x+t)/4)=(av mt n k:Int)
def xN(p:List Int):Nat:=p.countP fun x=>decide (x<0)
theorem JJ(p:List Int):xN p<=p.length:=List.countP_le_length
theorem Hq{p:List Int}{i:Nat}{y:Int}(hi:i<p.length)(h:gi p i<0)(hy:0<=y):xN (p.set i y)+1=xN p:=by
 unfold xN;have h1:decide (p[i]<0)=true:=by rw[<-fP hi];exact Rj h
 have h2:decide (y<0)=false:=Rl oZ;have h3:0<p.countP fun x=>decide (x<0):=List.countP_pos_iff.2 ⟨p[i],R7 hi,h1⟩
 rw[List.countP_set hi];simp only[h1,h2];simp;omega
section
variable{mt:List Int}(hI:cP mt){n:Nat}(hn:mt.length=4*n)
include hI hn
theorem EE{k:Nat}{p:List Int}(hk:k<n)(h:yx mt n k p)(h0:0<=gi p k):yx mt n (k+1) p/\av mt n (k+1)=av mt n k:=by
 have hlk:aA mt n k<k:=by
  rcases SN (aA mt n k) k with h1|h1
  {exact h1};{have:=(h.val k hk).2 h1;omega}
 have VT:∀x,x<n->aA mt n x≠k:=by intro x hx e;have:aA mt n (aA mt n x)=aA mt n x:=jg hI hn hx;rw[e]at this;omega
 refine⟨⟨h.len,fun x hx=>⟨fun h1=>(h.val x hx).1 (by have:=VT x hx;omega),fun h1=>(h.val x hx).2 oZ⟩⟩,?_⟩;unfold av;rw[iD,Rc (by have:gN (eH mt n) k=aA mt n k:=rfl;omega),Tx]
theorem yO{k:Nat}{p:List Int}(hk:k<n)(h:yx mt n k p)(h0:¬0<=gi p k):aA mt n k=k/\gi p k= -1/\av mt n (k+1)=av mt n k+1:=by
 have hle:aA mt n k<=k:=sR hI hn hk;have hl:aA mt n k=k:=by
  rcases SN (aA mt n k) k with h1|h1
  {have:=(h.val k hk).1 h1;omega};{omega}
 refine⟨hl,(h.val k hk).2 oZ,?_⟩;unfold av;rw[iD,Re (show gN (eH mt n) k=k from hl)]
theorem E9{k:Nat}{p:List Int}(hk:k<n)(h:yx mt n k p)(h0:¬0<=gi p k):BI mt n k (p.set k (av mt n k:Int)) [k] n 4:=by
 obtain⟨hl,hp,_⟩:=yO hI hn hk h h0;have hkp:k<p.length:=by rw[h.len];exact hk
 have hs:∀x,gi (p.set k (av mt n k:Int)) x=if x=k then(av mt n k:Int)else gi p x:=fun x=>dB hkp
 refine⟨by simp[h.len],fun x hx=>?_,by rw[hs,Re rfl],fun x hx=>?_,fun x hx h1 h2 h3=>?_⟩;{rw[hs];by_cases e:x=k;{subst e;rw[Re rfl];exact⟨fun h=>by omega,fun h=>by omega,fun _=> .inr rfl⟩};{rw[Rc e];exact⟨(h.val x hx).1,fun h1=>(h.val x hx).2 oZ,fun h1=> .inl ((h.val x hx).2 oZ)⟩}}
 ·have:x=k:=by simpa using hx
  subst this;exact⟨hk,hl,by rw[hs,Re rfl]⟩
 ·exfalso
  rw[hs]at h2;have Vh:x≠k:=by simpa using h3
  rw[Rc Vh]at h2;have:=(h.val x hx).2 oZ;omega
omit hI hn in
theorem Mf{k:Nat}{p:List Int}{x a:Nat}{q:List Nat}(h:BI mt n k p (x::q) a 4):BI mt n k p q x 0:=by
 refine⟨h.len,h.val,h.start,fun y hy=>h.qv y (SE _ hy),fun y hy h1 h2 h3 t ht=>?_⟩;by_cases e:y=x;{exact .inl ⟨e,Rv _⟩}
 ·rcases h.closed y hy h1 h2 (by simp[e,h3]) t ht with⟨_,h4⟩|h4
  {omega};{exact .inr h4}
theorem Hv{k:Nat}{p:List Int}{a s:Nat}{q:List Nat}(_h:BI mt n k p q a s)(ha:a<n)(hl:aA mt n a=k)(hs:s<4):gn mt (4*a+s)/4<n/\aA mt n (gn mt (4*a+s)/4)=k/\4*a+s<mt.length:=by have hh:4*a+s<mt.length:=oZ;have:=(hI.gn hh).2.1;have e:=oP hI hn hh;rw[show(4*a+s)/4=a by omega]at e;exact⟨oZ,by unfold aA at hl⊢;rw[<-e];exact hl,hh⟩
theorem J0{k:Nat}{p:List Int}{a s:Nat}{q:List Nat}(h:BI mt n k p q a s)(ha:a<n)(hl:aA mt n a=k)(hs:s<4)(h0:0<=gi p (gn mt (4*a+s)/4)):BI mt n k p q a (s+1):=by
 obtain⟨h1,h2,_⟩:=Hv hI hn h ha hl hs;have e:gi p (gn mt (4*a+s)/4)=(av mt n k:Int):=by
  rcases(h.val _ h1).2.2 h2 with e|e
  {omega};{exact e}
 refine⟨h.len,h.val,h.start,h.qv,fun y hy g1 g2 g3 t ht=>?_⟩;rcases h.closed y hy g1 g2 g3 t ht with⟨g4,g5⟩|g4
 {by_cases et:t=s;{subst et g4;exact .inr e};{exact .inl ⟨g4,oZ⟩}};{exact .inr g4}
theorem MQ{k:Nat}{p:List Int}{a s:Nat}{q:List Nat}(h:BI mt n k p q a s)(ha:a<n)(hl:aA mt n a=k)(hs:s<4)(h0:¬0<=gi p (gn mt (4*a+s)/4)):
  BI mt n k (p.set (gn mt (4*a+s)/4) (av mt n k:Int)) (q++[gn mt (4*a+s)/4]) a (s+1):=by
 obtain⟨h1,h2,_⟩:=Hv hI hn h ha hl hs;generalize ht:gn mt (4*a+s)/4=to at*;have hkp:to<p.length:=by rw[h.len];exact h1
 have hset:∀x,gi (p.set to (av mt n k:Int)) x=if x=to then(av mt n k:Int)else gi p x:=fun x=>dB hkp
 have hmono:∀x,gi p x=(av mt n k:Int)->gi (p.set to (av mt n k:Int)) x=(av mt n k:Int):=fun x hx=>by rw[hset];split;{rfl};{exact hx}
 refine⟨by simp[h.len],fun x hx=>?_,hmono _ h.start,fun x hx=>?_,fun y hy g1 g2 g3 t ht'=>?_⟩;{rw[hset];by_cases e:x=to;{subst e;rw[Re rfl];exact⟨fun h=>by omega,fun h=>by omega,fun _=> .inr rfl⟩};{rw[Rc e];exact h.val x hx}}
 ·rcases SS.1 hx with hx|hx
  {obtain⟨a1,a2,a3⟩:=h.qv x hx;exact⟨a1,a2,hmono _ a3⟩}
  ·have:x=to:=by simpa using hx
   subst this;exact⟨h1,h2,by rw[hset,Re rfl]⟩
 ·have Vh:y≠to:=by
   rintro rfl;exact g3 oX
  have hnq:y∉q:=fun hm=>g3 (by simp[hm])
  rw[hset,Rc Vh]at g2;rcases h.closed y hy g1 g2 hnq t ht' with⟨g4,g5⟩|g4
  {by_cases et:t=s;{subst et g4;right;rw[ht,hset,Re rfl]};{exact .inl ⟨g4,oZ⟩}};{exact .inr (hmono _ g4)}
theorem J'{k:Nat}{p:List Int}{a:Nat}(hk:k<n)(hlk:aA mt n k=k)(h:BI mt n k p [] a 4):yx mt n (k+1) p:=by
 have Vx:∀x,Cn mt k x->gi p x=(av mt n k:Int):=by
  intro x hx
  induction hx with
  |refl=>exact h.start
  |@step d g hd hl he ih=>
   have hdn:=hd.lt hI hn hk;have hld:aA mt n d=k:=by have:=fN hI hn hk hd;unfold aA at hlk⊢;omega
   rcases h.closed d hdn hld ih oX (g%4) oZ with⟨_,h4⟩|h4
   {omega};{rw[show 4*d+g%4=g by omega]at h4;exact h4}
 refine⟨h.len,fun x hx=>⟨fun h1=>?_,fun h1=>(h.val x hx).2.1 oZ⟩⟩;rcases Sl (SO h1)with h2|h2
 {exact(h.val x hx).1 h2};{rw[h2];refine Vx x (kL hI hn hk hx ?_);unfold aA at hlk h2;omega}
end
def oB(mt:List Int)(n:Nat):List Int:=(List.range n).map fun c=>(av mt n (aA mt n c):Int)
theorem cR(mt:List Int)(n:Nat):(oB mt n).length=n:=by simp[oB]
theorem nO{mt:List Int}{n c:Nat}(hc:c<n):gi (oB mt n) c=(av mt n (aA mt n c):Int):=by simp[gi,oB,hc]
theorem GB{mt:List Int}(hI:cP mt){n:Nat}(hn:mt.length=4*n){p:List Int}(h:yx mt n n p):p=oB mt n:=by apply mZ;{rw[h.len,cR]};{intro c hc;rw[h.len]at hc;rw[nO hc];exact(h.val c hc).1 (df hI hn hc).2.2}
theorem A_{mt:List Int}{n:Nat}{p:List Int}(hl:p.length=n)(h:∀x,x<n->gi p x= -1):yx mt n 0 p:=
 ⟨hl,fun x hx=>⟨fun h=>by omega,fun _=>h x hx⟩⟩
open Go.RowKit
def ae(h k:Nat):Nat:=h-h%4+(h%4+k)%4
theorem af(h k:Nat):ae h k/4=h/4:=by unfold ae;omega
theorem fF(h k:Nat):ae h k%4=(h%4+k)%4:=by unfold ae;omega
theorem ar(h j k:Nat):ae (ae h j) k=ae h (j+k):=by have h1:=fF h j;have h2:=af h j;unfold ae at h1 h2⊢;omega
theorem lq{h k n:Nat}(hh:h<4*n):ae h k<4*n:=by unfold ae;omega
theorem eG(h:Nat):ae h 0=h:=by unfold ae;omega
theorem bC(h:Nat):ae h 4=h:=by unfold ae;omega
theorem dC{a b k:Nat}(h:ae a k=ae b k):a=b:=by unfold ae at h;omega
theorem JP(h:Nat)(b:Int):(h:Int)-(h:Int)%4+((h:Int)%4+b.tmod 4+4)%4=(ae h (b%4).toNat:Int):=by
 have h1:=Int.tmod_eq_emod (a:=b) (b:=4);unfold ae;have e:b.tmod 4=b%4\/b.tmod 4=b%4-4:=by rw[h1];split<;>omega
 omega
theorem Gr(b:Int): -3<=b.tmod 4/\b.tmod 4<=3:=by
 have h1:=Int.tmod_eq_emod (a:=b) (b:=4);rw[h1];split;{omega}
 ·rename_i h
  have h2:¬(4:Int)∣b:=fun hd=>h (.inr hd)
  have h3:b%4≠0:=fun e=>h2 (Int.dvd_of_emod_eq_zero e)
  omega
theorem yU(h:Nat)(b:Int)(w:World)(hh:h<=1099511627776):
  Calls Tryz.prog 31 #[.int .i64 h,.int .i64 b] w fun e w'=>e= .returned (.int .i64 (ae h (b%4).toNat))/\w=w':=by
 have hE:=Rb (JP h b);have ht:=Gr b;go_enter Tryz.func31,Tryz.ntmps31
 go_wp2;go_ret;exact⟨cE (by have:=hE.out;omega),rfl⟩
theorem nK{a b:Int}(h k:Nat)(w:World)(ha:a=h)(hh:h<=1099511627776)(hk:(b%4).toNat=k):
  Calls Tryz.prog 31 #[.int .i64 a,.int .i64 b] w fun e w'=>e= .returned (.int .i64 (ae h k))/\w=w':=by
 subst ha hk;exact yU h b w hh
theorem dF{a:Int}(h:Nat)(w:World)(ha:a=h)(hh:h<=1099511627776):
  Calls Tryz.prog 61 #[.int .i64 a] w fun e w'=>e= .returned (.int .i64 (ae h 2))/\w=w':=by
 subst ha;go_enter Tryz.func61,Tryz.ntmps61
 go_wp2_with fail;refine(nK h 2 _ rfl hh oQ).mono ?_;rintro e w1 ⟨rfl,rfl⟩;go_wp2_with fail;go_ret;exact⟨rfl,rfl⟩
def ai(sg:List Int)(h:Nat):Bool:=if h%4=1 then gi sg (h/4)==1 else if h%4=2 then true else if h%4=3 then gi sg (h/4)== -1 else false
theorem mod_eq{h r k:Nat}(hr:h%4=r)(b:Bool)(hb:decide (r=k)=b):((h:Int)%4==(k:Int))=b:=by subst hb;rw[R_,SA,RE];omega
theorem nF(A1 A2:Option Addr)(c1 c2 ml:Nat)(sg:List Int)(L a:Int)(h:Nat)(w:World)(S:Nat->Prop)(hx:RI w S A1 sg)(hS:∀b,S b->b<w.heap.size)(hm:sg.length<=1099511627776)(ha:a=h)(hh:h<4*sg.length):
  Calls Tryz.prog 25 #[.agg #[.slice A1 sg.length c1,.slice A2 ml c2,.int .i64 L],.int .i64 a] w fun e w'=>e= .returned (.bool (ai sg h))/\Below w.heap.size w w':=by
 subst ha;have hb:Below w.heap.size w (w.alloc (.cells #[.slice A1 sg.length c1,.slice A2 ml c2,.int .i64 L] 24)):=(Rh _ _).alloc (Rf _) _;have HB:=Rb hb;clear hb;obtain⟨b,off,rfl,Xv,hc⟩:=hx.at_ (k:=h/4) oZ;have k1:=hc (h/4) oZ;have Xv:=hS b Xv;clear hc hx hS;have Wl:h%4=0\/h%4=1\/h%4=2\/h%4=3:=oZ;rcases Wl with hr|hr|hr|hr
 ·have e:ai sg h=false:=by unfold ai;rw[Rc oZ,Rc oZ,Rc oZ]
  have g1:=mod_eq (k:=1) hr false oQ;have g2:=mod_eq (k:=2) hr false oQ;have g3:=mod_eq (k:=3) hr false oQ;have E:=Rb e;clear e hr;go_enter Tryz.func25,Tryz.ntmps25
  go_wp2;go_ret;exact⟨aF E.out.symm,HB.out⟩
 ·have e:ai sg h=(gi sg (h/4)==1):=by unfold ai;rw[Re hr]
  have g1:=mod_eq (k:=1) hr true oQ;have E:=Rb e;clear e hr;go_enter Tryz.func25,Tryz.ntmps25
  go_wp2;go_ret;exact⟨aF E.out.symm,HB.out⟩
 ·have e:ai sg h=true:=by unfold ai;rw[Rc oZ,Re hr]
  have g1:=mod_eq (k:=1) hr false oQ;have g2:=mod_eq (k:=2) hr true oQ;have E:=Rb e;clear e hr;go_enter Tryz.func25,Tryz.ntmps25
  go_wp2;go_ret;exact⟨aF E.out.symm,HB.out⟩
 ·have e:ai sg h=(gi sg (h/4)== -1):=by unfold ai;rw[Rc oZ,Rc oZ,Re hr]
  have g1:=mod_eq (k:=1) hr false oQ;have g2:=mod_eq (k:=2) hr false oQ;have g3:=mod_eq (k:=3) hr true oQ;have E:=Rb e;clear e hr;go_enter Tryz.func25,Tryz.ntmps25
  go_wp2;go_ret;exact⟨aF E.out.symm,HB.out⟩
def cW(P:Nat->Bool)(m:Nat):Nat:=((List.range m).filter P).length
theorem FY(P:Nat->Bool):cW P 0=0:=rfl
theorem aT(P:Nat->Bool)(m:Nat):cW P (m+1)=cW P m+if P m=true then 1 else 0:=by unfold cW;rw[Sk,Th,Rz];congr 1;by_cases h:P m=true<;>simp[h]
theorem jD(P:Nat->Bool)(m:Nat):cW P m<=m:=by unfold cW;have:=Tg P (List.range m);simpa using this
theorem aS{P Q:Nat->Bool}{m:Nat}(h:∀x,x<m->P x=Q x):cW P m=cW Q m:=by unfold cW;congr 1;apply List.filter_congr;intro x hx;exact h x (Rm.1 hx)
section
variable{f:Nat->Nat}{N:Nat}{wt:Nat->Bool}
def p'(f:Nat->Nat)(N:Nat)(wt:Nat->Bool)(n:Nat)(bs:List Bool):Prop:=bs.length=N/\∀x,x<N->(gb bs x=true↔Seen f N wt n x)
def qm(f:Nat->Nat)(N:Nat)(wt:Nat->Bool)(h j:Nat)(bs:List Bool):Prop:=bs.length=N/\∀x,x<N->(gb bs x=true↔Seen f N wt h x\/∃i,i<j/\it f i h=x)
theorem sZ(f:Nat->Nat)(N:Nat)(wt:Nat->Bool):p' f N wt 0 (List.replicate N false):=
 ⟨oX,fun x hx=>by simp[gb,hx,uW]⟩
theorem rN{h:Nat}{bs:List Bool}(hs:p' f N wt h bs):qm f N wt h 0 bs:=
 ⟨hs.1,fun x hx=>by rw[hs.2 x hx];exact⟨.inl,fun h=>h.elim id fun⟨i,hi,_⟩=>absurd hi (RG i)⟩⟩
theorem tq{h j:Nat}{bs:List Bool}(hP:aO f N)(hh:h<N)(hs:qm f N wt h j bs):qm f N wt h (j+1) (bs.set (it f j h) true):=by
 refine⟨by rw[Ry];exact hs.1,fun x hx=>?_⟩;rw[mJ (by rw[hs.1];exact hP.bL j hh)];by_cases e:x=it f j h;{subst e;rw[Re rfl];exact⟨fun _=> .inr ⟨j,oZ,rfl⟩,fun _=>rfl⟩}
 ·rw[Rc e,hs.2 x hx]
  constructor;{rintro(h1|⟨i,h1,h2⟩);{exact .inl h1};{exact .inr ⟨i,oZ,h2⟩}}
  ·rintro(h1|⟨i,h1,h2⟩)
   {exact .inl h1}
   ·refine .inr ⟨i,?_,h2⟩
    have:i≠j:=by rintro rfl;exact e h2.symm
    omega
variable(hP:aO f N)(hw:∀h,h<N->wt (f h)=wt h)
include hP hw
omit hw in
theorem qz{n g x:Nat}(hg:g<N)(hx:x∈bJ f N g)(hn:n<=N)(hs:Seen f N wt n x):Seen f N wt n g:=by obtain⟨h,h1,h2,h3,h4⟩:=hs;exact⟨h,h1,h2,h3,aM hP oZ h4 (aL hP hg hx)⟩
theorem Bj{h j:Nat}{bs:List Bool}(hh:h<N)(Wf:wt h=true)(hl:a_ f N h=true)(hs:qm f N wt h j bs)(hj:j<eC f N h):gb bs (it f j h)=false:=by
 rw[Sf];intro hb;rcases(hs.2 _ (hP.bL j hh)).1 hb with h1|⟨i,h1,h2⟩
 {have:=qz hP hh ((aG hP hh).2 ⟨j,rfl⟩) (Uv hh) h1;rw[oO hP hw hh Wf,hl]at this;cases this}
 ·have e2:it f j h=it f i (it f (j-i) h):=by rw[<-fO];congr 1;omega
  rw[e2]at h2;have:=hP.ki i hh (hP.bL _ hh) h2;exact(bz hP hh).2.2.2 (j-i) oZ oZ this.symm
omit hw in
theorem AP{h j:Nat}{bs:List Bool}(hh:h<N)(hs:qm f N wt h j bs)(hj:j=eC f N h):gb bs (it f j h)=true:=by subst hj;obtain⟨h0,_,h1,_⟩:=bz hP hh;rw[hs.2 _ (hP.bL _ hh)];exact .inr ⟨0,h0,h1.symm⟩
omit hw in
theorem ve{h j:Nat}{bs:List Bool}(hh:h<N)(Wf:wt h=true)(hl:a_ f N h=true)(hs:qm f N wt h j bs)(hj:j=eC f N h):p' f N wt (h+1) bs:=by subst hj;refine⟨hs.1,fun x hx=>?_⟩;rw[hs.2 x hx,l_];constructor;{rintro(h1|⟨i,h1,h2⟩);{exact .inl h1};{exact .inr ⟨Wf,hl,(aG hP hh).2 ⟨i,h2⟩⟩}};{rintro(h1|⟨_,_,h2⟩);{exact .inl h1};{obtain⟨i,hi⟩:=(aG hP hh).1 h2;exact .inr ⟨i%eC f N h,RY _ (bz hP hh).1,by rw[<-jv hP hh];exact hi⟩}}
theorem lj{h:Nat}{bs:List Bool}(hh:h<N)(Wf:wt h=true)(hs:p' f N wt h bs):gb bs h= !a_ f N h:=by
 have h1:=hs.2 h hh;rw[oO hP hw hh Wf]at h1
 cases hb:gb bs h<;>cases hl:a_ f N h<;>simp_all
omit hP hw in
theorem tA{h:Nat}{bs:List Bool}(hs:p' f N wt h bs)(VT:¬(wt h=true/\a_ f N h=true)):p' f N wt (h+1) bs:=by refine⟨hs.1,fun x hx=>?_⟩;rw[hs.2 x hx,l_];constructor;{exact .inl};{rintro(h1|⟨h1,h2,_⟩);{exact h1};{exact absurd ⟨h1,h2⟩ VT}}
end
def au(mt:List Int)(g:Nat):Nat:=ae (gn mt g) 3
def M0(mt:List Int)(g:Nat):Nat:=ae (gn mt g) 2
theorem dZ{mt:List Int}(hI:cP mt){a b:Nat}(ha:a<mt.length)(hb:b<mt.length)(h:gn mt a=gn mt b):a=b:=by have h1:=(hI.gn ha).2.2.2;have h2:=(hI.gn hb).2.2.2;rw[<-h1,h,h2]
theorem aU{mt:List Int}(hI:cP mt){n:Nat}(hn:mt.length=4*n):aO (au mt) mt.length:=
 ⟨fun h hh=>by rw[hn];exact lq (by have:=(hI.gn hh).2.1;omega),fun a b ha hb e=>dZ hI ha hb (dC e)⟩
theorem GD{mt:List Int}(hI:cP mt){n:Nat}(hn:mt.length=4*n):aO (M0 mt) mt.length:=
 ⟨fun h hh=>by rw[hn];exact lq (by have:=(hI.gn hh).2.1;omega),fun a b ha hb e=>dZ hI ha hb (dC e)⟩
def jt(mt:List Int)(n p m:Nat):Nat:=cW (fun h=>a_ (au mt) mt.length h&&decide (av mt n (aA mt n (h/4))=p)) m
def jh(mt:List Int)(n p m:Nat):Nat:=cW (fun c=>decide (av mt n (aA mt n c)=p)) m
def I_(mt:List Int)(n:Nat):Prop:=∀p,p<av mt n n->jt mt n p mt.length=jh mt n p n+2
instance(mt:List Int)(n:Nat):Decidable (I_ mt n):=by unfold I_;infer_instance
def wE(sg mt:List Int):Prop:=∀h,h<mt.length->ai sg h≠ai sg (gn mt h)
def EN(sg:List Int):Prop:=∀c,c<sg.length->gi sg c=1\/gi sg c= -1
def cJ(sg mt:List Int)(L:Int):Prop:=sg.length<=64/\mt.length=4*sg.length/\0<=L/\L<=64/\EN sg/\cP mt/\wE sg mt/\I_ mt sg.length
instance(mt:List Int):Decidable (cP mt):=by unfold cP;infer_instance
instance(sg mt:List Int):Decidable (wE sg mt):=by unfold wE;infer_instance
instance(sg:List Int):Decidable (EN sg):=by unfold EN;infer_instance
instance(sg mt:List Int)(L:Int):Decidable (cJ sg mt L):=by unfold cJ;infer_instance
theorem rK{mt:List Int}(hI:cP mt){n:Nat}(hn:mt.length=4*n):
  I_ mt n↔∀r,r<n->aA mt n r=r->cW (fun h=>a_ (au mt) mt.length h&&decide (aA mt n (h/4)=r)) mt.length=cW (fun c=>decide (aA mt n c=r)) n+2:=by
 have key:∀r,r<n->aA mt n r=r->jt mt n (av mt n r) mt.length=cW (fun h=>a_ (au mt) mt.length h&&decide (aA mt n (h/4)=r)) mt.length/\
   jh mt n (av mt n r) n=cW (fun c=>decide (aA mt n c=r)) n:=by
  intro r hr hl;have e:∀c,c<n->decide (av mt n (aA mt n c)=av mt n r)=decide (aA mt n c=r):=by intro c hc;rw[R_,RE,RE];exact⟨fun h=>zx _ (jg hI hn hc) hl h,fun h=>by rw[h]⟩
  exact⟨aS fun h hh=>by rw[e (h/4) oZ],aS fun c hc=>e c hc⟩
 constructor;{intro h r hr hl;obtain⟨k1,k2⟩:=key r hr hl;rw[<-k1,<-k2];exact h _ (j_ _ hr hl)};{intro h p hp;obtain⟨r,hr,hl,rfl⟩:=ED _ hp;obtain⟨k1,k2⟩:=key r hr hl;have:=h r hr hl;rw[<-k1,<-k2]at this;exact this}
theorem kB{A B:Nat->Bool}{N M:Nat}(g:Nat->Nat)(hg:∀x,x<N->A x=true->g x<M/\B (g x)=true)(hi:∀x y,x<N->y<N->A x=true->A y=true->g x=g y->x=y):cW A N<=cW B M:=by
 have Yz:(((List.range N).filter A).map g).Nodup:=by rw[List.Nodup,Tq];refine((Tc (n:=N)).filter A).imp_of_mem ?_;intro a b ha hb hab e;rw[R3,Rm]at ha hb;have:=hi a b ha.1 hb.1 ha.2 hb.2 e;omega
 have Ye:((List.range N).filter A).map g⊆(List.range M).filter B:=by intro x hx;rw[So]at hx;obtain⟨a,ha,rfl⟩:=hx;rw[R3,Rm]at ha;rw[R3,Rm];exact hg a ha.1 ha.2
 have:=Yz.length_le_of_subset Ye;rw[Sa]at this;exact this
structure uy(r:Nat->Nat->Bool)(N:Nat):Prop where
 rfl_:∀x,x<N->r x x=true
 sym:∀x y,x<N->y<N->r x y=true->r y x=true
 tr:∀x y z,x<N->y<N->z<N->r x y=true->r y z=true->r x z=true
def fg(r:Nat->Nat->Bool)(x:Nat):Bool:=(List.range x).all fun y=> !r y x
def dw(r:Nat->Nat->Bool)(N:Nat):Nat:=cW (fg r) N
theorem bY{r:Nat->Nat->Bool}{x:Nat}:fg r x=true↔∀y,y<x->r y x=false:=by unfold fg;rw[List.all_eq_true];constructor;{intro h y hy;have:=h y (Rm.2 hy);simpa using this};{intro h y hy;have:=h y (Rm.1 hy);simp[this]}
theorem iT{r r':Nat->Nat->Bool}{N:Nat}(h:∀x y,x<N->y<N->r x y=r' x y):dw r N=dw r' N:=by
 unfold dw;refine aS fun x hx=>?_
 rw[R_,bY,bY];exact⟨fun g y hy=>by rw[<-h y x oZ hx];exact g y hy,fun g y hy=>by rw[h y x oZ hx];exact g y hy⟩
def eU(r:Nat->Nat->Bool)(x y z w:Nat):Bool:=r z w||(r z x&&r y w)||(r z y&&r x w)
theorem cD{r:Nat->Nat->Bool}{x y z w:Nat}:eU r x y z w=true↔r z w=true\/(r z x=true/\r y w=true)\/(r z y=true/\r x w=true):=by unfold eU;simp only[TH,RA];exact⟨fun h=>h.elim (fun h=>h.elim .inl fun h=> .inr (.inl h)) fun h=> .inr (.inr h),fun h=>h.elim (fun h=> .inl (.inl h)) fun h=>h.elim (fun h=> .inl (.inr h)) .inr⟩
theorem Co(r:Nat->Nat->Bool)(x y z w:Nat):eU r x y z w=eU r y x z w:=by
 unfold eU
 cases r z w<;>cases(r z x&&r y w)<;>cases(r z y&&r x w)<;>rfl
section
variable{r:Nat->Nat->Bool}{N:Nat}(hE:uy r N){x y:Nat}(hx:x<N)(hy:y<N)
include hE hx hy
theorem vB:uy (eU r x y) N:=by
 refine⟨fun z hz=>cD.2 (.inl (hE.rfl_ z hz)),fun z w hz hw h=>?_,fun z w v hz hw hv h1 h2=>?_⟩
 ·rw[cD]at h⊢
  rcases h with h|⟨h1,h2⟩|⟨h1,h2⟩
  {exact .inl (hE.sym _ _ hz hw h)};{exact .inr (.inr ⟨hE.sym _ _ hy hw h2,hE.sym _ _ hz hx h1⟩)};{exact .inr (.inl ⟨hE.sym _ _ hx hw h2,hE.sym _ _ hz hy h1⟩)}
 ·rw[cD]at h1 h2⊢
  rcases h1 with h1|⟨a1,a2⟩|⟨a1,a2⟩<;>rcases h2 with h2|⟨b1,b2⟩|⟨b1,b2⟩
  {exact .inl (hE.tr _ _ _ hz hw hv h1 h2)};{exact .inr (.inl ⟨hE.tr _ _ _ hz hw hx h1 b1,b2⟩)};{exact .inr (.inr ⟨hE.tr _ _ _ hz hw hy h1 b1,b2⟩)};{exact .inr (.inl ⟨a1,hE.tr _ _ _ hy hw hv a2 h2⟩)};{exact .inr (.inl ⟨a1,b2⟩)};{exact .inl (hE.tr _ _ _ hz hx hv a1 b2)};{exact .inr (.inr ⟨a1,hE.tr _ _ _ hx hw hv a2 h2⟩)};{exact .inl (hE.tr _ _ _ hz hy hv a1 b2)};{exact .inr (.inr ⟨a1,b2⟩)}
theorem Cj(h:r x y=true){z w:Nat}(hz:z<N)(hw:w<N):eU r x y z w=r z w:=by rw[R_,cD];constructor;{rintro(h1|⟨h1,h2⟩|⟨h1,h2⟩);{exact h1};{exact hE.tr _ _ _ hz hx hw h1 (hE.tr _ _ _ hx hy hw h h2)};{exact hE.tr _ _ _ hz hy hw h1 (hE.tr _ _ _ hy hx hw (hE.sym _ _ hx hy h) h2)}};{exact .inl}
omit hx hy in
theorem wU{z:Nat}(hz:z<N):∃m,m<=z/\r m z=true/\fg r m=true:=by obtain⟨m,hm,hl⟩:=oM (P:=fun m=>m<N/\r m z=true) ⟨hz,hE.rfl_ z hz⟩;refine⟨m,hl z ⟨hz,hE.rfl_ z hz⟩,hm.2,bY.2 fun y hy=>?_⟩;rw[Sf];intro h;have:=hl y ⟨oZ,hE.tr _ _ _ oZ hm.1 hz h hm.2⟩;omega
omit hE hx hy in
theorem oT{m z:Nat}(hh:fg r m=true)(h:r z m=true):m<=z:=by
 rcases SN z m with h1|h1
 {rw[bY.1 hh z h1]at h;cases h};{exact h1}
theorem mI{a b:Nat}(ha:a<N)(hb:b<N)(hra:r a x=true)(hrb:r b y=true)(hha:fg r a=true)(hhb:fg r b=true)(Vg:a<b):
  dw (eU r x y) N+1=dw r N:=by
 have key:∀z,z<N->fg r z=(fg (eU r x y) z||decide (z=b)):=by
  intro z hz;rw[R_,TH,RE];constructor
  ·intro h
   by_cases e:z=b;{exact .inr e}
   ·refine .inl (bY.2 fun w hw=>?_)
    rw[Sf];intro hj;rcases cD.1 hj with h1|⟨h1,h2⟩|⟨h1,h2⟩
    {rw[bY.1 h w hw]at h1;cases h1};{have hbz:=hE.tr _ _ _ hb hy hz hrb h2;have h3:=oT h hbz;have h4:=oT hhb (hE.sym _ _ hb hz hbz);omega};{have haz:=hE.tr _ _ _ ha hx hz hra h2;have hwb:=hE.tr _ _ _ oZ hy hb h1 (hE.sym _ _ hb hy hrb);have h3:=oT h haz;have h4:=oT hha (hE.sym _ _ ha hz haz);have h5:=oT hhb hwb;omega}
  ·rintro(h|rfl)
   ·refine bY.2 fun w hw=>?_
    rw[Sf];intro h1;have:=bY.1 h w hw;rw[cD.2 (.inl h1)]at this
    cases this
   {exact hhb}
 have Vz:fg (eU r x y) b=false:=by
  rw[Sf];intro h;have:=bY.1 h a Vg;rw[cD.2 (.inr (.inl ⟨hra,hE.sym _ _ hb hy hrb⟩))]at this
  cases this
 have hcnt:∀m,cW (fun z=>fg (eU r x y) z||decide (z=b)) m=cW (fg (eU r x y)) m+if b<m then 1 else 0:=by
  intro m
  induction m with
  |zero=>rfl
  |succ m ih=>
   rw[aT,aT,ih];by_cases e:m=b;{subst e;rw[Vz];simp}
   ·have:(b<m+1)=(b<m):=by rw[eq_iff_iff];omega
    simp[e,this];split<;>split<;>omega
 have:=aS key;rw[hcnt,Re hb]at this;unfold dw;omega
theorem pW:dw (eU r x y) N+(if r x y=true then 0 else 1)=dw r N:=by
 by_cases h:r x y=true;{rw[Re h,Tx];exact iT fun z w hz hw=>Cj hE hx hy h hz hw}
 ·rw[Rc h]
  rw[Bool.not_eq_true]at h;obtain⟨a,a1,a2,a3⟩:=wU hE hx;obtain⟨b,b1,b2,b3⟩:=wU hE hy;have Vh:a≠b:=by
   rintro rfl;rw[hE.tr _ _ _ hx oZ hy (hE.sym _ _ oZ hx a2) b2]at h
   cases h
  rcases US Vh with Vg|Vg
  {exact mI hE hx hy oZ oZ a2 b2 a3 b3 Vg};{rw[<-mI hE hy hx oZ oZ b2 a2 b3 a3 Vg];congr 1;exact iT fun z w _ _=>Co r x y z w}
end
def rc(f:Nat->Nat)(N x y:Nat):Bool:=decide (y∈bJ f N x)
theorem dY{f:Nat->Nat}{N:Nat}(hP:aO f N){x y:Nat}(hx:x<N):rc f N x y=true↔∃k,it f k x=y:=by unfold rc;rw[RE];exact aG hP hx
theorem iM{f:Nat->Nat}{N:Nat}(hP:aO f N):uy (rc f N) N:=by refine⟨fun x hx=>?_,fun x y hx _ h=>?_,fun x y z hx _ _ h1 h2=>?_⟩;{exact Rj (bE hP hx)};{exact Rj (aL hP hx (RU h))};{exact Rj (aM hP hx (RU h1) (RU h2))}
theorem nJ{f:Nat->Nat}{N:Nat}(hP:aO f N){x:Nat}(hx:x<N):rc f N x (f x)=true:=(dY hP hx).2 ⟨1,rfl⟩
theorem CI{f:Nat->Nat}{N:Nat}(hP:aO f N):dw (rc f N) N=cW (a_ f N) N:=by
 unfold dw;refine aS fun x hx=>?_
 rw[R_,bY,dG];constructor
 ·intro h g hg
  have hgN:=dJ hP hx hg;rcases SN g x with h1|h1
  {have h2:=h g h1;rw[show rc f N g x=true from Rj (aL hP hx hg)]at h2;cases h2};{exact h1}
 {intro h y hy;rw[Sf];intro h1;have:=h y (aL hP oZ (RU h1));omega}
theorem Ci{f:Nat->Nat}{N:Nat}(hP:aO f N){r:Nat->Nat->Bool}(hE:uy r N)(hr:∀x,x<N->r x (f x)=true){x y:Nat}(hx:x<N)(h:rc f N x y=true):r x y=true:=by
 obtain⟨k,rfl⟩:=(dY hP hx).1 h;clear h
 induction k with
 |zero=>exact hE.rfl_ x hx
 |succ k ih=>exact hE.tr _ _ _ hx (hP.bL k hx) (hP.lt _ (hP.bL k hx)) ih (hr _ (hP.bL k hx))
def sw(x y z:Nat):Nat:=if z=x then y else if z=y then x else z
theorem Ar(x y:Nat):sw x y x=y:=by simp[sw]
theorem zM(x y:Nat):sw x y y=x:=by unfold sw;by_cases h:y=x;{simp[h]};{simp[h]}
theorem uN{x y z:Nat}(h1:z≠x)(h2:z≠y):sw x y z=z:=by simp[sw,h1,h2]
theorem zG(x y z:Nat):sw x y (sw x y z)=z:=by by_cases h1:z=x;{subst h1;rw[Ar,zM]};{by_cases h2:z=y;{subst h2;rw[zM,Ar]};{rw[uN h1 h2,uN h1 h2]}}
theorem sr{x y z N:Nat}(hx:x<N)(hy:y<N)(hz:z<N):sw x y z<N:=by unfold sw;split;{exact hy};{split;{exact hx};{exact hz}}
theorem lX{f:Nat->Nat}{N x y:Nat}(hP:aO f N)(hx:x<N)(hy:y<N):aO (fun z=>f (sw x y z)) N:=
 ⟨fun z hz=>hP.lt _ (sr hx hy hz),fun a b ha hb e=>by
  have:=hP.inj _ _ (sr hx hy ha) (sr hx hy hb) e;rw[<-zG x y a,this,zG]⟩
section
variable{f:Nat->Nat}{N:Nat}(hP:aO f N){x y:Nat}(hx:x<N)(hy:y<N)
include hP hx hy
theorem Fe{z w:Nat}(hz:z<N)(hw:w<N)(h:eU (rc (fun z=>f (sw x y z)) N) x y z w=true):eU (rc f N) x y z w=true:=by
 have hE:=iM hP;have hJ:=vB hE hx hy;have YK:∀u,u<N->eU (rc f N) x y u (f (sw x y u))=true:=by intro u hu;rw[cD];by_cases h1:u=x;{subst h1;rw[Ar];exact .inr (.inl ⟨hE.rfl_ _ hx,nJ hP hy⟩)};{by_cases h2:u=y;{subst h2;rw[zM];exact .inr (.inr ⟨hE.rfl_ _ hy,nJ hP hx⟩)};{rw[uN h1 h2];exact .inl (nJ hP hu)}}
 have Xl:=lX hP hx hy;have hs:∀{u v},u<N->rc (fun z=>f (sw x y z)) N u v=true->eU (rc f N) x y u v=true:=fun hu h=>Ci Xl hJ YK hu h
 have Vw:eU (rc f N) x y x y=true:=cD.2 (.inr (.inl ⟨hE.rfl_ _ hx,hE.rfl_ _ hy⟩));rcases cD.1 h with h1|⟨h1,h2⟩|⟨h1,h2⟩
 {exact hs hz h1};{exact hJ.tr _ _ _ hz hx hw (hs hz h1) (hJ.tr _ _ _ hx hy hw Vw (hs hy h2))};{exact hJ.tr _ _ _ hz hy hw (hs hz h1) (hJ.tr _ _ _ hy hx hw (hJ.sym _ _ hx hy Vw) (hs hx h2))}
theorem Ja{z w:Nat}(hz:z<N)(hw:w<N):eU (rc (fun z=>f (sw x y z)) N) x y z w=eU (rc f N) x y z w:=by
 rw[R_];refine⟨Fe hP hx hy hz hw,fun h=>?_⟩;have:=Fe (lX hP hx hy) hx hy (z:=z) (w:=w) hz hw;have e:(fun z=>(fun z=>f (sw x y z)) (sw x y z))=f:=by funext z;show f (sw x y (sw x y z))=f z;rw[zG]
 rw[e]at this;exact this h
theorem IN(h:rc f N x y=false):rc (fun z=>f (sw x y z)) N x y=true:=by
 have Xl:=lX hP hx hy;obtain⟨p0,p1,p2,p3⟩:=bz hP hy;have VT:∀k,it f k y≠x:=by
  intro k e;have:rc f N y x=true:=(dY hP hy).2 ⟨k,e⟩;rw[(iM hP).sym _ _ hy hx this]at h
  cases h
 have key:∀k,k<eC f N y->it (fun z=>f (sw x y z)) (k+1) x=it f (k+1) y:=by
  intro k
  induction k with
  |zero=>intro _;show f (sw x y x)=f y;rw[Ar]
  |succ k ih=>intro hk;show f (sw x y (it (fun z=>f (sw x y z)) (k+1) x))=f (it f (k+1) y);rw[ih oZ,uN (VT _) (p3 _ oZ hk)]
 refine(dY Xl hx).2 ⟨eC f N y-1+1,?_⟩;rw[key _ oZ,TY p0];exact p2
theorem zS(Vh:x≠y)(h:rc f N x y=true):rc (fun z=>f (sw x y z)) N x y=false:=by
 have Xl:=lX hP hx hy;obtain⟨p0,p1,p2,p3⟩:=bz hP hx;obtain⟨k0,Yg⟩:=(dY hP hx).1 h;obtain⟨k,hk,WV⟩:=oM (P:=fun k=>it f k x=y) Yg;have hkp:k<eC f N x:=by have:=WV (k0%eC f N x) (by rw[<-jv hP hx];exact Yg);have:=RY k0 p0;omega
 have hk1:0<k:=by
  rcases Se k with e|e
  {subst e;exact absurd hk Vh};{exact e}
 have key:∀j,j<k->it (fun z=>f (sw x y z)) (j+1) y=it f (j+1) x:=by
  intro j
  induction j with
  |zero=>intro _;show f (sw x y y)=f x;rw[zM]
  |succ j ih=>intro hj;show f (sw x y (it (fun z=>f (sw x y z)) (j+1) y))=f (it f (j+1) x);rw[ih oZ,uN (p3 _ oZ oZ) (fun e=>by have:=WV _ e;omega)]
 rw[Sf];intro h';have h2:=(iM Xl).sym _ _ hx hy h';have hret:it (fun z=>f (sw x y z)) k y=y:=by have:=key (k-1) oZ;rw[TY hk1]at this;rw[this];exact hk
 have Vx:∀m,it (fun z=>f (sw x y z)) m y≠x:=by
  intro m;have hm:it (fun z=>f (sw x y z)) m y=it (fun z=>f (sw x y z)) (m%k) y:=by
   have hq:∀q,it (fun z=>f (sw x y z)) (k*q) y=y:=by
    intro q
    induction q with
    |zero=>rfl
    |succ q ih=>rw[Va,fO,hret,ih]
   have e:=Nat.mod_add_div m k
   conv=>lhs;rw[<-e]
   rw[fO,hq]
  rw[hm];have Vg:=RY m hk1;rcases Se (m%k)with e|e
  {rw[e];exact fun e=>Vh e.symm};{have:=key (m%k-1) oZ;rw[TY e]at this;rw[this];exact p3 _ e oZ}
 obtain⟨m,hm⟩:=(dY Xl hy).1 h2;exact Vx m hm
theorem Cw:dw (rc (fun z=>f (sw x y z)) N) N+(if rc f N x y=true then 0 else 1)=dw (rc f N) N+(if rc (fun z=>f (sw x y z)) N x y=true then 0 else 1):=by
 have h1:=pW (iM hP) hx hy;have h2:=pW (iM (lX hP hx hy)) hx hy;have h3:=iT (N:=N) fun z w hz hw=>Ja hP hx hy hz hw
 rw[<-h1,<-h2,h3];simp only[TO];rw[Uw (if rc f N x y=true then 0 else 1)]
theorem si(h:rc f N x y=false):dw (rc (fun z=>f (sw x y z)) N) N+1=dw (rc f N) N:=by have:=Cw hP hx hy;rw[h,IN hP hx hy h]at this;simpa using this
theorem Bv(Vh:x≠y)(h:rc f N x y=true):dw (rc (fun z=>f (sw x y z)) N) N=dw (rc f N) N+1:=by have:=Cw hP hx hy;rw[h,zS hP hx hy Vh h]at this;simpa using this
end
def fE(a:Nat->Nat):List (Nat×Nat)->Nat->Nat
 |[]=>a
 |e::es=>fun z=>fE a es (sw e.1 e.2 z)
def eE:List (Nat×Nat)->Nat->Nat
 |[]=>fun z=>z
 |e::es=>fun z=>eE es (sw e.1 e.2 z)
theorem zk(a:Nat->Nat):∀es z,fE a es z=a (eE es z)
 |[],_=>rfl
 |e::es,z=>zk a es (sw e.1 e.2 z)
def kE(a:Nat->Nat)(N:Nat):List (Nat×Nat)->Nat->Nat->Bool
 |[]=>rc a N
 |e::es=>eU (kE a N es) e.1 e.2
def oW(N:Nat)(es:List (Nat×Nat)):Prop:=∀e,e∈es->e.1<N/\e.2<N/\e.1≠e.2
theorem oW.tail{N:Nat}{e:Nat×Nat}{es:List (Nat×Nat)}(h:oW N (e::es)):oW N es:=fun x hx=>h x (SE _ hx)
theorem oW.head{N:Nat}{e:Nat×Nat}{es:List (Nat×Nat)}(h:oW N (e::es)):e.1<N/\e.2<N/\e.1≠e.2:=h e (SM ..)
section
variable{a:Nat->Nat}{N:Nat}(hP:aO a N)
include hP
theorem jd:∀es,oW N es->aO (fE a es) N
 |[],_=>hP
 |_::es,h=>lX (jd es h.tail) h.head.1 h.head.2.1
theorem gJ:∀es,oW N es->uy (kE a N es) N
 |[],_=>iM hP
 |_::es,h=>vB (gJ es h.tail) h.head.1 h.head.2.1
theorem qR:∀es,oW N es->∀z,z<N->kE a N es z (eE es z)=true
 |[],h,z,hz=>(gJ hP [] h).rfl_ z hz
 |e::es,h,z,hz=>by obtain⟨h1,h2,-⟩:=h.head;have hE:=gJ hP es h.tail;have ih:=qR es h.tail (sw e.1 e.2 z) (sr h1 h2 hz);show eU (kE a N es) e.1 e.2 z (eE es (sw e.1 e.2 z))=true;rw[cD];by_cases e1:z=e.1;{subst e1;rw[Ar]at ih⊢;exact .inr (.inl ⟨hE.rfl_ _ h1,ih⟩)};{by_cases e2:z=e.2;{subst e2;rw[zM]at ih⊢;exact .inr (.inr ⟨hE.rfl_ _ h2,ih⟩)};{rw[uN e1 e2]at ih⊢;exact .inl ih}}
omit hP in
theorem Ao:∀es,oW N es->∀z,z<N->eE es z<N
 |[],_,_,hz=>hz
 |_::es,h,_,hz=>Ao es h.tail _ (sr h.head.1 h.head.2.1 hz)
omit hP in
theorem Le:∀es,oW N es->∀z w,z<N->rc a N z w=true->kE a N es z w=true
 |[],_,_,_,_,h=>h
 |_::es,h,z,w,hz,h1=>cD.2 (.inl (Le es h.tail z w hz h1))
theorem qZ(es:List (Nat×Nat))(h:oW N es){z:Nat}(hz:z<N):kE a N es z (a z)=true:=Le es h z _ hz (nJ hP hz)
theorem Dh(es:List (Nat×Nat))(h:oW N es){z:Nat}(hz:z<N):kE a N es z (fE a es z)=true:=by have hE:=gJ hP es h;have h1:=Ao es h z hz;rw[zk];exact hE.tr _ _ _ hz h1 (hP.lt _ h1) (qR hP es h z hz) (qZ hP es h h1)
theorem FE(es:List (Nat×Nat))(h:oW N es){z w:Nat}(hz:z<N)(hr:rc (fE a es) N z w=true):kE a N es z w=true:=
 Ci (jd hP es h) (gJ hP es h) (fun _ hx=>Dh hP es h hx) hz hr
theorem C_(e:Nat×Nat)(es:List (Nat×Nat))(h:oW N (e::es)):
  (kE a N es e.1 e.2=false/\rc (fE a es) N e.1 e.2=false/\dw (rc (fE a (e::es)) N) N+1=dw (rc (fE a es) N) N/\dw (kE a N (e::es)) N+1=dw (kE a N es) N)\/
  (kE a N es e.1 e.2=true/\rc (fE a es) N e.1 e.2=false/\dw (rc (fE a (e::es)) N) N+1=dw (rc (fE a es) N) N/\dw (kE a N (e::es)) N=dw (kE a N es) N)\/
  (kE a N es e.1 e.2=true/\rc (fE a es) N e.1 e.2=true/\dw (rc (fE a (e::es)) N) N=dw (rc (fE a es) N) N+1/\dw (kE a N (e::es)) N=dw (kE a N es) N):=by
 obtain⟨h1,h2,h3⟩:=h.head;have hF:=jd hP es h.tail;have hk:dw (kE a N (e::es)) N+(if kE a N es e.1 e.2=true then 0 else 1)=dw (kE a N es) N:=pW (gJ hP es h.tail) h1 h2
 cases hkk:kE a N es e.1 e.2
 ·left
  have hr:rc (fE a es) N e.1 e.2=false:=by
   rw[Sf];intro hr;rw[FE hP es h.tail h1 hr]at hkk
   cases hkk
  rw[hkk]at hk;exact⟨rfl,hr,si hF h1 h2 hr,by simpa using hk⟩
 ·right
  rw[hkk]at hk
  cases hr:rc (fE a es) N e.1 e.2
  {exact .inl ⟨rfl,rfl,si hF h1 h2 hr,by simpa using hk⟩};{exact .inr ⟨rfl,rfl,Bv hF h1 h2 h3 hr,by simpa using hk⟩}
theorem tH:∀es,oW N es->∃d,dw (rc (fE a es) N) N+dw (rc a N) N+2*d=es.length+2*dw (kE a N es) N
 |[],_=>⟨0,by show dw (rc a N) N+_+_=0+2*dw (rc a N) N;omega⟩
 |e::es,h=>by
  obtain⟨d,hd⟩:=tH es h.tail;rw[SI];rcases C_ hP e es h with⟨-,-,h3,h4⟩|⟨-,-,h3,h4⟩|⟨-,-,h3,h4⟩
  {exact⟨d,oZ⟩};{exact⟨d+1,oZ⟩};{exact⟨d,oZ⟩}
def uf(a:Nat->Nat)(N:Nat)(es:List (Nat×Nat)):Prop:=dw (rc (fE a es) N) N+dw (rc a N) N=es.length+2*dw (kE a N es) N
theorem uf.tail{e:Nat×Nat}{es:List (Nat×Nat)}(h:oW N (e::es))(hp:uf a N (e::es)):
  uf a N es/\(kE a N es e.1 e.2=true->rc (fE a es) N e.1 e.2=true):=by
 obtain⟨d,hd⟩:=tH hP es h.tail;unfold uf at hp⊢;rw[SI]at hp;rcases C_ hP e es h with⟨h1,-,h3,h4⟩|⟨h1,-,h3,h4⟩|⟨h1,h2,h3,h4⟩
 {exact⟨oZ,fun h=>by rw[h1]at h;cases h⟩};{omega};{exact⟨oZ,fun _=>h2⟩}
end
def fM(K:Nat):Prop:=∀(args:Array Value)(w:World),(callFunc K args).run Tryz.prog w= .ok (.enter K args) w
theorem gD{K:Nat}{fn:Func}{c:Code}(hf:Tryz.prog.funcs[K]?=some fn)(hname:(fn.name== "runtime.NumGoroutine")=false)(hb:fn.body=some c):fM K:=by
 intro args w;have h1:fn.name≠ "runtime.NumGoroutine" :=by simpa using hname
 simp[callFunc,hf,h1,hb]
def ng(K bd N:Nat)(f:Nat->Nat)(w:World):Prop:=∀(g:Nat)(W:World),g<N->Below w.heap.size w W->
 Calls Tryz.prog K #[.int .i64 g,.pointer (some ⟨bd,0,none⟩)] W fun e w'=>e= .returned (.int .i64 (f g))/\W=w'
theorem ng.v_{K bd N:Nat}{f:Nat->Nat}{w w':World}(h:ng K bd N f w)(hb:Below w.heap.size w w'):ng K bd N f w':=fun g W hg hW=>
 h g W hg (hb.trans (hW.mono hb.size))
def ints(l:List Nat):List Int:=l.map Int.ofNat
theorem aH(l:List Nat):(ints l).length=l.length:=by simp[ints]
theorem lL(l m:List Nat):ints (l++m)=ints l++ints m:=by simp[ints]
theorem je{l:List Nat}{k:Nat}(h:k<l.length):gi (ints l) k=(gN l k:Int):=Mh h
theorem Ea(K bd N h:Nat)(f:Nat->Nat)(w:World)(hP:aO f N)(hh:h<N)(hN:N<=400000)(hK:fM K)(X5:ng K bd N f w):
  Calls Tryz.prog 62 #[.int .i64 h,.func (.func K) #[] #[.pointer (some ⟨bd,0,none⟩)]] w fun e w'=>∃v,e= .returned v/\OI w' w.heap.size v (ints (bJ f N h))/\Below w.heap.size w w':=by
 obtain⟨p0,p1,p2,p3⟩:=bz hP hh;have H3:=Rb p3;have H2:=Rb p2;have HX:=Rb X5;have HP:=Rb hP;have Vn:∀(args:Array Value)(w:World),(callFunc K args).run Tryz.prog w= .ok (.enter K args) w:=hK
 clear p2 p3 X5 hP hK;go_enter Tryz.func62,Tryz.ntmps62
 go_wp2_with fail;have Vi:Below w.heap.size w (w.alloc (.cells #[.int .i64 h] 3)):=(Rh _ _).alloc (Rf _) _;have ho:OI (w.alloc (.cells #[.int .i64 h] 3)) w.heap.size (.slice (some ⟨w.heap.size,0,none⟩) 1 1) (ints ((bJ f N h).take 1)):=by
  have h1:=OR.made (e:=3) (f:=Value.int .i64) (xs:=[(h:Int)]) w w.heap.size #[.int .i64 h] (Rf _) (by simp[maxLen]) oX;have e:(bJ f N h).take 1=[h]:=by have:=jz (f:=f) (N:=N) (h:=h) (k:=0) p0;simpa[it]using this.symm
  rw[e];exact h1
 have HO:=Rb ho;clear ho;refine(HX.out h _ hh Vi).mono ?_;rintro e w1 ⟨rfl,rfl⟩;go_wp2_with fail;go_loopg[5,6] (eC f N h) (fun F v g wr=>∃j:Nat,1<=j/\j<=eC f N h/\g= .int .i64 (it f j h)/\Hid (OI wr w.heap.size v (ints ((bJ f N h).take j)))/\Hid (Below w.heap.size w wr)/\Hid (eC f N h-j<F))
 case atStart=>exact⟨1,oZ,oZ,rfl,HO,Vi,by show _-_<_;omega⟩
 case round=>
  clear HO Vi;obtain⟨j,hj1,hj,rfl,HO,HB,HF⟩:=hrel;by_cases Yh:j<eC f N h
  ·have Vh:it f j h≠h:=H3.out j oZ Yh
   have hne':(((it f j h:Nat):Int)!=(h:Int))=true:=by rw[RZ];omega
   have VS:it f j h<N:=HP.out.bL j hh;have HT:=Rb (jz (f:=f) (N:=N) (h:=h) Yh);have hlen:(ints ((bJ f N h).take j)).length<1099511627776:=by rw[aH,UD];omega
   have HL:=Rb hlen;have VI:=HB.out.size;clear Vh hlen;go_wp2_with(at_builtin;refine BV HO.out HL.out VI rfl rfl Tryz.underlying22 rfl rfl ?_;intro v' w' ho hg Vu);have hbn:=HO.out.eL HB.out VI _ hg;have HBN:=Rb hbn;have ho':OI w' w.heap.size v' (ints ((bJ f N h).take (j+1))):=by rw[<-HT.out,lL];exact ho
   have HON:=Rb ho';clear ho hg Vu hbn ho';refine(HX.out (it f j h) _ VS HBN.out).mono ?_;rintro e w1 ⟨rfl,rfl⟩;go_wp2_with fail;go_roundg (eC f N h-j)
   case measure=>exact HF.out
   case rel=>exact⟨j+1,oZ,oZ,rfl,HON,HBN,by show _-_<_;omega⟩
  ·have Yh:j=eC f N h:=oZ
   have he:it f j h=h:=by rw[Yh];exact H2.out
   have WB:(((it f j h:Nat):Int)!=(h:Int))=false:=by rw[RK];omega
   have Za:Hid (OI wr w.heap.size u5 (ints (bJ f N h))):=by have:=HO.out;rw[Ux (by rw[eJ];omega)]at this;exact this
   clear he Yh HO;go_wp2_with fail;go_ret;exact⟨_,rfl,Za.out,HB.out⟩
theorem lN:(Tryz.prog.info? 22).map (fun i=>(i.zero,i.size,i.bytes))=some (some (.slice none 0 0),1,24):=by kernel_rfl
theorem OR.apart{α β:Type}{e e':TypeId}{f:α->Value}{f':β->Value}{w:World}{B B':Nat}{v v':Value}{xs:List α}{ys:List β}(h:OR e f w B v xs)(h':OR e' f' w B' v' ys)(Vh:e≠e'){g:Nat}
  (hg:v.ownBlock=some g):v'.ownBlock≠some g:=by
 intro X6;rcases h.2 with⟨rfl,_⟩|⟨k,c,cur,rfl,_,hh,_⟩
 {simp[Value.ownBlock]at hg};rcases h'.2 with⟨rfl,_⟩|⟨k',c',cur',rfl,_,hh',_⟩
 {simp[Value.ownBlock]at X6};simp[Value.ownBlock]at hg X6;subst hg;subst X6;rw[hh]at hh';injection hh' with hh'
 injection hh' with _ ht
 exact Vh ht
def ER(eo:TypeId)(w:World)(N:Nat)(F:Nat->Prop)(v:Value)(vs:List Value)(xss:List (List Int)):Prop:=
 OR eo id w N v vs/\(∀g,v.ownBlock=some g->¬F g)/\vs.length=xss.length/\
  ∀k (h:k<vs.length),OI w N vs[k] (xss.getD k [])/\∀g,vs[k].ownBlock=some g->¬F g
def RR(eo:TypeId)(w:World)(N:Nat)(F:Nat->Prop)(v:Value)(xss:List (List Int)):Prop:=∃vs:List Value,ER eo w N F v vs xss
section
variable{eo:TypeId}{w w':World}{N:Nat}{F:Nat->Prop}{v:Value}{xss:List (List Int)}
theorem RR.nil(w:World)(N:Nat)(F:Nat->Prop):RR eo w N F (.slice none 0 0) []:=
 ⟨[],OR.nil _ _,by simp[Value.ownBlock],rfl,oX⟩
theorem RR.ak(h:RR eo w N F v xss)(hk:∀b,N<=b->b<w.heap.size->¬F b->w'.heap[b]?=w.heap[b]?):RR eo w' N F v xss:=by obtain⟨vs,h1,h2,h3,h4⟩:=h;refine⟨vs,h1.ak fun g hg=>?_,h2,h3,fun k VA=>⟨(h4 k VA).1.ak fun g hg=>?_,(h4 k VA).2⟩⟩;{have:=h1.lt g hg;exact hk g this.1 this.2 (h2 g hg)};{have:=(h4 k VA).1.lt g hg;exact hk g this.1 this.2 ((h4 k VA).2 g hg)}
theorem RR.imp{F':Nat->Prop}(h:RR eo w N F v xss)(hF:∀b,N<=b->b<w.heap.size->F' b->F b):RR eo w N F' v xss:=by obtain⟨vs,h1,h2,h3,h4⟩:=h;refine⟨vs,h1,fun g hg hF'=>?_,h3,fun k VA=>⟨(h4 k VA).1,fun g hg hF'=>?_⟩⟩;{have:=h1.lt g hg;exact h2 g hg (hF g this.1 this.2 hF')};{have:=(h4 k VA).1.lt g hg;exact(h4 k VA).2 g hg (hF g this.1 this.2 hF')}
theorem RR.mono{N':Nat}(h:RR eo w N F v xss)(hN:N'<=N):RR eo w N' F v xss:=by obtain⟨vs,h1,h2,h3,h4⟩:=h;exact⟨vs,h1.mono hN,h2,h3,fun k VA=>⟨(h4 k VA).1.mono hN,(h4 k VA).2⟩⟩
theorem RR.below{C:Nat}(h:RR eo w N F v xss)(hb:Below C w w')(hC:w.heap.size<=C):RR eo w' N F v xss:=
 h.ak fun b _ h2 _=>hb.block b oZ
theorem RR.shape(h:RR eo w N F v xss):∃A c,v= .slice A xss.length c/\xss.length<=c/\c<=maxLen/\(xss≠[]->∃g,A=some ⟨g,0,none⟩):=by obtain⟨vs,h1,h2,h3,h4⟩:=h;obtain⟨A,c,e,ha,hb,hc⟩:=h1.shape;rw[h3]at e ha;refine⟨A,c,e,ha,hb,fun Vh=>hc (by intro e0;subst e0;exact Vh (Sh h3.symm))⟩
theorem RR.at_(h:RR eo w N F v xss){k:Nat}(hk:k<xss.length):∃g c A c',v= .slice (some ⟨g,0,none⟩) xss.length c/\N<=g/\g<w.heap.size/\
  w.cell? ⟨g,k,none⟩=some (.slice A (xss.getD k []).length c')/\RI w (fun b=>N<=b/\b<w.heap.size) A (xss.getD k [])/\(xss.getD k []).length<=maxLen:=by
 obtain⟨vs,h1,h2,h3,h4⟩:=h;obtain⟨g,c,e,Vs,Vv,_,_,Vk,_⟩:=h1.block oZ;have h5:=(h4 k oZ).1;obtain⟨A,c',e',Xw,hl2,hr⟩:=h5.reads;refine⟨g,c,A,c',by rw[e,h3],Vs,Vv,?_,hr,h5.len⟩;rw[Vk k oZ,id,e']
theorem ER.push{u v':Value}{x:List Int}{vs:List Value}(heo:eo≠3)(h:ER eo w N F v vs xss)(hu:OI w N u x)(huF:∀g,u.ownBlock=some g->¬F g)(hF:∀b,F b->b<w.heap.size)
  (VB:OR eo id w' N v' (vs++[u]))(hg:(w.alloc (.cells #[u] eo)).grownBy w' v.ownBlock)(hv:v'.ownBlock=v.ownBlock\/v'.ownBlock=some (w.heap.size+1)):
  ER eo w' N F v' (vs++[u]) (xss++[x]):=by
 obtain⟨h1,h2,h3,h4⟩:=h;have ak:∀{y:Value}{z:List Int},OI w N y z->OI w' N y z:=fun{y z} hy=>hy.ak fun g hgy=>by have Vg:=(hy.lt g hgy).2;have Vh:=OR.apart hy h1 (fun e=>heo e.symm) hgy;rw[hg.block g qj (fun e=>Vh e.symm),Rx w _ g Vg]
 refine⟨VB,fun g WQ=>?_,by simp[h3],fun k hk=>?_⟩
 ·rcases hv with e|e
  {exact h2 g (by rw[<-e];exact WQ)}
  ·rw[e]at WQ
   injection WQ with WQ
   subst WQ;intro hf;have:=hF _ hf;omega
 ·rcases SN k vs.length with Vg|Yf
  ·have:=h4 k Vg
   rw[Uj Vg];refine⟨?_,this.2⟩;have e:(xss++[x]).getD k []=xss.getD k []:=by rw[Rw,Rw,TE oZ]
   rw[e];exact ak this.1
  ·have VH:k=vs.length:=by simp at hk;omega
   subst VH;have e:(xss++[x]).getD vs.length []=x:=by simp[h3]
   rw[e];have e2:(vs++[u])[vs.length]=u:=oX;rw[e2];exact⟨ak hu,huF⟩
end
def OQ(w:World)(B:Nat)(v:Value)(xs:List Int):Prop:=
 ∃g off c,v= .slice (some ⟨g,off,none⟩) xs.length c/\B<=g/\g<w.heap.size/\xs.length<=c/\c<=maxLen/\(∀k,k<c->(w.cell? ⟨g,off+k,none⟩).isSome=true)/\
  (∀k,k<xs.length->w.cell? ⟨g,off+k,none⟩=some (.int .i64 (gi xs k)))/\∀k,w.frozen? ⟨g,k,none⟩=false
section
variable{w w':World}{B:Nat}{v:Value}{xs:List Int}
theorem OQ.Fg(h:OI w B v xs)(Vh:0<xs.length):OQ w B v xs:=by
 obtain⟨g,c,h1,h2,h3,h4,h5,h6,h7⟩:=h.ints Vh;refine⟨g,0,c,h1,h2,h3,h4,h5,fun k hk=>?_,fun k hk=>by rw[Sr];exact h6 k hk,h7⟩;rcases h.2 with⟨_,hn⟩|⟨g',c',cur,hv,_,hh,_,_,VE,_⟩
 {omega}
 ·rw[h1]at hv
  injection hv with e1 e2 e3
  injection e1 with e1
  injection e1 with e1
  subst e1 e3;rw[Rt w g _ _ _ _ hh,Sr];have:k<cur.size:=oZ;simp[this]
theorem OQ.ak(h:OQ w B v xs)(hk:∀g,v.ownBlock=some g->w'.heap[g]?=w.heap[g]?)(hs:w.heap.size<=w'.heap.size):OQ w' B v xs:=by obtain⟨g,off,c,rfl,h2,h3,h4,h5,h6,h7,h8⟩:=h;have e:=hk g rfl;refine⟨g,off,c,rfl,h2,oZ,h4,h5,fun k hk=>?_,fun k hk=>?_,fun k=>?_⟩;{rw[Ri (a:=⟨g,off+k,none⟩) e];exact h6 k hk};{rw[Ri (a:=⟨g,off+k,none⟩) e];exact h7 k hk};{rw[Ro (a:=⟨g,k,none⟩) e];exact h8 k}
theorem OQ.alloc(h:OQ w B v xs)(o:Obj):OQ (w.alloc o) B v xs:=by
 have h0:=h;obtain⟨g,off,c,rfl,h2,h3,h4,h5,h6,h7,h8⟩:=h;refine h0.ak (fun g' hg=>?_) oX;have:g'=g:=by simp[Value.ownBlock]at hg;omega
 subst this;exact Rx w o g' h3
theorem OQ.lt(h:OQ w B v xs):∀g,v.ownBlock=some g->B<=g/\g<w.heap.size:=by
 obtain⟨g,off,c,rfl,h2,h3,h4,h5,h6,h7,h8⟩:=h;intro g' hg;have:g'=g:=by simp[Value.ownBlock]at hg;omega
 subst this;exact⟨h2,h3⟩
theorem OQ.pop{g off n c:Nat}{x:Int}(h:OQ w B (.slice (some ⟨g,off,none⟩) n c) (x::xs)):
  OQ w B (.slice (if c=1 then some ⟨g,off,none⟩else some ⟨g,off+1,none⟩) xs.length (c-1)) xs/\w.cell? ⟨g,off,none⟩=some (.int .i64 x)/\n=xs.length+1/\xs.length+1<=c/\B<=g:=by
 obtain⟨g',off',c',hv,h2,h3,h4,h5,h6,h7,h8⟩:=h;injection hv with e1 e2 e3
 injection e1 with e1
 injection e1 with e1 e4
 subst e1 e4 e3;simp only[SI]at e2 h4;subst e2;refine⟨?_,?_,rfl,h4,h2⟩;{by_cases hc:c=1;{have hx:xs=[]:=Sh oZ;subst hx;rw[Re hc];exact⟨g,off,c-1,rfl,h2,h3,oX,oZ,fun k hk=>by omega,fun k hk=>by simp at hk,h8⟩};{rw[Rc hc];refine⟨g,off+1,c-1,rfl,h2,h3,oZ,oZ,fun k hk=>?_,fun k hk=>?_,h8⟩;{have:=h6 (k+1) oZ;rwa [show off+(k+1)=off+1+k by omega]at this};{have:=h7 (k+1) qj;rw[show off+(k+1)=off+1+k by omega]at this;rw[this];simp[gi]}}};{have:=h7 0 oX;simpa[gi]using this}
theorem OQ.shape(h:OQ w B v xs):∃g off c,v= .slice (some ⟨g,off,none⟩) xs.length c/\xs.length<=c/\c<=maxLen:=by obtain⟨g,off,c,h1,_,_,h4,h5,_⟩:=h;exact⟨g,off,c,h1,h4,h5⟩
end
theorem DE{w:World}{B:Nat}{v:Value}{xs:List Int}{t ty:TypeId}{y:Int}(ht:Tryz.prog.underlying t=some (.slice 3))(h:OQ w B v xs)(hl:xs.length<1099511627776)(hB:B<=w.heap.size):
  ∃v' w',(Builtin.append_ #[t,t] ty #[v,.slice (some ⟨w.heap.size,0,none⟩) 1 1]).run Tryz.prog (w.alloc (.cells #[.int .i64 y] 3))= .ok v' w'/\OQ w' B v' (xs++[y])/\
   (w.alloc (.cells #[.int .i64 y] 3)).grownBy w' v.ownBlock/\(v'.ownBlock=v.ownBlock\/∃g,v'.ownBlock=some g/\w.heap.size<g):=by
 obtain⟨i0,hi,V6,VU,VN⟩:=S7 fU;have ha:=h.alloc (.cells #[.int .i64 y] 3);obtain⟨g,off,c,rfl,h2,h3,h4,h5,h6,h7,h8⟩:=ha;have V0:∀j u,([Value.int .i64 y]:List Value)[j]?=some u->(w.alloc (.cells #[.int .i64 y] 3)).cell? ((⟨w.heap.size,0,none⟩:Addr).add j)=some u:=fun j u hu=>by
  rcases j with _|j
  {rw[<-hu];exact Rt _ _ _ _ _ _ (Ru w _)};{simp at hu}
 unfold maxLen at h5;by_cases hroom:xs.length+1<=c
 ·have hr:=run_append_room_cells (P:=Tryz.prog) (w.alloc (.cells #[.int .i64 y] 3)) t ty 3 i0 ht hi g off xs.length c ⟨w.heap.size,0,none⟩ 1 1 [.int .i64 y] (by rw[VU];rfl) V0 (by intro u hu;simp at hu;subst hu;rfl) hroom
   (fun j hj=>by
           rw[VU,Ta];have:j=0:=by simpa using hj
           subst this;exact h6 xs.length hroom) (fun j _=>h8 _)
  rw[VU,Ta]at hr;refine⟨_,_,hr,?_,⟨rfl,rfl,rfl,?_,fun k hk Vh=>?_⟩,.inl rfl⟩
  ·have Vk:∀k,k<c->((w.alloc (.cells #[.int .i64 y] 3)).setCell ⟨g,off+xs.length,none⟩ (.int .i64 y)).cell? ⟨g,off+k,none⟩=if k=xs.length then some (.int .i64 y)else(w.alloc (.cells #[.int .i64 y] 3)).cell? ⟨g,off+k,none⟩:=fun k hk=>by
    by_cases e:k=xs.length;{subst e;rw[Re rfl];obtain⟨u,hu⟩:=Option.isSome_iff_exists.1 (h6 xs.length oZ);exact Ss _ _ _ hu}
    ·rw[Rc e]
     refine R4 _ _ _ _ ?_;intro h';injection h' with _ h'
     omega
   refine⟨g,off,c,oX,h2,by simpa[World.setCells]using h3,by simpa using hroom,by unfold maxLen;omega,fun k hk=>?_,fun k hk=>?_,fun k=>?_⟩;{simp only[World.setCells];rw[Vk k hk];split;{rfl};{exact h6 k hk}};{simp only[Rz,SY]at hk;simp only[World.setCells];rw[Vk k oZ];split;{rename_i e;subst e;rw[nS]};{rw[cX oZ];exact h7 k oZ}};{simp only[World.setCells];rw[Rp];exact h8 k}
  {simp[World.setCells]};{simp only[World.setCells];exact Rn _ _ _ k (fun e=>Vh (by simp[Value.ownBlock,e]))}
 ·obtain⟨v',w',hr,Vq,hg⟩:=run_append_arg_grows (P:=Tryz.prog) (w.alloc (.cells #[.int .i64 y] 3)) t ty 3 i0 (.int .i64 0) 1 8 ht hi V6 VU VN rfl oQ ⟨g,off,none⟩ xs.length c (xs.map (Value.int .i64)) oX
   (fun j u hu=>by
    have hj:j<xs.length:=by have:=(Tf.1 hu).1;simpa using this
    rw[Addr.add_lit,h7 j hj,<-xu hj,hu]) ⟨w.heap.size,0,none⟩ 1 1 [.int .i64 y] rfl V0 oZ (by unfold maxLen;omega) oZ
  have hor:OI w' (w.heap.size+1) v' (xs++[y]):=by show OR _ _ _ _ _ _;unfold OR;simpa using Vq
  have hq:=OQ.Fg hor oX;obtain⟨g',off',c',hv',q2,q3⟩:=hq;refine⟨v',w',hr,⟨g',off',c',hv',oZ,q3⟩,⟨hg.os,hg.tape,hg.output,hg.size,fun k hk _=>hg.block k hk oX⟩,.inr ⟨g',by rw[hv'];rfl,oZ⟩⟩
theorem OY{ops:Array Oper}{rest:List Oper}{o:Oper}{a:Act}{Q:Exit->Act->World->Prop}{w:World}{B:Nat}{v:Value}{xs:List Int}{s x:Operand}{t:TypeId}{y:Int}{H:Nat}
  (Vq:OQ w B v xs)(hl:xs.length<1099511627776)(hB:B<=w.heap.size)
  (XO:o.guard=none)(ho:o.op= .call {callee:= .builtin .append,args:=#[s,x],argTypes:=#[t,t]})
  (ht:Tryz.prog.underlying t=some (.slice 3))(hs:a.eval s=v)(hH:w.heap.size=H)(hx:a.eval x= .slice (some ⟨H,0,none⟩) 1 1)
  (h:∀v' w',OQ w' B v' (xs++[y])->(w.alloc (.cells #[.int .i64 y] 3)).grownBy w' v.ownBlock->(v'.ownBlock=v.ownBlock\/∃g,v'.ownBlock=some g/\w.heap.size<g)->
   wpList Tryz.prog ops Q rest (a.put o.dst v') w'):
  wpList Tryz.prog ops Q (o::rest) a (w.alloc (.cells #[.int .i64 y] 3)):=by
 subst hH;obtain⟨v',w',VG,h2,h3,h5⟩:=DE (y:=y) (ty:=o.type) ht Vq hl hB;refine Ut XO fun _ hK=>?_
 unfold Oper.wp execOp;simp only[ho,resolve,invoke,builtin,TI,TJ,SV,S_,Tk,Tw,hs,hx,VG];exact hK _ _ (h v' w' h2 h3 h5)
theorem iz{w w':World}{A1 A2:Option Addr}{n1 c1 n2 c2:Nat}{L:Int}(hb:Below (w.heap.size+1) (w.alloc (.cells #[.slice A1 n1 c1,.slice A2 n2 c2,.int .i64 L] 24)) w'):
  w'.cell? ⟨w.heap.size,0,none⟩=some (.slice A1 n1 c1)/\w'.cell? ⟨w.heap.size,1,none⟩=some (.slice A2 n2 c2)/\w'.cell? ⟨w.heap.size,2,none⟩=some (.int .i64 L):=by
 have h0:=Ru w (.cells #[.slice A1 n1 c1,.slice A2 n2 c2,.int .i64 L] 24);refine⟨(hb.cell (p:=⟨w.heap.size,0,none⟩) oX).trans ?_,(hb.cell (p:=⟨w.heap.size,1,none⟩) oX).trans ?_,(hb.cell (p:=⟨w.heap.size,2,none⟩) oX).trans ?_⟩
 all_goals
  rw[Rt _ _ _ _ _ _ h0];rfl
theorem bX{w w':World}{o:Obj}(hb:Below (w.heap.size+1) (w.alloc o) w'):Below w.heap.size w w':=((Rh _ _).alloc (Rf _) _).trans (hb.mono oZ)
structure gh(w1 wr:World)(B g n:Nat)(p:List Int):Prop where
 own:OI wr B (.slice (some ⟨g,0,none⟩) n n) p
 below:Below B w1 wr
 size:g<wr.heap.size
theorem gh.store{w1 wr:World}{B g n k:Nat}{p:List Int}(h:gh w1 wr B g n p)(hl:p.length=n)(hB:B<=g)(y:Int):gh w1 (wr.setCell ⟨g,k,none⟩ (.int .i64 y)) B g n (p.set k y):=by subst hl;refine⟨?_,h.below.setCell hB _,by simpa using h.size⟩;have h2:=OR.stored (k:=k) h.own y;rw[Ry]at h2;exact h2
theorem gh.alloc{w1 wr:World}{B g n:Nat}{p:List Int}(h:gh w1 wr B g n p)(hB:B<=g)(o:Obj):gh w1 (wr.alloc o) B g n p:=
 ⟨h.own.alloc o,h.below.alloc (by have:=h.size;omega) o,by have:=h.size;simp;omega⟩
theorem Ir{a b F n:Nat}(h:a+(b+1)<F/\a+(b+1)<=n+1):a+b+1<F/\a+b<=n:=oZ
theorem gh.grown{w1 wr w':World}{B g n:Nat}{p:List Int}{o:Obj}{row:Option Nat}(h:gh w1 wr B g n p)(hB:B<=g)(hg:(wr.alloc o).grownBy w' row)(VB:∀k,row=some k->g<k):gh w1 w' B g n p:=by
 have hs:=h.size;refine⟨h.own.ak fun k hk=>?_,(h.below.alloc oZ o).grown hg qj (fun k hk=>by have:=VB k hk;omega),by have:=hg.size;simp at this;omega⟩;have:k=g:=by simp[Value.ownBlock]at hk;omega
 subst this;rw[hg.block k qj (fun e=>by have:=VB k e.symm;omega),Rx wr o k hs]
theorem OQ.setCell{w:World}{B:Nat}{v:Value}{xs:List Int}(h:OQ w B v xs){g j:Nat}(hg:g<B)(y:Value):OQ (w.setCell ⟨g,j,none⟩ y) B v xs:=
 h.ak (fun k hk=>Rn w _ _ k (by have:=(h.lt k hk).1;simp;omega)) oX
theorem vC(A1 A2:Option Addr)(c1 c2 n:Nat)(mt:List Int)(L:Int)(w:World)(S:Nat->Prop)(hy:RI w S A2 mt)(hS:∀b,S b->b<w.heap.size)(hn:mt.length=4*n)(hI:cP mt)(VO:n<=100000):
  Calls Tryz.prog 32 #[.agg #[.slice A1 n c1,.slice A2 mt.length c2,.int .i64 L]] w fun e w'=>
   ∃v,e= .returned (.tuple #[v,.int .i64 (av mt n n)])/\OI w' w.heap.size v (oB mt n)/\Below w.heap.size w w':=by
 have XP:RI (w.alloc (.cells #[.slice A1 n c1,.slice A2 mt.length c2,.int .i64 L] 24)) (·<w.heap.size+1) A2 mt:=(hy.ak fun b hb=>Rx w _ b (hS b hb)).imp fun b hb=>by have:=hS b hb;omega
 have V0:OI ((w.alloc (.cells #[.slice A1 n c1,.slice A2 mt.length c2,.int .i64 L] 24)).alloc (.cells (List.replicate n (Value.int .i64 0)).toArray 3)) (w.heap.size+1) (.slice (some ⟨w.heap.size+1,0,none⟩) n n) (List.replicate n 0):=by have:=OI.new (w.alloc (.cells #[.slice A1 n c1,.slice A2 mt.length c2,.int .i64 L] 24)) (w.heap.size+1) n oX (by unfold maxLen;omega);simpa using this
 have WY:=dN 22 Tryz.underlying22 n oZ;have HY:=Rb XP;have HN:=Rb hn;have HI:=Rb hI;have H0:Hid (gh (w.alloc (.cells #[.slice A1 n c1,.slice A2 mt.length c2,.int .i64 L] 24)) ((w.alloc (.cells #[.slice A1 n c1,.slice A2 mt.length c2,.int .i64 L] 24)).alloc (.cells (Array.replicate n (Value.int .i64 0)) 3)) (w.heap.size+1) (w.heap.size+1) n (List.replicate n 0)):=
  ⟨by simpa using V0,(Rh _ _).alloc oX _,oX⟩
 clear hy hS XP V0 hn hI;go_enter Tryz.func32,Tryz.ntmps32
 go_wp2;clear WY;go_loopw[18] (fun i wr=>∃(k:Nat)(p:List Int),k<=n/\i= .int .i64 k/\Hid (gh (w.alloc (.cells #[.slice A1 n c1,.slice A2 mt.length c2,.int .i64 L] 24)) wr (w.heap.size+1) (w.heap.size+1) n p)/\Hid (p.length=n/\∀j,j<k->gi p j= -1)) (fun i _=>n-(intOf i).toNat)
 case atStart=>exact⟨0,_,Rv _,rfl,H0,oX,by intro j hj;omega⟩
 case round=>
  obtain⟨k,p,hk,rfl,HP,HV⟩:=hrel;by_cases Vg:k<n
  ·obtain⟨g,cc,hv,hBg,Xm,ZS,Wy,Vk,Xn⟩:=HP.out.own.ints (by rw[HV.out.1];omega)
   have hg:w.heap.size+1=g:=by injection hv with h1 h2 h3;injection h1 with h1;injection h1
   subst hg;have k1:=Vk k (by rw[HV.out.1];exact Vg);have k2:=Xn k;have X7:Hid (gh (w.alloc (.cells #[.slice A1 n c1,.slice A2 mt.length c2,.int .i64 L] 24)) (wr.setCell ⟨w.heap.size+1,k,none⟩ (.int .i64 (-1))) (w.heap.size+1) (w.heap.size+1) n (p.set k (-1))):=by
    refine⟨?_,HP.out.below.setCell oX _,by simpa using HP.out.size⟩;have h1:OI wr (w.heap.size+1) (.slice (some ⟨w.heap.size+1,0,none⟩) p.length n) p:=by rw[HV.out.1];exact HP.out.own
    have h2:=OR.stored (k:=k) h1 (-1);rw[Ry,HV.out.1]at h2;exact h2
   have HV':Hid ((p.set k (-1)).length=n/\∀j,j<k+1->gi (p.set k (-1)) j= -1):=by refine⟨by rw[Ry];exact HV.out.1,fun j hj=>?_⟩;rw[dB (by rw[HV.out.1];exact Vg)];split;{rfl};{exact HV.out.2 j oZ}
   clear Vk Xn hv ZS Wy;go_wp2;go_roundw
   case rel=>exact⟨k+1,_,oZ,by go_num,X7,HV'⟩
   case measure=>simp[intOf];omega
  ·have HO:Hid (yx mt n 0 p):=A_ HV.out.1 fun x hx=>HV.out.2 x oZ
   clear HV;go_wp2;clear hk Vg;obtain⟨w2,rfl⟩:∃x:World,x=wr:=⟨_,rfl⟩
   go_loopw[6,27] (fun t i wr=>∃(k:Nat)(p:List Int),k<=n/\i= .int .i64 k/\t= .int .i64 (av mt n k)/\Hid (gh (w.alloc (.cells #[.slice A1 n c1,.slice A2 mt.length c2,.int .i64 L] 24)) wr (w.heap.size+1) (w.heap.size+1) n p)/\Hid (yx mt n k p)) (fun _ i _=>n-(intOf i).toNat)
   case atStart=>exact⟨0,p,Rv _,rfl,rfl,HP,HO⟩
   case round=>
    clear HP HO;obtain⟨k,p,hk,rfl,rfl,HP,HO⟩:=hrel;by_cases Vg:k<n
    ·obtain⟨g,cc,hv,hBg,Xm,ZS,Wy,Vk,Xn⟩:=HP.out.own.ints (by rw[HO.out.len];omega)
     have hg:w.heap.size+1=g:=by injection hv with h1 h2 h3;injection h1 with h1;injection h1
     subst hg;have k1:=Vk k (by rw[HO.out.len];exact Vg);have k2:=Xn k;by_cases h0:0<=gi p k
     ·obtain⟨hO',hix⟩:=EE HI.out HN.out Vg HO.out h0
      have HO':=Rb hO';have HX:=Rb hix;clear Vk Xn hv ZS Wy hO' hix;go_wp2;go_roundw
      case rel=>exact⟨k+1,p,oZ,by go_num,by rw[HX.out],HP,HO'⟩
      case measure=>simp[intOf];omega
     ·obtain⟨hlk,hpk,hix⟩:=yO HI.out HN.out Vg HO.out h0
      have HB:=Rb (E9 HI.out HN.out Vg HO.out h0);have HLK:=Rb hlk;have HX:=Rb hix;have X7:=Rb (HP.out.store (n:=n) (k:=k) HO.out.len (Rf _) (av mt n k:Int));have hng:=JJ (p.set k (av mt n k:Int));have Wr:(p.set k (av mt n k:Int)).length=n:=by rw[Ry];exact HO.out.len
      rw[Wr]at hng;have XQ:OQ ((wr.setCell ⟨w.heap.size+1,k,none⟩ (.int .i64 (av mt n k:Int))).alloc (.cells #[.int .i64 k] 3)) (w.heap.size+2) (.slice (some ⟨wr.heap.size,0,none⟩) 1 1) ([k].map Int.ofNat):=by have h1:=OR.made (e:=3) (f:=Value.int .i64) (xs:=[(k:Int)]) (wr.setCell ⟨w.heap.size+1,k,none⟩ (.int .i64 (av mt n k:Int))) (w.heap.size+2) #[.int .i64 k] qj (by simp[maxLen]) oX;have h2:=OQ.Fg h1 oX;simpa using h2
      have HQ:=Rb XQ;have X8:=Rb hng;clear Vk Xn hv ZS Wy hlk hpk hix Wr XQ hng HP HO;go_wp2;clear k1 k2;obtain⟨w3,rfl⟩:∃x:World,x=wr:=⟨_,rfl⟩
      go_loopg[8] (n+2) (fun F v wr=>∃(p:List Int)(q:List Nat)(a:Nat),Hid (gh (w.alloc (.cells #[.slice A1 n c1,.slice A2 mt.length c2,.int .i64 L] 24)) wr (w.heap.size+1) (w.heap.size+1) n p)/\
       Hid (OQ wr (w.heap.size+2) v (q.map Int.ofNat))/\Hid (BI mt n k p q a 4)/\Hid (xN p+q.length<F/\xN p+q.length<=n+1))
      case atStart=>exact⟨_,[k],n,X7.out.alloc (Rf _) _,HQ,HB,by have:=X8.out;exact⟨by show _+1<_;omega,by show _+1<=_;omega⟩⟩
      case round=>
       clear X7 HQ HB X8;obtain⟨p,q,a,HP,HQ,HB,HF⟩:=hrel;rcases q with _|⟨x,q⟩
       ·have HO:=Rb (J' HI.out HN.out Vg HLK.out HB.out)
        obtain⟨gq,oq,cq,rfl,hlq,hcq⟩:=HQ.out.shape;have HX2:Hid (((av mt n (k+1):Nat):Int)=(av mt n k:Int)+1):=by rw[HX.out];show((_+1:Nat):Int)=_;omega
        simp only[Tw,List.length_nil]at hlq;have hib:(av mt n k:Int)<=100000:=by have:=rE (eH mt n) k;unfold av;omega
        clear hcq;go_wp2;go_roundw
        case rel=>exact⟨k+1,p,oZ,by go_num,by rw[HX2.out],HP,HO⟩
        case measure=>simp[intOf];omega
       ·obtain⟨gq,oq,cq,rfl,-,-⟩:=HQ.out.shape
        have e:(List.map Int.ofNat (x::q)).length=q.length+1:=oX;rw[e]at HQ⊢;have hpop:=OQ.pop (x:=(x:Int)) (xs:=q.map Int.ofNat) (by simpa using HQ.out);obtain⟨WG,hcx,-,hcq,hgq⟩:=hpop;rw[Sa]at WG hcq;obtain⟨XI,hlx,-⟩:=HB.out.qv x oX;have HLX:=Rb hlx;have Vr:=Rb (Mf HB.out);have Zt:=Rb (Ir HF.out);obtain⟨T,hT⟩:∃T,xN p+q.length=T:=⟨_,rfl⟩
        rw[hT]at Zt;have HT:=Rb hT;clear e HQ HB HF hlx hT;by_cases hc:cq=1
        case' pos=>subst hc;obtain rfl:q=[]:=Sh oZ;have Xo:=Rb (show OQ wr (w.heap.size+2) (.slice (some ⟨gq,oq,none⟩) 0 0) (([]:List Nat).map Int.ofNat) by simpa using WG);clear WG hcq;simp only[List.length_nil,Sr];go_wp2
        case' neg=>rw[Rc hc]at WG;have Xo:=Rb WG;clear WG;go_wp2;clear hc hcq
        all_goals
         clear hcx hgq;obtain⟨w4,rfl⟩:∃x:World,x=wr:=⟨_,rfl⟩
         go_loopw[8,49] (fun v i wr=>∃(s:Nat)(p:List Int)(q:List Nat),s<=4/\i= .int .i64 s/\Hid (gh (w.alloc (.cells #[.slice A1 n c1,.slice A2 mt.length c2,.int .i64 L] 24)) wr (w.heap.size+1) (w.heap.size+1) n p)/\
          Hid (OQ wr (w.heap.size+2) v (q.map Int.ofNat))/\Hid (BI mt n k p q x s)/\Hid (xN p+q.length=T)) (fun _ i _=>4-(intOf i).toNat)
         case atStart=>exact⟨0,p,_,oZ,rfl,HP,Xo,Vr,HT⟩
         case round=>
          clear HP Xo Vr HT;obtain⟨s,p,q,hs,rfl,HP,HQ,HB,HT⟩:=hrel;by_cases hs4:s<4
          ·obtain⟨htn,htl,V4⟩:=Hv HI.out HN.out HB.out XI HLX.out hs4
           obtain⟨Vs,Vv,-,-⟩:=HI.out.gn V4;obtain⟨-,m1,-⟩:=iz HP.out.below;obtain⟨bm,om,rfl,YM,Wy⟩:=(HY.out.below HP.out.below).at_ V4;have k3:=Wy (4*x+s) V4;rw[Vs]at k3;obtain⟨-,-,hgs2,-,Vk,Xn⟩:=HP.out.own.ints_at (by rw[HB.out.len];omega);have k4:=Vk (gn mt (4*x+s)/4) (by rw[HB.out.len];exact htn);have k5:=Xn (gn mt (4*x+s)/4);have i1:(0:Int)<=4*(x:Int)+(s:Int)/\4*(x:Int)+(s:Int)<mt.length:=oZ;have i2:(4*(x:Int)+(s:Int)).toNat=4*x+s:=oZ;have i4:gn mt (4*x+s)<=400000:=by have:=HN.out;omega
           clear Wy Vk Xn Vs;by_cases h0:0<=gi p (gn mt (4*x+s)/4)
           ·have HB':=Rb (J0 HI.out HN.out HB.out XI HLX.out hs4 h0)
            go_wp2;go_roundw
            case rel=>exact⟨s+1,p,q,oZ,by go_num,HP,HQ,HB',HT⟩
            case measure=>simp[intOf];omega
           ·have Wm:gi p (gn mt (4*x+s)/4)<0:=oZ
            have HB':=Rb (MQ HI.out HN.out HB.out XI HLX.out hs4 h0);have X7:=Rb (HP.out.store (k:=gn mt (4*x+s)/4) HB.out.len (Rf _) (av mt n k:Int));have ZT:=Rb (HQ.out.setCell (j:=gn mt (4*x+s)/4) (show w.heap.size+1<w.heap.size+2 by omega) (.int .i64 (av mt n k:Int)));have hT2:xN (p.set (gn mt (4*x+s)/4) (av mt n k:Int))+(q++[gn mt (4*x+s)/4]).length=T:=by have h1:=Hq (p:=p) (y:=(av mt n k:Int)) (by rw[HB.out.len];exact htn) Wm oZ;have h2:=HT.out;rw[Rz,SY];omega
            have HT2:=Rb hT2;have Xf:(q.map Int.ofNat).length<1099511627776:=by have h1:=HT.out;have h2:=Zt.out.2;rw[Sa];omega
            have VI:w.heap.size+2<=(wr.setCell ⟨w.heap.size+1,gn mt (4*x+s)/4,none⟩ (.int .i64 (av mt n k:Int))).heap.size:=by simp;omega
            have VZ:=Rb VI;have HQL:=Rb Xf;clear hT2 Xf VI h0;go_wp2_with(at_builtin;refine OY ZT.out HQL.out VZ.out rfl rfl Tryz.underlying22 rfl oX rfl ?_;intro v' w' ho hg Vu);go_roundw
            case rel=>exact⟨s+1,_,_,oZ,by go_num,X7.out.grown (Rf _) hg (fun k hk=>by have:=(HQ.out.lt k hk).1;omega),by rw[SB];exact ho,HB',HT2⟩
            case measure=>simp[intOf];omega
          ·obtain rfl:s=4:=oZ
           clear HLX;go_wp2;go_roundg (T+1)
           case measure=>have:=Zt.out;omega
           case rel=>exact⟨p,q,x,HP,HQ,HB,by have h1:=HT.out;have h2:=Zt.out;exact⟨oZ,oZ⟩⟩
    ·obtain rfl:k=n:=oZ
     have hp:p=oB mt k:=GB HI.out HN.out HO.out;have Za:Hid (OI wr w.heap.size (.slice (some ⟨w.heap.size+1,0,none⟩) k k) (oB mt k)):=by rw[<-hp];exact HP.out.own.mono oZ
     have Xx:=bX HP.out.below;clear hp;go_wp2;go_ret2;exact⟨_,rfl,Za.out,Xx⟩
def wh(mt:List Int)(n k:Nat)(e:List Int):Prop:=e.length=av mt n n/\∀p,p<av mt n n->gi e p= -(jh mt n p k:Int)
def sH(mt:List Int)(n k:Nat)(e:List Int):Prop:=e.length=av mt n n/\∀p,p<av mt n n->gi e p=(jt mt n p k:Int)-(jh mt n p n:Int)
theorem yv{mt:List Int}(hI:cP mt){n:Nat}(hn:mt.length=4*n){c:Nat}(hc:c<n):av mt n (aA mt n c)<av mt n n:=
 j_ _ (df hI hn hc).2.2 (jg hI hn hc)
theorem BJ{mt:List Int}{n k:Nat}{e:List Int}(h:wh mt n k e)(hp:av mt n (aA mt n k)<av mt n n):wh mt n (k+1) (e.set (av mt n (aA mt n k)) (gi e (av mt n (aA mt n k))-1)):=by refine⟨by rw[Ry];exact h.1,fun p hpp=>?_⟩;rw[dB (by rw[h.1];exact hp)];unfold jh;rw[aT];by_cases ep:p=av mt n (aA mt n k);{subst ep;rw[Re rfl,Re oX,h.2 _ hpp];unfold jh;omega};{rw[Rc ep,Rc (by simp;exact fun e=>ep e.symm),h.2 _ hpp];rfl}
theorem zJ{mt:List Int}{n:Nat}{e:List Int}(h:wh mt n n e):sH mt n 0 e:=
 ⟨h.1,fun p hp=>by rw[h.2 p hp];unfold jt;rw[FY];omega⟩
theorem Cd{mt:List Int}{n k:Nat}{e:List Int}(h:sH mt n k e)(hl:a_ (au mt) mt.length k=false):sH mt n (k+1) e:=by refine⟨h.1,fun p hp=>?_⟩;unfold jt;rw[aT,Rc (by rw[hl];simp),h.2 p hp];rfl
theorem B4{mt:List Int}{n k:Nat}{e:List Int}(h:sH mt n k e)(hl:a_ (au mt) mt.length k=true)(hp:av mt n (aA mt n (k/4))<av mt n n):
  sH mt n (k+1) (e.set (av mt n (aA mt n (k/4))) (gi e (av mt n (aA mt n (k/4)))+1)):=by
 refine⟨by rw[Ry];exact h.1,fun p hpp=>?_⟩;rw[dB (by rw[h.1];exact hp)];unfold jt;rw[aT];by_cases ep:p=av mt n (aA mt n (k/4));{subst ep;rw[Re rfl,Re (by rw[hl];simp),h.2 _ hpp];unfold jt;omega};{rw[Rc ep,Rc (by rw[hl];simp;exact fun e=>ep e.symm),h.2 _ hpp];rfl}
theorem zQ{mt:List Int}{n k:Nat}{e:List Int}(h:sH mt n k e)(hk:k<=400000)(hn:n<=100000){p:Nat}(hp:p<av mt n n): -100000<=gi e p/\gi e p<=400000:=by have h1:=h.2 p hp;have h2:jt mt n p k<=k:=jD _ _;have h3:jh mt n p n<=n:=jD _ _;omega
theorem xK{mt:List Int}{n k:Nat}{e:List Int}(h:wh mt n k e)(hk:k<=100000){p:Nat}(hp:p<av mt n n): -100000<=gi e p/\gi e p<=0:=by have h1:=h.2 p hp;have h3:jh mt n p k<=k:=jD _ _;omega
def il:Nat->Bool:=fun _=>true
structure pJ(wr:World)(g N:Nat)(bs:List Bool):Prop where
 own:OB wr g (.slice (some ⟨g,0,none⟩) N N) bs
 len:bs.length=N
 size:g<wr.heap.size
theorem pJ.mark{wr:World}{g N:Nat}{bs:List Bool}(h:pJ wr g N bs)(j:Nat):pJ (wr.setCell ⟨g,j,none⟩ (.bool true)) g N (bs.set j true):=by
 refine⟨?_,by rw[Ry];exact h.len,by simpa using h.size⟩;have h1:OB wr g (.slice (some ⟨g,0,none⟩) bs.length N) bs:=by rw[h.len];exact h.own
 have h2:=OR.stored (k:=j) h1 true;rw[Ry,h.len]at h2;exact h2
theorem pJ.at_{wr:World}{g N:Nat}{bs:List Bool}(h:pJ wr g N bs){j:Nat}(hj:j<N):wr.cell? ⟨g,j,none⟩=some (.bool (gb bs j))/\wr.frozen? ⟨g,j,none⟩=false:=by obtain⟨-,-,-,-,hc,hf⟩:=h.own.dO (by rw[h.len];omega);exact⟨hc j (by rw[h.len];exact hj),hf j⟩
theorem pJ.ak{wr w':World}{g N:Nat}{bs:List Bool}(h:pJ wr g N bs)(hk:w'.heap[g]?=wr.heap[g]?)(hs:wr.heap.size<=w'.heap.size):pJ w' g N bs:=
 ⟨h.own.ak fun k VH=>by
               have:k=g:=by simp[Value.ownBlock]at VH;omega
               subst this;exact hk,h.len,by have:=h.size;omega⟩
theorem gh.at_{w1 wr:World}{B g n:Nat}{p:List Int}(h:gh w1 wr B g n p)(hl:p.length=n){j:Nat}(hj:j<n):wr.cell? ⟨g,j,none⟩=some (.int .i64 (gi p j))/\wr.frozen? ⟨g,j,none⟩=false:=by obtain⟨-,-,-,-,hc,hf⟩:=h.own.ints_at oZ;exact⟨hc j oZ,hf j⟩
theorem gh.other{w1 wr:World}{B g n:Nat}{p:List Int}(h:gh w1 wr B g n p){b j:Nat}(hb:B<=b)(Vh:b≠g)(v:Value):gh w1 (wr.setCell ⟨b,j,none⟩ v) B g n p:=
  ⟨h.own.ak fun k hk=>by
                             have:k=g:=by simp[Value.ownBlock]at hk;omega
                             subst this;exact Rn wr _ _ k qj,h.below.setCell hb _,by simpa using h.size⟩
theorem uA(A1 A2:Option Addr)(c1 c2 n:Nat)(mt:List Int)(L:Int)(w:World)(S:Nat->Prop)(hy:RI w S A2 mt)(hS:∀b,S b->b<w.heap.size)(hn:mt.length=4*n)(hI:cP mt)(VO:n<=100000):
  Calls Tryz.prog 26 #[.agg #[.slice A1 n c1,.slice A2 mt.length c2,.int .i64 L]] w fun e w'=>e= .returned (.bool (decide (I_ mt n)))/\Below w.heap.size w w':=by
 have hpn:av mt n n<=n:=rE _ _;have XP:RI (w.alloc (.cells #[.slice A1 n c1,.slice A2 mt.length c2,.int .i64 L] 24)) (·<w.heap.size+1) A2 mt:=(hy.ak fun b hb=>Rx w _ b (hS b hb)).imp fun b hb=>by have:=hS b hb;omega
 have Zu:=vC A1 A2 c1 c2 n mt L (w.alloc (.cells #[.slice A1 n c1,.slice A2 mt.length c2,.int .i64 L] 24)) (·<w.heap.size+1) XP (fun b hb=>by simpa using hb) hn hI VO;have HLAB:=Rb Zu;have HY:=Rb XP;have HN:=Rb hn;have HI:=Rb hI;obtain⟨q,hq⟩:∃q,av mt n n=q:=⟨_,rfl⟩
 have HQ:=Rb hq;have hqn:q<=100000:=oZ;have WY:=dN 22 Tryz.underlying22 q oZ;have hmb:=gH 94 Tryz.underlying94 mt.length oZ;have HMB:=Rb hmb;have VQ:mt.length<=400000:=oZ;clear hy hS XP hn hI Zu hq hpn hmb;go_enter Tryz.func26,Tryz.ntmps26
 go_wp2_with fail;refine HLAB.out.mono ?_;rintro e w2 ⟨v,rfl,ho,Vj⟩;rw[HQ.out];have hb2':Below (w.heap.size+1) (w.alloc (.cells #[.slice A1 n c1,.slice A2 mt.length c2,.int .i64 L] 24)) w2:=by simpa using Vj
 have Xp:=hb2'.size;simp at Xp;obtain⟨A3,c3,rfl,-,-,hr3⟩:=ho.reads;rw[cR];have HR3:Hid (RI w2 (·<w2.heap.size) A3 (oB mt n)):=hr3.imp fun b hb=>hb.2
 have HY2:Hid (RI w2 (·<w2.heap.size) A2 mt):=(HY.out.below hb2').imp fun b hb=>by omega
 have ZU:=Rb hb2';have H0:Hid (gh w2 (w2.alloc (.cells (Array.replicate q (Value.int .i64 0)) 3)) w2.heap.size w2.heap.size q (List.replicate q 0)):=
  ⟨by have:=OI.new w2 w2.heap.size q (Rf _) (by unfold maxLen;omega);simpa using this,(Rh _ _).alloc (Rf _) _,oX⟩
 have Xq:Hid (wh mt n 0 (List.replicate q 0)):=⟨by rw[Sd,HQ.out],fun p hp=>by rw[ir (by rw[<-HQ.out];exact hp)];rfl⟩;clear HLAB ho Vj hb2' hr3 HY;go_wp2_with fail;clear WY;go_loopw[22] (fun i wr=>∃(k:Nat)(e:List Int),k<=n/\i= .int .i64 k/\Hid (gh w2 wr w2.heap.size w2.heap.size q e)/\Hid (wh mt n k e)) (fun i _=>n-(intOf i).toNat)
 case atStart=>exact⟨0,_,Rv _,rfl,H0,Xq⟩
 case round=>
  clear H0 Xq;obtain⟨k,e,hk,rfl,HP,HE⟩:=hrel;by_cases Vg:k<n
  ·have Wr:=yv HI.out HN.out Vg
   rw[HQ.out]at Wr;obtain⟨b,off,rfl,Yi,hc⟩:=(HR3.out.below HP.out.below).at_ (k:=k) (by rw[cR];exact Vg);have k1:=hc k (by rw[cR];exact Vg);rw[nO Vg]at k1;obtain⟨k2,k3⟩:=HP.out.at_ (by rw[HE.out.1,HQ.out]) Wr;have YN:=xK HE.out oZ (show av mt n (aA mt n k)<av mt n n by rw[HQ.out];exact Wr);have HE':=Rb (BJ HE.out (by rw[HQ.out];exact Wr));have X7:=Rb (HP.out.store (k:=av mt n (aA mt n k)) (by rw[HE.out.1,HQ.out]) (Rf _) (gi e (av mt n (aA mt n k))-1));clear hc;go_wp2_with fail;go_roundw
   case rel=>exact⟨k+1,_,oZ,by go_num,X7,HE'⟩
   case measure=>simp[intOf];omega
  ·obtain rfl:n=k:=oZ
   have Zv:=Rb (zJ HE.out);obtain⟨-,m1,-⟩:=iz (ZU.out.trans (HP.out.below.mono oZ));have hmb:=HMB.out;have hw0:w.heap.size<wr.heap.size:=by have:=HP.out.size;omega
   have m2:∀o:Obj,(wr.alloc o).cell? ⟨w.heap.size,1,none⟩=some (.slice A2 mt.length c2):=fun o=>(Sm wr o _ hw0).trans m1
   clear HE Vg;go_wp2_with fail;obtain⟨w3,rfl⟩:∃x:World,x=wr:=⟨_,rfl⟩
   have H3:Hid (pJ (w3.alloc (.cells (Array.replicate mt.length (Value.bool false)) 4)) w3.heap.size mt.length (List.replicate mt.length false)):=
    ⟨by have:=OB.new w3 w3.heap.size mt.length (Rf _) (by unfold maxLen;omega);simpa using this,oX,oX⟩
   have HS0:=Rb (sZ (au mt) mt.length il);clear hmb m1 m2 hw0
   go_loopw[40] (fun i wr=>∃(k:Nat)(e:List Int)(bs:List Bool),k<=mt.length/\i= .int .i64 k/\Hid (gh w2 wr w2.heap.size w2.heap.size q e)/\Hid (pJ wr w3.heap.size mt.length bs)/\
    Hid (sH mt n k e)/\Hid (p' (au mt) mt.length il k bs)) (fun i _=>mt.length-(intOf i).toNat)
   case atStart=>exact⟨0,_,_,Rv _,rfl,HP.out.alloc (Rf _) _,H3,Zv,HS0⟩
   case round=>
    have Xm:=HP.out.size;clear H3 Zv HS0 HP;obtain⟨h,e,bs,hh,rfl,HP,HBR,HE,HS⟩:=hrel;have ZV:=Rb (aU HI.out HN.out);by_cases Vg:h<mt.length
    ·obtain⟨k1,-⟩:=HBR.out.at_ Vg
     have WV:=lj ZV.out (wt:=il) (fun _ _=>rfl) Vg rfl HS.out;by_cases hl:a_ (au mt) mt.length h=true
     ·rw[hl]at WV
      have WV:gb bs h=false:=WV;have XJ:h/4<n:=by have:=HN.out;omega
      have Wr:=yv HI.out HN.out XJ;rw[HQ.out]at Wr;obtain⟨b,off,rfl,Yi,hc⟩:=(HR3.out.below HP.out.below).at_ (k:=h/4) (by rw[cR];exact XJ);have k4:=hc (h/4) (by rw[cR];exact XJ);rw[nO XJ]at k4;obtain⟨k2,k3⟩:=HP.out.at_ (by rw[HE.out.1,HQ.out]) Wr;have YN:=zQ HE.out oZ VO (show av mt n (aA mt n (h/4))<av mt n n by rw[HQ.out];exact Wr);have HE':=Rb (B4 HE.out hl (by rw[HQ.out];exact Wr));have X7:=Rb (HP.out.store (k:=av mt n (aA mt n (h/4))) (by rw[HE.out.1,HQ.out]) (Rf _) (gi e (av mt n (aA mt n (h/4)))+1));have HB':=Rb (HBR.out.ak (w':=wr.setCell ⟨w2.heap.size,av mt n (aA mt n (h/4)),none⟩ (.int .i64 (gi e (av mt n (aA mt n (h/4)))+1))) (Rn wr _ _ _ qj) oX);have HJ:=Rb (rN HS.out);have HL:=Rb hl;clear hc HS HP HE HBR hl;go_wp2_with fail;clear k1 k2 k3 k4 WV YN Wr;obtain⟨w4,rfl⟩:∃x:World,x=wr:=⟨_,rfl⟩
      go_loopg[10] (eC (au mt) mt.length h+1) (fun F g wr=>∃(j:Nat)(bs:List Bool),j<=eC (au mt) mt.length h/\g= .int .i64 (it (au mt) j h)/\Hid (gh w2 wr w2.heap.size w2.heap.size q (e.set (av mt n (aA mt n (h/4))) (gi e (av mt n (aA mt n (h/4)))+1)))/\
       Hid (pJ wr w3.heap.size mt.length bs)/\Hid (qm (au mt) mt.length il h j bs)/\Hid (eC (au mt) mt.length h-j<F))
      case atStart=>exact⟨0,bs,Rv _,rfl,X7,HB',HJ,by show _<_;omega⟩
      case round=>
       clear X7 HB' HJ;obtain⟨j,bs,hj,rfl,HP,HBR,HJ,HF⟩:=hrel;obtain⟨g,hg⟩:∃g,it (au mt) j h=g:=⟨_,rfl⟩
       have VS:g<mt.length:=by rw[<-hg];exact ZV.out.bL j Vg
       have HG:=Rb hg;obtain⟨k1,k2⟩:=HBR.out.at_ VS;by_cases Yh:j<eC (au mt) mt.length h
       ·have hop:=Bj ZV.out (wt:=il) (fun _ _=>rfl) Vg rfl HL.out HJ.out Yh
        rw[hg]at hop;obtain⟨Vs,Vv,-,-⟩:=HI.out.gn VS;have Vz:=HP.out.below;obtain⟨-,m1,-⟩:=iz (ZU.out.trans (Vz.mono oZ));have Vh:w.heap.size≠w3.heap.size:=oZ;have HP2:=Rb (HP.out.other (b:=w3.heap.size) (j:=g) oZ oZ (.bool true));have VD:=Rb (HBR.out.mark g);have HJ2:=Rb (tq ZV.out Vg HJ.out);obtain⟨b,off,rfl,Yi,hc⟩:=(HY2.out.below Vz).at_ VS;have k3:=hc g VS;rw[Vs]at k3;have hne2:b≠w3.heap.size:=oZ;have X5:Hid ((ae (gn mt g) 3:Nat)=it (au mt) (j+1) h):=by show _=au mt (it (au mt) j h);rw[hg];rfl
        have HG1:Hid (gn mt g<=1099511627776):=by show _<=_;omega
        rw[hg]at HJ2⊢;clear hc Vs Vv HP HBR HJ hg;go_wp2_with fail;refine(nK (gn mt g) 3 _ rfl HG1.out oQ).mono ?_;rintro e' w' ⟨rfl,rfl⟩;rw[X5.out];go_wp2_with fail;go_roundg (eC (au mt) mt.length h-j)
        case measure=>exact HF.out
        case rel=>exact⟨j+1,_,oZ,rfl,HP2,VD,HJ2,by show _<_;omega⟩
       ·have Yh:j=eC (au mt) mt.length h:=oZ
        have hsh:=AP ZV.out Vg HJ.out Yh;rw[hg]at hsh;have HS':=Rb (ve ZV.out Vg (by rfl) HL.out HJ.out Yh);rw[hg];clear Yh hg HF;go_wp2_with fail;go_roundw
        case rel=>exact⟨h+1,_,bs,oZ,by go_num,HP,HBR,HE',HS'⟩
        case measure=>simp[intOf];omega
     ·have hl:a_ (au mt) mt.length h=false:=by simpa using hl
      rw[hl]at WV;have HE':=Rb (Cd HE.out hl);have HS':=Rb (tA HS.out (by rw[hl];simp));have WV:gb bs h=true:=WV;clear hl;go_wp2_with fail;go_roundw
      case rel=>exact⟨h+1,e,bs,oZ,by go_num,HP,HBR,HE',HS'⟩
      case measure=>simp[intOf];omega
    ·obtain rfl:mt.length=h:=oZ
     clear HS;go_wp2_with fail;obtain⟨w5,rfl⟩:∃x:World,x=wr:=⟨_,rfl⟩
     go_loop [75] (fun i=>∃k:Nat,k<=q/\i= .int .i64 k/\Hid (∀p,p<k->gi e p=2)) (fun i=>q-(intOf i).toNat)
     case atStart=>exact⟨0,Rv _,rfl,by intro p hp;omega⟩
     case round=>
      obtain⟨k,hk,rfl,HA⟩:=hrel;by_cases hkq:k<q
      ·obtain⟨k2,-⟩:=HP.out.at_ (by rw[HE.out.1,HQ.out]) hkq
       by_cases h2:gi e k=2
       ·have h3:(gi e k !=2)=false:=by rw[RK];exact h2
        have ZW:Hid (∀p,p<k+1->gi e p=2):=by
         intro p hp;rcases Sl (SO hp)with h4|rfl
         {exact HA.out p h4};{exact h2}
        clear h2;go_wp2_with fail
        go_round
        case rel=>exact⟨k+1,oZ,by go_num,ZW⟩
        case measure=>simp[intOf];omega
       ·have h3:(gi e k !=2)=true:=by rw[RZ];exact h2
        have hd:decide (I_ mt n)=false:=Rl fun hs=>by have h4:=hs k (by rw[HQ.out];exact hkq);have h5:=HE.out.2 k (by rw[HQ.out];exact hkq);omega
        have H:=Rb hd;have WZ:=Rb (bX (ZU.out.trans (HP.out.below.mono oZ)));clear h2 hd;go_wp2_with fail;go_ret;exact⟨aF H.out.symm,WZ.out⟩
      ·have hd:decide (I_ mt n)=true:=Rj fun p hp=>by
        have h4:=HA.out p (by rw[HQ.out]at hp;omega);have h5:=HE.out.2 p hp;omega
       have H:=Rb hd;have WZ:=Rb (bX (ZU.out.trans (HP.out.below.mono oZ)));clear hd;go_wp2_with fail;go_ret;exact⟨aF H.out.symm,WZ.out⟩
def AX(K:Nat)(cw:Array Value)(N:Nat)(wt:Nat->Bool)(w:World):Prop:=∀(g:Nat)(W:World),g<N->Below w.heap.size w W->
 Calls Tryz.prog K (#[.int .i64 g]++cw) W fun e w'=>e= .returned (.bool (wt g))/\Below W.heap.size W w'
def rows(ls:List (List Nat)):List (List Int):=ls.map ints
structure tf(w wr:World)(f:Nat->Nat)(N:Nat)(wt:Nat->Bool)(k:Nat)(bs:List Bool)(v:Value):Prop where
 br:pJ wr w.heap.size N bs
 seen:p' f N wt k bs
 row:RR 22 wr w.heap.size (·=w.heap.size) v (rows (bR f N wt k))
 below:Below w.heap.size w wr
theorem tf.v_{w wr w':World}{f:Nat->Nat}{N:Nat}{wt:Nat->Bool}{k:Nat}{bs:List Bool}{v:Value}(h:tf w wr f N wt k bs v)(hb:Below wr.heap.size wr w'):tf w w' f N wt k bs v:=
 ⟨h.br.ak (hb.block _ h.br.size) hb.size,h.seen,h.row.below hb (Rf _),h.below.trans (hb.mono h.below.size)⟩
theorem tf.skip{w wr:World}{f:Nat->Nat}{N:Nat}{wt:Nat->Bool}{k:Nat}{bs:List Bool}{v:Value}(h:tf w wr f N wt k bs v)(VT:¬(wt k=true/\a_ f N k=true)):tf w wr f N wt (k+1) bs v:=by refine⟨h.br,tA h.seen VT,?_,h.below⟩;rw[dS,Rc (by rw[RA];exact VT),S6];exact h.row
structure Bu(w wr:World)(f:Nat->Nat)(N:Nat)(wt:Nat->Bool)(k j:Nat)(bs:List Bool)(v u:Value)(B:Nat):Prop where
 br:pJ wr w.heap.size N bs
 seen:qm f N wt k j bs
 row:RR 22 wr w.heap.size (·=w.heap.size) v (rows (bR f N wt k))
 list:OI wr B u (ints (bJ f N k))
 below:Below w.heap.size w wr
theorem Bu.mark{w wr:World}{f:Nat->Nat}{N:Nat}{wt:Nat->Bool}{k j:Nat}{bs:List Bool}{v u:Value}{B:Nat}(hP:aO f N)(hk:k<N)(hB:w.heap.size<B)(h:Bu w wr f N wt k j bs v u B):
  Bu w (wr.setCell ⟨w.heap.size,it f j k,none⟩ (.bool true)) f N wt k (j+1) (bs.set (it f j k) true) v u B:=
 ⟨h.br.mark _,tq hP hk h.seen,h.row.ak fun b _ _ hF=>Rn wr _ _ b hF,h.list.ak fun g hg=>Rn wr _ _ g (by have:=(h.list.lt g hg).1;simp;omega),h.below.setCell (Rf _) _⟩
theorem aE(ls:List (List Nat)):(rows ls).length=ls.length:=by simp[rows]
theorem tg{w:World}{N:Nat}{F:Nat->Prop}{v:Value}{vs:List Value}{xss:List (List Int)}(h:ER 22 w N F v vs xss):vs.length=xss.length:=h.2.2.1
theorem dM(f:Nat->Nat)(N:Nat)(wt:Nat->Bool)(k:Nat):(rows (bR f N wt k)).length<=k:=by unfold rows bR;rw[Sa,Sa];have:=Tg (fun h=>wt h&&a_ f N h) (List.range k);simpa using this
theorem Bu.push{w wr w':World}{f:Nat->Nat}{N:Nat}{wt:Nat->Bool}{k j:Nat}{bs:List Bool}{v v' u:Value}{B:Nat}{vs:List Value}(h:Bu w wr f N wt k j bs v u B)(hB:w.heap.size<B)(hP:aO f N)(hk:k<N)(Wf:wt k=true)(hl:a_ f N k=true)(hj:j=eC f N k)
  (HV:ER 22 wr w.heap.size (·=w.heap.size) v vs (rows (bR f N wt k)))(ho:OR 22 id w' w.heap.size v' (vs++[u]))(hg:(wr.alloc (.cells #[u] 22)).grownBy w' v.ownBlock)(Vu:v'.ownBlock=v.ownBlock\/v'.ownBlock=some (wr.heap.size+1)):
  tf w w' f N wt (k+1) bs v':=by
 have hR:=ER.push oQ HV (h.list.mono oZ) (fun g hgu hF=>by have:=(h.list.lt g hgu).1;omega) (fun b hF=>by have:=h.br.size;omega) ho hg Vu;refine⟨h.br.ak ?_ (by have:=hg.size;simp at this;omega),ve hP hk Wf hl h.seen hj,⟨vs++[u],?_⟩,?_⟩;{rw[hg.block _ (by have:=h.br.size;simp;omega) (fun e=>HV.2.1 _ e.symm rfl),Rx wr _ _ h.br.size]};{rw[dS,Re (by rw[Wf,hl];rfl)];unfold rows at hR⊢;rw[SB];exact hR};{exact((h.below.alloc h.below.size _).grown hg (by have:=h.below.size;simp;omega) fun g WQ=>(HV.1.lt g WQ).1)}
theorem tK(K KW bd N:Nat)(cw:Array Value)(f:Nat->Nat)(wt:Nat->Bool)(w:World)(hP:aO f N)(hw:∀h,h<N->wt (f h)=wt h)(hN:N<=400000)(hK:fM K)(hKW:fM KW)(X5:ng K bd N f w)(hwx:AX KW cw N wt w):
  Calls Tryz.prog 29 #[.int .i64 N,.func (.func KW) #[] cw,.func (.func K) #[] #[.pointer (some ⟨bd,0,none⟩)]] w fun e w'=>
   ∃v,e= .returned v/\RR 22 w' w.heap.size (fun _=>False) v (rows (bR f N wt N))/\Below w.heap.size w w':=by
 have HX:=Rb X5;have HW:=Rb hwx;have HP:=Rb hP;have HWT:=Rb hw;have HK:=Rb hK;have WY:=gH 94 Tryz.underlying94 N oZ;have H0:Hid (tf w (w.alloc (.cells (Array.replicate N (Value.bool false)) 4)) f N wt 0 (List.replicate N false) (.slice none 0 0)):=
  ⟨⟨by have:=OB.new w w.heap.size N (Rf _) (by unfold maxLen;omega);simpa using this,oX,oX⟩,sZ _ _ _,RR.nil _ _ _,(Rh _ _).alloc (Rf _) _⟩
 have Vn:∀(args:Array Value)(w:World),(callFunc KW args).run Tryz.prog w= .ok (.enter KW args) w:=hKW
 clear X5 hwx hP hw hK hKW;go_enter Tryz.func29,Tryz.ntmps29
 go_wp2_with fail;clear WY;go_loopw[7,16] (fun v i wr=>∃(k:Nat)(bs:List Bool),k<=N/\i= .int .i64 k/\Hid (tf w wr f N wt k bs v)) (fun _ i _=>N-(intOf i).toNat)
 case atStart=>exact⟨0,_,Rv _,rfl,H0⟩
 case round=>
  clear H0;obtain⟨k,bs,hk,rfl,HC⟩:=hrel;by_cases Vg:k<N
  ·obtain⟨k1,-⟩:=HC.out.br.at_ Vg
   by_cases hb:gb bs k=true
   ·have HC':Hid (tf w wr f N wt (k+1) bs u7):=HC.out.skip fun⟨h1,h2⟩=>by
     have:=lj HP.out HWT.out Vg h1 HC.out.seen;rw[hb,h2]at this
     cases this
    go_wp2_with fail;go_roundw
    case rel=>exact⟨k+1,bs,oZ,by go_num,HC'⟩
    case measure=>simp[intOf];omega
   ·have hb:gb bs k=false:=by simpa using hb
    have WV:wt k=true->a_ f N k=true:=fun h1=>by have:=lj HP.out HWT.out Vg h1 HC.out.seen;rw[hb]at this;simpa using this.symm
    have HLST:=Rb WV;clear WV;go_wp2_with fail;refine(HW.out k _ Vg HC.out.below).mono ?_;rintro e w1 ⟨rfl,Vi⟩;have Wu:=Rb (HC.out.v_ Vi);clear Vi HC k1;by_cases Wf:wt k=true
    ·rw[Wf]
     have HL:=Rb (HLST.out Wf);have HWK:=Rb Wf;clear Wf HLST;go_wp2_with fail;refine(Ea K bd N k f _ HP.out Vg hN HK.out (HX.out.v_ Wu.out.below)).mono ?_;rintro e w2 ⟨u,rfl,hu,Vj⟩;have Wr:(bJ f N k).length<=N:=fk HP.out Vg;have hpe:eC f N k=(bJ f N k).length:=(eJ f N k).symm;obtain⟨q,hq⟩:∃q,(bJ f N k).length=q:=⟨_,rfl⟩
     rw[hq]at Wr hpe;have HPE:=Rb hpe;have HQ:=Rb hq;have hB1:w.heap.size<w1.heap.size:=Wu.out.br.size;have HM:Hid (Bu w w2 f N wt k 0 bs u7 u w1.heap.size):=⟨(Wu.out.v_ Vj).br,rN Wu.out.seen,(Wu.out.v_ Vj).row,hu,(Wu.out.v_ Vj).below⟩;obtain⟨A,cu,rfl,-,-,-⟩:=hu.reads;rw[aH,hq]at HM⊢;clear Wu hu Vj hpe hq;go_wp2_with fail;go_loopw[34] (fun i wr=>∃(j:Nat)(bs:List Bool),j<=q/\i= .int .i64 j/\Hid (Bu w wr f N wt k j bs u7 (.slice A q cu) w1.heap.size)) (fun i _=>q-(intOf i).toNat)
     case atStart=>exact⟨0,bs,Rv _,rfl,HM⟩
     case round=>
      clear HM;obtain⟨j,bs,hj,rfl,HM⟩:=hrel;by_cases hjq:j<q
      ·have WH:j<(ints (bJ f N k)).length:=by rw[aH,HQ.out];exact hjq
       obtain⟨g,c,hv,-,-,-,-,Vk,-⟩:=HM.out.list.ints oZ;injection hv with e1 e2 e3
       subst e1 e3;have k2:=Vk j WH;have e:gi (ints (bJ f N k)) j=(it f j k:Nat):=by rw[je (by rw[HQ.out];exact hjq),CN (by rw[HQ.out];exact hjq)];simp[bJ]
       rw[e]at k2;have VS:it f j k<N:=HP.out.bL j Vg;obtain⟨k3,k4⟩:=HM.out.br.at_ VS;have HM':=Rb (HM.out.mark HP.out Vg hB1);clear Vk e HM e2 WH;go_wp2_with fail;go_roundw
       case rel=>exact⟨j+1,_,oZ,by go_num,HM'⟩
       case measure=>simp[intOf];omega
      ·obtain rfl:q=j:=oZ
       obtain⟨vs,hvs⟩:=HM.out.row;have HV:=Rb hvs;have Xr:vs.length<1099511627776:=by have h1:=tg hvs;have h2:=dM f N wt k;omega
       have YO:=Rb Xr;have VI:=HM.out.below.size;clear hvs Xr hjq;go_wp2_with(at_builtin;refine nG (f:=id) (y:=Value.slice A q cu) lN rfl oQ rfl HV.out.1 YO.out VI rfl rfl Tryz.underlying39 rfl rfl ?_;intro v' w' ho hg Vu);go_roundw
       case rel=>exact⟨k+1,bs,oZ,by go_num,HM.out.push hB1 HP.out Vg HWK.out HL.out HPE.out.symm HV.out ho hg Vu⟩
       case measure=>simp[intOf];omega
    ·have Wf:wt k=false:=by simpa using Wf
     rw[Wf];have HC':Hid (tf w w1 f N wt (k+1) bs u7):=Wu.out.skip fun⟨h1,h2⟩=>by rw[Wf]at h1;cases h1
     clear Wf HLST;go_wp2_with fail;go_roundw
     case rel=>exact⟨k+1,bs,oZ,by go_num,HC'⟩
     case measure=>simp[intOf];omega
  ·obtain rfl:N=k:=oZ
   have HR:Hid (RR 22 wr w.heap.size (fun _=>False) u7 (rows (bR f N wt N))):=HC.out.row.imp fun _ _ _ h=>h.elim
   have WZ:=HC.out.below;clear HC Vg;go_wp2_with fail;go_ret;exact⟨_,rfl,HR.out,WZ⟩
def N6(mt:List Int)(n r k:Nat):List Nat:=(List.range k).filter fun b=>decide (aA mt n b=r)
def Hy(mt:List Int)(n k:Nat):List (List Nat):=((List.range k).filter fun r=>decide (aA mt n r=r)).map fun r=>N6 mt n r n
def dq(mt:List Int)(n:Nat):List (List Nat):=Hy mt n n
def g_(mt:List Int)(n p k:Nat):List Nat:=(List.range k).filter fun b=>decide (av mt n (aA mt n b)=p)
theorem rR(mt:List Int)(n p k:Nat):g_ mt n p (k+1)=g_ mt n p k++if av mt n (aA mt n k)=p then[k]else[]:=by unfold g_;rw[Sk,Th];congr 1;by_cases h:av mt n (aA mt n k)=p<;>simp[h]
theorem Fj(mt:List Int)(n k:Nat):((List.range k).filter fun r=>decide (aA mt n r=r)).map (av mt n)=List.range (av mt n k):=by
 induction k with
 |zero=>rfl
 |succ k ih=>rw[Sk,Th,SB,ih];unfold av;rw[iD];by_cases h:aA mt n k=k;{rw[Re (show gN (eH mt n) k=k from h),Sk];simp[h]};{rw[Rc (show¬gN (eH mt n) k=k from h)];simp[h]}
theorem iV{mt:List Int}(hI:cP mt){n:Nat}(hn:mt.length=4*n):(List.range (av mt n n)).map (fun p=>g_ mt n p n)=dq mt n:=by rw[<-Fj,List.map_map];unfold dq Hy;apply List.map_congr_left;intro r hr;rw[R3,Rm]at hr;obtain⟨hrn,hl⟩:=hr;have hl:=RU hl;simp only[Function.comp];unfold g_ N6;apply List.filter_congr;intro b hb;rw[Rm]at hb;rw[R_,RE,RE];exact⟨fun h=>zx _ (jg hI hn hb) hl h,fun h=>by rw[h]⟩
structure qI(w:World)(N gg:Nat)(vs:List Value)(xss:List (List Int)):Prop where
 out:OR 22 id w N (.slice (some ⟨gg,0,none⟩) vs.length vs.length) vs
 len:vs.length=xss.length
 row:∀k (h:k<vs.length),OI w N vs[k] (xss.getD k [])
 MS:∀k (h:k<vs.length) g,vs[k].ownBlock=some g->g≠gg
 apart:∀j k (hj:j<vs.length) (hk:k<vs.length),j≠k->∀g,vs[j].ownBlock=some g->vs[k].ownBlock≠some g
theorem fT{w w':World}{o:Obj}{row:Option Nat}(hg:(w.alloc o).grownBy w' row){b:Nat}(hb:b<w.heap.size)(Vh:some b≠row):w'.heap[b]?=w.heap[b]?:=
 (hg.block b qj Vh).trans (Rx w o b hb)
theorem qI.push{w w':World}{N gg p:Nat}{vs:List Value}{xss:List (List Int)}{v':Value}{y:Int}{o:Obj}(h:qI w N gg vs xss)(hp:p<vs.length)(hgg:gg<w.heap.size)
  (ho:OI w' N v' (xss.getD p []++[y]))(hg:(w.alloc o).grownBy w' vs[p].ownBlock)(Vu:v'.ownBlock=vs[p].ownBlock\/v'.ownBlock=some (w.heap.size+1)):
  qI (w'.setCell ⟨gg,p,none⟩ v') N gg (vs.set p v') (xss.set p (xss.getD p []++[y])):=by
 have hpx:p<xss.length:=by rw[<-h.len];exact hp
 have hv'g:∀g,v'.ownBlock=some g->g≠gg:=fun g WQ=>by
  rcases Vu with e|e
  {exact h.MS p hp g (by rw[<-e];exact WQ)};{rw[e]at WQ;injection WQ with WQ;omega}
 refine⟨?_,by simp[h.len],fun k hk=>?_,fun k hk g WQ=>?_,fun j k hj hk hjk g Yj=>?_⟩
 ·have h1:OR 22 id w' N (.slice (some ⟨gg,0,none⟩) vs.length vs.length) vs:=h.out.ak fun g X6=>by
   have:g=gg:=by simp[Value.ownBlock]at X6;omega
   subst this;exact fT hg hgg (fun e=>h.MS p hp g e.symm rfl)
  have h2:=OR.stored (k:=p) h1 v';rw[Ry]at h2⊢;exact h2
 ·rw[Ry]at hk
  by_cases e:k=p
  ·subst e
   rw[TC];have e2:(xss.set k (xss.getD k []++[y])).getD k []=xss.getD k []++[y]:=by simp[hpx]
   rw[e2];exact ho.ak fun g WQ=>Rn w' _ _ g (by have:=hv'g g WQ;simp;omega)
  ·rw[Tv (fun e'=>e e'.symm)]
   have e2:(xss.set p (xss.getD p []++[y])).getD k []=xss.getD k []:=by simp only[Rw];rw[Ua (fun e'=>e e'.symm)]
   rw[e2];refine(h.row k hk).ak fun g WQ=>?_
   rw[Rn w' _ _ g (by have:=h.MS k hk g WQ;simp;omega)];exact fT hg ((h.row k hk).lt g WQ).2 (fun e'=>h.apart k p hk hp e g WQ e'.symm)
 {rw[Ry]at hk;by_cases e:k=p;{subst e;rw[TC]at WQ;exact hv'g g WQ};{rw[Tv (fun e'=>e e'.symm)]at WQ;exact h.MS k hk g WQ}}
 ·have YP:j<vs.length:=by simpa using hj
  have VH:k<vs.length:=by simpa using hk
  have Vg:∀i (hi:i<vs.length) g,vs[i].ownBlock=some g->g<w.heap.size:=fun i hi g WQ=>((h.row i hi).lt g WQ).2
  by_cases ej:j=p
  ·subst ej
   rw[TC]at Yj;rw[Tv hjk];intro Wv;rcases Vu with e|e
   {exact h.apart j k YP VH hjk g (by rw[<-e];exact Yj) Wv}
   ·rw[e]at Yj
    injection Yj with Yj
    have:=Vg k VH g Wv;omega
  ·rw[Tv (fun e'=>ej e'.symm)]at Yj
   by_cases ek:k=p
   ·subst ek
    rw[TC];intro Wv;rcases Vu with e|e
    {exact h.apart j k YP VH hjk g Yj (by rw[<-e];exact Wv)}
    ·rw[e]at Wv
     injection Wv with Wv
     have:=Vg j YP g Yj;omega
   {rw[Tv (fun e'=>ek e'.symm)];exact h.apart j k YP VH hjk g Yj}
theorem qI.rr{w:World}{N gg:Nat}{vs:List Value}{xss:List (List Int)}(h:qI w N gg vs xss):RR 22 w N (fun _=>False) (.slice (some ⟨gg,0,none⟩) vs.length vs.length) xss:=
 ⟨vs,h.out,fun _ _ h=>h,h.len,fun k hk=>⟨h.row k hk,fun _ _ h=>h⟩⟩
theorem qI.at_{w:World}{N gg:Nat}{vs:List Value}{xss:List (List Int)}(h:qI w N gg vs xss){p:Nat}(hp:p<vs.length):w.cell? ⟨gg,p,none⟩=some vs[p]/\w.frozen? ⟨gg,p,none⟩=false/\gg<w.heap.size:=by
 obtain⟨g,c,hv,h1,h2,h3,h4,h5,h6⟩:=h.out.block oZ;injection hv with e1 e2 e3
 injection e1 with e1
 injection e1 with e1
 subst e1;exact⟨h5 p hp,h6 p,h2⟩
theorem qI.start(w:World)(q:Nat)(hq:q<=maxLen):qI (w.alloc (.cells (Array.replicate q (Value.slice none 0 0)) 22)) w.heap.size w.heap.size (List.replicate q (.slice none 0 0)) (List.replicate q []):=by
 have hg:∀k (hk:k<(List.replicate q (Value.slice none 0 0)).length),(List.replicate q (Value.slice none 0 0))[k]= .slice none 0 0:=fun k hk=>by simp
 refine⟨?_,oX,fun k hk=>?_,fun k hk g WQ=>?_,fun j k hj hk hjk g Yj=>?_⟩;{have:=OR.made (e:=22) (f:=id) (xs:=List.replicate q (Value.slice none 0 0)) w w.heap.size (Array.replicate q (Value.slice none 0 0)) (Rf _) (by simpa using hq) oX;simpa using this}
 ·rw[hg k hk]
  have e:(List.replicate q ([]:List Int)).getD k []=[]:=by rw[Rw];by_cases h:k<q<;>simp[h]
  rw[e];exact OR.nil _ _
 {rw[hg k hk]at WQ;simp[Value.ownBlock]at WQ};{rw[hg j hj]at Yj;simp[Value.ownBlock]at Yj}
theorem D7(t:TypeId)(ht:Tryz.prog.underlying t=some (.slice 22))(n:Nat)(hn:n<=1099511627776)(w:World):
  (Instr.makeSlice t (.int .i64 (n:Int)) (.int .i64 (n:Int))).run Tryz.prog w= .ok (.slice (some ⟨w.heap.size,0,none⟩) n n) (w.alloc (.cells (List.replicate n (Value.slice none 0 0)).toArray 22)):=by
 obtain⟨i0,hi,V6,VU,VN⟩:=S7 lN;have h:=run_make (P:=Tryz.prog) w t 22 i0 (.slice none 0 0) ht hi V6 .i64 .i64 n n oZ (TK _) (by rw[VN];omega) oZ;simp only[Si]at h;rw[h,VU];have e:madeCells (Value.slice none 0 0).cells (n*1)=(List.replicate n (Value.slice none 0 0)).toArray:=by apply TT.1;rw[Ta,show(Value.slice none 0 0).cells=#[Value.slice none 0 0]from rfl,Tn]
 rw[e]
def Inv2(sg mt:List Int)(k:Nat):Prop:=∀h,h<k->(0<=gi mt h/\gi mt h<mt.length/\gi mt h≠h/\gi mt (gn mt h)=h)/\ai sg h≠ai sg (gn mt h)
theorem DU{sg mt:List Int}{k:Nat}(h0:Inv2 sg mt k)(h1:0<=gi mt k)(h2:gi mt k<mt.length)(h3:gi mt k≠k)(h4:gi mt (gn mt k)=k)(h5:ai sg k≠ai sg (gn mt k)):Inv2 sg mt (k+1):=by
 intro i hi;rcases Sl (SO hi)with h|rfl
 {exact h0 i h};{exact⟨⟨h1,h2,h3,h4⟩,h5⟩}
theorem FF{sg mt:List Int}(h:Inv2 sg mt mt.length):cP mt/\wE sg mt:=⟨fun i hi=>(h i hi).1,fun i hi=>(h i hi).2⟩
theorem nD{sg mt:List Int}{L:Int}{k:Nat}(hk:k<mt.length)(h:gi mt k<0\/(mt.length:Int)<=gi mt k\/gi mt k=k\/gi mt (gn mt k)≠k\/ai sg k=ai sg (gn mt k)):decide (cJ sg mt L)=false:=by
 refine Rl ?_;rintro⟨_,_,_,_,_,hI,hO,_⟩;obtain⟨h1,h2,h3,h4⟩:=hI k hk;have h5:=hO k hk;rcases h with h|h|h|h|h
 {omega};{omega};{exact h3 h};{exact h h4};{exact h5 h}
theorem KD{w w':World}{A1 A2:Option Addr}{n1 c1 n2 c2:Nat}{L:Int}(hb:Below (w.heap.size+1) (w.alloc (.cells #[.slice A1 n1 c1,.slice A2 n2 c2,.int .i64 L] 24)) w'):
  Hid (Below (w.heap.size+1) (w.alloc (.cells #[.slice A1 n1 c1,.slice A2 n2 c2,.int .i64 L] 24)) w')/\
  w'.cell? ⟨w.heap.size,0,none⟩=some (.slice A1 n1 c1)/\w'.cell? ⟨w.heap.size,1,none⟩=some (.slice A2 n2 c2)/\w'.cell? ⟨w.heap.size,2,none⟩=some (.int .i64 L):=⟨hb,iz hb⟩
theorem Kf{w w' w'':World}{A1 A2:Option Addr}{n1 c1 n2 c2:Nat}{L:Int}(hb:Hid (Below (w.heap.size+1) (w.alloc (.cells #[.slice A1 n1 c1,.slice A2 n2 c2,.int .i64 L] 24)) w'))(h:Below w'.heap.size w' w''):
  Hid (Below (w.heap.size+1) (w.alloc (.cells #[.slice A1 n1 c1,.slice A2 n2 c2,.int .i64 L] 24)) w'')/\
  w''.cell? ⟨w.heap.size,0,none⟩=some (.slice A1 n1 c1)/\w''.cell? ⟨w.heap.size,1,none⟩=some (.slice A2 n2 c2)/\w''.cell? ⟨w.heap.size,2,none⟩=some (.int .i64 L):=
 KD (hb.out.trans (h.mono (by have:=hb.out.size;simpa using this)))
theorem pC{w w':World}{o:Obj}(hb:Hid (Below (w.heap.size+1) (w.alloc o) w')):w.heap.size+1<=w'.heap.size:=by have:=hb.out.size;simpa using this
theorem E6{w W:World}{A1 A2:Option Addr}{c1 c2 ml:Nat}{sg:List Int}{L a:Int}{h:Nat}(HX:Hid (RI (w.alloc (.cells #[.slice A1 sg.length c1,.slice A2 ml c2,.int .i64 L] 24)) (·<w.heap.size+1) A1 sg))
  (hB:Hid (Below (w.heap.size+1) (w.alloc (.cells #[.slice A1 sg.length c1,.slice A2 ml c2,.int .i64 L] 24)) W))(hm:sg.length<=64)(ha:a=h)(hh:h<4*sg.length){r:Bool}(hr:Hid (ai sg h=r)):
  Calls Tryz.prog 25 #[.agg #[.slice A1 sg.length c1,.slice A2 ml c2,.int .i64 L],.int .i64 a] W fun e w'=>e= .returned (.bool r)/\Below W.heap.size W w':=by
 rw[<-hr.out];exact nF A1 A2 c1 c2 ml sg L a h W (·<w.heap.size+1) (HX.out.below hB.out) (fun b hb=>by have:=pC hB;omega) oZ ha hh
theorem gl(A1 A2:Option Addr)(c1 c2:Nat)(sg mt:List Int)(L:Int)(w:World)(S:Nat->Prop)(hx:RI w S A1 sg)(hy:RI w S A2 mt)(hS:∀b,S b->b<w.heap.size)(VL:sg.length<=maxLen)(Wb:mt.length<=maxLen):
  Calls Tryz.prog 10 #[.agg #[.slice A1 sg.length c1,.slice A2 mt.length c2,.int .i64 L]] w fun e w'=>e= .returned (.bool (decide (cJ sg mt L)))/\Below w.heap.size w w':=by
 unfold maxLen at VL Wb;have hb:=Rb ((Rh w.heap.size w).alloc (Rf _) (.cells #[.slice A1 sg.length c1,.slice A2 mt.length c2,.int .i64 L] 24));by_cases VO:sg.length<=64
 case neg=>
  have H:=Rb (show decide (cJ sg mt L)=false from Rl fun h=>VO h.1);have h1:(64:Int)<sg.length:=oZ;clear hx hy VO;go_enter Tryz.func10,Tryz.ntmps10
  go_wp2_with fail;go_ret;exact⟨aF H.out.symm,hb.out⟩
 case pos=>
 have h1:¬(64:Int)<sg.length:=oZ;by_cases VQ:mt.length=4*sg.length
 case neg=>
  have H:=Rb (show decide (cJ sg mt L)=false from Rl fun h=>VQ h.2.1);have h2:((mt.length:Int)!=4*(sg.length:Int))=true:=by rw[RZ];omega
  clear hx hy VQ;go_enter Tryz.func10,Tryz.ntmps10
  go_wp2_with fail;go_ret;exact⟨aF H.out.symm,hb.out⟩
 case pos=>
 have h2:((mt.length:Int)!=4*(sg.length:Int))=false:=by rw[RK];omega
 by_cases hL0:L<0
 ·have H:=Rb (show decide (cJ sg mt L)=false from Rl fun h=>by have:=h.2.2.1;omega)
  clear hx hy VQ;go_enter Tryz.func10,Tryz.ntmps10
  go_wp2_with fail;go_ret;exact⟨aF H.out.symm,hb.out⟩
 by_cases hL1:(64:Int)<L
 ·have H:=Rb (show decide (cJ sg mt L)=false from Rl fun h=>by have:=h.2.2.2.1;omega)
  clear hx hy VQ;go_enter Tryz.func10,Tryz.ntmps10
  go_wp2_with fail;go_ret;exact⟨aF H.out.symm,hb.out⟩
 have HX:=Rb (show RI (w.alloc (.cells #[.slice A1 sg.length c1,.slice A2 mt.length c2,.int .i64 L] 24)) (·<w.heap.size+1) A1 sg from(hx.ak fun b hb=>Rx w _ b (hS b hb)).imp fun b hb=>by have:=hS b hb;omega);have HY:=Rb (show RI (w.alloc (.cells #[.slice A1 sg.length c1,.slice A2 mt.length c2,.int .i64 L] 24)) (·<w.heap.size+1) A2 mt from(hy.ak fun b hb=>Rx w _ b (hS b hb)).imp fun b hb=>by have:=hS b hb;omega);have Zb:=Rb VQ;clear hx hy hS VQ;go_enter Tryz.func10,Tryz.ntmps10
 go_wp2_with fail
 go_loop [34] (fun i=>∃k:Nat,k<=sg.length/\i= .int .i64 k/\Hid (∀c,c<k->gi sg c=1\/gi sg c= -1)) (fun i=>sg.length-(intOf i).toNat)
 case atStart=>exact⟨0,Rv _,rfl,by intro c hc;omega⟩
 case round=>
  obtain⟨k,hk,rfl,HS⟩:=hrel;by_cases Vg:k<sg.length
  ·obtain⟨b,off,rfl,Yi,hc⟩:=HX.out.at_ Vg
   have k1:=hc k Vg;clear hc;by_cases g1:gi sg k=1
   ·have e1:(gi sg k !=1)=false:=by rw[RK];exact g1
    have HS':Hid (∀c,c<k+1->gi sg c=1\/gi sg c= -1):=by
     intro c hc;rcases Sl (SO hc)with h|rfl
     {exact HS.out c h};{exact .inl g1}
    clear g1;go_wp2_with fail
    go_round
    case rel=>exact⟨k+1,oZ,by go_num,HS'⟩
    case measure=>simp[intOf];omega
   have e1:(gi sg k !=1)=true:=by rw[RZ];exact g1
   by_cases g2:gi sg k= -1
   ·have e2:(gi sg k != -1)=false:=by rw[RK];exact g2
    have HS':Hid (∀c,c<k+1->gi sg c=1\/gi sg c= -1):=by
     intro c hc;rcases Sl (SO hc)with h|rfl
     {exact HS.out c h};{exact .inr g2}
    clear g1 g2;go_wp2_with fail
    go_round
    case rel=>exact⟨k+1,oZ,by go_num,HS'⟩
    case measure=>simp[intOf];omega
   have e2:(gi sg k != -1)=true:=by rw[RZ];exact g2
   have H:=Rb (show decide (cJ sg mt L)=false from Rl fun h=>by
    rcases h.2.2.2.2.1 k Vg with h|h
    {exact g1 h}
    ·exact g2 h)
   clear g1 g2;go_wp2_with fail;go_ret;exact⟨aF H.out.symm,hb.out⟩
  ·have Xy:Hid (EN sg):=fun c hc=>HS.out c oZ
   clear HS;go_wp2_with fail;go_loopw[48] (fun i wr=>∃k:Nat,k<=mt.length/\i= .int .i64 k/\Hid (Below (w.heap.size+1) (w.alloc (.cells #[.slice A1 sg.length c1,.slice A2 mt.length c2,.int .i64 L] 24)) wr)/\Hid (Inv2 sg mt k)) (fun i _=>mt.length-(intOf i).toNat)
   case atStart=>exact⟨0,Rv _,rfl,Rh _ _,by intro h hh;omega⟩
   case round=>
    clear hk Vg;obtain⟨k,hk,rfl,HB,HI⟩:=hrel;obtain⟨m0,m1,m2⟩:=iz HB.out;have hw0:=pC HB;by_cases Vg:k<mt.length
    ·obtain⟨b,off,rfl,Yi,hc⟩:=(HY.out.below HB.out).at_ Vg
     have k1:=hc k Vg;by_cases g1:gi mt k<0;{have H:=Rb (nD (sg:=sg) (L:=L) Vg (.inl g1));have WZ:=bX HB.out;clear hc;go_wp2_with fail;go_ret;exact⟨aF H.out.symm,WZ⟩};have HML':=Zb.out;by_cases g2:gi mt k<4*(sg.length:Int)
     case neg=>have H:=Rb (nD (sg:=sg) (L:=L) Vg (.inr (.inl oZ)));have WZ:=bX HB.out;clear hc HML';go_wp2_with fail;go_ret;exact⟨aF H.out.symm,WZ⟩
     have g2':gi mt k<(mt.length:Int):=oZ;by_cases g3:gi mt k=k
     ·have H:=Rb (nD (sg:=sg) (L:=L) Vg (.inr (.inr (.inl g3))))
      have g3':(gi mt k==(k:Int))=true:=by rw[SA];exact g3
      have WZ:=bX HB.out;clear hc HML' g3;go_wp2_with fail;go_ret;exact⟨aF H.out.symm,WZ⟩
     have g3':(gi mt k==(k:Int))=false:=by rw[Rs];exact g3
     have k2:=hc (gn mt k) (by unfold gn;omega);have k2':wr.cell? ⟨b,off+(gi mt k).toNat,none⟩=some (.int .i64 (gi mt (gn mt k))):=k2;by_cases g4:gi mt (gn mt k)=k
     case neg=>
      have H:=Rb (nD (sg:=sg) (L:=L) Vg (.inr (.inr (.inr (.inl g4)))));have g4':(gi mt (gn mt k)!=(k:Int))=true:=by rw[RZ];exact g4
      have WZ:=bX HB.out;clear hc HML' g3 g4 k2;go_wp2_with fail;go_ret;exact⟨aF H.out.symm,WZ⟩
     have g4':(gi mt (gn mt k)!=(k:Int))=false:=by rw[RK];exact g4
     have G1:=Rb g1;have G2:=Rb g2';have G3:=Rb g3;have G4:=Rb g4;have hgn:gi mt k=((gn mt k:Nat):Int):=by unfold gn;omega
     have VS:gn mt k<4*sg.length:=oZ;have HGN:=Rb hgn;clear hc HML' g3 g4 k2 hgn;go_wp2_with fail;have hk4:k<4*sg.length:=by have:=Zb.out;omega
     have HBd:Hid (Below (w.heap.size+1) (w.alloc (.cells #[.slice A1 sg.length c1,.slice (some ⟨b,off,none⟩) mt.length c2,.int .i64 L] 24)) wr.drew):=HB.out.drew;obtain⟨x,hx⟩:∃x,ai sg k=x:=⟨_,rfl⟩
     obtain⟨y,hy⟩:∃y,ai sg (gn mt k)=y:=⟨_,rfl⟩
     have HXB:=Rb hx;have HYB:=Rb hy;clear k1 k2' m0 m1 m2 hx hy
     go_region_held3 (fun w'=>Hid (Below (w.heap.size+1) (w.alloc (.cells #[.slice A1 sg.length c1,.slice (some ⟨b,off,none⟩) mt.length c2,.int .i64 L] 24)) w')/\
       w'.cell? ⟨w.heap.size,0,none⟩=some (.slice A1 sg.length c1)/\w'.cell? ⟨w.heap.size,1,none⟩=some (.slice (some ⟨b,off,none⟩) mt.length c2)/\w'.cell? ⟨w.heap.size,2,none⟩=some (.int .i64 L))
      (first|exact KD HBd.out|exact Kf (by first|assumption|exact Vc (by assumption)) hb9)
      (first
       |(go_at_call 25;((with_reducible refine(E6 (a:=(k:Int)) (h:=k) HX (by first|assumption|exact Vc (by assumption)) VO rfl hk4 HXB).mono ?_);rintro e9 w9 ⟨rfl,hb9⟩))
       |(go_at_call 25;((with_reducible refine(E6 (a:=gi mt k) (h:=gn mt k) HX (by first|assumption|exact Vc (by assumption)) VO HGN.out VS HYB).mono ?_);rintro e9 w9 ⟨rfl,hb9⟩)))
     have ZX:Hid (Below (w.heap.size+1) (w.alloc (.cells #[.slice A1 sg.length c1,.slice (some ⟨b,off,none⟩) mt.length c2,.int .i64 L] 24)) w9):=by first|assumption|exact Vc (by assumption)
     clear hb9;by_cases g5:x=y
     ·have H:=Rb (nD (sg:=sg) (L:=L) Vg (.inr (.inr (.inr (.inr (by rw[HXB.out,HYB.out];exact g5))))))
      have WZ:=Rb (bX ZX.out);subst g5;clear HYB
      cases x
      all_goals
       go_wp2_with fail;go_ret;exact⟨aF H.out.symm,WZ.out⟩
     ·have HI':=Rb (DU HI.out G1.out G2.out G3.out G4.out (by rw[HXB.out,HYB.out];exact g5))
      obtain rfl:y= !x:=by cases x<;>cases y<;>simp_all
      clear g5
      cases x
      all_goals
       simp only[Bool.not_true,Bool.not_false];go_wp2_with fail;go_roundw
       case rel=>exact⟨k+1,oZ,by go_num,ZX,HI'⟩
       case measure=>simp[intOf];omega
    ·obtain rfl:mt.length=k:=oZ
     obtain⟨hI,hO⟩:=FF HI.out;have HI2:=Rb hI;have Za:=Rb hO;clear hI hO HI;go_wp2_with fail;refine(uA A1 A2 c1 c2 sg.length mt L wr (·<w.heap.size+1) (HY.out.below HB.out) (fun b hb=>by have:=pC HB;omega) Zb.out HI2.out oZ).mono ?_;rintro e w5 ⟨rfl,WI⟩;have WZ:=Rb ((bX HB.out).trans (WI.mono oZ));have hd:decide (I_ mt sg.length)=decide (cJ sg mt L):=by rw[R_,RE,RE];exact⟨fun h=>⟨VO,Zb.out,oZ,oZ,Xy.out,HI2.out,Za.out,h⟩,fun h=>h.2.2.2.2.2.2.2⟩
     have H:=Rb hd;clear hd;go_wp2_with fail;go_ret;exact⟨aF H.out,WZ.out⟩
def aC(mt:List Int):List (List Nat):=bR (au mt) mt.length il mt.length
def iR(sg mt:List Int):List (List Nat):=bR (M0 mt) mt.length (ai sg) mt.length
theorem Ey{sg:List Int}(hs:EN sg){g:Nat}(hg:g<4*sg.length):ai sg (ae g 2)= !ai sg g:=by have h1:=hs (g/4) oZ;have h2:=af g 2;have h3:=fF g 2;unfold ai;rw[h2,h3];have hc:g%4=0\/g%4=1\/g%4=2\/g%4=3:=oZ;rcases hc with e|e|e|e<;>rcases h1 with e1|e1<;>rw[e,e1]<;>decide
theorem Jt{sg mt:List Int}{L:Int}(h:cJ sg mt L):∀g,g<mt.length->ai sg (M0 mt g)=ai sg g:=by
 intro g hg;obtain⟨_,h2,_,_,h5,h6,h7,_⟩:=h;have h8:=h7 g hg;unfold M0;rw[Ey h5 (by have:=(h6.gn hg).2.1;omega)];revert h8
 cases ai sg g<;>cases ai sg (gn mt g)<;>simp
theorem eP{A1 A2:Option Addr}{c1 c2:Nat}{sg mt:List Int}{L:Int}{w:World}(S:Nat->Prop)(r:Bool)(hx:RI w S A1 sg)(hy:RI w S A2 mt)(hS:∀b,S b->b<w.heap.size)(VL:sg.length<=maxLen)(Wb:mt.length<=maxLen)(hr:decide (cJ sg mt L)=r):
  Calls Tryz.prog 10 #[.agg #[.slice A1 sg.length c1,.slice A2 mt.length c2,.int .i64 L]] w fun e w'=>e= .returned (.bool r)/\Below w.heap.size w w':=by
 subst hr;exact gl A1 A2 c1 c2 sg mt L w S hx hy hS VL Wb
structure bI(w:World)(bd:Nat)(A1 A2:Option Addr)(c1 c2:Nat)(sg mt:List Int)(L:Int):Prop where
 c0:w.cell? ⟨bd,0,none⟩=some (.slice A1 sg.length c1)
 c1:w.cell? ⟨bd,1,none⟩=some (.slice A2 mt.length c2)
 c2:w.cell? ⟨bd,2,none⟩=some (.int .i64 L)
 lt:bd<w.heap.size
 rs:RI w (·<w.heap.size) A1 sg
 rm:RI w (·<w.heap.size) A2 mt
theorem bI.below{w w':World}{bd:Nat}{A1 A2:Option Addr}{c1 c2:Nat}{sg mt:List Int}{L:Int}(h:bI w bd A1 A2 c1 c2 sg mt L)(hb:Below w.heap.size w w'):bI w' bd A1 A2 c1 c2 sg mt L:=by
 have hs:=hb.size;exact⟨(hb.cell (p:=⟨bd,0,none⟩) h.lt).trans h.c0,(hb.cell (p:=⟨bd,1,none⟩) h.lt).trans h.c1,(hb.cell (p:=⟨bd,2,none⟩) h.lt).trans h.c2,RB h.lt hs,
  (h.rs.below hb).imp fun b hb=>by omega,(h.rm.below hb).imp fun b hb=>by omega⟩
theorem bI.start{w:World}{A1 A2:Option Addr}{c1 c2:Nat}{sg mt:List Int}{L:Int}(S:Nat->Prop)(hx:RI w S A1 sg)(hy:RI w S A2 mt)(hS:∀b,S b->b<w.heap.size):
  bI (w.alloc (.cells #[.slice A1 sg.length c1,.slice A2 mt.length c2,.int .i64 L] 24)) w.heap.size A1 A2 c1 c2 sg mt L:=by
 obtain⟨h0,h1,h2⟩:=iz (Rh (w.heap.size+1) (w.alloc (.cells #[.slice A1 sg.length c1,.slice A2 mt.length c2,.int .i64 L] 24)));exact⟨h0,h1,h2,oX,(hx.ak fun b hb=>Rx w _ b (hS b hb)).imp fun b hb=>by have:=hS b hb;simp;omega,
  (hy.ak fun b hb=>Rx w _ b (hS b hb)).imp fun b hb=>by have:=hS b hb;simp;omega⟩
theorem EB{w:World}{bd:Nat}{A1 A2:Option Addr}{c1 c2:Nat}{sg mt:List Int}{L:Int}(h:bI w bd A1 A2 c1 c2 sg mt L)(hI:cP mt)(hl:mt.length<=400000):ng 30 bd mt.length (au mt) w:=by
 intro g W hg hW;have hd:=h.below hW;have k1:=hd.c1;obtain⟨Vs,Vv,-,-⟩:=hI.gn hg;obtain⟨b,off,rfl,-,hc⟩:=hd.rm.at_ hg;have k2:=hc g hg;rw[Vs]at k2;have HG:=Rb Vv;clear hc hd h hI hW Vs Vv;go_enter Tryz.func30,Tryz.ntmps30
 go_wp2_with fail;refine(nK (gn mt g) 3 _ rfl (by have:=HG.out;omega) oQ).mono ?_;rintro e w1 ⟨rfl,rfl⟩;go_wp2_with fail;go_ret;exact⟨rfl,rfl⟩
theorem yY{w:World}{bd:Nat}{A1 A2:Option Addr}{c1 c2:Nat}{sg mt:List Int}{L:Int}(h:bI w bd A1 A2 c1 c2 sg mt L)(hI:cP mt)(hl:mt.length<=400000):ng 60 bd mt.length (M0 mt) w:=by
 intro g W hg hW;have hd:=h.below hW;have k1:=hd.c1;obtain⟨Vs,Vv,-,-⟩:=hI.gn hg;obtain⟨b,off,rfl,-,hc⟩:=hd.rm.at_ hg;have k2:=hc g hg;rw[Vs]at k2;have HG:=Rb Vv;clear hc hd h hI hW Vs Vv;go_enter Tryz.func60,Tryz.ntmps60
 go_wp2_with fail;refine(dF (gn mt g) _ rfl (by have:=HG.out;omega)).mono ?_;rintro e w1 ⟨rfl,rfl⟩;go_wp2_with fail;go_ret;exact⟨rfl,rfl⟩
theorem Em(N:Nat)(w:World):AX 28 #[] N il w:=by
 intro g W hg hW;show Calls _ _ #[.int .i64 g] _ _;go_enter Tryz.func28,Tryz.ntmps28
 go_wp2_with fail;go_ret;exact⟨rfl,Rh _ _⟩
theorem zP{w:World}{bd:Nat}{A1 A2:Option Addr}{c1 c2:Nat}{sg mt:List Int}{L:Int}(h:bI w bd A1 A2 c1 c2 sg mt L)(hn:mt.length=4*sg.length)(hl:sg.length<=64):AX 59 #[.pointer (some ⟨bd,0,none⟩)] mt.length (ai sg) w:=by
 intro g W hg hW;show Calls _ _ #[.int .i64 g,.pointer (some ⟨bd,0,none⟩)] _ _;have hd:=h.below hW;have k0:=hd.c0;have k1:=hd.c1;have k2:=hd.c2;have HR:=Rb hd.rs;have HG:=Rb hg;have HN:=Rb hn;clear hd h hW hg hn;go_enter Tryz.func59,Tryz.ntmps59
 go_wp2_with fail;refine(nF A1 A2 c1 c2 mt.length sg L _ g _ (·<W.heap.size) HR.out (fun _ h=>h) oZ rfl (by have:=HG.out;have:=HN.out;omega)).mono ?_;rintro e w1 ⟨rfl,Vi⟩;go_wp2_with fail;go_ret;exact⟨rfl,Vi⟩
theorem QN:fM 30:=gD Tryz.func30 qk rfl
theorem QJ:fM 28:=gD Tryz.func28 qk rfl
theorem Q4:fM 60:=gD Tryz.func60 qk rfl
theorem PQ:fM 59:=gD Tryz.func59 qk rfl
section
variable(A1 A2:Option Addr)(c1 c2:Nat)(sg mt:List Int)(L:Int)(w:World)(S:Nat->Prop)(hx:RI w S A1 sg)(hy:RI w S A2 mt)(hS:∀b,S b->b<w.heap.size)
include hx hy hS
theorem nQ(hd:cJ sg mt L):
  Calls Tryz.prog 12 #[.agg #[.slice A1 sg.length c1,.slice A2 mt.length c2,.int .i64 L]] w fun e w'=>∃v,e= .returned v/\RR 22 w' w.heap.size (fun _=>False) v (rows (aC mt))/\Below w.heap.size w w':=by
 have HD:=Rb (bI.start (c1:=c1) (c2:=c2) (L:=L) S hx hy hS);have H:=Rb hd;obtain⟨h1,h2,-,-,-,h6,-,-⟩:=hd;have VL:sg.length<=maxLen:=by unfold maxLen;omega
 have Wb:mt.length<=maxLen:=by unfold maxLen;omega
 have VQ:mt.length<=400000:=oZ;have HI:=Rb h6;have HN:=Rb h2;clear hx hy hS h6 h2;go_enter Tryz.func12,Tryz.ntmps12
 go_wp2_with fail;refine(eP _ true HD.out.rs HD.out.rm (fun _ h=>h) VL Wb (Rj H.out)).mono ?_;rintro e w1 ⟨rfl,Vi⟩;have Vp:=Rb (HD.out.below Vi);have k1:=Vp.out.c1;have Vr:=Rb (bX (o:= .cells #[.slice A1 sg.length c1,.slice A2 mt.length c2,.int .i64 L] 24) (by simpa using Vi));have VV:=Vr.out.size;clear Vi HD;go_wp2_with fail;refine(tK 30 28 w.heap.size mt.length #[] (au mt) il w1 (aU HI.out HN.out) (fun _ _=>rfl) VQ QN QJ (EB Vp.out HI.out VQ) (Em _ _)).mono ?_;rintro e w2 ⟨v,rfl,hr,Vj⟩;have HR:=Rb (hr.mono VV);have VD:=Rb (Vr.out.trans (Vj.mono VV));clear hr Vj k1;go_wp2_with fail;go_ret;exact⟨_,rfl,HR.out,VD.out⟩
theorem BD(hd:cJ sg mt L):
  Calls Tryz.prog 27 #[.agg #[.slice A1 sg.length c1,.slice A2 mt.length c2,.int .i64 L]] w fun e w'=>∃v,e= .returned v/\RR 22 w' w.heap.size (fun _=>False) v (rows (iR sg mt))/\Below w.heap.size w w':=by
 have HD:=Rb (bI.start (c1:=c1) (c2:=c2) (L:=L) S hx hy hS);have H:=Rb hd;obtain⟨h1,h2,-,-,-,h6,-,-⟩:=hd;have VL:sg.length<=maxLen:=by unfold maxLen;omega
 have Wb:mt.length<=maxLen:=by unfold maxLen;omega
 have VQ:mt.length<=400000:=oZ;have HI:=Rb h6;have HN:=Rb h2;clear hx hy hS h6 h2;go_enter Tryz.func27,Tryz.ntmps27
 go_wp2_with fail;refine(eP _ true HD.out.rs HD.out.rm (fun _ h=>h) VL Wb (Rj H.out)).mono ?_;rintro e w1 ⟨rfl,Vi⟩;have Vp:=Rb (HD.out.below Vi);have k1:=Vp.out.c1;have Vr:=Rb (bX (o:= .cells #[.slice A1 sg.length c1,.slice A2 mt.length c2,.int .i64 L] 24) (by simpa using Vi));have VV:=Vr.out.size;clear Vi HD;go_wp2_with fail;refine(tK 60 59 w.heap.size mt.length #[.pointer (some ⟨w.heap.size,0,none⟩)] (M0 mt) (ai sg) w1 (GD HI.out HN.out) (Jt H.out) VQ Q4 PQ (yY Vp.out HI.out VQ) (zP Vp.out HN.out h1)).mono ?_;rintro e w2 ⟨v,rfl,hr,Vj⟩;have HR:=Rb (hr.mono VV);have VD:=Rb (Vr.out.trans (Vj.mono VV));clear hr Vj k1;go_wp2_with fail;go_ret;exact⟨_,rfl,HR.out,VD.out⟩
end
theorem Kw{w:World}{bd:Nat}{A1 A2:Option Addr}{c1 c2:Nat}{sg mt:List Int}{L:Int}(h:bI w bd A1 A2 c1 c2 sg mt L):
  Hid (bI w bd A1 A2 c1 c2 sg mt L)/\w.cell? ⟨bd,0,none⟩=some (.slice A1 sg.length c1)/\w.cell? ⟨bd,1,none⟩=some (.slice A2 mt.length c2)/\w.cell? ⟨bd,2,none⟩=some (.int .i64 L):=⟨h,h.c0,h.c1,h.c2⟩
theorem bI.drew{w:World}{bd:Nat}{A1 A2:Option Addr}{c1 c2:Nat}{sg mt:List Int}{L:Int}(h:bI w bd A1 A2 c1 c2 sg mt L):bI w.drew bd A1 A2 c1 c2 sg mt L:=⟨h.c0,h.c1,h.c2,h.lt,h.rs,h.rm⟩
theorem zD(sg mt:List Int):(iR sg mt).length<=mt.length:=by have:=dM (M0 mt) mt.length (ai sg) mt.length;rwa [aE]at this
theorem uL(A1 A2:Option Addr)(c1 c2:Nat)(sg mt:List Int)(L:Int)(w:World)(S:Nat->Prop)(hx:RI w S A1 sg)(hy:RI w S A2 mt)(hS:∀b,S b->b<w.heap.size)(hd:cJ sg mt L):
  Calls Tryz.prog 11 #[.agg #[.slice A1 sg.length c1,.slice A2 mt.length c2,.int .i64 L]] w fun e w'=>e= .returned (.int .i64 (((iR sg mt).length:Int)+L))/\Below w.heap.size w w':=by
 have HD:=Rb (bI.start (c1:=c1) (c2:=c2) (L:=L) S hx hy hS);have H:=Rb hd;obtain⟨h1,h2,h3,h4,-,h6,-,-⟩:=hd;have VL:sg.length<=maxLen:=by unfold maxLen;omega
 have Wb:mt.length<=maxLen:=by unfold maxLen;omega
 have hsl:=zD sg mt;have hsl2:(iR sg mt).length<=400:=oZ;clear hx hy hS h6 h2 hsl;go_enter Tryz.func11,Tryz.ntmps11
 go_wp2_with fail;refine(eP _ true HD.out.rs HD.out.rm (fun _ h=>h) VL Wb (Rj H.out)).mono ?_;rintro e w1 ⟨rfl,Vi⟩;have Vp:=Rb (HD.out.below Vi);have k0:=Vp.out.c0;have k1:=Vp.out.c1;have k2:=Vp.out.c2;have Vr:=Rb (bX (o:= .cells #[.slice A1 sg.length c1,.slice A2 mt.length c2,.int .i64 L] 24) (by simpa using Vi));have VV:=Vr.out.size;clear Vi HD;go_wp2_with fail;have YQ:IntKind.i64.wrap (((iR sg mt).length:Int)+L)=((iR sg mt).length:Int)+L:=SF _ oZ;clear k0 k1 k2 VL Wb
 go_region_held3 (fun w'=>Hid (bI w' w.heap.size A1 A2 c1 c2 sg mt L)/\w'.cell? ⟨w.heap.size,0,none⟩=some (.slice A1 sg.length c1)/\w'.cell? ⟨w.heap.size,1,none⟩=some (.slice A2 mt.length c2)/\w'.cell? ⟨w.heap.size,2,none⟩=some (.int .i64 L))
  (first|exact Kw Vp.out.drew|exact Kw (Vp.out.drew.below hb9))
  (first
   |(go_at_call 27;((with_reducible refine(BD A1 A2 c1 c2 sg mt L w1.drew (·<w1.drew.heap.size) Vp.out.drew.rs Vp.out.drew.rm (fun _ h=>h) H.out).mono ?_);rintro e9 w9 ⟨v9,rfl,hr9,hb9⟩;obtain⟨A9,c9,rfl,-,-,-⟩:=hr9.shape;rw[aE])))
 have ZX:=Rb (Vr.out.trans (Td (Rh _ _)|>.trans (hb9.mono VV)));clear hb9 hr9 YQ;go_wp2_with fail;go_ret;exact⟨rfl,ZX.out⟩
def mE(mt:List Int)(n q k:Nat):List (List Int):=(List.range q).map fun p=>ints (g_ mt n p k)
theorem pY(mt:List Int)(n q k:Nat):(mE mt n q k).length=q:=by simp[mE]
theorem pg{mt:List Int}{n q k p:Nat}(hp:p<q):(mE mt n q k).getD p []=ints (g_ mt n p k):=by simp[mE,hp]
theorem DH(mt:List Int)(n q:Nat):mE mt n q 0=List.replicate q []:=by apply TR;{simp[mE]};{intro i h1 h2;simp[mE,g_,ints]}
theorem DV{mt:List Int}{n q k:Nat}(hp:av mt n (aA mt n k)<q):
  (mE mt n q k).set (av mt n (aA mt n k)) ((mE mt n q k).getD (av mt n (aA mt n k)) []++[(k:Int)])=mE mt n q (k+1):=by
 rw[pg hp];apply TR;{simp[mE]};{intro i h1 h2;rw[pY]at h2;by_cases e:i=av mt n (aA mt n k);{subst e;rw[TC];simp only[mE,Uf,List.getElem_range];rw[rR,Re rfl,lL];rfl};{rw[Tv (fun e'=>e e'.symm)];simp only[mE,Uf,List.getElem_range];rw[rR,Rc (fun e'=>e e'.symm),S6]}}
theorem IS{mt:List Int}(hI:cP mt){n:Nat}(hn:mt.length=4*n):mE mt n (av mt n n) n=rows (dq mt n):=by rw[<-iV hI hn];unfold mE rows;rw[List.map_map];rfl
section
variable(A1 A2:Option Addr)(c1 c2:Nat)(sg mt:List Int)(L:Int)(w:World)(S:Nat->Prop)(hx:RI w S A1 sg)(hy:RI w S A2 mt)(hS:∀b,S b->b<w.heap.size)
include hx hy hS
theorem rT(hd:cJ sg mt L):
  Calls Tryz.prog 13 #[.agg #[.slice A1 sg.length c1,.slice A2 mt.length c2,.int .i64 L]] w fun e w'=>∃v,e= .returned v/\RR 22 w' w.heap.size (fun _=>False) v (rows (dq mt sg.length))/\Below w.heap.size w w':=by
 have HD:=Rb (bI.start (c1:=c1) (c2:=c2) (L:=L) S hx hy hS);have H:=Rb hd;obtain⟨h1,h2,-,-,-,h6,-,-⟩:=hd;have VL:sg.length<=maxLen:=by unfold maxLen;omega
 have Wb:mt.length<=maxLen:=by unfold maxLen;omega
 have HI:=Rb h6;have HN:=Rb h2;obtain⟨q,hq⟩:∃q,av mt sg.length sg.length=q:=⟨_,rfl⟩
 have hqn:q<=sg.length:=by rw[<-hq];exact rE _ _
 have HQ:=Rb hq;have WY:=D7 39 Tryz.underlying39 q oZ;clear hx hy hS h6 h2 hq;go_enter Tryz.func13,Tryz.ntmps13
 go_wp2_with fail;refine(eP _ true HD.out.rs HD.out.rm (fun _ h=>h) VL Wb (Rj H.out)).mono ?_;rintro e w1 ⟨rfl,Vi⟩;have Vp:=Rb (HD.out.below Vi);have k0:=Vp.out.c0;have k1:=Vp.out.c1;have k2:=Vp.out.c2;have Vr:=Rb (bX (o:= .cells #[.slice A1 sg.length c1,.slice A2 mt.length c2,.int .i64 L] 24) (by simpa using Vi));have VV:=Vr.out.size;clear Vi HD;go_wp2_with fail;refine(vC A1 A2 c1 c2 sg.length mt L w1 (·<w1.heap.size) Vp.out.rm (fun _ h=>h) HN.out HI.out oZ).mono ?_;rintro e w2 ⟨v,rfl,Zc,Vj⟩;rw[HQ.out];have VD:=Rb (Vr.out.trans (Vj.mono VV));have Xp:=VD.out.size;obtain⟨A3,c3,rfl,-,-,hr3⟩:=Zc.reads;rw[cR];have HR3:=Rb (hr3.imp (T:=(·<w2.heap.size)) fun b hb=>hb.2);have hg0:=qI.start w2 q (by unfold maxLen;omega);rw[<-DH mt sg.length q]at hg0;have HG0:=Rb hg0;have hbn:=(Rh w2.heap.size w2).alloc (Rf _) (.cells (Array.replicate q (Value.slice none 0 0)) 22);have HBN:=Rb hbn;have VO:sg.length<=64:=h1;clear Zc Vj hr3 k0 k1 k2 hg0 hbn Vr Vp VL Wb;go_wp2_with fail;clear WY;go_loopw[20] (fun i wr=>∃(k:Nat)(vs:List Value),k<=sg.length/\i= .int .i64 k/\Hid (qI wr w2.heap.size w2.heap.size vs (mE mt sg.length q k))/\Hid (Below w2.heap.size w2 wr)) (fun i _=>sg.length-(intOf i).toNat)
 case atStart=>exact⟨0,_,Rv _,rfl,HG0,HBN⟩
 case round=>
  clear HG0 HBN;obtain⟨k,vs,hk,rfl,HG,HB⟩:=hrel;have Xr:vs.length=q:=by rw[HG.out.len,pY]
  have YO:=Rb Xr;clear Xr;by_cases Vg:k<sg.length
  ·have hp:=yv HI.out HN.out Vg
   rw[HQ.out]at hp;obtain⟨b,off,rfl,Yi,hc⟩:=(HR3.out.below HB.out).at_ (k:=k) (by rw[cR];exact Vg);have k1:=hc k (by rw[cR];exact Vg);rw[nO Vg]at k1;obtain⟨p,hpe⟩:∃p,av mt sg.length (aA mt sg.length k)=p:=⟨_,rfl⟩
   have HPE:=Rb hpe;rw[hpe]at hp k1;have hpv:p<vs.length:=by rw[YO.out];exact hp
   obtain⟨k2,k3,Xm⟩:=HG.out.at_ hpv;obtain⟨u,hu⟩:∃u,vs[p]=u:=⟨_,rfl⟩
   rw[hu]at k2;have HU:=Rb hu;have hou:OI wr w2.heap.size u (ints (g_ mt sg.length p k)):=by have:=HG.out.row p hpv;rw[hu,pg hp]at this;exact this
   have HOU:=Rb hou;have Zw:(ints (g_ mt sg.length p k)).length<1099511627776:=by
    have:(g_ mt sg.length p k).length<=k:=by unfold g_;have:=Tg (fun b=>decide (av mt sg.length (aA mt sg.length b)=p)) (List.range k);simpa using this
    rw[aH];omega
   have HUL:=Rb Zw;have hfar:∀g,u.ownBlock=some g->g≠w2.heap.size:=fun g hg=>HG.out.MS p hpv g (by rw[hu];exact hg)
   have HFAR:=Rb hfar;have VI:=HB.out.size;clear hc hpe hu hou Zw hfar;go_wp2_with(at_builtin;refine BV HOU.out HUL.out VI rfl rfl Tryz.underlying22 rfl rfl ?_;intro v' w' ho hg Vu;have V1:=fT hg Xm (fun e=>HFAR.out _ e.symm rfl);have k4:=(Ri (a:=⟨w2.heap.size,p,none⟩) V1).trans k2;have k5:=(Ro (a:=⟨w2.heap.size,p,none⟩) V1).trans k3;obtain⟨A',c',rfl,_,_,_⟩:=ho.shape);have hpush:=qI.push (p:=p) (y:=(k:Int)) HG.out hpv Xm (by rw[pg hp];exact ho) (by rw[HU.out];exact hg) (by rw[HU.out];exact Vu);have YK:=DV (mt:=mt) (n:=sg.length) (q:=q) (k:=k) (by rw[HPE.out];exact hp);rw[HPE.out]at YK;rw[YK]at hpush;have HPUSH:=Rb hpush;have HBN:=Rb ((HOU.out.eL HB.out VI _ hg).setCell (p:=⟨w2.heap.size,p,none⟩) (Rf _) (.slice A' (ints (g_ mt sg.length p k)++[(k:Int)]).length c'));rw[Rz,SY]at HPUSH HBN;clear hpush YK ho hg Vu V1 k4 k5;go_roundw
   case rel=>exact⟨k+1,_,oZ,by go_num,HPUSH,HBN⟩
   case measure=>simp[intOf];omega
  {obtain rfl:sg.length=k:=oZ;have hr:=HG.out.rr;rw[YO.out]at hr;have Yf:=IS HI.out HN.out;rw[HQ.out]at Yf;rw[Yf]at hr;have HR:=Rb (hr.mono Xp);have HBF:=Rb (VD.out.trans (HB.out.mono Xp));clear hr Yf Vg;go_wp2_with fail;go_ret;exact⟨_,rfl,HR.out,HBF.out⟩}
end
theorem Cs{P Q:Nat->Bool}:∀m,(∀x,x<m->P x=true->Q x=true->False)->cW (fun x=>P x||Q x) m=cW P m+cW Q m
 |0,_=>rfl
 |m+1,h=>by
  rw[aT,aT,aT,Cs m (fun x hx=>h x oZ)];have:=h m oZ
  cases hp:P m<;>cases hq:Q m<;>simp[hp,hq]at* <;>omega
theorem nW(a:Nat):∀m,cW (fun x=>decide (x=a)) m=if a<m then 1 else 0
 |0=>rfl
 |m+1=>by rw[aT,nW a m];by_cases h1:a<m;{have:¬m=a:=oZ;simp[h1,this,show a<m+1 by omega]};{by_cases h2:m=a;{simp[h2]};{simp[h1,h2,show¬a<m+1 by omega]}}
theorem eD:∀m,cW (fun _=>false) m=0
 |0=>rfl
 |m+1=>by rw[aT,eD m];rfl
theorem ru{m:Nat}:∀l:List Nat,l.Nodup->(∀x,x∈l->x<m)->cW (fun x=>decide (x∈l)) m=l.length
 |[],_,_=>by rw[aS (Q:=fun _=>false) (fun x _=>by simp)];exact eD m
 |a::l,hd,hl=>by rw[SC]at hd;rw[aS (Q:=fun x=>decide (x=a)||decide (x∈l)) (fun x _=>by simp[Bool.decide_or]),Cs,nW,ru l hd.2 (fun x hx=>hl x (SE _ hx)),Re (hl a (SM ..)),SI,Uw];intro x _ h1 h2;rw[RE]at h1 h2;subst h1;exact hd.1 h2
def pn(mt:List Int)(n c:Nat):Nat:=av mt n (aA mt n c)
theorem vh{mt:List Int}(hI:cP mt){n:Nat}(hn:mt.length=4*n){k:Nat}(hk:k<(dq mt n).length):(dq mt n)[k]=g_ mt n k n/\k<av mt n n:=by
 have e:=iV hI hn;have hl:(dq mt n).length=av mt n n:=by rw[<-e];simp
 refine⟨?_,oZ⟩;simp only[<-e];simp
theorem IJ{mt:List Int}{n k x:Nat}:x∈g_ mt n k n↔x<n/\pn mt n x=k:=by unfold g_ pn;simp
end Go.Proofs.YtdbhigmklejicaaGreat
