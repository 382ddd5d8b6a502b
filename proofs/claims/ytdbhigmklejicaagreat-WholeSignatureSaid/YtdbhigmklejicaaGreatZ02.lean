import Derived.Test.YtdbhigmklejicaaGreatZ01
import Derived.ArgAppend
namespace Go.Proofs.YtdbhigmklejicaaGreat
set_option maxHeartbeats 16000000
set_option maxRecDepth 100000
def gn(xs:List Int)(k:Nat):Nat:=(gi xs k).toNat
def gN(ls:List Nat)(k:Nat):Nat:=ls.getD k 0
theorem FZ{ls:List Nat}{i k y:Nat}(hi:i<ls.length):gN (ls.set i y) k=if k=i then y else gN ls k:=by by_cases h:k=i;{subst h;simp[gN,hi]};{simp only[h,UG];unfold gN;rw[Rw,Rw,Ua (fun e=>h e.symm)]}
theorem ta{n k:Nat}(h:k<n):gN (List.range n) k=k:=by simp[gN,h]
theorem Ni{ls:List Nat}{k:Nat}(h:k<ls.length):gi (ls.map Int.ofNat) k=(gN ls k:Int):=by simp[gi,gN,h]
theorem CZ{ls:List Nat}{k:Nat}(h:k<ls.length):gN ls k=ls[k]:=by simp[gN,h]
def cN(mt:List Int):Prop:=∀h,h<mt.length->0<=gi mt h/\gi mt h<mt.length/\gi mt h≠h/\gi mt (gn mt h)=h
theorem cN.gn{mt:List Int}(hI:cN mt){h:Nat}(hh:h<mt.length):gi mt h=(gn mt h:Int)/\gn mt h<mt.length/\gn mt h≠h/\gn mt (gn mt h)=h:=by
 obtain⟨h1,h2,h3,h4⟩:=hI h hh;have e:gi mt h=(YtdbhigmklejicaaGreat.gn mt h:Int):=by unfold YtdbhigmklejicaaGreat.gn;omega
 refine⟨e,oZ,by intro e';rw[e']at e;exact h3 e,?_⟩;show(gi mt (YtdbhigmklejicaaGreat.gn mt h)).toNat=h;rw[h4];rfl
inductive Cn(mt:List Int)(c:Nat):Nat->Prop
 |refl:Cn mt c c
 |step {d h:Nat}:Cn mt c d->h<mt.length->h/4=d->Cn mt c (gn mt h/4)
theorem Cn.trans{mt:List Int}{c d e:Nat}(h1:Cn mt c d)(h2:Cn mt d e):Cn mt c e:=by
 induction h2 with
 |refl=>exact h1
 |step _ hl he ih=>exact .step ih hl he
theorem Cn.one{mt:List Int}{h:Nat}(hh:h<mt.length):Cn mt (h/4) (gn mt h/4):= .step .refl hh rfl
theorem Cn.symm{mt:List Int}(hI:cN mt){c d:Nat}(h:Cn mt c d):Cn mt d c:=by
 induction h with
 |refl=>exact .refl
 |@step d h _ hl he ih=>obtain⟨_,h2,_,h4⟩:=hI.gn hl;have:=Cn.one (mt:=mt) h2;rw[h4,he]at this;exact this.trans ih
theorem Cn.lt{mt:List Int}(hI:cN mt){n c d:Nat}(hn:mt.length=4*n)(hc:c<n)(h:Cn mt c d):d<n:=by
 induction h with
 |refl=>exact hc
 |step _ hl _ _=>have:=(hI.gn hl).2.1;omega
def Lv(mt:List Int)(r:Nat):Nat->Nat->Prop
 |0,c=>c=r
 |p+1,c=>Lv mt r p c\/∃h,h<mt.length/\Lv mt r p (h/4)/\gn mt h/4=c
theorem Lv.mono{mt:List Int}{r p c:Nat}(h:Lv mt r p c)(q:Nat):Lv mt r (p+q) c:=by
 induction q with
 |zero=>exact h
 |succ q ih=>exact .inl ih
theorem Lv.Oc{mt:List Int}{r c:Nat}(h:Cn mt r c):∃p,Lv mt r p c:=by
 induction h with
 |refl=>exact⟨0,rfl⟩
 |step _ hl he ih=>obtain⟨p,hp⟩:=ih;exact⟨p+1,.inr ⟨_,hl,by rw[he];exact hp,rfl⟩⟩
theorem Lv.cn{mt:List Int}{r:Nat}:∀{p c:Nat},Lv mt r p c->Cn mt r c:=by
 intro p
 induction p with
 |zero=>intro c h;rw[show c=r from h];exact .refl
 |succ p ih=>rintro c (h|⟨h,hl,h1,rfl⟩);{exact ih h};{exact .step (ih h1) hl rfl}
theorem Lv.Nd{mt:List Int}{r p:Nat}(h:∀c,Lv mt r (p+1) c->Lv mt r p c):∀q c,Lv mt r q c->Lv mt r p c:=by
 intro q
 induction q with
 |zero=>intro c hc;have:=Lv.mono (mt:=mt) (r:=r) (p:=0) hc p;rwa [Sr]at this
 |succ q ih=>rintro c (hc|⟨g,hl,h1,rfl⟩);{exact ih c hc};{exact h _ (.inr ⟨g,hl,ih _ h1,rfl⟩)}
theorem Lv.grow{mt:List Int}{r:Nat}:∀p,(∃q,q<p/\∀c,Lv mt r (q+1) c->Lv mt r q c)\/∃l:List Nat,l.Nodup/\l.length=p+1/\∀x,x∈l->Lv mt r p x:=by
 intro p
 induction p with
 |zero=>exact .inr ⟨[r],oX,rfl,by intro x hx;simpa[Lv]using hx⟩
 |succ p ih=>
  rcases ih with⟨q,hq,h⟩|⟨l,h1,h2,h3⟩
  {exact .inl ⟨q,oZ,h⟩}
  ·by_cases hs:∀c,Lv mt r (p+1) c->Lv mt r p c
   {exact .inl ⟨p,oZ,hs⟩}
   ·obtain⟨c,hc⟩:=UH.1 hs
    obtain⟨hc1,Xd⟩:=Uu.1 hc;refine .inr ⟨c::l,?_,by simp[h2],?_⟩;{rw[SC];exact⟨fun hm=>Xd (h3 c hm),h1⟩}
    ·intro x hx
     rcases RV.1 hx with rfl|hx
     {exact hc1};{exact .inl (h3 x hx)}
theorem Lv.all{mt:List Int}(hI:cN mt){n r c:Nat}(hn:mt.length=4*n)(hr:r<n)(h:Cn mt r c):Lv mt r n c:=by
 rcases Lv.grow (mt:=mt) (r:=r) n with⟨q,hq,hs⟩|⟨l,h1,h2,h3⟩
 {obtain⟨p,hp⟩:=Lv.Oc h;have:=(Lv.Nd hs p c hp).mono (n-q);rwa [show q+(n-q)=n by omega]at this}
 ·exfalso
  have Ye:l⊆List.range n:=fun x hx=>Rm.2 ((h3 x hx).cn.lt hI hn hr)
  have:=h1.length_le_of_subset Ye;simp at this;omega
def xD(mt:List Int)(ls:List Nat)(h:Nat):Nat:=min (gN ls (h/4)) (gN ls (gn mt h/4))
def vF(mt:List Int)(ls:List Nat)(h:Nat):List Nat:=(ls.set (h/4) (xD mt ls h)).set (gn mt h/4) (xD mt ls h)
def oK(mt:List Int)(ls:List Nat)(k:Nat):List Nat:=(List.range k).foldl (vF mt) ls
def CY(mt:List Int)(ls:List Nat):Nat->List Nat
 |0=>ls
 |p+1=>oK mt (CY mt ls p) mt.length
def eL(mt:List Int)(n:Nat):List Nat:=CY mt (List.range n) n
theorem jZ(mt:List Int)(ls:List Nat)(k:Nat):oK mt ls (k+1)=vF mt (oK mt ls k) k:=by unfold oK;rw[Sk,List.foldl_append];rfl
structure lN(mt:List Int)(n:Nat)(ls:List Nat):Prop where
 len:ls.length=n
 le:∀c,c<n->gN ls c<=c
 cn:∀c,c<n->Cn mt (gN ls c) c
theorem lN.start(mt:List Int)(n:Nat):lN mt n (List.range n):=
 ⟨oX,fun c hc=>by rw[ta hc];omega,fun c hc=>by rw[ta hc];exact .refl⟩
section
variable{mt:List Int}(hI:cN mt){n:Nat}(hn:mt.length=4*n)
include hI hn
theorem nS{ls:List Nat}(hl:ls.length=n){h:Nat}(hh:h<mt.length)(c:Nat):gN (vF mt ls h) c=if c=gn mt h/4\/c=h/4 then xD mt ls h else gN ls c:=by have h2:=(hI.gn hh).2.1;unfold vF;rw[FZ (by rw[Ry];omega),FZ oZ];by_cases e1:c=gn mt h/4;{rw[Re e1,Re (.inl e1)]};{rw[Rc e1];by_cases e2:c=h/4;{rw[Re e2,Re (.inr e2)]};{rw[Rc e2,Rc (by rintro(h|h)<;>contradiction)]}}
theorem lN.step{ls:List Nat}(H:lN mt n ls){h:Nat}(hh:h<mt.length):lN mt n (vF mt ls h):=by
 obtain⟨_,h2,_,_⟩:=hI.gn hh;have ha:h/4<n:=oZ;have hb:gn mt h/4<n:=oZ;have Vo:∀c,c=gn mt h/4\/c=h/4->xD mt ls h<=c/\Cn mt (xD mt ls h) c:=by
  intro c hc;have e1:=H.le _ ha;have e2:=H.le _ hb;have c1:=H.cn _ ha;have c2:=H.cn _ hb;have j1:=Cn.one (mt:=mt) hh;unfold xD;rcases Nat.le_total (gN ls (h/4)) (gN ls (gn mt h/4))with hle|hle
  ·rw[Nat.min_eq_left hle]
   rcases hc with rfl|rfl
   {exact⟨oZ,c1.trans j1⟩};{exact⟨oZ,c1⟩}
  ·rw[Nat.min_eq_right hle]
   rcases hc with rfl|rfl
   {exact⟨oZ,c2⟩};{exact⟨oZ,c2.trans (j1.symm hI)⟩}
 refine⟨by simp[vF,H.len],fun c hc=>?_,fun c hc=>?_⟩;{rw[nS hI hn H.len hh];split;{rename_i e;exact(Vo c e).1};{exact H.le c hc}};{rw[nS hI hn H.len hh];split;{rename_i e;exact(Vo c e).2};{exact H.cn c hc}}
theorem lN.part{ls:List Nat}(H:lN mt n ls):∀k,k<=mt.length->lN mt n (oK mt ls k):=by
 intro k
 induction k with
 |zero=>intro _;exact H
 |succ k ih=>intro hk;rw[jZ];exact(ih oZ).step hI hn oZ
theorem lN.pass{ls:List Nat}(H:lN mt n ls):∀p,lN mt n (CY mt ls p):=by
 intro p
 induction p with
 |zero=>exact H
 |succ p ih=>exact ih.part hI hn _ (Rf _)
theorem tJ{ls:List Nat}{r:Nat}(H:lN mt n ls)(hr:∀d,Cn mt r d->r<=d){c:Nat}(hc:c<n)(h:gN ls c=r):∀k,k<=mt.length->gN (oK mt ls k) c=r:=by
 intro k
 induction k with
 |zero=>intro _;exact h
 |succ k ih=>
  intro hk;have HK:=H.part hI hn k oZ;have e:=ih oZ;have hh:k<mt.length:=oZ;obtain⟨_,h2,_,_⟩:=hI.gn hh;have Zs:Cn mt r c:=by have:=H.cn c hc;rwa [h]at this
  rw[jZ,nS hI hn HK.len hh];split
  ·rename_i ec
   have j1:=Cn.one (mt:=mt) hh;have c1:=HK.cn (k/4) oZ;have c2:=HK.cn (gn mt k/4) oZ;unfold xD;rcases ec with rfl|rfl
   {have:=hr _ ((Zs.trans (j1.symm hI)).trans (c1.symm hI));rw[e];omega};{have:=hr _ ((Zs.trans j1).trans (c2.symm hI));rw[e];omega}
  {exact e}
theorem spread{ls:List Nat}{r:Nat}(H:lN mt n ls)(hr:∀d,Cn mt r d->r<=d){h:Nat}(hh:h<mt.length)(e:gN ls (h/4)=r):gN (oK mt ls mt.length) (gn mt h/4)=r:=by
 obtain⟨_,h2,_,_⟩:=hI.gn hh;have hb:gn mt h/4<n:=oZ;have Zs:Cn mt r (h/4):=by have:=H.cn (h/4) oZ;rwa [e]at this
 have HK:=H.part hI hn h oZ;have e1:=tJ hI hn H hr (show h/4<n by omega) e h oZ;have e2:gN (oK mt ls (h+1)) (gn mt h/4)=r:=by rw[jZ,nS hI hn HK.len hh,Re (.inl rfl)];unfold xD;have:=hr _ ((Zs.trans (Cn.one hh)).trans ((HK.cn (gn mt h/4) hb).symm hI));rw[e1];omega
 have:∀k,h+1<=k->k<=mt.length->gN (oK mt ls k) (gn mt h/4)=r:=by
  intro k
  induction k with
  |zero=>intro h1;omega
  |succ k ih=>
   intro h1 h3;rcases Sl h1 with h4|h4
   ·have e:=ih oZ oZ
    have HK:=H.part hI hn k oZ;have VA:k<mt.length:=oZ;obtain⟨_,g2,_,_⟩:=hI.gn VA;have hrb:Cn mt r (gn mt h/4):=Zs.trans (Cn.one hh);rw[jZ,nS hI hn HK.len VA];split
    ·rename_i ec
     have j1:=Cn.one (mt:=mt) VA;have c1:=HK.cn (k/4) oZ;have c2:=HK.cn (gn mt k/4) oZ;unfold xD;rcases ec with ec|ec
     {rw[ec]at hrb e;have:=hr _ ((hrb.trans (j1.symm hI)).trans (c1.symm hI));rw[e];omega};{rw[ec]at hrb e;have:=hr _ ((hrb.trans j1).trans (c2.symm hI));rw[e];omega}
    {exact e}
   {rw[<-h4];exact e2}
 exact this mt.length oZ (Rf _)
theorem JT{r:Nat}(hr:∀d,Cn mt r d->r<=d)(hrn:r<n):∀p c,Lv mt r p c->gN (CY mt (List.range n) p) c=r:=by
 intro p
 induction p with
 |zero=>intro c h;rw[show c=r from h];exact ta hrn
 |succ p ih=>rintro c (h|⟨h,hl,h1,rfl⟩);{exact tJ hI hn ((lN.start mt n).pass hI hn p) hr (h.cn.lt hI hn hrn) (ih c h) _ (Rf _)};{exact spread hI hn ((lN.start mt n).pass hI hn p) hr hl (ih _ h1)}
theorem c_{c:Nat}(hc:c<n):Cn mt (gN (eL mt n) c) c/\(∀d,Cn mt c d->gN (eL mt n) c<=d)/\gN (eL mt n) c<n:=by
 have H:lN mt n (eL mt n):=(lN.start mt n).pass hI hn n;obtain⟨r,hr,hl⟩:=oM (P:=fun x=>Cn mt c x) Cn.refl;have hrn:=hr.lt hI hn hc;have YJ:∀d,Cn mt r d->r<=d:=fun d hd=>hl d (hr.trans hd)
 have e:=JT hI hn YJ hrn n c (Lv.all hI hn hrn (hr.symm hI));have e':gN (eL mt n) c=r:=e;rw[e'];exact⟨hr.symm hI,hl,hrn⟩
theorem fZ{c d:Nat}(hc:c<n)(h:Cn mt c d):gN (eL mt n) c=gN (eL mt n) d:=by have hd:=h.lt hI hn hc;obtain⟨a1,a2,_⟩:=c_ hI hn hc;obtain⟨b1,b2,_⟩:=c_ hI hn hd;have e1:=a2 _ (h.trans (b1.symm hI));have e2:=b2 _ ((h.symm hI).trans (a1.symm hI));omega
theorem kB{c d:Nat}(hc:c<n)(hd:d<n)(h:gN (eL mt n) c=gN (eL mt n) d):Cn mt c d:=by obtain⟨a1,_,_⟩:=c_ hI hn hc;obtain⟨b1,_,_⟩:=c_ hI hn hd;rw[<-h]at b1;exact(a1.symm hI).trans b1
theorem tI{c:Nat}(hc:c<n):gN (eL mt n) c<=c:=(c_ hI hn hc).2.1 c .refl
theorem ji{c:Nat}(hc:c<n):gN (eL mt n) (gN (eL mt n) c)=gN (eL mt n) c:=by obtain⟨a1,_,a3⟩:=c_ hI hn hc;exact fZ hI hn a3 a1
theorem oE{h:Nat}(hh:h<mt.length):gN (eL mt n) (h/4)=gN (eL mt n) (gn mt h/4):=
 fZ hI hn oZ (Cn.one hh)
end
def kU(ls:List Nat)(r:Nat):Nat:=((List.range r).filter fun x=>gN ls x==x).length
theorem iC(ls:List Nat)(r:Nat):kU ls (r+1)=kU ls r+if gN ls r=r then 1 else 0:=by unfold kU;rw[Sk,Th,Rz];congr 1;by_cases h:gN ls r=r<;>simp[h]
theorem EE(ls:List Nat){a b:Nat}(h:a<=b):kU ls a<=kU ls b:=by
 induction b with
 |zero=>have:a=0:=oZ;subst this;exact Rf _
 |succ b ih=>
  rcases Sl h with h1|rfl
  {have:=ih oZ;rw[iC];omega};{exact Rf _}
theorem kl(ls:List Nat){a b:Nat}(h:a<b)(ha:gN ls a=a):kU ls a<kU ls b:=by have h1:=EE ls (show a+1<=b from h);rw[iC,Re ha]at h1;omega
theorem zH(ls:List Nat){a b:Nat}(ha:gN ls a=a)(hb:gN ls b=b)(h:kU ls a=kU ls b):a=b:=by
 rcases SK a b with h1|h1|h1
 {have:=kl ls h1 ha;omega};{exact h1};{have:=kl ls h1 hb;omega}
theorem ry(ls:List Nat)(r:Nat):kU ls r<=r:=by unfold kU;have:=Tg (fun x=>gN ls x==x) (List.range r);simpa using this
theorem D9(ls:List Nat):∀{n p:Nat},p<kU ls n->∃r,r<n/\gN ls r=r/\kU ls r=p:=by
 intro n
 induction n with
 |zero=>intro p h;simp[kU]at h
 |succ n ih=>intro p h;rw[iC]at h;by_cases h1:p<kU ls n;{obtain⟨r,a,b,c⟩:=ih h1;exact⟨r,oZ,b,c⟩};{by_cases h2:gN ls n=n;{rw[Re h2]at h;exact⟨n,oZ,h2,oZ⟩};{rw[Rc h2]at h;omega}}
def aA(mt:List Int)(n c:Nat):Nat:=gN (eL mt n) c
def av(mt:List Int)(n r:Nat):Nat:=kU (eL mt n) r
structure xy(mt:List Int)(n k:Nat)(p:List Int):Prop where
 len:p.length=n
 val:∀x,x<n->(aA mt n x<k->gi p x=(av mt n (aA mt n x):Int))/\(k<=aA mt n x->gi p x= -1)
structure BI(mt:List Int)(n k:Nat)(p:List Int)(q:List Nat)(a s:Nat):Prop where
 len:p.length=n
 val:∀x,x<n->(aA mt n x<k->gi p x=(av mt n (aA mt n x):Int))/\(k<aA mt n x->gi p x= -1)/\(aA mt n x=k->gi p x= -1\/gi p x=(av mt n k:Int))
 start:gi p k=(av mt n k:Int)
 qv:∀x,x∈q->x<n/\aA mt n x=k/\gi p x=(av mt n k:Int)
 closed:∀x,x<n->aA mt n x=k->gi p x=(av mt n k:Int)->x∉q->∀t,t<4->(x=a/\s<=t)\/gi p (gn mt (4*x+t)/4)=(av mt n k:Int)
def xR(p:List Int):Nat:=p.countP fun x=>decide (x<0)
theorem Ka(p:List Int):xR p<=p.length:=List.countP_le_length
theorem G5{p:List Int}{i:Nat}{y:Int}(hi:i<p.length)(h:gi p i<0)(hy:0<=y):xR (p.set i y)+1=xR p:=by
 unfold xR;have h1:decide (p[i]<0)=true:=by rw[<-fW hi];exact Rj h
 have h2:decide (y<0)=false:=Rl oZ;have h3:0<p.countP fun x=>decide (x<0):=List.countP_pos_iff.2 ⟨p[i],R7 hi,h1⟩
 rw[List.countP_set hi];simp only[h1,h2];simp;omega
section
variable{mt:List Int}(hI:cN mt){n:Nat}(hn:mt.length=4*n)
include hI hn
theorem Dz{k:Nat}{p:List Int}(hk:k<n)(h:xy mt n k p)(h0:0<=gi p k):xy mt n (k+1) p/\av mt n (k+1)=av mt n k:=by
 have hlk:aA mt n k<k:=by
  rcases SN (aA mt n k) k with h1|h1
  {exact h1};{have:=(h.val k hk).2 h1;omega}
 have VT:∀x,x<n->aA mt n x≠k:=by intro x hx e;have:aA mt n (aA mt n x)=aA mt n x:=ji hI hn hx;rw[e]at this;omega
 refine⟨⟨h.len,fun x hx=>⟨fun h1=>(h.val x hx).1 (by have:=VT x hx;omega),fun h1=>(h.val x hx).2 oZ⟩⟩,?_⟩;unfold av;rw[iC,Rc (by have:gN (eL mt n) k=aA mt n k:=rfl;omega),Tx]
theorem yX{k:Nat}{p:List Int}(hk:k<n)(h:xy mt n k p)(h0:¬0<=gi p k):aA mt n k=k/\gi p k= -1/\av mt n (k+1)=av mt n k+1:=by
 have hle:aA mt n k<=k:=tI hI hn hk;have hl:aA mt n k=k:=by
  rcases SN (aA mt n k) k with h1|h1
  {have:=(h.val k hk).1 h1;omega};{omega}
 refine⟨hl,(h.val k hk).2 oZ,?_⟩;unfold av;rw[iC,Re (show gN (eL mt n) k=k from hl)]
theorem Gx{k:Nat}{p:List Int}(hk:k<n)(h:xy mt n k p)(h0:¬0<=gi p k):BI mt n k (p.set k (av mt n k:Int)) [k] n 4:=by
 obtain⟨hl,hp,_⟩:=yX hI hn hk h h0;have hkp:k<p.length:=by rw[h.len];exact hk
 have hs:∀x,gi (p.set k (av mt n k:Int)) x=if x=k then(av mt n k:Int)else gi p x:=fun x=>dB hkp
 refine⟨by simp[h.len],fun x hx=>?_,by rw[hs,Re rfl],fun x hx=>?_,fun x hx h1 h2 h3=>?_⟩;{rw[hs];by_cases e:x=k;{subst e;rw[Re rfl];exact⟨fun h=>by omega,fun h=>by omega,fun _=> .inr rfl⟩};{rw[Rc e];exact⟨(h.val x hx).1,fun h1=>(h.val x hx).2 oZ,fun h1=> .inl ((h.val x hx).2 oZ)⟩}}
 ·have:x=k:=by simpa using hx
  subst this;exact⟨hk,hl,by rw[hs,Re rfl]⟩
 ·exfalso
  rw[hs]at h2;have Vh:x≠k:=by simpa using h3
  rw[Rc Vh]at h2;have:=(h.val x hx).2 oZ;omega
omit hI hn in
theorem Mu{k:Nat}{p:List Int}{x a:Nat}{q:List Nat}(h:BI mt n k p (x::q) a 4):BI mt n k p q x 0:=by
 refine⟨h.len,h.val,h.start,fun y hy=>h.qv y (SE _ hy),fun y hy h1 h2 h3 t ht=>?_⟩;by_cases e:y=x;{exact .inl ⟨e,Rv _⟩}
 ·rcases h.closed y hy h1 h2 (by simp[e,h3]) t ht with⟨_,h4⟩|h4
  {omega};{exact .inr h4}
theorem FH{k:Nat}{p:List Int}{a s:Nat}{q:List Nat}(_h:BI mt n k p q a s)(ha:a<n)(hl:aA mt n a=k)(hs:s<4):gn mt (4*a+s)/4<n/\aA mt n (gn mt (4*a+s)/4)=k/\4*a+s<mt.length:=by have hh:4*a+s<mt.length:=oZ;have:=(hI.gn hh).2.1;have e:=oE hI hn hh;rw[show(4*a+s)/4=a by omega]at e;exact⟨oZ,by unfold aA at hl⊢;rw[<-e];exact hl,hh⟩
theorem JO{k:Nat}{p:List Int}{a s:Nat}{q:List Nat}(h:BI mt n k p q a s)(ha:a<n)(hl:aA mt n a=k)(hs:s<4)(h0:0<=gi p (gn mt (4*a+s)/4)):BI mt n k p q a (s+1):=by
 obtain⟨h1,h2,_⟩:=FH hI hn h ha hl hs;have e:gi p (gn mt (4*a+s)/4)=(av mt n k:Int):=by
  rcases(h.val _ h1).2.2 h2 with e|e
  {omega};{exact e}
 refine⟨h.len,h.val,h.start,h.qv,fun y hy g1 g2 g3 t ht=>?_⟩;rcases h.closed y hy g1 g2 g3 t ht with⟨g4,g5⟩|g4
 {by_cases et:t=s;{subst et g4;exact .inr e};{exact .inl ⟨g4,oZ⟩}};{exact .inr g4}
theorem LQ{k:Nat}{p:List Int}{a s:Nat}{q:List Nat}(h:BI mt n k p q a s)(ha:a<n)(hl:aA mt n a=k)(hs:s<4)(h0:¬0<=gi p (gn mt (4*a+s)/4)):
  BI mt n k (p.set (gn mt (4*a+s)/4) (av mt n k:Int)) (q++[gn mt (4*a+s)/4]) a (s+1):=by
 obtain⟨h1,h2,_⟩:=FH hI hn h ha hl hs;generalize ht:gn mt (4*a+s)/4=to at*;have hkp:to<p.length:=by rw[h.len];exact h1
 have hset:∀x,gi (p.set to (av mt n k:Int)) x=if x=to then(av mt n k:Int)else gi p x:=fun x=>dB hkp
 have hmono:∀x,gi p x=(av mt n k:Int)->gi (p.set to (av mt n k:Int)) x=(av mt n k:Int):=fun x hx=>by rw[hset];split;{rfl};{exact hx}
 refine⟨by simp[h.len],fun x hx=>?_,hmono _ h.start,fun x hx=>?_,fun y hy g1 g2 g3 t ht'=>?_⟩;{rw[hset];by_cases e:x=to;{subst e;rw[Re rfl];exact⟨fun h=>by omega,fun h=>by omega,fun _=> .inr rfl⟩};{rw[Rc e];exact h.val x hx}}
 ·rcases SS.1 hx with hx|hx
  {obtain⟨a1,a2,a3⟩:=h.qv x hx;exact⟨a1,a2,hmono _ a3⟩}
  ·have:x=to:=by simpa using hx
   subst this;exact⟨h1,h2,by rw[hset,Re rfl]⟩
 ·have Vh:y≠to:=by
   rintro rfl;exact g3 oX
  have hnq:y∉q:=fun hm=>g3 (by simp[hm])
  rw[hset,Rc Vh]at g2;rcases h.closed y hy g1 g2 hnq t ht' with⟨g4,g5⟩|g4
  {by_cases et:t=s;{subst et g4;right;rw[ht,hset,Re rfl]};{exact .inl ⟨g4,oZ⟩}};{exact .inr (hmono _ g4)}
theorem JA{k:Nat}{p:List Int}{a:Nat}(hk:k<n)(hlk:aA mt n k=k)(h:BI mt n k p [] a 4):xy mt n (k+1) p:=by
 have Vx:∀x,Cn mt k x->gi p x=(av mt n k:Int):=by
  intro x hx
  induction hx with
  |refl=>exact h.start
  |@step d g hd hl he ih=>
   have hdn:=hd.lt hI hn hk;have hld:aA mt n d=k:=by have:=fZ hI hn hk hd;unfold aA at hlk⊢;omega
   rcases h.closed d hdn hld ih oX (g%4) oZ with⟨_,h4⟩|h4
   {omega};{rw[show 4*d+g%4=g by omega]at h4;exact h4}
 refine⟨h.len,fun x hx=>⟨fun h1=>?_,fun h1=>(h.val x hx).2.1 oZ⟩⟩;rcases Sl (SO h1)with h2|h2
 {exact(h.val x hx).1 h2};{rw[h2];refine Vx x (kB hI hn hk hx ?_);unfold aA at hlk h2;omega}
end
def nV(mt:List Int)(n:Nat):List Int:=(List.range n).map fun c=>(av mt n (aA mt n c):Int)
theorem cX(mt:List Int)(n:Nat):(nV mt n).length=n:=by simp[nV]
theorem nD{mt:List Int}{n c:Nat}(hc:c<n):gi (nV mt n) c=(av mt n (aA mt n c):Int):=by simp[gi,nV,hc]
theorem Ie{mt:List Int}(hI:cN mt){n:Nat}(hn:mt.length=4*n){p:List Int}(h:xy mt n n p):p=nV mt n:=by apply mZ;{rw[h.len,cX]};{intro c hc;rw[h.len]at hc;rw[nD hc];exact(h.val c hc).1 (c_ hI hn hc).2.2}
theorem BQ{mt:List Int}{n:Nat}{p:List Int}(hl:p.length=n)(h:∀x,x<n->gi p x= -1):xy mt n 0 p:=
 ⟨hl,fun x hx=>⟨fun h=>by omega,fun _=>h x hx⟩⟩
open Go.RowKit
def OQ(w:World)(B:Nat)(v:Value)(xs:List Int):Prop:=
 ∃g off c,v= .slice (some ⟨g,off,none⟩) xs.length c/\B<=g/\g<w.heap.size/\xs.length<=c/\c<=maxLen/\(∀k,k<c->(w.cell? ⟨g,off+k,none⟩).isSome=true)/\
  (∀k,k<xs.length->w.cell? ⟨g,off+k,none⟩=some (.int .i64 (gi xs k)))/\∀k,w.frozen? ⟨g,k,none⟩=false
section
variable{w w':World}{B:Nat}{v:Value}{xs:List Int}
theorem OQ.FB(h:OI w B v xs)(Vh:0<xs.length):OQ w B v xs:=by
 obtain⟨g,c,h1,h2,h3,h4,h5,h6,h7⟩:=h.ints Vh;refine⟨g,0,c,h1,h2,h3,h4,h5,fun k hk=>?_,fun k hk=>by rw[Sr];exact h6 k hk,h7⟩;rcases h.2 with⟨_,hn⟩|⟨g',c',cur,hv,_,hh,_,_,VE,_⟩
 {omega}
 ·rw[h1]at hv
  injection hv with e1 e2 e3
  injection e1 with e1
  injection e1 with e1
  subst e1 e3;rw[Rt w g _ _ _ _ hh,Sr];have:k<cur.size:=oZ;simp[this]
theorem OQ.ak(h:OQ w B v xs)(hk:∀g,v.ownBlock=some g->w'.heap[g]?=w.heap[g]?)(hs:w.heap.size<=w'.heap.size):OQ w' B v xs:=by obtain⟨g,off,c,rfl,h2,h3,h4,h5,h6,h7,h8⟩:=h;have e:=hk g rfl;refine⟨g,off,c,rfl,h2,oZ,h4,h5,fun k hk=>?_,fun k hk=>?_,fun k=>?_⟩;{rw[Ri (a:=⟨g,off+k,none⟩) e];exact h6 k hk};{rw[Ri (a:=⟨g,off+k,none⟩) e];exact h7 k hk};{rw[Ro (a:=⟨g,k,none⟩) e];exact h8 k}
theorem OQ.alloc(h:OQ w B v xs)(o:Obj):OQ (w.alloc o) B v xs:=by
 have h0:=h;obtain⟨g,off,c,rfl,h2,h3,h4,h5,h6,h7,h8⟩:=h;refine h0.ak (fun g' hg=>?_) oX;have:g'=g:=by simp[Value.ownBlock]at hg;omega
 subst this;exact Rx w o g' h3
theorem OQ.lt(h:OQ w B v xs):∀g,v.ownBlock=some g->B<=g/\g<w.heap.size:=by
 obtain⟨g,off,c,rfl,h2,h3,h4,h5,h6,h7,h8⟩:=h;intro g' hg;have:g'=g:=by simp[Value.ownBlock]at hg;omega
 subst this;exact⟨h2,h3⟩
theorem OQ.pop{g off n c:Nat}{x:Int}(h:OQ w B (.slice (some ⟨g,off,none⟩) n c) (x::xs)):
  OQ w B (.slice (if c=1 then some ⟨g,off,none⟩else some ⟨g,off+1,none⟩) xs.length (c-1)) xs/\w.cell? ⟨g,off,none⟩=some (.int .i64 x)/\n=xs.length+1/\xs.length+1<=c/\B<=g:=by
 obtain⟨g',off',c',hv,h2,h3,h4,h5,h6,h7,h8⟩:=h;injection hv with e1 e2 e3
 injection e1 with e1
 injection e1 with e1 e4
 subst e1 e4 e3;simp only[SI]at e2 h4;subst e2;refine⟨?_,?_,rfl,h4,h2⟩;{by_cases hc:c=1;{have hx:xs=[]:=Sh oZ;subst hx;rw[Re hc];exact⟨g,off,c-1,rfl,h2,h3,oX,oZ,fun k hk=>by omega,fun k hk=>by simp at hk,h8⟩};{rw[Rc hc];refine⟨g,off+1,c-1,rfl,h2,h3,oZ,oZ,fun k hk=>?_,fun k hk=>?_,h8⟩;{have:=h6 (k+1) oZ;rwa [show off+(k+1)=off+1+k by omega]at this};{have:=h7 (k+1) qj;rw[show off+(k+1)=off+1+k by omega]at this;rw[this];simp[gi]}}};{have:=h7 0 oX;simpa[gi]using this}
theorem OQ.shape(h:OQ w B v xs):∃g off c,v= .slice (some ⟨g,off,none⟩) xs.length c/\xs.length<=c/\c<=maxLen:=by obtain⟨g,off,c,h1,_,_,h4,h5,_⟩:=h;exact⟨g,off,c,h1,h4,h5⟩
end
theorem Em{w:World}{B:Nat}{v:Value}{xs:List Int}{t ty:TypeId}{y:Int}(ht:Tryz.prog.underlying t=some (.slice 3))(h:OQ w B v xs)(hl:xs.length<1099511627776)(hB:B<=w.heap.size):
  ∃v' w',(Builtin.append_ #[t,t] ty #[v,.slice (some ⟨w.heap.size,0,none⟩) 1 1]).run Tryz.prog (w.alloc (.cells #[.int .i64 y] 3))= .ok v' w'/\OQ w' B v' (xs++[y])/\
   (w.alloc (.cells #[.int .i64 y] 3)).grownBy w' v.ownBlock/\(v'.ownBlock=v.ownBlock\/∃g,v'.ownBlock=some g/\w.heap.size<g):=by
 obtain⟨i0,hi,V6,VU,VN⟩:=S7 fP;have ha:=h.alloc (.cells #[.int .i64 y] 3);obtain⟨g,off,c,rfl,h2,h3,h4,h5,h6,h7,h8⟩:=ha;have V0:∀j u,([Value.int .i64 y]:List Value)[j]?=some u->(w.alloc (.cells #[.int .i64 y] 3)).cell? ((⟨w.heap.size,0,none⟩:Addr).add j)=some u:=fun j u hu=>by
  rcases j with _|j
  {rw[<-hu];exact Rt _ _ _ _ _ _ (Ru w _)};{simp at hu}
 unfold maxLen at h5;by_cases hroom:xs.length+1<=c
 ·have hr:=run_append_room_cells (P:=Tryz.prog) (w.alloc (.cells #[.int .i64 y] 3)) t ty 3 i0 ht hi g off xs.length c ⟨w.heap.size,0,none⟩ 1 1 [.int .i64 y] (by rw[VU];rfl) V0 (by intro u hu;simp at hu;subst hu;rfl) hroom
   (fun j hj=>by
           rw[VU,Ta];have:j=0:=by simpa using hj
           subst this;exact h6 xs.length hroom) (fun j _=>h8 _)
  rw[VU,Ta]at hr;refine⟨_,_,hr,?_,⟨rfl,rfl,rfl,?_,fun k hk Vh=>?_⟩,.inl rfl⟩
  ·have Vk:∀k,k<c->((w.alloc (.cells #[.int .i64 y] 3)).setCell ⟨g,off+xs.length,none⟩ (.int .i64 y)).cell? ⟨g,off+k,none⟩=if k=xs.length then some (.int .i64 y)else(w.alloc (.cells #[.int .i64 y] 3)).cell? ⟨g,off+k,none⟩:=fun k hk=>by
    by_cases e:k=xs.length;{subst e;rw[Re rfl];obtain⟨u,hu⟩:=Option.isSome_iff_exists.1 (h6 xs.length oZ);exact Ss _ _ _ hu}
    ·rw[Rc e]
     refine R4 _ _ _ _ ?_;intro h';injection h' with _ h'
     omega
   refine⟨g,off,c,oX,h2,by simpa[World.setCells]using h3,by simpa using hroom,by unfold maxLen;omega,fun k hk=>?_,fun k hk=>?_,fun k=>?_⟩;{simp only[World.setCells];rw[Vk k hk];split;{rfl};{exact h6 k hk}};{simp only[Rz,SY]at hk;simp only[World.setCells];rw[Vk k oZ];split;{rename_i e;subst e;rw[nW]};{rw[cZ oZ];exact h7 k oZ}};{simp only[World.setCells];rw[Rp];exact h8 k}
  {simp[World.setCells]};{simp only[World.setCells];exact Rn _ _ _ k (fun e=>Vh (by simp[Value.ownBlock,e]))}
 ·obtain⟨v',w',hr,Vq,hg⟩:=run_append_arg_grows (P:=Tryz.prog) (w.alloc (.cells #[.int .i64 y] 3)) t ty 3 i0 (.int .i64 0) 1 8 ht hi V6 VU VN rfl oQ ⟨g,off,none⟩ xs.length c (xs.map (Value.int .i64)) oX
   (fun j u hu=>by
    have hj:j<xs.length:=by have:=(Tf.1 hu).1;simpa using this
    rw[Addr.add_lit,h7 j hj,<-xk hj,hu]) ⟨w.heap.size,0,none⟩ 1 1 [.int .i64 y] rfl V0 oZ (by unfold maxLen;omega) oZ
  have hor:OI w' (w.heap.size+1) v' (xs++[y]):=by show OR _ _ _ _ _ _;unfold OR;simpa using Vq
  have hq:=OQ.FB hor oX;obtain⟨g',off',c',hv',q2,q3⟩:=hq;refine⟨v',w',hr,⟨g',off',c',hv',oZ,q3⟩,⟨hg.os,hg.tape,hg.output,hg.size,fun k hk _=>hg.block k hk oX⟩,.inr ⟨g',by rw[hv'];rfl,oZ⟩⟩
theorem O'{ops:Array Oper}{rest:List Oper}{o:Oper}{a:Act}{Q:Exit->Act->World->Prop}{w:World}{B:Nat}{v:Value}{xs:List Int}{s x:Operand}{t:TypeId}{y:Int}{H:Nat}
  (Vq:OQ w B v xs)(hl:xs.length<1099511627776)(hB:B<=w.heap.size)
  (XO:o.guard=none)(ho:o.op= .call {callee:= .builtin .append,args:=#[s,x],argTypes:=#[t,t]})
  (ht:Tryz.prog.underlying t=some (.slice 3))(hs:a.eval s=v)(hH:w.heap.size=H)(hx:a.eval x= .slice (some ⟨H,0,none⟩) 1 1)
  (h:∀v' w',OQ w' B v' (xs++[y])->(w.alloc (.cells #[.int .i64 y] 3)).grownBy w' v.ownBlock->(v'.ownBlock=v.ownBlock\/∃g,v'.ownBlock=some g/\w.heap.size<g)->
   wpList Tryz.prog ops Q rest (a.put o.dst v') w'):
  wpList Tryz.prog ops Q (o::rest) a (w.alloc (.cells #[.int .i64 y] 3)):=by
 subst hH;obtain⟨v',w',VG,h2,h3,h5⟩:=Em (y:=y) (ty:=o.type) ht Vq hl hB;refine Ut XO fun _ hK=>?_
 unfold Oper.wp execOp;simp only[ho,resolve,invoke,builtin,TI,TJ,SV,S_,Tk,Tw,hs,hx,VG];exact hK _ _ (h v' w' h2 h3 h5)
end Go.Proofs.YtdbhigmklejicaaGreat
