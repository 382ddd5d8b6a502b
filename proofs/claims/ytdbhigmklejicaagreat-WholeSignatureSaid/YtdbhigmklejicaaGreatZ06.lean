/- Lemmas, each under its own premises. -/
import Derived.Test.YtdbhigmklejicaaGreatZ05
import Derived.Lib.AppendZeros
import Derived.Deep.RegionLaw
namespace Go.Proofs.YtdbhigmklejicaaGreat
set_option maxHeartbeats 16000000
set_option maxRecDepth 100000
def eT(sg:List Int)(c:Nat):Nat:=if gi sg c=1 then 4*c+1 else 4*c+3
def yB(sg mt:List Int)(h:Nat):Nat:=if gn mt h%4=0 then eT sg (gn mt h/4)else gn mt h/4*4+2
def aP(sg mt:List Int)(h:Nat):Nat:=if ai sg h=true then yB sg mt h else h
theorem iN{sg:List Int}(_hs:EN sg){c:Nat}(_hc:c<sg.length):
  ai sg (4*c)=false/\ai sg (4*c+2)=true/\(gi sg c=1->ai sg (4*c+1)=true/\ai sg (4*c+3)=false)/\(gi sg c= -1->ai sg (4*c+1)=false/\ai sg (4*c+3)=true):=by
 have h0:ai sg (4*c)=false:=by unfold ai;rw[Rc oZ,Rc oZ,Rc oZ]
 have h1:ai sg (4*c+1)=(gi sg c==1):=by unfold ai;rw[Re oZ,show(4*c+1)/4=c by omega]
 have h2:ai sg (4*c+2)=true:=by unfold ai;rw[Rc oZ,Re oZ]
 have h3:ai sg (4*c+3)=(gi sg c== -1):=by unfold ai;rw[Rc oZ,Rc oZ,Re oZ,show(4*c+3)/4=c by omega]
 refine⟨h0,h2,fun e=>?_,fun e=>?_⟩;{rw[h1,h3,e];decide};{rw[h1,h3,e];decide}
theorem oK{sg:List Int}(hs:EN sg){c:Nat}(hc:c<sg.length):ai sg (eT sg c)=true/\eT sg c/4=c/\(eT sg c=4*c+1\/eT sg c=4*c+3):=by
 obtain⟨-,-,h1,h2⟩:=iN hs hc;unfold eT;rcases hs c hc with e|e
 {rw[Re e];exact⟨(h1 e).1,oZ,.inl rfl⟩};{rw[Rc oZ];exact⟨(h2 e).2,oZ,.inr rfl⟩}
section
variable{sg mt:List Int}{L:Int}(hd:cJ sg mt L)
include hd
theorem lJ{h:Nat}(hh:h<mt.length):yB sg mt h<mt.length/\ai sg (yB sg mt h)=true/\yB sg mt h/4=gn mt h/4:=by have hg:=(hd.2.2.2.2.2.1.gn hh).2.1;have hn:=hd.2.1;have hc:gn mt h/4<sg.length:=oZ;have ho:=oK hd.2.2.2.2.1 hc;have hs:=iN hd.2.2.2.2.1 hc;unfold yB;split;{exact⟨oZ,ho.1,ho.2.1⟩};{refine⟨oZ,?_,oZ⟩;rw[show gn mt h/4*4+2=4*(gn mt h/4)+2 by omega];exact hs.2.1}
theorem xh{m:Nat}(hm:m<mt.length)(hi:ai sg m=false):m%4=0\/(m%4=3/\gi sg (m/4)=1)\/(m%4=1/\gi sg (m/4)= -1):=by
 have hn:=hd.2.1;have hs:=hd.2.2.2.2.1 (m/4) oZ;unfold ai at hi;have Wl:m%4=0\/m%4=1\/m%4=2\/m%4=3:=oZ;rcases Wl with e|e|e|e
 {exact .inl e}
 ·rw[Re e]at hi
  rcases hs with e'|e'
  {rw[e']at hi;cases hi};{exact .inr (.inr ⟨e,e'⟩)}
 {rw[Rc oZ,Re e]at hi;cases hi}
 ·rw[Rc oZ,Rc oZ,Re e]at hi
  rcases hs with e'|e'
  {exact .inr (.inl ⟨e,e'⟩)};{rw[e']at hi;cases hi}
theorem kF{h:Nat}(hh:h<mt.length)(ho:ai sg h=true):ai sg (gn mt h)=false:=by
 have:=hd.2.2.2.2.2.2.1 h hh;rw[ho]at this
 cases h':ai sg (gn mt h)
 {rfl};{rw[h']at this;exact absurd rfl this}
theorem J5{a b:Nat}(ha:a<mt.length)(hb:b<mt.length)(oa:ai sg a=true)(ob:ai sg b=true)(e:yB sg mt a=yB sg mt b):a=b:=by
 have hI:=hd.2.2.2.2.2.1;have hn:=hd.2.1;have ga:=(hI.gn ha).2.1;have gb:=(hI.gn hb).2.1;have ea:=(lJ hd ha).2.2;have eb:=(lJ hd hb).2.2;have ia:=xh hd ga (kF hd ha oa);have ib:=xh hd gb (kF hd hb ob);have hc:gn mt a/4=gn mt b/4:=by rw[<-ea,<-eb,e]
 have ho:=oK hd.2.2.2.2.1 (c:=gn mt a/4) oZ;have hmm:gn mt a=gn mt b:=by
  unfold yB at e;rw[<-hc]at e ib;have hov:=ho.2.2;rcases ia with x|⟨x,x'⟩|⟨x,x'⟩<;>rcases ib with y|⟨y,y'⟩|⟨y,y'⟩
  {omega};{rw[Re x,Rc oZ]at e;omega};{rw[Re x,Rc oZ]at e;omega};{rw[Rc oZ,Re y]at e;omega};{omega};{omega};{rw[Rc oZ,Re y]at e;omega};{omega};{omega}
 exact dZ hI ha hb hmm
theorem aI:aO (aP sg mt) mt.length:=by refine⟨fun h hh=>?_,fun a b ha hb e=>?_⟩;{unfold aP;split;{exact(lJ hd hh).1};{exact hh}};{unfold aP at e;by_cases oa:ai sg a=true<;>by_cases ob:ai sg b=true;{rw[Re oa,Re ob]at e;exact J5 hd ha hb oa ob e};{rw[Re oa,Rc ob]at e;rw[<-e]at ob;exact absurd (lJ hd ha).2.1 ob};{rw[Rc oa,Re ob]at e;rw[e]at oa;exact absurd (lJ hd hb).2.1 oa};{rw[Rc oa,Rc ob]at e;exact e}}
theorem fZ:∀h,h<mt.length->ai sg (aP sg mt h)=ai sg h:=by intro h hh;unfold aP;split;{rename_i ho;rw[(lJ hd hh).2.1,ho]};{rfl}
end
def aD(sg mt:List Int):List (List Nat):=bR (aP sg mt) mt.length (ai sg) mt.length
def D5(f:Nat->Nat)(N:Nat)(wt:Nat->Bool)(k:Nat):Nat:=cW (fun x=>wt x&&a_ f N x) k
theorem oH(f:Nat->Nat)(N:Nat)(wt:Nat->Bool)(k:Nat):(bR f N wt k).length=D5 f N wt k:=by unfold bR D5 cW;rw[Sa]
def fu(f:Nat->Nat)(N h:Nat):Nat:=(bJ f N h).foldl min h
theorem oA:∀(l:List Nat)(a:Nat),l.foldl min a<=a/\(∀x,x∈l->l.foldl min a<=x)/\(l.foldl min a=a\/l.foldl min a∈l)
 |[],a=>⟨Rf _,fun x hx=>by simp at hx,.inl rfl⟩
 |y::l,a=>by
  obtain⟨h1,h2,h3⟩:=oA l (min a y);simp only[List.foldl_cons];refine⟨oZ,fun x hx=>?_,?_⟩
  ·rcases RV.1 hx with rfl|hx
   {omega};{exact h2 x hx}
  ·rcases h3 with h3|h3
   ·rcases Nat.le_total a y with h|h
    {exact .inl (by rw[h3];omega)};{exact .inr (by rw[h3,show min a y=y by omega];exact SM ..)}
   {exact .inr (SE _ h3)}
section
variable{f:Nat->Nat}{N:Nat}(hP:aO f N)
include hP
theorem c_{h:Nat}(hh:h<N):fu f N h∈bJ f N h/\∀g,g∈bJ f N h->fu f N h<=g:=by
 obtain⟨-,h2,h3⟩:=oA (bJ f N h) h;refine⟨?_,h2⟩;unfold fu;rcases h3 with h3|h3
 {rw[h3];exact bE hP hh};{exact h3}
theorem iE{h g:Nat}(hh:h<N)(hg:g∈bJ f N h):fu f N g=fu f N h:=by have hgN:=dJ hP hh hg;obtain⟨a1,a2⟩:=c_ hP hh;obtain⟨b1,b2⟩:=c_ hP hgN;have c1:=a2 _ (aM hP hh hg b1);have c2:=b2 _ (aM hP hgN (aL hP hh hg) a1);omega
theorem iQ{h:Nat}(hh:h<N)(hl:a_ f N h=true):fu f N h=h:=by obtain⟨a1,a2⟩:=c_ hP hh;have:=dG.1 hl _ a1;have:=a2 _ (bE hP hh);omega
theorem pQ{h:Nat}(hh:h<N):a_ f N (fu f N h)=true:=by obtain⟨a1,a2⟩:=c_ hP hh;exact dG.2 fun g hg=>a2 _ (aM hP hh a1 hg)
end
def e_(f:Nat->Nat)(N:Nat)(wt:Nat->Bool)(h:Nat):Nat:=D5 f N wt (fu f N h)
def iL(f:Nat->Nat)(N:Nat)(wt:Nat->Bool)(h:Nat):Int:=if wt h=true then(e_ f N wt h:Int)else-1
def zj(f:Nat->Nat)(N:Nat)(wt:Nat->Bool)(k:Nat)(p:List Int):Prop:=p.length=N/\∀x,x<N->(Seen f N wt k x->gi p x=(e_ f N wt x:Int))/\(¬Seen f N wt k x->gi p x= -1)
def Bw(f:Nat->Nat)(N:Nat)(wt:Nat->Bool)(k j:Nat)(p:List Int):Prop:=p.length=N/\∀x,x<N->((Seen f N wt k x\/∃i,i<j/\it f i k=x)->gi p x=(e_ f N wt x:Int))/\(¬(Seen f N wt k x\/∃i,i<j/\it f i k=x)->gi p x= -1)
section
variable{f:Nat->Nat}{N:Nat}{wt:Nat->Bool}
theorem DA{p:List Int}(hl:p.length=N)(h:∀x,x<N->gi p x= -1):zj f N wt 0 p:=⟨hl,fun x hx=>⟨fun hs=>absurd hs uW,fun _=>h x hx⟩⟩
theorem DD{k:Nat}{p:List Int}(h:zj f N wt k p):Bw f N wt k 0 p:=
 ⟨h.1,fun x hx=>⟨fun hs=>(h.2 x hx).1 (hs.elim id fun⟨i,hi,_⟩=>absurd hi (RG i)),fun hs=>(h.2 x hx).2 fun h'=>hs (.inl h')⟩⟩
theorem DM{k j:Nat}{p:List Int}(hP:aO f N)(hk:k<N)(hl:a_ f N k=true)(h:Bw f N wt k j p):Bw f N wt k (j+1) (p.set (it f j k) (D5 f N wt k:Int)):=by
 refine⟨by rw[Ry];exact h.1,fun x hx=>?_⟩;rw[dB (by rw[h.1];exact hP.bL j hk)];by_cases e:x=it f j k;{rw[Re e];refine⟨fun _=>?_,fun VT=>absurd (.inr ⟨j,oZ,e.symm⟩) VT⟩;have hm:x∈bJ f N k:=(aG hP hk).2 ⟨j,e.symm⟩;unfold e_;rw[iE hP hk hm,iQ hP hk hl]}
 ·rw[Rc e]
  have hiff:(Seen f N wt k x\/∃i,i<j+1/\it f i k=x)↔(Seen f N wt k x\/∃i,i<j/\it f i k=x):=by
   constructor
   ·rintro(h1|⟨i,h1,h2⟩)
    {exact .inl h1}
    ·refine .inr ⟨i,?_,h2⟩
     have:i≠j:=by rintro rfl;exact e h2.symm
     omega
   {rintro(h1|⟨i,h1,h2⟩);{exact .inl h1};{exact .inr ⟨i,oZ,h2⟩}}
  rw[hiff];exact h.2 x hx
variable(hP:aO f N)(hw:∀h,h<N->wt (f h)=wt h)
include hP hw
theorem vQ{k j:Nat}{p:List Int}(hk:k<N)(Wf:wt k=true)(hl:a_ f N k=true)(h:Bw f N wt k j p)(hj:j<eC f N k):gi p (it f j k)= -1:=by
 refine(h.2 _ (hP.bL j hk)).2 ?_;rintro(h1|⟨i,h1,h2⟩);{have:=qz hP hk ((aG hP hk).2 ⟨j,rfl⟩) (Uv hk) h1;rw[oO hP hw hk Wf,hl]at this;cases this}
 ·have e2:it f j k=it f i (it f (j-i) k):=by rw[<-fO];congr 1;omega
  rw[e2]at h2;have:=hP.ki i hk (hP.bL _ hk) h2;exact(bz hP hk).2.2.2 (j-i) oZ oZ this.symm
omit hw in
theorem vo{k j:Nat}{p:List Int}(hk:k<N)(h:Bw f N wt k j p)(hj:j=eC f N k):0<=gi p (it f j k):=by subst hj;obtain⟨h0,_,h1,_⟩:=bz hP hk;rw[(h.2 _ (hP.bL _ hk)).1 (.inr ⟨0,h0,h1.symm⟩)];omega
omit hw in
theorem E4{k j:Nat}{p:List Int}(hk:k<N)(Wf:wt k=true)(hl:a_ f N k=true)(h:Bw f N wt k j p)(hj:j=eC f N k):zj f N wt (k+1) p:=by
 subst hj;refine⟨h.1,fun x hx=>?_⟩;have hiff:Seen f N wt (k+1) x↔(Seen f N wt k x\/∃i,i<eC f N k/\it f i k=x):=by rw[l_];constructor;{rintro(h1|⟨_,_,h2⟩);{exact .inl h1};{obtain⟨i,hi⟩:=(aG hP hk).1 h2;exact .inr ⟨i%eC f N k,RY _ (bz hP hk).1,by rw[<-jv hP hk];exact hi⟩}};{rintro(h1|⟨i,h1,h2⟩);{exact .inl h1};{exact .inr ⟨Wf,hl,(aG hP hk).2 ⟨i,h2⟩⟩}}
 rw[hiff];exact h.2 x hx
omit hP hw in
theorem Ej{k:Nat}{p:List Int}(h:zj f N wt k p)(VT:¬(wt k=true/\a_ f N k=true)):zj f N wt (k+1) p:=by
 refine⟨h.1,fun x hx=>?_⟩;have hiff:Seen f N wt (k+1) x↔Seen f N wt k x:=by rw[l_];exact⟨fun h1=>h1.elim id fun⟨h1,h2,_⟩=>absurd ⟨h1,h2⟩ VT,.inl⟩
 rw[hiff];exact h.2 x hx
theorem uZ{k:Nat}{p:List Int}(hk:k<N)(Wf:wt k=true)(h:zj f N wt k p):0<=gi p k↔a_ f N k=false:=by rw[<-oO hP hw hk Wf];constructor;{intro h0;apply Rq;intro VT;have:=(h.2 k hk).2 VT;omega};{intro hs;rw[(h.2 k hk).1 hs];omega}
theorem GH{p:List Int}(h:zj f N wt N p){x:Nat}(hx:x<N):gi p x=iL f N wt x:=by unfold iL;by_cases Wf:wt x=true;{rw[Re Wf];obtain⟨m,m1,m2,m3,m4,-⟩:=pw hP hx;exact(h.2 x hx).1 ⟨m,m2,by rw[lA hP hw hx m1];exact Wf,m4,m3⟩};{rw[Rc Wf];refine(h.2 x hx).2 ?_;rintro⟨m,m1,m2,-,m3⟩;rw[lA hP hw m1 m3]at Wf;exact Wf m2}
end

theorem An{r r':Nat->Nat->Bool}{N:Nat}(hE:uy r N){P P':Nat->Bool}(hP:∀x y,x<N->y<N->r x y=true->P x=P y)
  (f:Nat->Nat)(hf:∀x,x<N->f x<N)(hr:∀x y,x<N->y<N->r (f x) (f y)=r' x y)(hp:∀x,x<N->P (f x)=P' x):
  cW (fun x=>fg r' x&&P' x) N<=cW (fun x=>fg r x&&P x) N:=by
 have hex:∀x,∃m,x<N->m<=f x/\r m (f x)=true/\fg r m=true:=by intro x;by_cases hx:x<N;{obtain⟨m,h⟩:=wU hE (hf x hx);exact⟨m,fun _=>h⟩};{exact⟨0,fun h=>absurd h hx⟩}
 obtain⟨g,hg⟩:=Sp hex;refine kB g (fun x hx hA=>?_) (fun x y hx hy hA hB e=>?_);{obtain⟨h1,h2,h3⟩:=hg x hx;rw[RA]at hA⊢;have Vg:g x<N:=S9 h1 (hf x hx);exact⟨Vg,h3,by rw[hP _ _ Vg (hf x hx) h2,hp x hx];exact hA.2⟩}
 ·obtain⟨a1,a2,a3⟩:=hg x hx
  obtain⟨b1,b2,b3⟩:=hg y hy;rw[RA]at hA hB;have V7:=hf x hx;have VJ:=hf y hy;have VS:g x<N:=oZ;rw[<-e]at b2;have Vw:=hE.tr _ _ _ V7 VS VJ (hE.sym _ _ VS V7 a2) b2;have hyx:=hE.sym _ _ V7 VJ Vw;rw[hr x y hx hy]at Vw;rw[hr y x hy hx]at hyx;rcases SK x y with h|h|h
  {have:=bY.1 hB.1 x h;rw[Vw]at this;cases this};{exact h};{have:=bY.1 hA.1 y h;rw[hyx]at this;cases this}
theorem IE{r r':Nat->Nat->Bool}{N:Nat}(hE:uy r N)(hE':uy r' N){P P':Nat->Bool}(hP:∀x y,x<N->y<N->r x y=true->P x=P y)
  (f g:Nat->Nat)(hf:∀x,x<N->f x<N)(hg:∀x,x<N->g x<N)(hfg:∀x,x<N->f (g x)=x)(hr:∀x y,x<N->y<N->r (f x) (f y)=r' x y)(hp:∀x,x<N->P (f x)=P' x):
  cW (fun x=>fg r' x&&P' x) N=cW (fun x=>fg r x&&P x) N:=by
 refine T_ (An hE hP f hf hr hp) ?_;refine An hE' (P:=P') (P':=P) (fun x y hx hy h=>?_) g hg (fun x y hx hy=>?_) (fun x hx=>?_);{rw[<-hr x y hx hy]at h;rw[<-hp x hx,<-hp y hy];exact hP _ _ (hf x hx) (hf y hy) h};{rw[<-hr _ _ (hg x hx) (hg y hy),hfg x hx,hfg y hy]};{rw[<-hp _ (hg x hx),hfg x hx]}
theorem yZ{f:Nat->Nat}{N:Nat}(hP:aO f N){x:Nat}(hx:x<N):fg (rc f N) x=a_ f N x:=by
 rw[R_,bY,dG];constructor
 ·intro h g hg
  have hgN:=dJ hP hx hg;rcases SN g x with h1|h1
  {have h2:=h g h1;rw[show rc f N g x=true from Rj (aL hP hx hg)]at h2;cases h2};{exact h1}
 {intro h y hy;rw[Sf];intro h1;have:=h y (aL hP oZ (RU h1));omega}
structure Alike(f f':Nat->Nat)(u v:Nat->Nat)(N:Nat):Prop where
 ul:∀x,x<N->u x<N
 vl:∀x,x<N->v x<N
 uv:∀x,x<N->u (v x)=x
 vu:∀x,x<N->v (u x)=x
 com:∀x,x<N->u (f' x)=f (u x)
section
variable{f f' u v:Nat->Nat}{N:Nat}(hA:Alike f f' u v N)(hP:aO f N)(Xl:aO f' N)
include hA Xl
theorem AE(k:Nat){x:Nat}(hx:x<N):u (it f' k x)=it f k (u x):=by
 induction k with
 |zero=>rfl
 |succ k ih=>show u (f' (it f' k x))=f (it f k (u x));rw[hA.com _ (Xl.bL k hx),ih]
include hP
theorem Fo{x y:Nat}(hx:x<N)(hy:y<N):rc f N (u x) (u y)=rc f' N x y:=by rw[R_,dY hP (hA.ul x hx),dY Xl hx];constructor;{rintro⟨k,h⟩;refine⟨k,?_⟩;rw[<-AE hA Xl k hx]at h;have:=congrArg v h;rwa [hA.vu _ (Xl.bL k hx),hA.vu _ hy]at this};{rintro⟨k,h⟩;exact⟨k,by rw[<-AE hA Xl k hx,h]⟩}
end

theorem mr(P:Nat->Bool):∀m,cW P m+cW (fun x=> !P x) m=m
 |0=>rfl
 |m+1=>by
  rw[aT,aT];have:=mr P m
  cases h:P m<;>simp<;>omega
theorem mA(P Q:Nat->Bool):∀m,cW P m=cW (fun x=>P x&&Q x) m+cW (fun x=>P x&& !Q x) m
 |0=>rfl
 |m+1=>by
  rw[aT,aT,aT,mA P Q m]
  cases h:P m<;>cases h':Q m<;>simp<;>omega

open Go.RowKit

def RL(w:World)(S:Nat->Prop)(A:Option Addr)(xss:List (List Int)):Prop:=
 xss≠[]->∃b off,A=some ⟨b,off,none⟩/\S b/\∀k,k<xss.length->∃Ak ck,w.cell? ⟨b,off+k,none⟩=some (.slice Ak (xss.getD k []).length ck)/\RI w S Ak (xss.getD k [])/\(xss.getD k []).length<=maxLen
theorem RL.at_{w:World}{S:Nat->Prop}{A:Option Addr}{xss:List (List Int)}(h:RL w S A xss){k:Nat}(hk:k<xss.length):
  ∃b off,A=some ⟨b,off,none⟩/\S b/\∀k,k<xss.length->∃Ak ck,w.cell? ⟨b,off+k,none⟩=some (.slice Ak (xss.getD k []).length ck)/\RI w S Ak (xss.getD k [])/\(xss.getD k []).length<=maxLen:=
 h (by intro e;subst e;simp at hk)
theorem RL.ak{w w':World}{S:Nat->Prop}{A:Option Addr}{xss:List (List Int)}(h:RL w S A xss)(hk:∀b,S b->w'.heap[b]?=w.heap[b]?):RL w' S A xss:=fun Vh=>by obtain⟨b,off,e,hb,hc⟩:=h Vh;refine⟨b,off,e,hb,fun k Vg=>?_⟩;obtain⟨Ak,ck,h1,h2,h3⟩:=hc k Vg;exact⟨Ak,ck,(Ri (a:=⟨b,off+k,none⟩) (hk b hb)).trans h1,h2.ak hk,h3⟩
theorem RL.imp{w:World}{S T:Nat->Prop}{A:Option Addr}{xss:List (List Int)}(h:RL w S A xss)(hS:∀b,S b->T b):RL w T A xss:=fun Vh=>by obtain⟨b,off,e,hb,hc⟩:=h Vh;refine⟨b,off,e,hS b hb,fun k Vg=>?_⟩;obtain⟨Ak,ck,h1,h2,h3⟩:=hc k Vg;exact⟨Ak,ck,h1,h2.imp hS,h3⟩
theorem RR.reads{eo:TypeId}{w:World}{N:Nat}{F:Nat->Prop}{v:Value}{xss:List (List Int)}(h:RR eo w N F v xss):∃A c,v= .slice A xss.length c/\RL w (fun b=>N<=b/\b<w.heap.size) A xss:=by
 obtain⟨A,c,rfl,-,-,-⟩:=h.shape;refine⟨A,c,rfl,fun Vh=>?_⟩;have Xg:0<xss.length:=by
  rcases Se xss.length with h0|h0
  {exact absurd (Sh h0) Vh};{exact h0}
 obtain⟨g,c0,A0,c0',hv,Vs,Vv,-⟩:=h.at_ Xg;injection hv with e1 _ _
 refine⟨g,0,e1,⟨Vs,Vv⟩,fun k hk=>?_⟩;obtain⟨g',c1,Ak,ck,hv',-,-,h1,h2,h3⟩:=h.at_ hk;injection hv' with e1' _ _
 rw[e1]at e1';injection e1' with e1'
 injection e1' with e1'
 subst e1';exact⟨Ak,ck,by rw[Sr];exact h1,h2,h3⟩
theorem Qa{ops:Array Oper}{rest:List Oper}{o:Oper}{a:Act}{Q:Exit->Act->World->Prop}{w:World}{n:Nat}{s x:Operand}{t tn:TypeId}(h0:0<n)(hn:n<=1099511627776)
  (XO:o.guard=none)(ho:o.op= .call {callee:= .builtin .append,args:=#[s,x],argTypes:=#[t,tn]})
  (ht:Tryz.prog.underlying t=some (.slice 3))(htn:Tryz.prog.underlying tn=some (.int .i64))(hs:a.eval s= .slice none 0 0)(hx:a.eval x= .int .i64 n)
  (h:∀c w',n<=c->c<=maxLen->w'.ownsRow w.heap.size 3 1 (.slice (some ⟨w.heap.size,0,none⟩) 0 c) 0 []->Below w.heap.size w w'->wpList Tryz.prog ops Q rest (a.put o.dst (.slice (some ⟨w.heap.size,0,none⟩) n c)) w'):
  wpList Tryz.prog ops Q (o::rest) a w:=by
 obtain⟨i0,hi,V6,VU,VN⟩:=S7 fU;refine Ut XO fun _ hK=>?_
 have VG:=Lib.run_append_nil_zeros (P:=Tryz.prog) w t tn o.type 3 i0 (.int .i64 0) .i64 .i64 ht htn hi V6 n h0 (by rw[VU];decide) oZ (by rw[VN];omega);have h1:=grownCap_ge w n 0 3;have h2:=grownCap_le_maxLen w n 0 3 (by unfold maxLen;omega);unfold Oper.wp execOp;simp only[ho,resolve,invoke,builtin,TI,TJ,SV,S_,Tk,Tw,hs,hx,VG];refine hK _ _ (h _ _ h1 h2 ?_ ((Rh _ w).drew.alloc (Rf _) _));exact World.ownsRow_made (w:=w.drew) _ _ (Rf _) h2 (by have e:(Value.int .i64 0).cells.size=1:=rfl;simp[Builtin.zeroCells,e];omega)
theorem IT(n:Nat)(hn:n<=1099511627776)(w:World):
  Calls Tryz.prog 100 #[.slice none 0 0,.int .i64 n] w fun e w'=>∃v,e= .returned v/\OI w' w.heap.size v []/\Below w.heap.size w w':=by
 have x1:IntKind.i64.wrap ((n:Int)-0)=(n:Int):=SF _ oZ;by_cases h0:n=0
 ·subst h0
  go_enter Tryz.func100,Tryz.ntmps100
  go_wp2_with fail;go_ret;exact⟨_,rfl,OR.nil _ _,Rh _ _⟩
 ·have hp:0<n:=oZ
  go_enter Tryz.func100,Tryz.ntmps100
  go_wp2_with(at_builtin;refine Qa hp hn rfl rfl Tryz.underlying22 Tryz.underlying3 rfl rfl ?_;intro c w' h1 h2 ho hb;have HO:=Rb ho;have HB:=Rb hb;clear ho hb);go_ret;exact⟨_,rfl,HO.out,HB.out⟩
theorem pK{xss:List (List Int)}{i:Nat}(hi:i<xss.length):(xss.take (i+1)).flatten=(xss.take i).flatten++xss.getD i []:=by rw[Uy,List.flatten_append,Rw,RH hi];simp
theorem CO(xss:List (List Int))(i:Nat):((xss.take i).flatten).length<=xss.flatten.length:=by
 have e:xss.flatten=(xss.take i).flatten++(xss.drop i).flatten:=by rw[<-List.flatten_append,List.take_append_drop]
 rw[e,Rz];omega
theorem rP{w:World}{A:Option Addr}{c:Nat}{xss:List (List Int)}(h:RL w (·<w.heap.size) A xss)(hl:xss.length<=1000000)(hf:xss.flatten.length<=1000000):
  Calls Tryz.prog 77 #[.slice A xss.length c] w fun e w'=>∃v,e= .returned v/\OI w' w.heap.size v xss.flatten/\Below w.heap.size w w':=by
 have HX:=Rb h;have HF:=Rb hf;obtain⟨n,hn⟩:∃n,xss.length=n:=⟨_,rfl⟩
 have HN:=Rb hn;rw[hn]at hl⊢;clear h hf hn;go_enter Tryz.func77,Tryz.ntmps77
 go_wp2_with fail;go_loopw[3,11] (fun s i' wr=>∃(i z:Nat),i<=n/\i'= .int .i64 i/\s= .int .i64 z/\Hid (z=((xss.take i).flatten).length)/\z<=1000000/\w=wr) (fun _ i _=>n-(intOf i).toNat)
 case atStart=>exact⟨0,0,Rv _,rfl,rfl,by simp[Hid],Rv _,rfl⟩
 case round=>
  obtain⟨i,z,hi,rfl,rfl,HZ,hz,rfl⟩:=hrel;by_cases Vg:i<n
  ·obtain⟨b,off,rfl,-,hc⟩:=HX.out.at_ (k:=i) (by rw[HN.out];exact Vg)
   obtain⟨Ai,ci,c1,-,Xw⟩:=hc i (by rw[HN.out];exact Vg);obtain⟨l,W7⟩:∃l,(xss.getD i []).length=l:=⟨_,rfl⟩
   rw[W7]at c1 Xw;obtain⟨z2,VN⟩:∃z2,z+l=z2:=⟨_,rfl⟩
   have Zd:Hid (z2=((xss.take (i+1)).flatten).length):=Rb (by rw[pK (by rw[HN.out];exact Vg),Rz,<-HZ.out,W7,VN]);have hz3:z2<=1000000:=by rw[Zd.out];exact RQ (CO _ _) HF.out
   have x1:IntKind.i64.wrap ((z:Int)+(l:Int))=(z2:Int):=by rw[<-VN,Int.natCast_add];exact SF _ oZ
   clear hc W7 VN HZ;go_wp2_with fail;go_roundw
   case rel=>exact⟨i+1,z2,oZ,by go_num,rfl,Zd,hz3,by trivial⟩
   case measure=>simp[intOf];omega
  ·obtain rfl:i=n:=oZ
   go_wp2_with fail;refine(IT z oZ w).mono ?_;rintro e w1 ⟨v1,rfl,ho,hb⟩;have HO1:=Rb ho;have Vr:=Rb hb;have HX1:=Rb (HX.out.ak (w':=w1) fun b Vg=>hb.block b Vg);clear ho hb HZ;go_wp2_with fail;go_loopw[6,27] (fun v j' wr=>∃j:Nat,j<=i/\j'= .int .i64 j/\Hid (OI wr w.heap.size v ((xss.take j).flatten))/\Hid (Below w.heap.size w wr)) (fun _ j _=>i-(intOf j).toNat)
   case atStart=>exact⟨0,Rv _,rfl,by simpa[Hid]using HO1.out,Vr.out⟩
   case round=>
    obtain⟨j,hj,rfl,HO,HB⟩:=hrel;by_cases hltj:j<i
    ·obtain⟨b,off,rfl,-,hc⟩:=(HX.out.ak (w':=wr) fun b Vg=>HB.out.block b Vg).at_ (k:=j) (by rw[HN.out];exact hltj)
     obtain⟨Aj,cj,c1,hr,Xw⟩:=hc j (by rw[HN.out];exact hltj);have VI:=HB.out.size;obtain⟨Av,kv,rfl,-,-,-⟩:=HO.out.shape;have HR:=Rb hr;have WR:Hid (((xss.take j).flatten).length+(xss.getD j []).length<1099511627776):=Rb (by
      have:=CO xss (j+1);rw[pK (by rw[HN.out];exact hltj),Rz]at this;have:=HF.out;omega)
     clear hc hr;go_wp2_with(at_builtin;refine J_ HO.out HR.out WR.out VI rfl rfl Tryz.underlying22 rfl rfl ?_;intro v' w' ho hg Vu);have Za:Hid (OI w' w.heap.size v' ((xss.take (j+1)).flatten)):=Rb (by rw[pK (by rw[HN.out];exact hltj)];exact ho);have VD:Hid (Below w.heap.size w w'):=Rb (HB.out.grown hg VI fun k hk=>(HO.out.lt k hk).1);clear ho hg Vu HO HB HR;go_roundw
     case rel=>exact⟨j+1,oZ,by go_num,Za,VD⟩
     case measure=>simp[intOf];omega
    {obtain rfl:j=i:=oZ;have HE:Hid ((xss.take j).flatten=xss.flatten):=Rb (by rw[Ux (by rw[HN.out];exact Rf _)]);go_wp2_with fail;go_ret;exact⟨_,rfl,by rw[<-HE.out];exact HO.out,HB.out⟩}
theorem vJ(A:Option Addr)(c:Nat)(xs:List Int)(w:World)(S:Nat->Prop)(hx:RI w S A xs)(hS:∀b,S b->b<w.heap.size)(hm:xs.length<1099511627776):
  Calls Tryz.prog 83 #[.slice A xs.length c] w fun e w'=>∃v,e= .returned v/\OI w' w.heap.size v xs/\Below w.heap.size w w':=by
 have qT:∀(w:World)(a:Option Addr)(n c n' c':Nat),(binOp .eql 22 (.slice a n c) (.slice none n' c')).run Tryz.prog w= .ok (.bool a.isNone) w:=fun w a n c n' c'=>Lib.run_eql_slice_nil w _ _ a n c n' c' Tryz.underlying22
 rcases A with _|ad
 ·have hy:xs=[]:=by
   rcases xs with _|⟨y,ys⟩
   {rfl};{obtain⟨b,off,he,_⟩:=hx oX;cases he}
  subst hy;go_enter Tryz.func83,Tryz.ntmps83
  go_wp2;go_ret;exact⟨_,rfl,OR.nil _ _,Rh _ _⟩
 ·have hx':RI (w.alloc (.cells #[] 3)) S (some ad) xs:=hx.ak fun b hb=>Rx w _ b (hS b hb)
  have Vq:OI (w.alloc (.cells #[] 3)) w.heap.size (.slice (some ⟨w.heap.size,0,none⟩) 0 0) []:=by have:=OR.made (e:=3) (f:=Value.int .i64) (xs:=[]) w w.heap.size #[] (Rf _) oX oX;simpa using this
  go_enter Tryz.func83,Tryz.ntmps83
  go_wp2_with(at_builtin;refine J_ Vq hx' (by simpa using hm) oX rfl rfl Tryz.underlying22 rfl rfl ?_;intro v' w' ho hg Vu);go_ret;exact⟨_,rfl,ho,((Rh _ _).alloc (Rf _) _).grown hg oX (by intro k hk;simp[Value.ownBlock]at hk;omega)⟩
structure dz(w:World)(B:Nat)(v1 v2:Value)(sg mt:List Int):Prop where
 os:OI w B v1 sg
 om:OI w B v2 mt
 ne:∀g,v1.ownBlock=some g->v2.ownBlock≠some g
def jR(sg mt:List Int)(L:Int)(w:World)(e:Ending)(w':World):Prop:=
 ∃v1 v2,e= .returned (.agg #[v1,v2,.int .i64 L])/\dz w' w.heap.size v1 v2 sg mt/\Below w.heap.size w w'
theorem dz.below{w w':World}{B C:Nat}{v1 v2:Value}{sg mt:List Int}(h:dz w B v1 v2 sg mt)(hb:Below C w w')(hC:w.heap.size<=C):dz w' B v1 v2 sg mt:=
 ⟨h.os.below hb hC,h.om.below hb hC,h.ne⟩
theorem dz.mono{w:World}{B B':Nat}{v1 v2:Value}{sg mt:List Int}(h:dz w B v1 v2 sg mt)(hB:B'<=B):dz w B' v1 v2 sg mt:=⟨h.os.mono hB,h.om.mono hB,h.ne⟩
structure fD(w:World)(b:Nat):Prop where
 z0:w.cell? ⟨b,0,none⟩=some (.slice none 0 0)
 z1:w.cell? ⟨b,1,none⟩=some (.slice none 0 0)
 z2:w.cell? ⟨b,2,none⟩=some (.int .i64 0)
 f0:w.frozen? ⟨b,0,none⟩=false
 f1:w.frozen? ⟨b,1,none⟩=false
 f2:w.frozen? ⟨b,2,none⟩=false
 lt:b<w.heap.size
theorem fD.below{w w':World}{b:Nat}(h:fD w b)(hb:Below w.heap.size w w'):fD w' b:=
 ⟨(hb.cell (p:=⟨b,0,none⟩) h.lt).trans h.z0,(hb.cell (p:=⟨b,1,none⟩) h.lt).trans h.z1,(hb.cell (p:=⟨b,2,none⟩) h.lt).trans h.z2,
  (hb.frozen (p:=⟨b,0,none⟩) h.lt).trans h.f0,(hb.frozen (p:=⟨b,1,none⟩) h.lt).trans h.f1,(hb.frozen (p:=⟨b,2,none⟩) h.lt).trans h.f2,RB h.lt hb.size⟩
theorem fD.drew{w:World}{b:Nat}(h:fD w b):fD w.drew b:=
 ⟨by simpa using h.z0,by simpa using h.z1,by simpa using h.z2,by simpa using h.f0,by simpa using h.f1,by simpa using h.f2,by simpa using h.lt⟩
theorem fD.new{w:World}{b:Nat}(h:w.heap[b]?=some (.cells #[.slice none 0 0,.slice none 0 0,.int .i64 0] 24 (0,0)))(Vg:b<w.heap.size):fD w b:=by refine⟨?_,?_,?_,RD _ _ _ _ _ h,RD _ _ _ _ _ h,RD _ _ _ _ _ h,Vg⟩<;>(rw[Rt _ _ _ _ _ _ h];rfl)
theorem EH{w W w1 w2:World}{sg mt:List Int}{v1 v2:Value}(hb:Below w.heap.size w W)(hs:W.heap.size=w.heap.size+2)(Vi:Below W.drew.heap.size W.drew w1)(YS:OI w1 W.drew.heap.size v1 sg)(Vj:Below w1.heap.size w1 w2)(Zc:OI w2 w1.heap.size v2 mt)(x y z:Value):
  dz (((w2.setCell ⟨w.heap.size+1,0,none⟩ x).setCell ⟨w.heap.size+1,1,none⟩ y).setCell ⟨w.heap.size+1,2,none⟩ z) w.heap.size v1 v2 sg mt/\
  Below w.heap.size w (((w2.setCell ⟨w.heap.size+1,0,none⟩ x).setCell ⟨w.heap.size+1,1,none⟩ y).setCell ⟨w.heap.size+1,2,none⟩ z):=by
 have hsd:W.drew.heap.size=w.heap.size+2:=by simpa using hs
 have VV:=Vi.size;have V1:∀g,w.heap.size+1<g->(((w2.setCell ⟨w.heap.size+1,0,none⟩ x).setCell ⟨w.heap.size+1,1,none⟩ y).setCell ⟨w.heap.size+1,2,none⟩ z).heap[g]?=w2.heap[g]?:=fun g hg=>by rw[Rn _ _ _ g qj,Rn _ _ _ g qj,Rn _ _ _ g qj]
 refine⟨⟨?_,?_,fun g Vs Vv=>?_⟩,?_⟩;{exact((YS.below Vj (Rf _)).ak fun g hg=>V1 g (by have:=(YS.lt g hg).1;omega)).mono oZ};{exact(Zc.ak fun g hg=>V1 g (by have:=(Zc.lt g hg).1;omega)).mono oZ};{have h1:=(YS.lt g Vs).2;have h2:=(Zc.lt g Vv).1;omega};{have h1:Below w.heap.size w w2:=(hb.drew.trans (Vi.mono oZ)).trans (Vj.mono oZ);exact((h1.setCell oX _).setCell oX _).setCell oX _}
theorem sm(A1 A2:Option Addr)(c1 c2:Nat)(sg mt:List Int)(L:Int)(w:World)(S:Nat->Prop)(hx:RI w S A1 sg)(hy:RI w S A2 mt)(hS:∀b,S b->b<w.heap.size)(VL:sg.length<1099511627776)(Wb:mt.length<1099511627776):
  Calls Tryz.prog 57 #[.agg #[.slice A1 sg.length c1,.slice A2 mt.length c2,.int .i64 L]] w (jR sg mt L w):=by
 have X9:=bI.start (c1:=c1) (c2:=c2) (L:=L) S hx hy hS;have Wn:Below w.heap.size w (w.alloc (.cells #[.slice A1 sg.length c1,.slice A2 mt.length c2,.int .i64 L] 24)):=(Rh _ _).alloc (Rf _) _;have WO:(w.alloc (.cells #[.slice A1 sg.length c1,.slice A2 mt.length c2,.int .i64 L] 24)).heap.size=w.heap.size+1:=oX;have V6:=Ru (w.alloc (.cells #[.slice A1 sg.length c1,.slice A2 mt.length c2,.int .i64 L] 24)) (.cells #[.slice none 0 0,.slice none 0 0,.int .i64 0] 24);have XR:=X9.below ((Rh _ _).alloc (Rf _) (.cells #[.slice none 0 0,.slice none 0 0,.int .i64 0] 24));have Vi:=Wn.alloc oX (.cells #[.slice none 0 0,.slice none 0 0,.int .i64 0] 24);clear hx hy hS;go_enter Tryz.func57,Tryz.ntmps57
 go_wp2_with fail;generalize hW:(w.alloc (.cells #[.slice A1 sg.length c1,.slice A2 mt.length c2,.int .i64 L] 24)).alloc (.cells #[.slice none 0 0,.slice none 0 0,.int .i64 0] 24)=W at*;rw[WO]at V6;have hsW:W.heap.size=w.heap.size+2:=by rw[<-hW];simp
 have HD:=Rb XR;have HB:=Rb Vi;have HZ:=Rb V6;have HS:=Rb hsW;clear X9 XR Wn Vi WO V6 hsW hW;have k0:=HD.out.c0;have k1:=HD.out.c1;have k2:=HD.out.c2;have HZ0:=Rb ((fD.new HZ.out (by have:=HS.out;omega)).drew);have HM1:=Rb VL;have HM2:=Rb Wb;have HDd:=Rb HD.out.drew;clear VL Wb
 go_region_with(first
  |(go_at_call 83;with_reducible (show Calls _ _ #[Value.slice A1 sg.length c1] _ _);refine(vJ A1 c1 sg W.drew (·<W.drew.heap.size) HDd.out.rs (fun _ h=>h) HM1.out).mono ?_;rintro e w1 ⟨v1,rfl,YS,Vi⟩;have Vr:=Rb Vi;have HO1:=Rb YS;have Vp:=Rb (HDd.out.below Vi);have YT:=Rb (HZ0.out.below Vi);have j1:=Vp.out.c1;have j2:=Vp.out.c2;clear Vi YS)
  |(go_at_call 83;with_reducible (show Calls _ _ #[Value.slice A2 mt.length c2] _ _);refine(vJ A2 c2 mt w1 (·<w1.heap.size) Vp.out.rm (fun _ h=>h) HM2.out).mono ?_;rintro e w2 ⟨v2,rfl,Zc,Vj⟩;have VD:=Rb Vj;have Za:=Rb Zc;have Ws:=Rb (Vp.out.below Vj);have l2:=Ws.out.c2;have Zd:=Rb (YT.out.below Vj);have y0:=Zd.out.z0;have y1:=Zd.out.z1;have y2:=Zd.out.z2;have g0:=Zd.out.f0;have g1:=Zd.out.f1;have g2:=Zd.out.f2;obtain⟨a1,d1,rfl,-,-,-⟩:=HO1.out.shape;obtain⟨a2,d2,rfl,-,-,-⟩:=Za.out.shape;clear Vj Zc))
 all_goals
  have hend:=EH HB.out HS.out Vr.out HO1.out VD.out Za.out (.slice a1 sg.length d1) (.slice a2 mt.length d2) (.int .i64 L);have WJ:=Rb hend;clear hend k0 k1 k2 j1 j2 l2 g0 g1 g2 HD HZ HS HZ0 HM1 HM2 HDd Vr Vp YT VD Ws Zd HO1 Za HB;go_wp2_with fail;refine RC (v:= .agg #[.slice a1 sg.length d1,.slice a2 mt.length d2,.int .i64 L]) (by simp[results,Tryz.results57,go_sem,y0,y1,y2]) rfl ?_;exact⟨_,_,rfl,WJ.out.1,WJ.out.2⟩
theorem OE{W0 W:World}{g:Nat}{P Q:Option Addr}{p q:Nat}{xs ys:List Int}(h1:RI W0 (·<W0.heap.size) P xs)(h2:RI W0 (·<W0.heap.size) Q ys)(hx:xs.length<=100000)(hy:ys.length<=100000)(hB:Below W0.heap.size W0 W)
  (c0:W.cell? ⟨g,0,none⟩=some (.slice P xs.length p))(c1:W.cell? ⟨g,1,none⟩=some (.slice Q ys.length q)):
  Calls Tryz.prog 77 #[.slice (some ⟨g,0,none⟩) 2 2] W fun e w'=>∃A c,e= .returned (.slice A (xs.length+ys.length) c)/\OI w' W.heap.size (.slice A (xs.length+ys.length) c) (xs++ys)/\Below W0.heap.size W0 w'/\Below W.heap.size W w'/\W0.heap.size<=W.heap.size:=by
 have hg:g<W.heap.size:=RX W _ c0;have hr:RL W (·<W.heap.size) (some ⟨g,0,none⟩) [xs,ys]:=fun _=>⟨g,0,rfl,hg,fun k hk=>by
  have VH:k=0\/k=1:=by simp at hk;omega
  rcases VH with rfl|rfl
  {exact⟨P,p,c0,(h1.below hB).imp fun _ hb=>RB hb hB.size,by unfold maxLen;simp;omega⟩}
  ·exact⟨Q,q,c1,(h2.below hB).imp fun _ hb=>RB hb hB.size,by unfold maxLen;simp;omega⟩⟩
 refine(rP (c:=2) hr oX qj).mono ?_;rintro e w' ⟨v,rfl,ho,hb⟩;have e:[xs,ys].flatten=xs++ys:=oX;rw[e]at ho;obtain⟨A,c,rfl,-,-,-⟩:=ho.shape;rw[Rz]at ho⊢;exact⟨A,c,rfl,ho,hB.trans (hb.mono hB.size),hb,hB.size⟩
theorem jM{X W:World}{a:Addr}{v:Value}(hb:Below X.heap.size X W)(hc:X.cell? a=some v):W.cell? a=some v:=(hb.cell (RX X a hc)).trans hc
theorem qt{W:World}{o:Obj}{a:Addr}{v:Value}(hc:W.cell? a=some v):(W.alloc o).cell? a=some v:=(Sm W o a (RX W a hc)).trans hc
theorem zv{W:World}{a:Addr}{v:Value}(hc:W.cell? a=some v):W.drew.cell? a=some v:=hc
theorem qH{W:World}{b o:Nat}{v:Value}{c:Array Value}{t:TypeId}(h:b=W.heap.size)(hv:c[o]?=some v):(W.alloc (.cells c t)).cell? ⟨b,o,none⟩=some v:=by subst h;rw[RT];exact hv
theorem jU{w0 W:World}{a:Addr}(hb:w0.heap.size<=a.block)(h:Below w0.heap.size w0 W)(v:Value):Below w0.heap.size w0 (W.setCell a v):=h.setCell hb v
theorem xj{G P:Prop}(g:G)(h:G->P):P:=h g
theorem lK{w0 W:World}(h:Below w0.heap.size w0 W)(o:Obj):Below w0.heap.size w0 (W.alloc o):=h.alloc h.size o
theorem LM{W:World}{b:Nat}(h:b=W.heap.size):fD (W.alloc (.cells #[.slice none 0 0,.slice none 0 0,.int .i64 0] 24)) b:=by subst h;exact fD.new (Ru W _) oX
structure GV(wx:World)(B b:Nat)(v1 v2:Value)(xs ys:List Int)(K:Int):Prop where
 c0:wx.cell? ⟨b,0,none⟩=some v1
 c1:wx.cell? ⟨b,1,none⟩=some v2
 c2:wx.cell? ⟨b,2,none⟩=some (.int .i64 K)
 o1:OI wx B v1 xs
 o2:OI wx B v2 ys
 ne:∀g,v1.ownBlock=some g->v2.ownBlock≠some g
 nb:v2.ownBlock≠some b
 lo:B<=b
section
variable{wx w':World}{B b n g c k:Nat}{v1 v2:Value}{xs ys:List Int}{K:Int}
theorem GV.call(h:GV wx B b v1 v2 xs ys K)(hb:Below wx.heap.size wx w'):GV w' B b v1 v2 xs ys K:=
 ⟨jM hb h.c0,jM hb h.c1,jM hb h.c2,h.o1.below hb (Rf _),h.o2.below hb (Rf _),h.ne,h.nb,h.lo⟩
structure wv(w:World)(b:Nat):Prop where
 z:fD w b
 t:∃cs,w.heap[b]?=some (.cells cs 24 (0,0))
theorem wv.below{w:World}(h:wv w b)(hb:Below w.heap.size w w'):wv w' b:=⟨h.z.below hb,by obtain⟨cs,h1⟩:=h.t;exact⟨cs,by rw[hb.block b h.z.lt];exact h1⟩⟩
theorem wv.drew{w:World}(h:wv w b):wv w.drew b:=⟨h.z.drew,h.t⟩
theorem KB{w:World}(h:wv w b)(o:Obj):wv (w.alloc o) b:=h.below ((Rh _ _).alloc (Rf _) _)
theorem Mp{w:World}(h:b=w.heap.size):wv (w.alloc (.cells #[.slice none 0 0,.slice none 0 0,.int .i64 0] 24)) b:=by subst h;exact⟨LM rfl,_,Ru w _⟩
theorem Hg{w:World}{v:Value}(h:OI w B v xs)(hz:∃cs,w.heap[b]?=some (.cells cs 24 (0,0))):v.ownBlock≠some b:=fun e=>by
 obtain⟨cs,hT⟩:=hz;rcases h.2 with⟨rfl,-⟩|⟨g',c',cur,rfl,-,hh,-⟩
 {cases e}
 ·have e2:g'=b:=by injection e
  subst e2;rw[hh]at hT;injection hT with hT
  injection hT with _ hT
  exact absurd hT oQ
theorem O1{w0 X:World}{v:Value}(h:Below w0.heap.size w0 X)(hc:Below X.heap.size X w')(ho:OI w' X.heap.size v xs):Below w0.heap.size w0 w'/\OI w' w0.heap.size v xs:=⟨h.trans (hc.mono h.size),ho.mono h.size⟩
structure NM(wx:World)(N:Nat)(v1 v2:Value)(xs ys:List Int):Prop where
 o1:OI wx N v1 xs
 o2:OI wx N v2 ys
 ne:∀g,v1.ownBlock=some g->v2.ownBlock≠some g
theorem Of{wS wM:World}{N:Nat}(h1:OI wS N v1 xs)(hj:Below wS.heap.size wS wM/\OI wM wS.heap.size v2 ys)(hN:N<=wS.heap.size):NM wM N v1 v2 xs ys:=
 ⟨h1.below hj.1 (Rf _),hj.2.mono hN,fun g e1 e2=>by have:=(h1.lt g e1).2;have:=(hj.2.lt g e2).1;omega⟩
theorem tN{N:Nat}(h:NM wx N v1 v2 xs ys)(hN:B<=N)(hl:N<=wx.heap.size):GV (wx.alloc (.cells #[v1,v2,.int .i64 K] 24)) B wx.heap.size v1 v2 xs ys K:=by have hb:Below wx.heap.size wx (wx.alloc (.cells #[v1,v2,.int .i64 K] 24)):=(Rh _ _).alloc (Rf _) _;exact⟨qH rfl rfl,qH rfl rfl,qH rfl rfl,(h.o1.below hb (Rf _)).mono hN,(h.o2.below hb (Rf _)).mono hN,h.ne,fun e=>by have:=(h.o2.lt _ e).2;omega,oZ⟩
theorem Hu{N:Nat}(h:NM wx N v1 v2 xs ys)(hz:wv wx b)(hN:B<=N)(hl:B<=b):GV (((wx.setCell ⟨b,0,none⟩ v1).setCell ⟨b,1,none⟩ v2).setCell ⟨b,2,none⟩ (.int .i64 K)) B b v1 v2 xs ys K:=by
 have n1:=Hg h.o1 hz.t;have n2:=Hg h.o2 hz.t;have hk:∀g,g≠b->(((wx.setCell ⟨b,0,none⟩ v1).setCell ⟨b,1,none⟩ v2).setCell ⟨b,2,none⟩ (.int .i64 K)).heap[g]?=wx.heap[g]?:=fun g hg=>by rw[Rn _ _ _ g hg,Rn _ _ _ g hg,Rn _ _ _ g hg]
 have ne:∀i j:Nat,i≠j->(⟨b,i,none⟩:Addr)≠⟨b,j,none⟩:=fun i j hij e=>by injection e with _ e;exact hij e
 refine⟨?_,?_,?_,(h.o1.ak fun g hg=>hk g fun e=>n1 (e▸hg)).mono hN,(h.o2.ak fun g hg=>hk g fun e=>n2 (e▸hg)).mono hN,h.ne,n2,hl⟩;{rw[R4 (h:=ne 2 0 oQ),R4 (h:=ne 1 0 oQ)];exact Ss (h:=hz.z.z0) ..};{rw[R4 (h:=ne 2 1 oQ)];exact Ss (h:=(R4 (h:=ne 0 1 oQ) ..).trans hz.z.z1) ..};{exact Ss (h:=(R4 (h:=ne 1 2 oQ) ..).trans ((R4 (h:=ne 0 2 oQ) ..).trans hz.z.z2)) ..}
end
def qC(byF:Nat->Nat->Int)(h:Nat):Nat:=ae h (byF (h/4) (h%4)%4).toNat
theorem M7{byF:Nat->Nat->Int}{h n:Nat}(hh:h<4*n):qC byF h<4*n:=lq hh
theorem qX{byF:Nat->Nat->Int}{h:Nat}:qC byF h/4=h/4:=af ..
structure BN(sg mt:List Int)(byF:Nat->Nat->Int)(sgF:Nat->Int)(q r:List Int):Prop where
 ql:q.length=sg.length
 rl:r.length=mt.length
 qe:∀c,c<sg.length->gi q c=gi sg c*sgF c
 re:∀h,h<mt.length->gi r (qC byF h)=(qC byF (gn mt h):Int)
def Qn(sg:List Int)(sgF:Nat->Int)(k:Nat)(q:List Int):Prop:=q.length=sg.length/\∀c,c<k->gi q c=gi sg c*sgF c
def Ps(mt:List Int)(byF:Nat->Nat->Int)(k:Nat)(r:List Int):Prop:=r.length=mt.length/\∀h,h<k->gi r (qC byF h)=(qC byF (gn mt h):Int)
theorem Gw{sg q:List Int}{sgF:Nat->Int}{k:Nat}(hk:k<sg.length)(h:Qn sg sgF k q):Qn sg sgF (k+1) (q.set k (gi sg k*sgF k)):=by refine⟨by rw[Ry];exact h.1,fun c hc=>?_⟩;rw[dB (by rw[h.1];exact hk)];by_cases e:c=k;{subst e;rw[Re rfl]};{rw[Rc e];exact h.2 c oZ}
theorem G5{mt r:List Int}{byF:Nat->Nat->Int}{k:Nat}(hi:∀a b,a<mt.length->b<mt.length->qC byF a=qC byF b->a=b)(hk:k<mt.length)(hl:qC byF k<mt.length)(h:Ps mt byF k r):
  Ps mt byF (k+1) (r.set (qC byF k) (qC byF (gn mt k):Int)):=by
 refine⟨by rw[Ry];exact h.1,fun c hc=>?_⟩;rw[dB (by rw[h.1];exact hl)];by_cases e:c=k;{subst e;rw[Re rfl]};{rw[Rc fun e'=>e (hi _ _ oZ hk e')];exact h.2 c oZ}
def Nt(K:Nat)(lb:Array Value)(n:Nat)(byF:Nat->Nat->Int)(w:World):Prop:=∀(c x:Nat)(W:World),c<n->x<4->Below w.heap.size w W->
 Calls Tryz.prog K (#[.int .i64 c,.int .i64 x]++lb) W fun e w'=>e= .returned (.int .i64 (byF c x))/\Below W.heap.size W w'
def O0(K:Nat)(lb:Array Value)(n:Nat)(sgF:Nat->Int)(w:World):Prop:=∀(c:Nat)(W:World),c<n->Below w.heap.size w W->
 Calls Tryz.prog K (#[.int .i64 c]++lb) W fun e w'=>e= .returned (.int .i64 (sgF c))/\Below W.heap.size W w'
theorem kY{w:World}{g n B:Nat}(h:w.heap[g]?=some (.cells (Array.replicate n (Value.int .i64 0)) 3 (0,0)))(hB:B<=g)(hn:n<=maxLen):OI w B (.slice (some ⟨g,0,none⟩) n n) (List.replicate n 0):=
 ⟨oX,.inr ⟨g,n,_,oX,hB,h,oX,hn,oX,oX⟩⟩
structure jY(w0 w:World)(A1 A2:Option Addr)(c1 c2:Nat)(sg mt:List Int)(L:Int)(vb:Value):Prop where
 c0:w.cell? ⟨w0.heap.size,0,none⟩=some (.slice A1 sg.length c1)
 c1:w.cell? ⟨w0.heap.size,1,none⟩=some (.slice A2 mt.length c2)
 c2:w.cell? ⟨w0.heap.size,2,none⟩=some (.int .i64 L)
 cb:w.cell? ⟨w0.heap.size+1,0,none⟩=some vb
 rs:RI w (·<w0.heap.size) A1 sg
 rm:RI w (·<w0.heap.size) A2 mt
 zb:fD w (w0.heap.size+2)
 bel:Below w0.heap.size w0 w
section
variable{w0 w w':World}{A1 A2:Option Addr}{c1 c2:Nat}{sg mt:List Int}{L:Int}{vb:Value}
theorem jY.ak(h:jY w0 w A1 A2 c1 c2 sg mt L vb)(hk:∀b,b<w0.heap.size+3->w'.heap[b]?=w.heap[b]?)(hs:w.heap.size<=w'.heap.size)(VF:Below w0.heap.size w0 w'):jY w0 w' A1 A2 c1 c2 sg mt L vb:=by
 have hz:=h.zb;refine⟨(Ri (a:=⟨w0.heap.size,0,none⟩) (hk _ oX)).trans h.c0,(Ri (a:=⟨w0.heap.size,1,none⟩) (hk _ oX)).trans h.c1,(Ri (a:=⟨w0.heap.size,2,none⟩) (hk _ oX)).trans h.c2,
  (Ri (a:=⟨w0.heap.size+1,0,none⟩) (hk _ oX)).trans h.cb,h.rs.ak fun b Vg=>hk b oZ,h.rm.ak fun b Vg=>hk b oZ,?_,VF⟩
 have e:=hk (w0.heap.size+2) oZ;exact⟨(Ri (a:=⟨w0.heap.size+2,0,none⟩) e).trans hz.z0,(Ri (a:=⟨w0.heap.size+2,1,none⟩) e).trans hz.z1,(Ri (a:=⟨w0.heap.size+2,2,none⟩) e).trans hz.z2,
  (Ro (a:=⟨w0.heap.size+2,0,none⟩) e).trans hz.f0,(Ro (a:=⟨w0.heap.size+2,1,none⟩) e).trans hz.f1,(Ro (a:=⟨w0.heap.size+2,2,none⟩) e).trans hz.f2,RB hz.lt hs⟩
theorem jY.lt(h:jY w0 w A1 A2 c1 c2 sg mt L vb):w0.heap.size+2<w.heap.size:=h.zb.lt
theorem jY.call(h:jY w0 w A1 A2 c1 c2 sg mt L vb)(hb:Below w.heap.size w w'):jY w0 w' A1 A2 c1 c2 sg mt L vb:=
 h.ak (fun b Vg=>hb.block b (by have:=h.lt;omega)) hb.size (h.bel.trans (hb.mono h.bel.size))
theorem jY.other(h:jY w0 w A1 A2 c1 c2 sg mt L vb){g:Nat}(hg:w0.heap.size+2<g)(k:Nat)(v:Value):jY w0 (w.setCell ⟨g,k,none⟩ v) A1 A2 c1 c2 sg mt L vb:=
 h.ak (fun b Vg=>Rn w _ _ b (by show b≠g;omega)) oX (h.bel.setCell (by show w0.heap.size<=g;omega) _)
theorem jY.start{S:Nat->Prop}(hx:RI w0 S A1 sg)(hy:RI w0 S A2 mt)(hS:∀b,S b->b<w0.heap.size)(tb:TypeId):
  jY w0 (((w0.alloc (.cells #[.slice A1 sg.length c1,.slice A2 mt.length c2,.int .i64 L] 24)).alloc (.cells #[vb] tb)).alloc (.cells #[.slice none 0 0,.slice none 0 0,.int .i64 0] 24)) A1 A2 c1 c2 sg mt L vb:=by
 have hd:=((bI.start (c1:=c1) (c2:=c2) (L:=L) S hx hy hS).below ((Rh _ _).alloc (Rf _) (.cells #[vb] tb))).below ((Rh _ _).alloc (Rf _) (.cells #[.slice none 0 0,.slice none 0 0,.int .i64 0] 24));have hb:Below w0.heap.size w0 (((w0.alloc (.cells #[.slice A1 sg.length c1,.slice A2 mt.length c2,.int .i64 L] 24)).alloc (.cells #[vb] tb)).alloc (.cells #[.slice none 0 0,.slice none 0 0,.int .i64 0] 24)):=
  (((Rh _ _).alloc (Rf _) _).alloc oX _).alloc qj _
 have e1:(w0.alloc (.cells #[.slice A1 sg.length c1,.slice A2 mt.length c2,.int .i64 L] 24)).heap.size=w0.heap.size+1:=oX;have e2:((w0.alloc (.cells #[.slice A1 sg.length c1,.slice A2 mt.length c2,.int .i64 L] 24)).alloc (.cells #[vb] tb)).heap.size=w0.heap.size+2:=oX;refine⟨hd.c0,hd.c1,hd.c2,?_,(hx.imp hS).below hb,(hy.imp hS).below hb,?_,hb⟩;{have h1:=Ru (w0.alloc (.cells #[.slice A1 sg.length c1,.slice A2 mt.length c2,.int .i64 L] 24)) (.cells #[vb] tb);rw[e1]at h1;have h2:=(Rx ((w0.alloc (.cells #[.slice A1 sg.length c1,.slice A2 mt.length c2,.int .i64 L] 24)).alloc (.cells #[vb] tb)) (.cells #[.slice none 0 0,.slice none 0 0,.int .i64 0] 24) (w0.heap.size+1) (by rw[e2];omega)).trans h1;rw[Rt _ _ _ _ _ _ h2];rfl};{have h1:=Ru ((w0.alloc (.cells #[.slice A1 sg.length c1,.slice A2 mt.length c2,.int .i64 L] 24)).alloc (.cells #[vb] tb)) (.cells #[.slice none 0 0,.slice none 0 0,.int .i64 0] 24);rw[e2]at h1;exact fD.new h1 oX}
end
structure kN(w0 w:World)(A1 A2:Option Addr)(c1 c2:Nat)(sg mt:List Int)(L:Int)(vb:Value)(b g1 g2:Nat)(q r:List Int):Prop where
 st:jY w0 w A1 A2 c1 c2 sg mt L vb
 k0:w.cell? ⟨b,0,none⟩=some (.slice (some ⟨g1,0,none⟩) sg.length sg.length)
 k1:w.cell? ⟨b,1,none⟩=some (.slice (some ⟨g2,0,none⟩) mt.length mt.length)
 k2:w.cell? ⟨b,2,none⟩=some (.int .i64 L)
 o1:OI w w0.heap.size (.slice (some ⟨g1,0,none⟩) sg.length sg.length) q
 o2:OI w w0.heap.size (.slice (some ⟨g2,0,none⟩) mt.length mt.length) r
 l1:q.length=sg.length
 l2:r.length=mt.length
 n12:g1≠g2
 nb1:b≠g1
 nb2:b≠g2
 h1:w0.heap.size+2<g1
 h2:w0.heap.size+2<g2
 b1:g1<w.heap.size
 b2:g2<w.heap.size
 lb:b<w.heap.size
section
variable{w0 w w':World}{A1 A2:Option Addr}{c1 c2:Nat}{sg mt:List Int}{L:Int}{vb:Value}{b g1 g2:Nat}{q r:List Int}
theorem kN.new(h:jY w0 w' A1 A2 c1 c2 sg mt L vb)(hb:w'.heap[b]?=some (.cells #[.slice (some ⟨g1,0,none⟩) sg.length sg.length,.slice (some ⟨g2,0,none⟩) mt.length mt.length,.int .i64 L] 24 (0,0)))
  (Vs:w'.heap[g1]?=some (.cells (Array.replicate sg.length (Value.int .i64 0)) 3 (0,0)))(Vv:w'.heap[g2]?=some (.cells (Array.replicate mt.length (Value.int .i64 0)) 3 (0,0)))
  (hn:sg.length<=1000)(Yk:mt.length<=4000)(e12:g1≠g2)(m:Nat)(hm:w0.heap.size+2<m/\m<=b/\m<=g1/\m<=g2):kN w0 w' A1 A2 c1 c2 sg mt L vb b g1 g2 (List.replicate sg.length 0) (List.replicate mt.length 0):=by
 refine⟨h,?_,?_,?_,kY Vs oZ (by unfold maxLen;omega),kY Vv oZ (by unfold maxLen;omega),oX,oX,e12,?_,?_,oZ,oZ,(Ub.1 Vs).1,(Ub.1 Vv).1,?_⟩;{rw[Rt _ _ _ _ _ _ hb];rfl};{rw[Rt _ _ _ _ _ _ hb];rfl};{rw[Rt _ _ _ _ _ _ hb];rfl}
 ·rintro rfl
  rw[hb]at Vs;injection Vs with e
  injection e with _ e
  exact absurd e oQ
 ·rintro rfl
  rw[hb]at Vv;injection Vv with e
  injection e with _ e
  exact absurd e oQ
 {exact(Ub.1 hb).1}
theorem kN.call(h:kN w0 w A1 A2 c1 c2 sg mt L vb b g1 g2 q r)(hb:Below w.heap.size w w'):kN w0 w' A1 A2 c1 c2 sg mt L vb b g1 g2 q r:=
 ⟨h.st.call hb,(Ri (a:=⟨b,0,none⟩) (hb.block b h.lb)).trans h.k0,(Ri (a:=⟨b,1,none⟩) (hb.block b h.lb)).trans h.k1,(Ri (a:=⟨b,2,none⟩) (hb.block b h.lb)).trans h.k2,
  h.o1.below hb (Rf _),h.o2.below hb (Rf _),h.l1,h.l2,h.n12,h.nb1,h.nb2,h.h1,h.h2,RB h.b1 hb.size,RB h.b2 hb.size,RB h.lb hb.size⟩
theorem kN.drew(h:kN w0 w A1 A2 c1 c2 sg mt L vb b g1 g2 q r):kN w0 w.drew A1 A2 c1 c2 sg mt L vb b g1 g2 q r:=h.call (Rh _ _).drew
theorem kN.GU(h:kN w0 w A1 A2 c1 c2 sg mt L vb b g1 g2 q r)(k:Nat)(y:Int):kN w0 (w.setCell ⟨g1,k,none⟩ (.int .i64 y)) A1 A2 c1 c2 sg mt L vb b g1 g2 (q.set k y) r:=by
 have hc:∀x,x≠g1->(w.setCell ⟨g1,k,none⟩ (.int .i64 y)).heap[x]?=w.heap[x]?:=fun x hx=>Rn w _ _ x hx
 have ho:=h.o1;rw[<-h.l1]at ho;have h2:=OR.stored (k:=k) ho y;rw[Ry,h.l1]at h2;exact⟨h.st.other h.h1 k _,(Ri (a:=⟨b,0,none⟩) (hc _ h.nb1)).trans h.k0,(Ri (a:=⟨b,1,none⟩) (hc _ h.nb1)).trans h.k1,(Ri (a:=⟨b,2,none⟩) (hc _ h.nb1)).trans h.k2,
  h2,h.o2.ak fun g hg=>hc g (by simp[Value.ownBlock]at hg;intro e;exact h.n12 oZ),by rw[Ry];exact h.l1,h.l2,h.n12,h.nb1,h.nb2,h.h1,h.h2,by simpa using h.b1,by simpa using h.b2,by simpa using h.lb⟩
theorem kN.wV(h:kN w0 w A1 A2 c1 c2 sg mt L vb b g1 g2 q r)(k:Nat)(y:Int):kN w0 (w.setCell ⟨g2,k,none⟩ (.int .i64 y)) A1 A2 c1 c2 sg mt L vb b g1 g2 q (r.set k y):=by
 have hc:∀x,x≠g2->(w.setCell ⟨g2,k,none⟩ (.int .i64 y)).heap[x]?=w.heap[x]?:=fun x hx=>Rn w _ _ x hx
 have ho:=h.o2;rw[<-h.l2]at ho;have h2:=OR.stored (k:=k) ho y;rw[Ry,h.l2]at h2;exact⟨h.st.other h.h2 k _,(Ri (a:=⟨b,0,none⟩) (hc _ h.nb2)).trans h.k0,(Ri (a:=⟨b,1,none⟩) (hc _ h.nb2)).trans h.k1,(Ri (a:=⟨b,2,none⟩) (hc _ h.nb2)).trans h.k2,
  h.o1.ak fun g hg=>hc g (by simp[Value.ownBlock]at hg;intro e;exact h.n12 oZ),h2,h.l1,by rw[Ry];exact h.l2,h.n12,h.nb1,h.nb2,h.h1,h.h2,by simpa using h.b1,by simpa using h.b2,by simpa using h.lb⟩
theorem kN.QK(h:kN w0 w A1 A2 c1 c2 sg mt L vb b g1 g2 q r){k:Nat}(hk:k<sg.length):w.cell? ⟨g1,k,none⟩=some (.int .i64 (gi q k))/\w.frozen? ⟨g1,k,none⟩=false:=by have:=OR.ints_at h.o1 (by rw[h.l1];omega);exact⟨this.2.2.2.2.1 k (by rw[h.l1];exact hk),this.2.2.2.2.2 k⟩
theorem kN.Qw(h:kN w0 w A1 A2 c1 c2 sg mt L vb b g1 g2 q r){k:Nat}(hk:k<mt.length):w.cell? ⟨g2,k,none⟩=some (.int .i64 (gi r k))/\w.frozen? ⟨g2,k,none⟩=false:=by have:=OR.ints_at h.o2 (by rw[h.l2];omega);exact⟨this.2.2.2.2.1 k (by rw[h.l2];exact hk),this.2.2.2.2.2 k⟩
theorem kN.fin(h:kN w0 w A1 A2 c1 c2 sg mt L vb b g1 g2 q r)(x y z:Value):
  dz (((w.setCell ⟨w0.heap.size+2,0,none⟩ x).setCell ⟨w0.heap.size+2,1,none⟩ y).setCell ⟨w0.heap.size+2,2,none⟩ z) w0.heap.size (.slice (some ⟨g1,0,none⟩) sg.length sg.length) (.slice (some ⟨g2,0,none⟩) mt.length mt.length) q r/\
  Below w0.heap.size w0 (((w.setCell ⟨w0.heap.size+2,0,none⟩ x).setCell ⟨w0.heap.size+2,1,none⟩ y).setCell ⟨w0.heap.size+2,2,none⟩ z):=by
 have V1:∀g,w0.heap.size+2<g->(((w.setCell ⟨w0.heap.size+2,0,none⟩ x).setCell ⟨w0.heap.size+2,1,none⟩ y).setCell ⟨w0.heap.size+2,2,none⟩ z).heap[g]?=w.heap[g]?:=fun g hg=>by rw[Rn _ _ _ g qj,Rn _ _ _ g qj,Rn _ _ _ g qj]
 have e1:=h.h1;have e2:=h.h2;refine⟨⟨h.o1.ak fun g hg=>V1 g (by simp[Value.ownBlock]at hg;omega),h.o2.ak fun g hg=>V1 g (by simp[Value.ownBlock]at hg;omega),fun g Vs Vv=>?_⟩,?_⟩;{simp[Value.ownBlock]at Vs Vv;exact h.n12 oZ};{exact((h.st.bel.setCell oX _).setCell oX _).setCell oX _}
theorem dP(wr:World)(a b c:Obj):(((wr.alloc a).alloc b).alloc c).drew.heap[wr.heap.size]?=some a/\(((wr.alloc a).alloc b).alloc c).drew.heap[wr.heap.size+1]?=some b/\(((wr.alloc a).alloc b).alloc c).drew.heap[wr.heap.size+1+1]?=some c:=by have e1:(wr.alloc a).heap.size=wr.heap.size+1:=oX;have e2:((wr.alloc a).alloc b).heap.size=wr.heap.size+1+1:=oX;refine⟨?_,?_,?_⟩;{show(((wr.alloc a).alloc b).alloc c).heap[wr.heap.size]?=some a;rw[Rx _ _ _ oZ,Rx _ _ _ oZ];exact Ru _ _};{show(((wr.alloc a).alloc b).alloc c).heap[wr.heap.size+1]?=some b;rw[Rx _ _ _ oZ,<-e1];exact Ru _ _};{show(((wr.alloc a).alloc b).alloc c).heap[wr.heap.size+1+1]?=some c;rw[<-e2];exact Ru _ _}
theorem OT(h:Hid (jY w0 w A1 A2 c1 c2 sg mt L vb))(hb:Below w.heap.size w w'):
  Hid (jY w0 w' A1 A2 c1 c2 sg mt L vb)/\w'.cell? ⟨w0.heap.size,0,none⟩=some (.slice A1 sg.length c1)/\w'.cell? ⟨w0.heap.size,1,none⟩=some (.slice A2 mt.length c2)/\w'.cell? ⟨w0.heap.size,2,none⟩=some (.int .i64 L):=by
 have h':=h.out.call hb;exact⟨Rb h',h'.c0,h'.c1,h'.c2⟩
end
theorem kN.Gx{w0 w:World}{A1 A2:Option Addr}{c1 c2:Nat}{sg mt:List Int}{L:Int}{vb:Value}{b g1 g2:Nat}{q r:List Int}(h:kN w0 w A1 A2 c1 c2 sg mt L vb b g1 g2 q r):
  Hid (∃q r,kN w0 w A1 A2 c1 c2 sg mt L vb b g1 g2 q r)/\w.cell? ⟨b,0,none⟩=some (.slice (some ⟨g1,0,none⟩) sg.length sg.length):=⟨Rb ⟨q,r,h⟩,h.k0⟩
theorem kN.Aq{w0 w:World}{A1 A2:Option Addr}{c1 c2:Nat}{sg mt:List Int}{L:Int}{vb:Value}{b g1 g2:Nat}{q r:List Int}(h:kN w0 w A1 A2 c1 c2 sg mt L vb b g1 g2 q r):
  Hid (∃q r,kN w0 w A1 A2 c1 c2 sg mt L vb b g1 g2 q r)/\w.cell? ⟨b,1,none⟩=some (.slice (some ⟨g2,0,none⟩) mt.length mt.length):=⟨Rb ⟨q,r,h⟩,h.k1⟩
theorem JX(Kb:Nat)(lb:Array Value)(n h bb:Nat)(byF:Nat->Nat->Int)(w W:World)(hK:fM Kb)(hb:Nt Kb lb n byF w)(hW:Below w.heap.size w W)(hh:h<4*n)(hn:n<=1000)(hc:W.cell? ⟨bb,0,none⟩=some (.func (.func Kb) #[] lb)):
  Calls Tryz.prog 75 #[.int .i64 h,.pointer (some ⟨bb,0,none⟩)] W fun e w'=>e= .returned (.int .i64 (qC byF h))/\Below W.heap.size W w':=by
 have HB:=Rb hb;have HW:=Rb hW;have Vn:∀(args:Array Value)(w:World),(callFunc Kb args).run Tryz.prog w= .ok (.enter Kb args) w:=hK
 obtain⟨q,hq⟩:∃q,h/4=q:=⟨_,rfl⟩
 obtain⟨x,hx⟩:∃x,h%4=x:=⟨_,rfl⟩
 have hqn:q<n:=oZ;have hx4:x<4:=oZ;have HV:Hid (qC byF h=ae h (byF q x%4).toNat):=by unfold qC;rw[hq,hx];trivial
 have e1:((h:Nat):Int).tdiv 4=(q:Int):=by rw[<-hq];exact SZ h 4
 have e2:((h:Nat):Int).tmod 4=(x:Int):=by rw[<-hx];exact UT h 4
 have e3:((h:Nat):Int)/4=(q:Int):=oZ;have e4:((h:Nat):Int)%4=(x:Int):=oZ;clear hb hW hK hq hx;go_enter Tryz.func75,Tryz.ntmps75
 go_wp2_with fail;refine(HB.out q x _ hqn hx4 HW.out).mono ?_;rintro e w1 ⟨rfl,Vi⟩;have Vr:=Rb Vi;clear Vi e1 e2 e3 e4 hc;go_wp2_with fail;refine(yU h (byF q x) _ oZ).mono ?_;rintro e w2 ⟨rfl,rfl⟩;rw[<-HV.out];go_wp2_with fail;go_ret;exact⟨rfl,Vr.out⟩
def Pd(sg mt:List Int)(byF:Nat->Nat->Int)(sgF:Nat->Int)(L:Int)(w:World)(e:Ending)(w':World):Prop:=
 ∃v1 v2 q r,e= .returned (.agg #[v1,v2,.int .i64 L])/\BN sg mt byF sgF q r/\dz w' w.heap.size v1 v2 q r/\Below w.heap.size w w'
theorem F6(A1 A2:Option Addr)(c1 c2:Nat)(sg mt:List Int)(L:Int)(w:World)(S:Nat->Prop)(hx:RI w S A1 sg)(hy:RI w S A2 mt)(hS:∀b,S b->b<w.heap.size)
  (Kb Ks:Nat)(lb ls:Array Value)(hKb:fM Kb)(hKs:fM Ks)(byF:Nat->Nat->Int)(sgF:Nat->Int)(hd:cJ sg mt L)(hi:∀a b,a<mt.length->b<mt.length->qC byF a=qC byF b->a=b)
  (Xz:∀c,sgF c=1\/sgF c= -1)(hb:Nt Kb lb sg.length byF w)(hs:O0 Ks ls sg.length sgF w):
  Calls Tryz.prog 39 #[.agg #[.slice A1 sg.length c1,.slice A2 mt.length c2,.int .i64 L],.func (.func Kb) #[] lb,.func (.func Ks) #[] ls] w (Pd sg mt byF sgF L w):=by
 have T0:=Rb (jY.start (c1:=c1) (c2:=c2) (L:=L) (vb:= .func (.func Kb) #[] lb) hx hy hS 56);have HI:=Rb hi;have HDD:=Rb hd;have Xy:=Rb Xz;have HS:=Rb hs;have hn:=hd.1;have hN:=hd.2.1;have HN:=Rb hN;have hm:mt.length<=256:=oZ;have Vn:∀(args:Array Value)(w:World),(callFunc Ks args).run Tryz.prog w= .ok (.enter Ks args) w:=hKs
 have HTO:Hid (∀(h:Nat)(W:World)(b g1 g2:Nat)(q r:List Int),h<mt.length->Hid (kN w W A1 A2 c1 c2 sg mt L (.func (.func Kb) #[] lb) b g1 g2 q r)->
   Calls Tryz.prog 75 #[.int .i64 h,.pointer (some ⟨w.heap.size+1,0,none⟩)] W fun e w'=>e= .returned (.int .i64 (qC byF h))/\Below W.heap.size W w'):=
  Rb fun h W b g1 g2 q r hh hT=>JX Kb lb sg.length h _ byF w W hKb hb hT.out.st.bel oZ oZ hT.out.st.cb
 have hmk1:=dN 22 Tryz.underlying22 sg.length oZ;have hmk2:=dN 22 Tryz.underlying22 mt.length oZ;have Zy:=T0.out.lt;have k0:=T0.out.c0;have k1:=T0.out.c1;have k2:=T0.out.c2;clear hx hy hS hKb hKs hi hd Xz hb hs hN;go_enter Tryz.func39,Tryz.ntmps39
 go_wp2_with fail;generalize hW:((w.alloc (.cells #[.slice A1 sg.length c1,.slice A2 mt.length c2,.int .i64 L] 24)).alloc (.cells #[.func (.func Kb) #[] lb] 56)).alloc (.cells #[.slice none 0 0,.slice none 0 0,.int .i64 0] 24)=wr at*;clear hW
 go_cut [8] (fun v wx=>∃b g1 g2:Nat,v= .pointer (some ⟨b,0,none⟩)/\Hid (kN w wx A1 A2 c1 c2 sg mt L (.func (.func Kb) #[] lb) b g1 g2 (List.replicate sg.length 0) (List.replicate mt.length 0)))
 case first=>
  go_region_held3 (fun w'=>Hid (jY w w' A1 A2 c1 c2 sg mt L (.func (.func Kb) #[] lb))/\w'.cell? ⟨w.heap.size,0,none⟩=some (.slice A1 sg.length c1)/\w'.cell? ⟨w.heap.size,1,none⟩=some (.slice A2 mt.length c2)/\w'.cell? ⟨w.heap.size,2,none⟩=some (.int .i64 L))
   ((refine OT T0 ?_;(repeat (first|exact Rh _ _|refine Td ?_|refine Below.alloc ?_ (by simp<;>omega) _)))) (fail)
  all_goals
   go_wp2_with fail
   go_meet
   case rel=>
    have W_:=Vc (by assumption)
    first
     |exact⟨_,_,_,rfl,Rb (kN.new (Hid.out W_) (dP _ _ _ _).1 (dP _ _ _ _).2.1 (dP _ _ _ _).2.2 oZ oZ oZ wr.heap.size ⟨Zy,oZ,oZ,oZ⟩)⟩
     |exact⟨_,_,_,rfl,Rb (kN.new (Hid.out W_) (dP _ _ _ _).1 (dP _ _ _ _).2.2 (dP _ _ _ _).2.1 oZ oZ oZ wr.heap.size ⟨Zy,oZ,oZ,oZ⟩)⟩
     |exact⟨_,_,_,rfl,Rb (kN.new (Hid.out W_) (dP _ _ _ _).2.1 (dP _ _ _ _).1 (dP _ _ _ _).2.2 oZ oZ oZ wr.heap.size ⟨Zy,oZ,oZ,oZ⟩)⟩
     |exact⟨_,_,_,rfl,Rb (kN.new (Hid.out W_) (dP _ _ _ _).2.1 (dP _ _ _ _).2.2 (dP _ _ _ _).1 oZ oZ oZ wr.heap.size ⟨Zy,oZ,oZ,oZ⟩)⟩
     |exact⟨_,_,_,rfl,Rb (kN.new (Hid.out W_) (dP _ _ _ _).2.2 (dP _ _ _ _).1 (dP _ _ _ _).2.1 oZ oZ oZ wr.heap.size ⟨Zy,oZ,oZ,oZ⟩)⟩
     |exact⟨_,_,_,rfl,Rb (kN.new (Hid.out W_) (dP _ _ _ _).2.2 (dP _ _ _ _).2.1 (dP _ _ _ _).1 oZ oZ oZ wr.heap.size ⟨Zy,oZ,oZ,oZ⟩)⟩
 case rest=>
  obtain⟨b,g1,g2,rfl,HT2⟩:=hcut;clear T0 k0 k1 k2 hmk1 hmk2 Zy;have k0:=HT2.out.st.c0;go_wp2_with fail;clear k0;go_loopw[28] (fun i wr=>∃(k:Nat)(q:List Int),k<=sg.length/\i= .int .i64 k/\Hid (kN w wr A1 A2 c1 c2 sg mt L (.func (.func Kb) #[] lb) b g1 g2 q (List.replicate mt.length 0))/\Hid (Qn sg sgF k q)) (fun i _=>sg.length-(intOf i).toNat)
  case atStart=>exact⟨0,_,Rv _,rfl,HT2,Rb ⟨oX,fun i h=>by omega⟩⟩
  case round=>
   clear HT2;obtain⟨k,q,hk,rfl,HT,HQ⟩:=hrel;by_cases Vg:k<sg.length
   ·obtain⟨bs,os,has,-,VE⟩:=HT.out.st.rs.at_ Vg
    have k4:=VE _ Vg;have HTd:=Rb HT.out.drew;have ZT:=Rb (Gw Vg HQ.out);have VV:=HDD.out.2.2.2.2.1 k Vg;have Xp:=Xy.out k;obtain⟨s,hs⟩:∃s,gi sg k=s:=⟨_,rfl⟩
    rw[hs]at k4 VV ZT;obtain⟨t,ht⟩:∃t,sgF k=t:=⟨_,rfl⟩
    have HTT:=Rb ht;rw[ht]at Xp ZT;have hw:IntKind.i64.wrap (s*t)=s*t:=by rcases VV with rfl|rfl<;>rcases Xp with rfl|rfl<;>rfl
    have z2:(0:Int)<=(k:Int)/\(k:Int)<(sg.length:Int):=oZ;clear VE hs ht HT HQ VV Xp;subst has;go_wp2_with fail
    go_region_held3 (fun w'=>Hid (∃q r,kN w w' (some ⟨bs,os,none⟩) A2 c1 c2 sg mt L (.func (.func Kb) #[] lb) b g1 g2 q r)/\w'.cell? ⟨b,0,none⟩=some (.slice (some ⟨g1,0,none⟩) sg.length sg.length))
     (first|exact HTd.out.Gx|exact hT9.Gx|exact(hT9.GU _ _).Gx)
     (((refine(HS.out k wr.drew Vg HTd.out.st.bel).mono ?_);rintro e9 w9 ⟨rfl,hb9⟩;have hT9:=HTd.out.call hb9;obtain⟨c9,f9⟩:=hT9.QK Vg;rw[HTT.out]))
    have HT':=Rb (hT9.GU k (s*t));clear hT9 c9 f9 hb9 hw HTd;go_wp2_with fail;go_roundw
    case rel=>exact⟨k+1,_,oZ,by go_num,HT',ZT⟩
    case measure=>simp[intOf];omega
   ·obtain rfl:k=sg.length:=oZ
    have k1:=HT.out.st.c1;go_wp2_with fail;clear k1;have HR0:Hid (Ps mt byF 0 (List.replicate mt.length 0)):=Rb ⟨oX,fun i h=>by omega⟩;go_loopw[46] (fun i wr=>∃(k:Nat)(r:List Int),k<=mt.length/\i= .int .i64 k/\Hid (kN w wr A1 A2 c1 c2 sg mt L (.func (.func Kb) #[] lb) b g1 g2 q r)/\Hid (Ps mt byF k r)) (fun i _=>mt.length-(intOf i).toNat)
    case atStart=>exact⟨0,_,Rv _,rfl,HT,HR0⟩
    case round=>
     clear HT HR0;obtain⟨k,r,hk,rfl,HT,HR⟩:=hrel;by_cases VP:k<mt.length
     ·obtain⟨bs,os,has,-,VE⟩:=HT.out.st.rm.at_ VP
      have k4:=VE _ VP;obtain⟨gn1,gn2,-,-⟩:=HDD.out.2.2.2.2.2.1.gn VP;rw[gn1]at k4;have HTd:=Rb HT.out.drew;have W7:qC byF k<mt.length:=by have:=HN.out;rw[this]at VP⊢;exact M7 VP
      have Zz:=Rb (G5 HI.out VP W7 HR.out);obtain⟨m,hm'⟩:∃m,gn mt k=m:=⟨_,rfl⟩
      rw[hm']at k4 gn2 Zz;obtain⟨x,hx⟩:∃x,qC byF k=x:=⟨_,rfl⟩
      obtain⟨y,hy⟩:∃y,qC byF m=y:=⟨_,rfl⟩
      rw[hx]at W7 Zz;rw[hy]at Zz;have HXX:=Rb hx;have HYY:=Rb hy;have z2:(0:Int)<=(x:Int)/\(x:Int)<(mt.length:Int):=oZ;clear VE hx hy hm' HT HR gn1;subst has;go_wp2_with fail
      go_region_held3 (fun w'=>Hid (∃q r,kN w w' A1 (some ⟨bs,os,none⟩) c1 c2 sg mt L (.func (.func Kb) #[] lb) b g1 g2 q r)/\w'.cell? ⟨b,1,none⟩=some (.slice (some ⟨g2,0,none⟩) mt.length mt.length))
       (first|exact HTd.out.Aq|exact hT7.out.Aq|exact hT8.out.Aq|exact(hT7.out.wV _ _).Aq|exact(hT8.out.wV _ _).Aq)
       (first
        |(go_at_call 75;with_reducible (show Calls _ _ #[Value.int .i64 (k:Int),_] _ _);(first|(refine(HTO.out k wr.drew _ _ _ _ _ VP HTd).mono ?_;rintro e7 w7 ⟨rfl,hb7⟩;have hT7:=Rb (HTd.out.call hb7))|(refine(HTO.out k w8 _ _ _ _ _ VP hT8).mono ?_;rintro e7 w7 ⟨rfl,hb7⟩;have hT7:=Rb (hT8.out.call hb7)));obtain⟨c7,f7⟩:=hT7.out.Qw W7;rw[HXX.out])
        |(go_at_call 75;with_reducible (show Calls _ _ #[Value.int .i64 (m:Int),_] _ _);(first|(refine(HTO.out m wr.drew _ _ _ _ _ gn2 HTd).mono ?_;rintro e8 w8 ⟨rfl,hb8⟩;have hT8:=Rb (HTd.out.call hb8))|(refine(HTO.out m w7 _ _ _ _ _ gn2 hT7).mono ?_;rintro e8 w8 ⟨rfl,hb8⟩;have hT8:=Rb (hT7.out.call hb8)));obtain⟨c8,f8⟩:=hT8.out.Qw W7;rw[HYY.out]))
      (all_goals clear k4);(all_goals go_wp2_with fail);(all_goals go_roundw)
      all_goals first
       |(case rel=>first|exact⟨k+1,_,oZ,by go_num,Rb (hT8.out.wV _ _),Zz⟩|exact⟨k+1,_,oZ,by go_num,Rb (hT7.out.wV _ _),Zz⟩)
       |(case measure=>simp[intOf];omega)
     {obtain rfl:k=mt.length:=oZ;have k0:=HT.out.k0;have k1:=HT.out.k1;have k2:=HT.out.k2;obtain⟨y0,y1,y2,g0',g1',g2',-⟩:=HT.out.st.zb;have X_:=HT.out.lb;have HF:=Rb (HT.out.fin (.slice (some ⟨g1,0,none⟩) sg.length sg.length) (.slice (some ⟨g2,0,none⟩) mt.length mt.length) (.int .i64 L));have HIM:Hid (BN sg mt byF sgF q r):=Rb ⟨HQ.out.1,HR.out.1,HQ.out.2,HR.out.2⟩;go_wp2_with fail;refine RC (v:= .agg #[.slice (some ⟨g1,0,none⟩) sg.length sg.length,.slice (some ⟨g2,0,none⟩) mt.length mt.length,.int .i64 L]) (by simp[results,Tryz.results39,go_sem,y0,y1,y2]) rfl ?_;exact⟨_,_,_,_,rfl,HIM.out,HF.out.1,HF.out.2⟩}
def zc(sg:List Int)(c _x:Nat):Int:=if gi sg c=1 then-3 else-1
def I5(_c:Nat):Int:= -1
theorem qF{sg:List Int}(a:Nat):qC (zc sg) a=ae a (if gi sg (a/4)=1 then 1 else 3):=by unfold qC zc;split<;>rfl
theorem Kn{sg:List Int}(a b:Nat)(h:qC (zc sg) a=qC (zc sg) b):a=b:=by
 have e:a/4=b/4:=by rw[<-qX (byF:=zc sg),h,qX]
 rw[qF,qF,e]at h;exact dC h
theorem mP(W:World)(c:Int):Calls Tryz.prog 17 #[.int .i64 c] W fun e w'=>e= .returned (.bool true)/\W=w':=by
 go_enter Tryz.func17,Tryz.ntmps17
 go_wp2_with fail;go_ret;exact⟨rfl,rfl⟩
theorem Qb:fM 38:=gD Tryz.func38 qk rfl
theorem Qe:fM 40:=gD Tryz.func40 qk rfl
theorem On:fM 17:=gD Tryz.func17 qk rfl
theorem OU(n b3:Nat)(w:World)(hc:w.cell? ⟨b3,0,none⟩=some (.func (.func 17) #[] #[]))(hl:b3<w.heap.size):O0 40 #[.pointer (some ⟨b3,0,none⟩)] n I5 w:=by
 intro c W _ hW;show Calls _ _ #[.int .i64 c,.pointer (some ⟨b3,0,none⟩)] _ _;have k3:=(Ri (a:=⟨b3,0,none⟩) (hW.block b3 hl)).trans hc;have Vn:∀(args:Array Value)(w:World),(callFunc 17 args).run Tryz.prog w= .ok (.enter 17 args) w:=On
 clear hc hl hW;go_enter Tryz.func40,Tryz.ntmps40
 go_wp2_with fail;refine(mP _ _).mono ?_;rintro e w1 ⟨rfl,rfl⟩;go_wp2_with fail;go_ret;exact⟨rfl,Rh _ _⟩
theorem P9{w:World}{b2 b3:Nat}{A1 A2:Option Addr}{c1 c2:Nat}{sg mt:List Int}{L:Int}(hd:bI w b2 A1 A2 c1 c2 sg mt L)(hc:w.cell? ⟨b3,0,none⟩=some (.func (.func 17) #[] #[]))(hl:b3<w.heap.size)(_hm:sg.length<=1000):
  Nt 38 #[.pointer (some ⟨b3,0,none⟩),.pointer (some ⟨b2,0,none⟩)] sg.length (zc sg) w:=by
 intro c x W YU hx hW;show Calls _ _ #[.int .i64 c,.int .i64 x,.pointer (some ⟨b3,0,none⟩),.pointer (some ⟨b2,0,none⟩)] _ _;have k3:=(Ri (a:=⟨b3,0,none⟩) (hW.block b3 hl)).trans hc;have Vn:∀(args:Array Value)(w:World),(callFunc 17 args).run Tryz.prog w= .ok (.enter 17 args) w:=On
 have hD:=hd.below hW;have k0:=hD.c0;obtain⟨bs,os,rfl,-,VE⟩:=hD.rs.at_ YU;have k4:=VE _ YU;by_cases e:gi sg c=1
 ·have hv:zc sg c x= -3:=Re e
  rw[hv];rw[e]at k4;have z:(0:Int)<=(c:Int)/\(c:Int)<(sg.length:Int):=oZ;clear hd hc hl hW hD VE e hv;go_enter Tryz.func38,Tryz.ntmps38
  go_wp2_with fail;refine(mP _ _).mono ?_;rintro e w1 ⟨rfl,rfl⟩;go_wp2_with fail;go_ret;exact⟨rfl,Rh _ _⟩
 ·have hv:zc sg c x= -1:=Rc e
  rw[hv];obtain⟨s,hs⟩:∃s,gi sg c=s:=⟨_,rfl⟩
  rw[hs]at k4 e;have z:(0:Int)<=(c:Int)/\(c:Int)<(sg.length:Int):=oZ;have e1:(s==1)=false:=by simpa using e
  clear hd hc hl hW hD VE e hv hs;go_enter Tryz.func38,Tryz.ntmps38
  go_wp2_with fail;refine(mP _ _).mono ?_;rintro e w1 ⟨rfl,rfl⟩;go_wp2_with fail;go_ret;exact⟨rfl,Rh _ _⟩
def QT(sg mt:List Int)(by_:Nat->Nat->Int)(sgF:Nat->Int)(L:Int)(w:World)(e:Ending)(w':World):Prop:=
 ∃v1 v2 q r,e= .returned (.tuple #[.agg #[v1,v2,.int .i64 L],.int .i64 0])/\BN sg mt by_ sgF q r/\dz w' w.heap.size v1 v2 q r/\Below w.heap.size w w'
structure BZ(w0 w:World)(b:Nat)(A1 A2:Option Addr)(c1 c2:Nat)(sg mt:List Int)(L:Int):Prop where
 db:bI w w0.heap.size A1 A2 c1 c2 sg mt L
 zb:fD w b
 be:w0.heap.size<b
 bel:Below w0.heap.size w0 w
section
variable{w0 w w':World}{b:Nat}{A1 A2:Option Addr}{c1 c2:Nat}{sg mt:List Int}{L:Int}
theorem BZ.call(h:BZ w0 w b A1 A2 c1 c2 sg mt L)(hb:Below w.heap.size w w'):BZ w0 w' b A1 A2 c1 c2 sg mt L:=⟨h.db.below hb,h.zb.below hb,h.be,h.bel.trans (hb.mono h.bel.size)⟩
theorem BZ.start{S:Nat->Prop}(hx:RI w0 S A1 sg)(hy:RI w0 S A2 mt)(hS:∀b,S b->b<w0.heap.size):
  BZ w0 ((w0.alloc (.cells #[.slice A1 sg.length c1,.slice A2 mt.length c2,.int .i64 L] 24)).alloc (.cells #[.slice none 0 0,.slice none 0 0,.int .i64 0] 24)) (w0.heap.size+1) A1 A2 c1 c2 sg mt L:=by
 have h1:=Ru (w0.alloc (.cells #[.slice A1 sg.length c1,.slice A2 mt.length c2,.int .i64 L] 24)) (.cells #[.slice none 0 0,.slice none 0 0,.int .i64 0] 24);have e1:(w0.alloc (.cells #[.slice A1 sg.length c1,.slice A2 mt.length c2,.int .i64 L] 24)).heap.size=w0.heap.size+1:=oX;rw[e1]at h1;exact⟨(bI.start (c1:=c1) (c2:=c2) (L:=L) S hx hy hS).below ((Rh _ _).alloc (Rf _) _),fD.new h1 oX,oZ,((Rh _ _).alloc (Rf _) _).alloc oX _⟩
theorem BZ.fin{B:Nat}{v1 v2:Value}{q r:List Int}(h:BZ w0 w b A1 A2 c1 c2 sg mt L)(hb:Below w.heap.size w w')(hF:dz w' w.heap.size v1 v2 q r)(hB:b<w.heap.size)(he:B=w0.heap.size)(x y z:Value):
  dz (((w'.setCell ⟨b,0,none⟩ x).setCell ⟨b,1,none⟩ y).setCell ⟨b,2,none⟩ z) B v1 v2 q r/\Below w0.heap.size w0 (((w'.setCell ⟨b,0,none⟩ x).setCell ⟨b,1,none⟩ y).setCell ⟨b,2,none⟩ z):=by
 subst he;have YV:=h.be;have hs:=h.bel.size;have V1:∀g,b<g->(((w'.setCell ⟨b,0,none⟩ x).setCell ⟨b,1,none⟩ y).setCell ⟨b,2,none⟩ z).heap[g]?=w'.heap[g]?:=fun g hg=>by rw[Rn _ _ _ g (by show g≠b;omega),Rn _ _ _ g (by show g≠b;omega),Rn _ _ _ g (by show g≠b;omega)]
 have ZY:=(h.call hb).bel;refine⟨⟨(hF.os.ak fun g hg=>V1 g (by have:=(hF.os.lt g hg).1;omega)).mono hs,(hF.om.ak fun g hg=>V1 g (by have:=(hF.om.lt g hg).1;omega)).mono hs,hF.ne⟩,?_⟩;exact((ZY.setCell (by show w0.heap.size<=b;omega) _).setCell (by show w0.heap.size<=b;omega) _).setCell (by show w0.heap.size<=b;omega) _
end
section
variable(A1 A2:Option Addr)(c1 c2:Nat)(sg mt:List Int)(L:Int)(w:World)(S:Nat->Prop)(hx:RI w S A1 sg)(hy:RI w S A2 mt)(hS:∀b,S b->b<w.heap.size)(hd:cJ sg mt L)
include hx hy hS hd
theorem zB:Calls Tryz.prog 16 #[.agg #[.slice A1 sg.length c1,.slice A2 mt.length c2,.int .i64 L],.func (.func 17) #[] #[]] w (Pd sg mt (zc sg) I5 L w):=by
 have T0:=Rb (jY.start (c1:=c1) (c2:=c2) (L:=L) (vb:= .func (.func 17) #[] #[]) hx hy hS 48);have HDD:=Rb hd;have hm:=hd.1;clear hx hy hS hd;go_enter Tryz.func16,Tryz.ntmps16
 go_wp2_with fail;generalize hW:((w.alloc (.cells #[.slice A1 sg.length c1,.slice A2 mt.length c2,.int .i64 L] 24)).alloc (.cells #[.func (.func 17) #[] #[]] 48)).alloc (.cells #[.slice none 0 0,.slice none 0 0,.int .i64 0] 24)=w1 at*;clear hW;have H1:Hid (BZ w w1 (w.heap.size+2) A1 A2 c1 c2 sg mt L):=Rb ⟨⟨T0.out.c0,T0.out.c1,T0.out.c2,by have:=T0.out.lt;omega,T0.out.rs.imp fun b hb=>by have:=T0.out.lt;omega,T0.out.rm.imp fun b hb=>by have:=T0.out.lt;omega⟩,T0.out.zb,oZ,T0.out.bel⟩;obtain⟨k0,k1,k2,-,-,-⟩:=H1.out.db;have X_:=H1.out.zb.lt;go_wp2_with fail;refine(F6 A1 A2 c1 c2 sg mt L w1 (·<w1.heap.size) H1.out.db.rs H1.out.db.rm (fun _ h=>h) 38 40 #[.pointer (some ⟨w.heap.size+1,0,none⟩),.pointer (some ⟨w.heap.size,0,none⟩)] #[.pointer (some ⟨w.heap.size+1,0,none⟩)] Qb Qe (zc sg) I5 HDD.out (fun a b _ _ h=>Kn a b h) (fun _=> .inr rfl) (P9 H1.out.db T0.out.cb oZ oZ) (OU _ _ _ T0.out.cb oZ)).mono ?_;rintro e w2 ⟨v1,v2,q,r,rfl,him,hF,Vj⟩;have H2:=Rb (H1.out.call Vj);have HIM:=Rb him;obtain⟨y0,y1,y2,g0,g1,g2,hlb2⟩:=H2.out.zb;obtain⟨a1,d1,rfl,-,-,-⟩:=hF.os.shape;obtain⟨a2,d2,rfl,-,-,-⟩:=hF.om.shape;obtain⟨n1,YA⟩:∃n,q.length=n:=⟨_,rfl⟩
 obtain⟨n2,Yk⟩:∃n,r.length=n:=⟨_,rfl⟩
 rw[YA,Yk]at hF⊢;have WJ:=Rb (H1.out.fin Vj hF X_ rfl (.slice a1 n1 d1) (.slice a2 n2 d2) (.int .i64 L));clear hF Vj him H1 k0 k1 k2 YA Yk T0;go_wp2_with fail;refine RC (v:= .agg #[.slice a1 n1 d1,.slice a2 n2 d2,.int .i64 L]) (by simp[results,Tryz.results16,go_sem,y0,y1,y2]) rfl ?_;exact⟨_,_,_,_,rfl,HIM.out,WJ.out.1,WJ.out.2⟩
theorem DR:Calls Tryz.prog 7 #[.agg #[.slice A1 sg.length c1,.slice A2 mt.length c2,.int .i64 L]] w (QT sg mt (zc sg) I5 L w):=by
 have H0:=Rb (BZ.start (c1:=c1) (c2:=c2) (L:=L) hx hy hS);have H:=Rb (Rj hd);have VL:sg.length<=maxLen:=by have:=hd.1;unfold maxLen;omega
 have Wb:mt.length<=maxLen:=by have:=hd.1;have:=hd.2.1;unfold maxLen;omega
 have HDD:=Rb hd;clear hx hy hS hd;go_enter Tryz.func7,Tryz.ntmps7
 go_wp2_with fail;refine(eP _ true H0.out.db.rs H0.out.db.rm (fun _ h=>h) VL Wb H.out).mono ?_;rintro e w1 ⟨rfl,Vi⟩;have H1:=Rb (H0.out.call Vi);obtain⟨k0,k1,k2,-,-,-⟩:=H1.out.db;have X_:=H1.out.zb.lt;clear Vi H0;go_wp2_with fail;refine(zB A1 A2 c1 c2 sg mt L w1 (·<w1.heap.size) H1.out.db.rs H1.out.db.rm (fun _ h=>h) HDD.out).mono ?_;rintro e w2 ⟨v1,v2,q,r,rfl,him,hF,Vj⟩;have H2:=Rb (H1.out.call Vj);have HIM:=Rb him;obtain⟨y0,y1,y2,g0,g1,g2,hlb2⟩:=H2.out.zb;obtain⟨a1,d1,rfl,-,-,-⟩:=hF.os.shape;obtain⟨a2,d2,rfl,-,-,-⟩:=hF.om.shape;obtain⟨n1,YA⟩:∃n,q.length=n:=⟨_,rfl⟩
 obtain⟨n2,Yk⟩:∃n,r.length=n:=⟨_,rfl⟩
 rw[YA,Yk]at hF⊢;have WJ:=Rb (H1.out.fin Vj hF X_ rfl (.slice a1 n1 d1) (.slice a2 n2 d2) (.int .i64 L));clear hF Vj him H1 k0 k1 k2 YA Yk;go_wp2_with fail;refine RC (v:= .tuple #[.agg #[.slice a1 n1 d1,.slice a2 n2 d2,.int .i64 L],.int .i64 0]) (by simp[results,Tryz.results7,go_sem,y0,y1,y2]) rfl ?_;exact⟨_,_,_,_,rfl,HIM.out,WJ.out.1,WJ.out.2⟩
end


theorem nH{mt:List Int}{k:Nat}(hk:k<(aC mt).length):∃h,h<mt.length/\(aC mt)[k]=bJ (au mt) mt.length h:=by have hm:=R7 hk;unfold aC bR at hm;rw[So]at hm;obtain⟨h,hh,e⟩:=hm;rw[R3]at hh;exact⟨h,Rm.1 hh.1,e.symm⟩
theorem jN{ls:List (List Nat)}{k:Nat}(hk:k<ls.length):(rows ls).getD k []=ints ls[k]:=by simp[rows,hk]
theorem bI.drewN{w:World}{bd:Nat}{A1 A2:Option Addr}{c1 c2:Nat}{sg mt:List Int}{L:Int}(h:bI w bd A1 A2 c1 c2 sg mt L)(m:Nat):bI (w.drewN m) bd A1 A2 c1 c2 sg mt L:=⟨h.c0,h.c1,h.c2,h.lt,h.rs,h.rm⟩
theorem tc(A1 A2:Option Addr)(c1 c2 ml:Nat)(sg:List Int)(L a:Int)(c:Nat)(w:World)(S:Nat->Prop)(hx:RI w S A1 sg)(hS:∀b,S b->b<w.heap.size)(hs:EN sg)(hc:c<sg.length)(hl:sg.length<=100000)(ha:a=c):
  Calls Tryz.prog 86 #[.agg #[.slice A1 sg.length c1,.slice A2 ml c2,.int .i64 L],.int .i64 a] w fun e w'=>e= .returned (.int .i64 (eT sg c:Int))/\Below w.heap.size w w':=by
 subst ha;have HB:=Rb ((Rh w.heap.size w).alloc (Rf _) (.cells #[.slice A1 sg.length c1,.slice A2 ml c2,.int .i64 L] 24));obtain⟨b,off,rfl,Xv,Vo⟩:=hx.at_ hc;have k1:=Vo c hc;have Xv:=hS b Xv;rcases hs c hc with e|e
 ·have ho:eT sg c=4*c+1:=Re e
  have HO:=Rb ho;rw[e]at k1;clear ho e Vo hx hS hs;go_enter Tryz.func86,Tryz.ntmps86
  go_wp2_with fail;go_ret;exact⟨cE (by rw[HO.out];omega),HB.out⟩
 ·have ho:eT sg c=4*c+3:=Rc oZ
  have HO:=Rb ho;rw[e]at k1;clear ho e Vo hx hS hs;go_enter Tryz.func86,Tryz.ntmps86
  go_wp2_with fail;go_ret;exact⟨cE (by rw[HO.out];omega),HB.out⟩
theorem KG{w:World}{bd:Nat}{A1 A2:Option Addr}{c1 c2:Nat}{sg mt:List Int}{L:Int}(h:bI w bd A1 A2 c1 c2 sg mt L)(hd:cJ sg mt L){g:Nat}(hg:g<mt.length)(ho:ai sg g=true):
  Calls Tryz.prog 102 #[.int .i64 g,.pointer (some ⟨bd,0,none⟩)] w fun e w'=>e= .returned (.int .i64 (aP sg mt g:Int))/\Below w.heap.size w w':=by
 have k0:=h.c0;have k1:=h.c1;have k2:=h.c2;obtain⟨Vs,Vv,-,-⟩:=hd.2.2.2.2.2.1.gn hg;have hn:=hd.2.1;have hl:=hd.1;have HS:=Rb hd.2.2.2.2.1;have HR:=Rb h.rs;obtain⟨b,off,rfl,-,hc⟩:=h.rm.at_ hg;have k3:=hc g hg;rw[Vs]at k3;have hx:aP sg mt g=yB sg mt g:=Re ho;obtain⟨m,hm⟩:∃m,gn mt g=m:=⟨_,rfl⟩
 obtain⟨mq,hmq⟩:∃mq,m/4=mq:=⟨_,rfl⟩
 rw[hm]at k3 Vv;have q1:((m:Nat):Int).tdiv 4=(mq:Int):=by rw[<-hmq];exact SZ m 4
 have q1e:(m:Int)/4=(mq:Int):=oZ;have hmq1:mq<sg.length:=oZ;have hmqb:mq<=64:=oZ;have X_:sg.length<=100000:=oZ;by_cases h0:m%4=0
 ·have e:aP sg mt g=eT sg mq:=by rw[hx];unfold yB;rw[hm,Re h0,hmq]
  have HE:=Rb e;have q2:((m:Int)%4==0)=true:=by rw[SA];omega
  clear hc hx hm hmq hn hd h Vs e h0;go_enter Tryz.func102,Tryz.ntmps102
  go_wp2_with fail;refine(tc A1 _ c1 c2 mt.length sg L _ mq _ (·<w.heap.size) HR.out (fun _ h=>h) HS.out hmq1 X_ rfl).mono ?_;rintro e w1 ⟨rfl,hb⟩;go_wp2_with fail;go_ret;exact⟨cE (by rw[HE.out]),hb⟩
 ·have e:aP sg mt g=mq*4+2:=by rw[hx];unfold yB;rw[hm,Rc h0,hmq]
  have HE:=Rb e;have q2:((m:Int)%4==0)=false:=by rw[Rs];omega
  clear hc hx hm hmq hn hd h Vs e h0;go_enter Tryz.func102,Tryz.ntmps102
  go_wp2_with fail;go_ret;exact⟨cE (by rw[HE.out];omega),Rh _ _⟩
structure pV(w wr:World)(A1 A2:Option Addr)(c1 c2:Nat)(sg mt:List Int)(L:Int)(k:Nat)(p:List Int)(v:Value):Prop where
 c0:wr.cell? ⟨w.heap.size,0,none⟩=some (.slice A1 sg.length c1)
 c1:wr.cell? ⟨w.heap.size,1,none⟩=some (.slice A2 mt.length c2)
 c2:wr.cell? ⟨w.heap.size,2,none⟩=some (.int .i64 L)
 rs:RI wr (·<w.heap.size) A1 sg
 rm:RI wr (·<w.heap.size) A2 mt
 pr:gh w wr w.heap.size (w.heap.size+1) mt.length p
 num:zj (aP sg mt) mt.length (ai sg) k p
 row:RR 22 wr (w.heap.size+1) (·=w.heap.size+1) v (rows (bR (aP sg mt) mt.length (ai sg) k))
structure pH(w wr:World)(A1 A2:Option Addr)(c1 c2:Nat)(sg mt:List Int)(L:Int)(k j:Nat)(p:List Int)(v u:Value)(B:Nat):Prop where
 c0:wr.cell? ⟨w.heap.size,0,none⟩=some (.slice A1 sg.length c1)
 c1:wr.cell? ⟨w.heap.size,1,none⟩=some (.slice A2 mt.length c2)
 c2:wr.cell? ⟨w.heap.size,2,none⟩=some (.int .i64 L)
 rs:RI wr (·<w.heap.size) A1 sg
 rm:RI wr (·<w.heap.size) A2 mt
 pr:gh w wr w.heap.size (w.heap.size+1) mt.length p
 num:Bw (aP sg mt) mt.length (ai sg) k j p
 row:RR 22 wr (w.heap.size+1) (fun b=>b=w.heap.size+1\/B<=b) v (rows (bR (aP sg mt) mt.length (ai sg) k))
 list:OI wr B u (ints ((bJ (aP sg mt) mt.length k).take j))
 gB:w.heap.size+1<B
 bw:B<=wr.heap.size
section
variable{w wr w':World}{A1 A2:Option Addr}{c1 c2:Nat}{sg mt:List Int}{L:Int}{k j:Nat}{p:List Int}{v u:Value}{B:Nat}
theorem pV.db(h:pV w wr A1 A2 c1 c2 sg mt L k p v):bI wr w.heap.size A1 A2 c1 c2 sg mt L:=
 have h1:=h.pr.size
 ⟨h.c0,h.c1,h.c2,oZ,h.rs.imp fun b hb=>by omega,h.rm.imp fun b hb=>by omega⟩
theorem pH.db(h:pH w wr A1 A2 c1 c2 sg mt L k j p v u B):bI wr w.heap.size A1 A2 c1 c2 sg mt L:=
 have h1:=h.pr.size
 ⟨h.c0,h.c1,h.c2,oZ,h.rs.imp fun b hb=>by omega,h.rm.imp fun b hb=>by omega⟩
theorem pV.call(h:pV w wr A1 A2 c1 c2 sg mt L k p v)(hb:Below wr.heap.size wr w'):pV w w' A1 A2 c1 c2 sg mt L k p v:=by
 have h1:=h.pr.size;have h3:=hb.size;have h0:w.heap.size<wr.heap.size:=oZ;exact⟨(hb.cell (p:=⟨w.heap.size,0,none⟩) h0).trans h.c0,(hb.cell (p:=⟨w.heap.size,1,none⟩) h0).trans h.c1,(hb.cell (p:=⟨w.heap.size,2,none⟩) h0).trans h.c2,
  h.rs.ak fun b Vg=>hb.block b oZ,h.rm.ak fun b Vg=>hb.block b oZ,
  ⟨h.pr.own.below hb (Rf _),h.pr.below.trans (hb.mono oZ),oZ⟩,h.num,h.row.below hb (Rf _)⟩
theorem pH.call(h:pH w wr A1 A2 c1 c2 sg mt L k j p v u B)(hb:Below wr.heap.size wr w'):pH w w' A1 A2 c1 c2 sg mt L k j p v u B:=by
 have h1:=h.pr.size;have h3:=hb.size;have h0:w.heap.size<wr.heap.size:=oZ;exact⟨(hb.cell (p:=⟨w.heap.size,0,none⟩) h0).trans h.c0,(hb.cell (p:=⟨w.heap.size,1,none⟩) h0).trans h.c1,(hb.cell (p:=⟨w.heap.size,2,none⟩) h0).trans h.c2,
  h.rs.ak fun b Vg=>hb.block b oZ,h.rm.ak fun b Vg=>hb.block b oZ,
  ⟨h.pr.own.below hb (Rf _),h.pr.below.trans (hb.mono oZ),oZ⟩,h.num,h.row.below hb (Rf _),h.list.below hb (Rf _),h.gB,RQ h.bw h3⟩
theorem pV.skip(h:pV w wr A1 A2 c1 c2 sg mt L k p v)(VT:¬(ai sg k=true/\a_ (aP sg mt) mt.length k=true)):pV w wr A1 A2 c1 c2 sg mt L (k+1) p v:=by refine⟨h.c0,h.c1,h.c2,h.rs,h.rm,h.pr,Ej h.num VT,?_⟩;rw[dS,Rc (by rw[RA];exact VT),S6];exact h.row
theorem pV.begin(h:pV w wr A1 A2 c1 c2 sg mt L k p v):pH w wr A1 A2 c1 c2 sg mt L k 0 p v (.slice none 0 0) wr.heap.size:=
 ⟨h.c0,h.c1,h.c2,h.rs,h.rm,h.pr,DD h.num,h.row.imp fun b h1 h2 h3=>h3.elim id fun h3=>by omega,OR.nil _ _,h.pr.size,Rf _⟩
theorem pH.step{u':Value}{o:Obj}(hd:cJ sg mt L)(hk:k<mt.length)(hl:a_ (aP sg mt) mt.length k=true)(hj:j<eC (aP sg mt) mt.length k)(h:pH w wr A1 A2 c1 c2 sg mt L k j p v u B)
  (ho:OI w' B u' (ints ((bJ (aP sg mt) mt.length k).take j)++[(it (aP sg mt) j k:Int)]))
  (hg:((wr.setCell ⟨w.heap.size+1,it (aP sg mt) j k,none⟩ (.int .i64 (D5 (aP sg mt) mt.length (ai sg) k:Int))).alloc o).grownBy w' u.ownBlock):
  pH w w' A1 A2 c1 c2 sg mt L k (j+1) (p.set (it (aP sg mt) j k) (D5 (aP sg mt) mt.length (ai sg) k:Int)) v u' B:=by
 have VB:∀g,u.ownBlock=some g->w.heap.size+1<g:=fun g hu=>by have:=(h.list.lt g hu).1;have:=h.gB;omega
 have hB:∀g,u.ownBlock=some g->B<=g:=fun g hu=>(h.list.lt g hu).1
 have V1:∀b,b<wr.heap.size->b≠w.heap.size+1->b<B->w'.heap[b]?=wr.heap[b]?:=fun b h1 h2 h3=>by rw[hg.block b qj (fun e=>by have:=hB b e.symm;omega),Rx _ _ b (by simpa using h1),Rn wr _ _ b h2]
 have h1:=h.pr.size;have h2:=h.gB;have Vo:∀i,w'.cell? ⟨w.heap.size,i,none⟩=wr.cell? ⟨w.heap.size,i,none⟩:=fun i=>Ri (a:=⟨w.heap.size,i,none⟩) (V1 w.heap.size oZ oZ oZ)
 refine⟨(Vo 0).trans h.c0,(Vo 1).trans h.c1,(Vo 2).trans h.c2,h.rs.ak fun b hb=>V1 b oZ oZ oZ,h.rm.ak fun b hb=>V1 b oZ oZ oZ,
  (h.pr.store h.num.1 oZ _).grown oZ hg VB,DM (aI hd) hk hl h.num,h.row.ak fun b _ hb hF=>V1 b hb (fun e=>hF (.inl e)) (U8 fun e=>hF (.inr e)),?_,h.gB,?_⟩
 {rw[<-jz hj,lL];exact ho};{have h3:=hg.size;have h4:=h.bw;simp at h3;omega}
theorem pH.push{v':Value}{vs:List Value}(hd:cJ sg mt L)(hk:k<mt.length)(Wf:ai sg k=true)(hl:a_ (aP sg mt) mt.length k=true)(hj:j=eC (aP sg mt) mt.length k)(h:pH w wr A1 A2 c1 c2 sg mt L k j p v u B)
  (HV:ER 22 wr (w.heap.size+1) (fun b=>b=w.heap.size+1\/B<=b) v vs (rows (bR (aP sg mt) mt.length (ai sg) k)))(ho:OR 22 id w' (w.heap.size+1) v' (vs++[u]))(hg:(wr.alloc (.cells #[u] 22)).grownBy w' v.ownBlock)(Vu:v'.ownBlock=v.ownBlock\/v'.ownBlock=some (wr.heap.size+1)):
  pV w w' A1 A2 c1 c2 sg mt L (k+1) p v':=by
 have h1:=h.pr.size;have h2:=h.gB;have hvb:∀g,v.ownBlock=some g->w.heap.size+1<g:=fun g hv=>by
  have h3:=(HV.1.lt g hv).1;have h4:=HV.2.1 g hv;have:g≠w.heap.size+1:=fun e=>h4 (.inl e)
  omega
 have V1:∀b,b<w.heap.size+2->w'.heap[b]?=wr.heap[b]?:=fun b h3=>by rw[hg.block b qj (fun e=>by have:=hvb b e.symm;omega),Rx _ _ b oZ]
 have Zi:ER 22 wr (w.heap.size+1) (·=w.heap.size+1) v vs (rows (bR (aP sg mt) mt.length (ai sg) k)):=
  ⟨HV.1,fun g hg hF=>HV.2.1 g hg (.inl hF),HV.2.2.1,fun i hi=>⟨(HV.2.2.2 i hi).1,fun g hg hF=>(HV.2.2.2 i hi).2 g hg (.inl hF)⟩⟩
 have XB:OI wr (w.heap.size+1) u (ints (bJ (aP sg mt) mt.length k)):=by have:=h.list.mono (B':=w.heap.size+1) oZ;rwa [Ux (by rw[eJ];omega)]at this
 have hR:=ER.push oQ Zi XB (fun g hgu hF=>by have:=(h.list.lt g hgu).1;omega) (fun b hF=>by omega) ho hg Vu;have Vo:∀i,w'.cell? ⟨w.heap.size,i,none⟩=wr.cell? ⟨w.heap.size,i,none⟩:=fun i=>Ri (a:=⟨w.heap.size,i,none⟩) (V1 w.heap.size oZ)
 refine⟨(Vo 0).trans h.c0,(Vo 1).trans h.c1,(Vo 2).trans h.c2,h.rs.ak fun b hb=>V1 b oZ,h.rm.ak fun b hb=>V1 b oZ,
  h.pr.grown oZ hg hvb,E4 (aI hd) hk Wf hl h.num hj,⟨vs++[u],?_⟩⟩
 rw[dS,Re (by rw[Wf,hl];rfl)];unfold rows at hR⊢;rw[SB];exact hR
end
def r_(sg mt:List Int):List Int:=(List.range mt.length).map (iL (aP sg mt) mt.length (ai sg))
theorem cY(sg mt:List Int):(r_ sg mt).length=mt.length:=by simp[r_]
theorem lE{sg mt:List Int}{x:Nat}(hx:x<mt.length):gi (r_ sg mt) x=iL (aP sg mt) mt.length (ai sg) x:=by simp[gi,r_,hx]
theorem Is{sg:List Int}{k:Nat}(hk:k%4≠2)(hs:EN sg)(hc:k/4<sg.length):((k:Int)==(eT sg (k/4):Int))=ai sg k:=by have h1:=hs (k/4) hc;unfold ai eT;have Wl:k%4=0\/k%4=1\/k%4=3:=oZ;rcases Wl with e|e|e<;>rcases h1 with e1|e1<;>rw[e,e1]<;>simp<;>omega
structure wX(w wr:World)(A1 A2:Option Addr)(c1 c2:Nat)(sg mt:List Int)(L:Int)(p:List Int):Prop where
 c0:wr.cell? ⟨w.heap.size,0,none⟩=some (.slice A1 sg.length c1)
 c1:wr.cell? ⟨w.heap.size,1,none⟩=some (.slice A2 mt.length c2)
 c2:wr.cell? ⟨w.heap.size,2,none⟩=some (.int .i64 L)
 rs:RI wr (·<w.heap.size) A1 sg
 rm:RI wr (·<w.heap.size) A2 mt
 pr:gh w wr w.heap.size (w.heap.size+1) mt.length p
section
variable{w wr:World}{A1 A2:Option Addr}{c1 c2:Nat}{sg mt:List Int}{L:Int}{p:List Int}
theorem wX.start(S:Nat->Prop)(hx:RI w S A1 sg)(hy:RI w S A2 mt)(hS:∀b,S b->b<w.heap.size)(hm:mt.length<=maxLen):
  wX w ((w.alloc (.cells #[.slice A1 sg.length c1,.slice A2 mt.length c2,.int .i64 L] 24)).alloc (.cells (Array.replicate mt.length (Value.int .i64 0)) 3)) A1 A2 c1 c2 sg mt L (List.replicate mt.length 0):=by
 have hD:=bI.start (c1:=c1) (c2:=c2) (L:=L) S hx hy hS;have hb:Below w.heap.size w (w.alloc (.cells #[.slice A1 sg.length c1,.slice A2 mt.length c2,.int .i64 L] 24)):=(Rh _ _).alloc (Rf _) _;have Vj:=(Rh (w.alloc (.cells #[.slice A1 sg.length c1,.slice A2 mt.length c2,.int .i64 L] 24)).heap.size (w.alloc (.cells #[.slice A1 sg.length c1,.slice A2 mt.length c2,.int .i64 L] 24))).alloc (Rf _) (.cells (Array.replicate mt.length (Value.int .i64 0)) 3);have hD2:=hD.below Vj;have V0:=OI.new (w.alloc (.cells #[.slice A1 sg.length c1,.slice A2 mt.length c2,.int .i64 L] 24)) w.heap.size mt.length oX hm;have Vt:=hb.trans (Vj.mono oX);refine⟨hD2.c0,hD2.c1,hD2.c2,?_,?_,⟨by simpa using V0,Vt,oX⟩⟩;{exact((hx.imp hS).below Vt)};{exact((hy.imp hS).below Vt)}
theorem wX.store{k:Nat}(h:wX w wr A1 A2 c1 c2 sg mt L p)(hl:p.length=mt.length)(y:Int):wX w (wr.setCell ⟨w.heap.size+1,k,none⟩ (.int .i64 y)) A1 A2 c1 c2 sg mt L (p.set k y):=by
 have Vo:∀i,(wr.setCell ⟨w.heap.size+1,k,none⟩ (.int .i64 y)).cell? ⟨w.heap.size,i,none⟩=wr.cell? ⟨w.heap.size,i,none⟩:=fun i=>Ri (a:=⟨w.heap.size,i,none⟩) (Rn wr _ _ w.heap.size oX)
 exact⟨(Vo 0).trans h.c0,(Vo 1).trans h.c1,(Vo 2).trans h.c2,h.rs.ak fun b hb=>Rn wr _ _ b qj,h.rm.ak fun b hb=>Rn wr _ _ b qj,h.pr.store hl oZ y⟩
theorem wX.done(h:wX w wr A1 A2 c1 c2 sg mt L p)(hl:p.length=mt.length)(hv:∀x,x<mt.length->gi p x= -1):pV w wr A1 A2 c1 c2 sg mt L 0 p (.slice none 0 0):=
 ⟨h.c0,h.c1,h.c2,h.rs,h.rm,h.pr,DA hl hv,RR.nil _ _ _⟩
end
theorem Dr(f:Nat->Nat)(N:Nat)(wt:Nat->Bool)(k:Nat):(rows (bR f N wt k)).length=D5 f N wt k:=by rw[aE,oH]
theorem IG(f:Nat->Nat)(N:Nat)(wt:Nat->Bool)(k:Nat):D5 f N wt k<=k:=jD _ _
section
variable(A1 A2:Option Addr)(c1 c2:Nat)(sg mt:List Int)(L:Int)(w:World)(S:Nat->Prop)(hx:RI w S A1 sg)(hy:RI w S A2 mt)(hS:∀b,S b->b<w.heap.size)
include hx hy hS
theorem lU(hd:cJ sg mt L):
  Calls Tryz.prog 84 #[.agg #[.slice A1 sg.length c1,.slice A2 mt.length c2,.int .i64 L]] w fun e w'=>∃v,e= .returned (.tuple #[v,.slice (some ⟨w.heap.size+1,0,none⟩) mt.length mt.length])/\
   RR 22 w' (w.heap.size+1) (·=w.heap.size+1) v (rows (aD sg mt))/\OI w' w.heap.size (.slice (some ⟨w.heap.size+1,0,none⟩) mt.length mt.length) (r_ sg mt)/\Below w.heap.size w w':=by
 have hn:=hd.2.1;have hl64:=hd.1;have VQ:mt.length<=400000:=oZ;have hsl:sg.length<=100000:=oZ;have H0:=Rb (wX.start (c1:=c1) (c2:=c2) (L:=L) S hx hy hS (by unfold maxLen;omega));have WY:=dN 22 Tryz.underlying22 mt.length oZ;have HD:=Rb hd;have HN:=Rb hn;have HS:=Rb hd.2.2.2.2.1;have HP:=Rb (aI hd);have HW:=Rb (fZ hd);clear hx hy hS hd hn hl64;go_enter Tryz.func84,Tryz.ntmps84
 go_wp2_with fail;clear WY;go_loopw[19] (fun i wr=>∃(k:Nat)(p:List Int),k<=mt.length/\i= .int .i64 k/\Hid (wX w wr A1 A2 c1 c2 sg mt L p)/\Hid (p.length=mt.length/\∀j,j<k->gi p j= -1)) (fun i _=>mt.length-(intOf i).toNat)
 case atStart=>exact⟨0,_,Rv _,rfl,H0,oX,by intro j hj;omega⟩
 case round=>
  clear H0;obtain⟨k,p,hk,rfl,HF,HV⟩:=hrel;by_cases Vg:k<mt.length
  ·obtain⟨-,hBg,Xm,ZS,Vk,Xn⟩:=HF.out.pr.own.ints_at (by rw[HV.out.1];omega)
   have k1:=Vk k (by rw[HV.out.1];exact Vg);have k2:=Xn k;have HF':=Rb (HF.out.store (k:=k) HV.out.1 (-1));have HV':Hid ((p.set k (-1)).length=mt.length/\∀j,j<k+1->gi (p.set k (-1)) j= -1):=by refine⟨by rw[Ry];exact HV.out.1,fun j hj=>?_⟩;rw[dB (by rw[HV.out.1];exact Vg)];split;{rfl};{exact HV.out.2 j oZ}
   clear Vk Xn ZS;go_wp2_with fail;go_roundw
   case rel=>exact⟨k+1,_,oZ,by go_num,HF',HV'⟩
   case measure=>simp[intOf];omega
  ·have HC:=Rb (HF.out.done HV.out.1 fun x hx=>HV.out.2 x oZ)
   clear HV HF;go_wp2_with fail;clear hk Vg;obtain⟨w2,rfl⟩:∃x:World,x=wr:=⟨_,rfl⟩
   go_loopw[7,28] (fun v i wr=>∃(k:Nat)(p:List Int),k<=mt.length/\i= .int .i64 k/\Hid (pV w wr A1 A2 c1 c2 sg mt L k p v)) (fun _ i _=>mt.length-(intOf i).toNat)
   case atStart=>exact⟨0,p,Rv _,rfl,HC⟩
   case round=>
    clear HC;obtain⟨k,p,hk,rfl,HC⟩:=hrel;by_cases Vg:k<mt.length
    ·have XS:k<=1000000:=oZ
     have hk4:(k:Int).tdiv 4=((k/4:Nat):Int):=SZ k 4;obtain⟨kq,hkq⟩:∃kq,k/4=kq:=⟨_,rfl⟩
     rw[hkq]at hk4;have hkq1:kq<sg.length:=by have:=HN.out;omega
     have hkqb:kq<=100000:=oZ;have hk4e:(k:Int)/4=(kq:Int):=oZ;by_cases hm:k%4=2
     ·have q2:((k:Int)%4==2)=true:=by rw[SA];omega
      have hox:ai sg k=true:=by unfold ai;rw[Rc oZ,Re hm]
      have HO:=Rb hox;obtain⟨w1,rfl⟩:∃x:World,x=wr:=⟨_,rfl⟩
      have Wu:=HC;clear HC hm hkq hox;have hz:Hid (0<=gi p k↔a_ (aP sg mt) mt.length k=false):=uZ HP.out HW.out Vg HO.out Wu.out.num;obtain⟨-,hBg,Xm,ZS,Vk,Xn⟩:=Wu.out.pr.own.ints_at (by rw[Wu.out.num.1];omega);have k1:=Vk k (by rw[Wu.out.num.1];exact Vg);clear Vk Xn ZS hBg;by_cases h0:0<=gi p k
      ·have HC':=Rb (Wu.out.skip fun h=>by rw[hz.out.1 h0]at h;cases h.2)
       go_wp2_with fail;go_roundw
       case rel=>exact⟨k+1,p,oZ,by go_num,HC'⟩
       case measure=>simp[intOf];omega
      ·have X_:a_ (aP sg mt) mt.length k=true:=by
        cases h:a_ (aP sg mt) mt.length k
        {exact absurd (hz.out.2 h) h0};{rfl}
       have HLB:=Rb X_;have HM:=Rb Wu.out.begin;obtain⟨A,cv,hv,-,-,-⟩:=Wu.out.row.shape;subst hv;obtain⟨q,hq⟩:∃q,D5 (aP sg mt) mt.length (ai sg) k=q:=⟨_,rfl⟩
       have hqb:q<=1000000:=by have:=IG (aP sg mt) mt.length (ai sg) k;omega
       rw[Dr,hq]at HM⊢;have HQ:=Rb hq;obtain⟨B,hB⟩:∃B,w1.heap.size=B:=⟨_,rfl⟩
       rw[hB]at HM;clear Wu X_ hq hz hB;go_wp2_with fail;clear k1 h0;obtain⟨w3,rfl⟩:∃x:World,x=w1:=⟨_,rfl⟩
       go_loopg[10,11] (eC (aP sg mt) mt.length k+1) (fun F u g wr=>∃(j:Nat)(p:List Int),j<=eC (aP sg mt) mt.length k/\g= .int .i64 (it (aP sg mt) j k)/\Hid (pH w wr A1 A2 c1 c2 sg mt L k j p (.slice A q cv) u B)/\Hid (eC (aP sg mt) mt.length k-j<F))
       case atStart=>exact⟨0,p,oZ,rfl,HM,by show _-_<_;omega⟩
       case round=>
        clear HM;obtain⟨j,p,hj,rfl,HM,HF⟩:=hrel;have VS:it (aP sg mt) j k<mt.length:=HP.out.bL j Vg;obtain⟨-,-,Xm,-,Vk,Xn⟩:=HM.out.pr.own.ints_at (by rw[HM.out.num.1];omega);have k1:=Vk (it (aP sg mt) j k) (by rw[HM.out.num.1];exact VS);have k2:=Xn (it (aP sg mt) j k);clear Vk Xn;by_cases Yh:j<eC (aP sg mt) mt.length k
        ·have Wm:gi p (it (aP sg mt) j k)= -1:=vQ HP.out HW.out Vg HO.out HLB.out HM.out.num Yh
         rw[Wm]at k1;have hog:ai sg (it (aP sg mt) j k)=true:=by rw[lA HP.out HW.out Vg ((aG HP.out Vg).2 ⟨j,rfl⟩)];exact HO.out
         have HOG:=Rb hog;have XB:=HM.out.list.ak (w':=wr.setCell ⟨w.heap.size+1,it (aP sg mt) j k,none⟩ (.int .i64 q)) fun g hg=>Rn wr _ _ g (by have:=(HM.out.list.lt g hg).1;have:=HM.out.gB;simp;omega)
         have HL:=Rb XB;have hlen:(ints ((bJ (aP sg mt) mt.length k).take j)).length<1099511627776:=by have h1:=fk HP.out Vg;rw[aH,UD];omega
         have Xb:=Rb hlen;have VI:B<=(wr.setCell ⟨w.heap.size+1,it (aP sg mt) j k,none⟩ (.int .i64 q)).heap.size:=by simpa using HM.out.bw
         have VZ:=Rb VI;clear Wm hog XB hlen VI;go_wp2_with(at_builtin;refine BV HL.out Xb.out VZ.out rfl rfl Tryz.underlying22 rfl (by show Value.slice (some ⟨wr.heap.size,0,none⟩) 1 1=_;simp) ?_;intro v' w' ho hg Vu);have Vv:=hg;rw[<-HQ.out]at Vv;have HM1:=Rb (HM.out.step HD.out Vg HLB.out Yh ho Vv);clear ho hg Vu Vv HM HL Xb VZ k1 k2;refine(KG HM1.out.db HD.out VS HOG.out).mono ?_;rintro e w4 ⟨rfl,hb⟩;have HM2:=Rb (HM1.out.call hb);clear HM1 hb;go_wp2_with fail;go_roundg (eC (aP sg mt) mt.length k-j)
         case measure=>exact HF.out
         case rel=>exact⟨j+1,_,oZ,rfl,HM2,by show _-_<_;omega⟩
        ·have hje:j=eC (aP sg mt) mt.length k:=oZ
         obtain⟨Au,cu,hu,-,-,-⟩:=HM.out.list.shape;obtain⟨lu,hlu⟩:∃lu,(ints ((bJ (aP sg mt) mt.length k).take j)).length=lu:=⟨_,rfl⟩
         rw[hlu]at hu;clear hlu;subst hu;have Yo:0<=gi p (it (aP sg mt) j k):=vo HP.out Vg HM.out.num hje;obtain⟨vs,hvs⟩:=HM.out.row;have HV:=Rb hvs;have Xr:vs.length<1099511627776:=by have h1:=tg hvs;have h2:=dM (aP sg mt) mt.length (ai sg) k;omega
         have YO:=Rb Xr;have VI:w.heap.size+1<=wr.heap.size:=by have:=HM.out.pr.size;omega
         have VZ:=Rb VI;have HJE:=Rb hje;have k3:¬gi p (it (aP sg mt) j k)<0:=oZ;clear hvs Xr VI hje Yh;go_wp2_with(at_builtin;refine nG (f:=id) (y:=Value.slice Au lu cu) lN rfl oQ rfl HV.out.1 YO.out VZ.out rfl rfl Tryz.underlying39 rfl rfl ?_;intro v' w' ho hg Vu);go_roundw
         case rel=>exact⟨k+1,p,oZ,by go_num,HM.out.push HD.out Vg HO.out HLB.out HJE.out HV.out ho hg Vu⟩
         case measure=>simp[intOf];omega
     ·have q2:((k:Int)%4==2)=false:=by rw[Rs];omega
      obtain⟨o,ho⟩:∃o,eT sg kq=o:=⟨_,rfl⟩
      obtain⟨x,hxo⟩:∃x,ai sg k=x:=⟨_,rfl⟩
      have q3:((k:Int)==(o:Int))=x:=by rw[<-ho,<-hxo,<-hkq];exact Is hm HS.out oZ
      have HO:=Rb hxo;have HOV:=Rb ho;have k0:=HC.out.c0;have k1:=HC.out.c1;have k2:=HC.out.c2;clear hm hkq hxo ho;go_wp2_with fail;refine(tc A1 A2 c1 c2 mt.length sg L _ kq _ (·<w.heap.size) HC.out.rs (fun b hb=>by have:=HC.out.pr.size;omega) HS.out hkq1 hsl oZ).mono ?_;rintro e w1 ⟨rfl,hb⟩;have Wu:=Rb (HC.out.call hb);clear HC hb k0 k1 k2;rw[HOV.out]
      cases x
      ·go_wp2_with fail
       have HC':=Rb (Wu.out.skip fun h=>by have:=HO.out;rw[this]at h;cases h.1);go_roundw
       case rel=>exact⟨k+1,p,oZ,by go_num,HC'⟩
       case measure=>simp[intOf];omega
      ·have hz:Hid (0<=gi p k↔a_ (aP sg mt) mt.length k=false):=uZ HP.out HW.out Vg HO.out Wu.out.num
       obtain⟨-,hBg,Xm,ZS,Vk,Xn⟩:=Wu.out.pr.own.ints_at (by rw[Wu.out.num.1];omega);have k1:=Vk k (by rw[Wu.out.num.1];exact Vg);clear Vk Xn ZS hBg;by_cases h0:0<=gi p k
       ·have HC':=Rb (Wu.out.skip fun h=>by rw[hz.out.1 h0]at h;cases h.2)
        go_wp2_with fail;go_roundw
        case rel=>exact⟨k+1,p,oZ,by go_num,HC'⟩
        case measure=>simp[intOf];omega
       ·have X_:a_ (aP sg mt) mt.length k=true:=by
         cases h:a_ (aP sg mt) mt.length k
         {exact absurd (hz.out.2 h) h0};{rfl}
        have HLB:=Rb X_;have HM:=Rb Wu.out.begin;obtain⟨A,cv,hv,-,-,-⟩:=Wu.out.row.shape;subst hv;obtain⟨q,hq⟩:∃q,D5 (aP sg mt) mt.length (ai sg) k=q:=⟨_,rfl⟩
        have hqb:q<=1000000:=by have:=IG (aP sg mt) mt.length (ai sg) k;omega
        rw[Dr,hq]at HM⊢;have HQ:=Rb hq;obtain⟨B,hB⟩:∃B,w1.heap.size=B:=⟨_,rfl⟩
        rw[hB]at HM;clear Wu X_ hq hz hB;go_wp2_with fail;clear k1 h0;obtain⟨w3,rfl⟩:∃x:World,x=w1:=⟨_,rfl⟩
        go_loopg[10,11] (eC (aP sg mt) mt.length k+1) (fun F u g wr=>∃(j:Nat)(p:List Int),j<=eC (aP sg mt) mt.length k/\g= .int .i64 (it (aP sg mt) j k)/\Hid (pH w wr A1 A2 c1 c2 sg mt L k j p (.slice A q cv) u B)/\Hid (eC (aP sg mt) mt.length k-j<F))
        case atStart=>exact⟨0,p,oZ,rfl,HM,by show _-_<_;omega⟩
        case round=>
         clear HM;obtain⟨j,p,hj,rfl,HM,HF⟩:=hrel;have VS:it (aP sg mt) j k<mt.length:=HP.out.bL j Vg;obtain⟨-,-,Xm,-,Vk,Xn⟩:=HM.out.pr.own.ints_at (by rw[HM.out.num.1];omega);have k1:=Vk (it (aP sg mt) j k) (by rw[HM.out.num.1];exact VS);have k2:=Xn (it (aP sg mt) j k);clear Vk Xn;by_cases Yh:j<eC (aP sg mt) mt.length k
         ·have Wm:gi p (it (aP sg mt) j k)= -1:=vQ HP.out HW.out Vg HO.out HLB.out HM.out.num Yh
          rw[Wm]at k1;have hog:ai sg (it (aP sg mt) j k)=true:=by rw[lA HP.out HW.out Vg ((aG HP.out Vg).2 ⟨j,rfl⟩)];exact HO.out
          have HOG:=Rb hog;have XB:=HM.out.list.ak (w':=wr.setCell ⟨w.heap.size+1,it (aP sg mt) j k,none⟩ (.int .i64 q)) fun g hg=>Rn wr _ _ g (by have:=(HM.out.list.lt g hg).1;have:=HM.out.gB;simp;omega)
          have HL:=Rb XB;have hlen:(ints ((bJ (aP sg mt) mt.length k).take j)).length<1099511627776:=by have h1:=fk HP.out Vg;rw[aH,UD];omega
          have Xb:=Rb hlen;have VI:B<=(wr.setCell ⟨w.heap.size+1,it (aP sg mt) j k,none⟩ (.int .i64 q)).heap.size:=by simpa using HM.out.bw
          have VZ:=Rb VI;clear Wm hog XB hlen VI;go_wp2_with(at_builtin;refine BV HL.out Xb.out VZ.out rfl rfl Tryz.underlying22 rfl (by show Value.slice (some ⟨wr.heap.size,0,none⟩) 1 1=_;simp) ?_;intro v' w' ho hg Vu);have Vv:=hg;rw[<-HQ.out]at Vv;have HM1:=Rb (HM.out.step HD.out Vg HLB.out Yh ho Vv);clear ho hg Vu Vv HM HL Xb VZ k1 k2;refine(KG HM1.out.db HD.out VS HOG.out).mono ?_;rintro e w4 ⟨rfl,hb⟩;have HM2:=Rb (HM1.out.call hb);clear HM1 hb;go_wp2_with fail;go_roundg (eC (aP sg mt) mt.length k-j)
          case measure=>exact HF.out
          case rel=>exact⟨j+1,_,oZ,rfl,HM2,by show _-_<_;omega⟩
         ·have hje:j=eC (aP sg mt) mt.length k:=oZ
          obtain⟨Au,cu,hu,-,-,-⟩:=HM.out.list.shape;obtain⟨lu,hlu⟩:∃lu,(ints ((bJ (aP sg mt) mt.length k).take j)).length=lu:=⟨_,rfl⟩
          rw[hlu]at hu;clear hlu;subst hu;have Yo:0<=gi p (it (aP sg mt) j k):=vo HP.out Vg HM.out.num hje;obtain⟨vs,hvs⟩:=HM.out.row;have HV:=Rb hvs;have Xr:vs.length<1099511627776:=by have h1:=tg hvs;have h2:=dM (aP sg mt) mt.length (ai sg) k;omega
          have YO:=Rb Xr;have VI:w.heap.size+1<=wr.heap.size:=by have:=HM.out.pr.size;omega
          have VZ:=Rb VI;have HJE:=Rb hje;have k3:¬gi p (it (aP sg mt) j k)<0:=oZ;clear hvs Xr VI hje Yh;go_wp2_with(at_builtin;refine nG (f:=id) (y:=Value.slice Au lu cu) lN rfl oQ rfl HV.out.1 YO.out VZ.out rfl rfl Tryz.underlying39 rfl rfl ?_;intro v' w' ho hg Vu);go_roundw
          case rel=>exact⟨k+1,p,oZ,by go_num,HM.out.push HD.out Vg HO.out HLB.out HJE.out HV.out ho hg Vu⟩
          case measure=>simp[intOf];omega
    ·obtain rfl:mt.length=k:=oZ
     have HR:Hid (RR 22 wr (w.heap.size+1) (·=w.heap.size+1) u7 (rows (aD sg mt))):=HC.out.row;have hp:p=r_ sg mt:=mZ (by rw[cY];exact HC.out.num.1) fun x hx=>by rw[HC.out.num.1]at hx;rw[lE hx];exact GH HP.out HW.out HC.out.num hx
     have HO:Hid (OI wr w.heap.size (.slice (some ⟨w.heap.size+1,0,none⟩) mt.length mt.length) (r_ sg mt)):=by rw[<-hp];exact HC.out.pr.own
     have Xx:=HC.out.pr.below;clear HC Vg hk hp;go_wp2_with fail;go_ret2;exact⟨_,rfl,HR.out,HO.out,Xx⟩
end



section
variable(A1 A2:Option Addr)(c1 c2:Nat)(sg mt:List Int)(L:Int)(w:World)(S:Nat->Prop)(hx:RI w S A1 sg)(hy:RI w S A2 mt)(hS:∀b,S b->b<w.heap.size)
include hx hy hS
theorem FP(hd:cJ sg mt L):
  Calls Tryz.prog 87 #[.agg #[.slice A1 sg.length c1,.slice A2 mt.length c2,.int .i64 L]] w fun e w'=>∃v,e= .returned (.tuple #[v,.int .i64 0])/\RR 22 w' w.heap.size (fun _=>False) v (rows (aD sg mt))/\Below w.heap.size w w':=by
 have HD:=Rb (bI.start (c1:=c1) (c2:=c2) (L:=L) S hx hy hS);have H:=Rb hd;obtain⟨h1,h2,h3,h4,-,h6,-,-⟩:=hd;have VL:sg.length<=maxLen:=by unfold maxLen;omega
 have Wb:mt.length<=maxLen:=by unfold maxLen;omega
 clear hx hy hS h6 h2;go_enter Tryz.func87,Tryz.ntmps87
 go_wp2_with fail;refine(eP _ true HD.out.rs HD.out.rm (fun _ h=>h) VL Wb (Rj H.out)).mono ?_;rintro e w1 ⟨rfl,Vi⟩;have Vp:=Rb (HD.out.below Vi);have k0:=Vp.out.c0;have k1:=Vp.out.c1;have k2:=Vp.out.c2;have Vr:=Rb (bX (o:=(.cells #[.slice A1 sg.length c1,.slice A2 mt.length c2,.int .i64 L] 24)) (by simpa using Vi));have VV:=Vr.out.size;clear Vi HD;go_wp2_with fail;refine(lU A1 A2 c1 c2 sg mt L w1 (·<w1.heap.size) Vp.out.rs Vp.out.rm (fun _ h=>h) H.out).mono ?_;rintro e w2 ⟨v,rfl,hr,-,Vj⟩;have HR:=Rb ((hr.mono (RQ VV (U0 _))).imp (F':=fun _=>False) fun _ _ _ h=>h.elim);have VD:=Rb (Vr.out.trans (Vj.mono VV));clear hr Vj k0 k1 k2;go_wp2_with fail;go_ret2;exact⟨_,rfl,HR.out,VD.out⟩
end
def ld(ps:List (Int×Int)):List Value:=ps.flatMap fun p=>[.int .i64 p.1,.int .i64 p.2]
theorem oD(ps:List (Int×Int))(p:Int×Int):ld (ps++[p])=ld ps++[.int .i64 p.1,.int .i64 p.2]:=by simp[ld]
theorem As:∀(ps:List (Int×Int)){k:Nat}(hk:k<ps.length),(ld ps)[2*k]?=some (.int .i64 ps[k].1)/\(ld ps)[2*k+1]?=some (.int .i64 ps[k].2)
 |[],k,hk=>by simp at hk
 |p::ps,0,_=>by simp[ld]
 |p::ps,k+1,hk=>by
  have:=As ps (k:=k) (by simpa using hk);have e:ld (p::ps)= .int .i64 p.1:: .int .i64 p.2::ld ps:=by simp[ld]
  rw[e,show 2*(k+1)=2*k+1+1 by omega,TU,TU,TU,TU];simpa using this
def OP(w:World)(B:Nat)(v:Value)(ps:List (Int×Int)):Prop:=w.ownsRow B 78 2 v ps.length (ld ps)
theorem va:(Tryz.prog.info? 78).map (fun i=>(i.zero,i.size,i.bytes))=some (some (.agg #[.int .i64 0,.int .i64 0]),2,16):=by kernel_rfl
section
variable{w w':World}{B:Nat}{v:Value}{ps:List (Int×Int)}
theorem OP.nil(w:World)(B:Nat):OP w B (.slice none 0 0) []:=Ur w B _ _
theorem OP.shape(h:OP w B v ps):∃A c,v= .slice A ps.length c/\ps.length<=c/\c<=maxLen:=by
 rcases h.2 with⟨rfl,hn⟩|⟨g,c,cur,rfl,hb,hh,hnc,Wy,VE,ht⟩
 {exact⟨none,0,by rw[hn],oZ,Rv _⟩};{exact⟨_,c,rfl,hnc,Wy⟩}
theorem OP.lt(h:OP w B v ps):∀g,v.ownBlock=some g->B<=g/\g<w.heap.size:=UC h
theorem OP.ak(h:OP w B v ps)(hg:∀g,v.ownBlock=some g->w'.heap[g]?=w.heap[g]?):OP w' B v ps:=by
 refine⟨h.1,?_⟩;rcases h.2 with h2|⟨g,c,cur,rfl,hb,hh,hr⟩
 {exact .inl h2};{exact .inr ⟨g,c,cur,rfl,hb,by rw[hg g rfl];exact hh,hr⟩}
theorem OP.mono{B':Nat}(h:OP w B v ps)(hB:B'<=B):OP w B' v ps:=by
 refine⟨h.1,?_⟩;rcases h.2 with h2|⟨g,c,cur,rfl,hb,hh,hr⟩
 {exact .inl h2};{exact .inr ⟨g,c,cur,rfl,oZ,hh,hr⟩}
theorem OP.below{C:Nat}(h:OP w B v ps)(hb:Below C w w')(hC:w.heap.size<=C):OP w' B v ps:=
 h.ak fun g hg=>hb.block g (by have:=(h.lt g hg).2;omega)
theorem OP.at_(h:OP w B v ps){k:Nat}(hk:k<ps.length):∃g c,v= .slice (some ⟨g,0,none⟩) ps.length c/\B<=g/\g<w.heap.size/\ps.length<=c/\
  ∀k (hk:k<ps.length),w.cell? ⟨g,2*k,none⟩=some (.int .i64 ps[k].1)/\w.cell? ⟨g,2*k+1,none⟩=some (.int .i64 ps[k].2):=by
 have h0:=h;rcases h.2 with⟨rfl,hn⟩|⟨g,c,cur,rfl,hb,hh,hnc,Wy,VE,ht⟩
 {omega}
 ·refine⟨g,c,rfl,hb,?_,hnc,fun k hk=>?_⟩
  ·rcases SN g w.heap.size with h|h
   {exact h};{rw[Us h]at hh;cases hh}
  {obtain⟨e1,e2⟩:=As ps hk;exact⟨(Tm h0 (2*k) oZ).trans e1,(Tm h0 (2*k+1) oZ).trans e2⟩}
theorem zC{o:Oper}{a:Act}{K:Act->World->Prop}{Q:Exit->Act->World->Prop}{s x:Operand}{t:TypeId}{y z:Int}
  (Vq:OP w B v ps)(hl:ps.length<1099511627776)(hB:B<=w.heap.size)
  (ho:o.op= .call {callee:= .builtin .append,args:=#[s,x],argTypes:=#[t,t]})
  (ht:Tryz.prog.underlying t=some (.slice 78))(hs:a.eval s=v)(hx:a.eval x= .slice (some ⟨w.heap.size,0,none⟩) 1 1)
  (h:∀v' w',OP w' B v' (ps++[(y,z)])->(w.alloc (.cells #[.int .i64 y,.int .i64 z] 78)).grownBy w' v.ownBlock->(v'.ownBlock=v.ownBlock\/v'.ownBlock=some (w.heap.size+1))->K (a.put o.dst v') w'):
  o.wp Tryz.prog a (w.alloc (.cells #[.int .i64 y,.int .i64 z] 78)) K Q:=by
 obtain⟨i0,hi,V6,VU,VN⟩:=S7 va;have YI:(w.alloc (.cells #[.int .i64 y,.int .i64 z] 78)).ownsRow B 78 2 v ps.length (ld ps):=UN Vq _;have V0:∀(j:Nat)(u:Value),[Value.int .i64 y,Value.int .i64 z][j]?=some u->(w.alloc (.cells #[.int .i64 y,.int .i64 z] 78)).cell? ((⟨w.heap.size,0,none⟩:Addr).add j)=some u:=by
  intro j u hu;have e:((⟨w.heap.size,0,none⟩:Addr).add j)=⟨w.heap.size,j,none⟩:=by unfold Addr.add;split;{rename_i h0;subst h0;rfl};{simp}
  rw[e,Rt _ _ _ _ _ _ (Ru w _)];simpa using hu
 obtain⟨v',w',VG,h2,h3,_,h5⟩:=Tp (P:=Tryz.prog) (w.alloc (.cells #[.int .i64 y,.int .i64 z] 78)) B t o.type 78 i0 _ 2 16 ht hi V6 VU VN rfl oQ v ps.length _ YI
  ⟨w.heap.size,0,none⟩ 1 1 [.int .i64 y,.int .i64 z] rfl V0 (by intro u hu;simp at hu;rcases hu with rfl|rfl<;>rfl) (by unfold maxLen;omega) oZ qj
 unfold Oper.wp execOp;simp only[ho,resolve,invoke,builtin,TI,TJ,SV,S_,Tk,Tw,hs,hx,VG];refine h v' w' ?_ h3 (by simpa using h5);unfold OP;rw[oD,Rz];exact h2
theorem Gm{ops:Array Oper}{rest:List Oper}{o:Oper}{a:Act}{Q:Exit->Act->World->Prop}{s x:Operand}{t:TypeId}{y z:Int}
  (Vq:OP w B v ps)(hl:ps.length<1099511627776)(hB:B<=w.heap.size)
  (XO:o.guard=none)(ho:o.op= .call {callee:= .builtin .append,args:=#[s,x],argTypes:=#[t,t]})
  (ht:Tryz.prog.underlying t=some (.slice 78))(hs:a.eval s=v)(hx:a.eval x= .slice (some ⟨w.heap.size,0,none⟩) 1 1)
  (h:∀v' w',OP w' B v' (ps++[(y,z)])->(w.alloc (.cells #[.int .i64 y,.int .i64 z] 78)).grownBy w' v.ownBlock->(v'.ownBlock=v.ownBlock\/v'.ownBlock=some (w.heap.size+1))->
   wpList Tryz.prog ops Q rest (a.put o.dst v') w'):
  wpList Tryz.prog ops Q (o::rest) a (w.alloc (.cells #[.int .i64 y,.int .i64 z] 78)):=
 Ut XO fun _ hK=>zC Vq hl hB ho ht hs hx fun v' w' h2 h3 h5=>hK _ _ (h v' w' h2 h3 h5)
theorem xA{o:Oper}{a:Act}{K:Act->World->Prop}{Q:Exit->Act->World->Prop}{s x:Operand}{t:TypeId}{y z:Int}{g:Nat}
  (Vq:OP w B v ps)(hl:ps.length<1099511627776)(hB:B<=w.heap.size)(hh:w.heap[g]?=some (.cells #[.int .i64 y,.int .i64 z] 78 (0,0)))
  (ho:o.op= .call {callee:= .builtin .append,args:=#[s,x],argTypes:=#[t,t]})
  (ht:Tryz.prog.underlying t=some (.slice 78))(hs:a.eval s=v)(hx:a.eval x= .slice (some ⟨g,0,none⟩) 1 1)
  (h:∀v' w',OP w' B v' (ps++[(y,z)])->w.grownBy w' v.ownBlock->(v'.ownBlock=v.ownBlock\/v'.ownBlock=some w.heap.size)->K (a.put o.dst v') w'):
  o.wp Tryz.prog a w K Q:=by
 obtain⟨i0,hi,V6,VU,VN⟩:=S7 va;have V0:∀(j:Nat)(u:Value),[Value.int .i64 y,Value.int .i64 z][j]?=some u->w.cell? ((⟨g,0,none⟩:Addr).add j)=some u:=by
  intro j u hu;have e:((⟨g,0,none⟩:Addr).add j)=⟨g,j,none⟩:=by unfold Addr.add;split;{rename_i h0;subst h0;rfl};{simp}
  rw[e,Rt _ _ _ _ _ _ hh];simpa using hu
 obtain⟨v',w',VG,h2,h3,_,h5⟩:=Tp (P:=Tryz.prog) w B t o.type 78 i0 _ 2 16 ht hi V6 VU VN rfl oQ v ps.length _ Vq
  ⟨g,0,none⟩ 1 1 [.int .i64 y,.int .i64 z] rfl V0 (by intro u hu;simp at hu;rcases hu with rfl|rfl<;>rfl) (by unfold maxLen;omega) oZ hB
 unfold Oper.wp execOp;simp only[ho,resolve,invoke,builtin,TI,TJ,SV,S_,Tk,Tw,hs,hx,VG];refine h v' w' ?_ h3 h5;unfold OP;rw[oD,Rz];exact h2
theorem uQ{ops:Array Oper}{o:Oper}{a:Act}{K:Act->World->Prop}{Q:Exit->Act->World->Prop}{E:Prop}{s x:Operand}{t:TypeId}{y z:Int}{g:Nat}
  (Vq:OP w B v ps)(hl:ps.length<1099511627776)(hB:B<=w.heap.size)(hh:w.heap[g]?=some (.cells #[.int .i64 y,.int .i64 z] 78 (0,0)))
  (XO:o.guard=none)(ho:o.op= .call {callee:= .builtin .append,args:=#[s,x],argTypes:=#[t,t]})
  (ht:Tryz.prog.underlying t=some (.slice 78))(hs:a.eval s=v)(hx:a.eval x= .slice (some ⟨g,0,none⟩) 1 1)
  (h:∀v' w',OP w' B v' (ps++[(y,z)])->w.grownBy w' v.ownBlock->(v'.ownBlock=v.ownBlock\/v'.ownBlock=some w.heap.size)->K (a.put o.dst v') w'):
  if Region.wanted o (yielded ops a.tmps)=true then Oper.wp Tryz.prog o a w K Q else E:=by
 have hw:Region.wanted o (yielded ops a.tmps)=true:=by simp[Region.wanted,XO]
 rw[Re hw];exact xA Vq hl hB hh ho ht hs hx h
end
def qn(sg mt:List Int)(c:Nat):Int×Int:=(iL (aP sg mt) mt.length (ai sg) (4*c+2),iL (aP sg mt) mt.length (ai sg) (eT sg c))
def fV(sg mt:List Int)(k:Nat):List (Int×Int):=(List.range k).map (qn sg mt)
theorem fh(sg mt:List Int)(k:Nat):(fV sg mt k).length=k:=by simp[fV]
theorem zf(sg mt:List Int)(k:Nat):fV sg mt (k+1)=fV sg mt k++[qn sg mt k]:=by simp[fV,Sk]
structure iu(w2 w:World)(v:Value)(ps:List (Int×Int)):Prop where
 bl:Below w2.heap.size w2 w
 op:OP w w2.heap.size v ps
section
variable{w2 w w':World}{v v':Value}{ps:List (Int×Int)}
theorem iu.call(h:iu w2 w v ps)(hb:Below w.heap.size w w'):iu w2 w' v ps:=⟨h.bl.trans (hb.mono h.bl.size),h.op.below hb (Rf _)⟩
theorem iu.drew(h:iu w2 w v ps):iu w2 w.drew v ps:=h.call (Rh _ _).drew
theorem iu.alloc(h:iu w2 w v ps)(o:Obj):iu w2 (w.alloc o) v ps:=h.call ((Rh _ _).alloc (Rf _) _)
theorem iu.push{p:Int×Int}(h:iu w2 w v ps)(ho:OP w' w2.heap.size v' (ps++[p]))(hg:w.grownBy w' v.ownBlock):iu w2 w' v' (ps++[p]):=
 ⟨h.bl.grown hg h.bl.size fun k hk=>(h.op.lt k hk).1,ho⟩
end
structure Qj(w w0:World)(A1 A2:Option Addr)(c1 c2:Nat)(sg mt:List Int)(L:Int)(bd gp i j:Nat)(x y:Int):Prop where
 db:bI w bd A1 A2 c1 c2 sg mt L
 cx:w.cell? ⟨gp,i,none⟩=some (.int .i64 x)
 cy:w.cell? ⟨gp,j,none⟩=some (.int .i64 y)
 lt:gp<w.heap.size
theorem Qj.pack{w w0 w2:World}{A1 A2:Option Addr}{c1 c2:Nat}{sg mt:List Int}{L:Int}{bd gp i j:Nat}{x y:Int}(hc:Qj w2 w0 A1 A2 c1 c2 sg mt L bd gp i j x y)(h:Below w2.heap.size w2 w):
  Hid (Below w2.heap.size w2 w)/\w.cell? ⟨bd,0,none⟩=some (.slice A1 sg.length c1)/\w.cell? ⟨bd,1,none⟩=some (.slice A2 mt.length c2)/\w.cell? ⟨bd,2,none⟩=some (.int .i64 L)/\w.cell? ⟨gp,i,none⟩=some (.int .i64 x)/\w.cell? ⟨gp,j,none⟩=some (.int .i64 y):=
 have hd:=hc.db.below h
 ⟨h,hd.c0,hd.c1,hd.c2,(h.cell (p:=⟨gp,i,none⟩) hc.lt).trans hc.cx,(h.cell (p:=⟨gp,j,none⟩) hc.lt).trans hc.cy⟩
section
variable(A1 A2:Option Addr)(c1 c2:Nat)(sg mt:List Int)(L:Int)(w:World)(S:Nat->Prop)(hx:RI w S A1 sg)(hy:RI w S A2 mt)(hS:∀b,S b->b<w.heap.size)
include hx hy hS
theorem u_(hd:cJ sg mt L):
  Calls Tryz.prog 66 #[.agg #[.slice A1 sg.length c1,.slice A2 mt.length c2,.int .i64 L]] w fun e w'=>∃v,e= .returned (.tuple #[v,.int .i64 ((aD sg mt).length+L),.int .i64 0])/\OP w' w.heap.size v (fV sg mt sg.length)/\Below w.heap.size w w':=by
 have HD:=Rb (bI.start (c1:=c1) (c2:=c2) (L:=L) S hx hy hS);have H:=Rb hd;have Vo:(aD sg mt).length<=256:=by have:=dM (aP sg mt) mt.length (ai sg) mt.length;rw[aE]at this;have:=hd.1;have:=hd.2.1;unfold aD;omega
 have HS:=Rb hd.2.2.2.2.1;obtain⟨h1,h2,h3,h4,-,h6,-,-⟩:=hd;have VL:sg.length<=maxLen:=by unfold maxLen;omega
 have Wb:mt.length<=maxLen:=by unfold maxLen;omega
 have HN:=Rb h2;have VQ:mt.length<=256:=oZ;have hsl:sg.length<=100000:=oZ;clear hx hy hS h6 h2;go_enter Tryz.func66,Tryz.ntmps66
 go_wp2_with fail;refine(eP _ true HD.out.rs HD.out.rm (fun _ h=>h) VL Wb (Rj H.out)).mono ?_;rintro e w1 ⟨rfl,Vi⟩;have Vp:=Rb (HD.out.below Vi);have k0:=Vp.out.c0;have k1:=Vp.out.c1;have k2:=Vp.out.c2;have Vr:=Rb (bX (o:=(.cells #[.slice A1 sg.length c1,.slice A2 mt.length c2,.int .i64 L] 24)) (by simpa using Vi));have VV:=Vr.out.size;clear Vi HD;go_wp2_with fail;refine(lU A1 A2 c1 c2 sg mt L w1 (·<w1.heap.size) Vp.out.rs Vp.out.rm (fun _ h=>h) H.out).mono ?_;rintro e w2 ⟨v,rfl,hr,Yk,Vj⟩;obtain⟨Av,cv,rfl,-,-,-⟩:=hr.shape;rw[aE];have VD:=Rb (Vr.out.trans (Vj.mono VV));have Ws:=Rb (Vp.out.below Vj);have X8:=Rb Yk;have Xp:=VD.out.size;clear hr Vj k0 k1 k2 Vp Vr Yk;have k0:=Ws.out.c0;have HQ0:Hid (iu w2 w2 (.slice none 0 0) (fV sg mt 0)):=⟨Rh _ _,OP.nil _ _⟩;obtain⟨gp,hgp⟩:∃gp,w1.heap.size+1=gp:=⟨_,rfl⟩
 rw[hgp]at X8⊢;clear hgp;go_wp2_with fail;clear k0;go_loopw[7,20] (fun v i wr=>∃k:Nat,k<=sg.length/\i= .int .i64 k/\Hid (iu w2 wr v (fV sg mt k))) (fun _ i _=>sg.length-(intOf i).toNat)
 case atStart=>exact⟨0,Rv _,rfl,HQ0⟩
 case round=>
  clear HQ0;obtain⟨k,hk,rfl,HQ⟩:=hrel;by_cases Vg:k<sg.length
  ·have hov:=oK HS.out Vg
   obtain⟨o,ho⟩:∃o,eT sg k=o:=⟨_,rfl⟩
   rw[ho]at hov;have Ze:o<mt.length:=by have:=HN.out;omega
   have hil:4*k+2<mt.length:=by have:=HN.out;omega
   have HO:=Rb ho;obtain⟨-,-,Xm,-,Vk,-⟩:=X8.out.ints_at (by rw[cY];omega);have n1:=Vk (4*k+2) (by rw[cY];exact hil);have n2:=Vk o (by rw[cY];exact Ze);rw[lE hil]at n1;rw[lE Ze]at n2;obtain⟨x,hxx⟩:∃x,iL (aP sg mt) mt.length (ai sg) (4*k+2)=x:=⟨_,rfl⟩
   obtain⟨y,hyy⟩:∃y,iL (aP sg mt) mt.length (ai sg) o=y:=⟨_,rfl⟩
   rw[hxx]at n1;rw[hyy]at n2;have HC:=Rb (Qj.mk (w0:=w) Ws.out n1 n2 Xm);have HE:=Rb (show qn sg mt k=(x,y) by unfold qn;rw[ho,hxx,hyy]);have hlen:(fV sg mt k).length<1099511627776:=by rw[fh];omega
   have Xb:=Rb hlen;have i1:(0:Int)<=4*(k:Int)+2/\4*(k:Int)+2<mt.length:=oZ;have i2:(4*(k:Int)+2).toNat=4*k+2:=oZ;have w1':IntKind.i64.wrap (4*(k:Int))=4*(k:Int):=SF _ oZ;have w2':IntKind.i64.wrap (4*(k:Int)+2)=4*(k:Int)+2:=SF _ oZ;have i4:(0:Int)<=4*(k:Int)+2:=oZ;have i5:4*(k:Int)+2<mt.length:=oZ;have i3:(0:Int)<=(o:Int)/\(o:Int)<mt.length:=oZ;clear Vk n1 n2 hxx hyy ho hov hlen;go_wp2_with fail
   go_region_held3 (fun w'=>Hid (Below w2.heap.size w2 w')/\w'.cell? ⟨w.heap.size,0,none⟩=some (.slice A1 sg.length c1)/\w'.cell? ⟨w.heap.size,1,none⟩=some (.slice A2 mt.length c2)/\w'.cell? ⟨w.heap.size,2,none⟩=some (.int .i64 L)/\w'.cell? ⟨gp,4*k+2,none⟩=some (.int .i64 x)/\w'.cell? ⟨gp,o,none⟩=some (.int .i64 y))
    (first|exact HC.out.pack HQ.out.drew.bl|exact HC.out.pack (HQ.out.drew.call hb9).bl|exact HC.out.pack ((HQ.out.drew.call hb9).alloc _).bl|exact HC.out.pack hq9.bl)
    (first
     |(go_at_call 86;((with_reducible refine(tc A1 A2 c1 c2 mt.length sg L _ k _ (·<w2.heap.size) (Ws.out.rs.below HQ.out.drew.bl) (fun b hb=>RB hb HQ.out.drew.bl.size) HS.out Vg hsl rfl).mono ?_);rintro e9 w9 ⟨rfl,hb9⟩;rw[HO.out]))
     |(refine uQ ((HQ.out.drew.call hb9).alloc _).op Xb.out ((HQ.out.drew.call hb9).alloc _).bl.size (Ru _ _) rfl rfl Tryz.underlying101 rfl rfl ?_;intro v9 w8 ho9 hg9 hob9;have hq9:=iu.push ((HQ.out.drew.call hb9).alloc _) ho9 hg9))
   have HQ9:Hid (iu w2 w8 v9 (fV sg mt (k+1))):=by rw[zf,HE.out];exact hq9
   clear hq9 ho9 hg9 hob9 hb9;go_wp2_with fail;go_roundw
   case rel=>exact⟨k+1,oZ,by go_num,HQ9⟩
   case measure=>simp[intOf];omega
  ·obtain rfl:sg.length=k:=oZ
   have hd:=Ws.out.below HQ.out.bl;have k0:=hd.c0;have k2:=hd.c2;have ZX:=Rb (VD.out.trans (HQ.out.bl.mono Xp));have HO9:=Rb (HQ.out.op.mono Xp);clear hd HQ Vg;go_wp2_with fail
   go_quiet(fail)
   go_wp2_with fail
   go_ret3
   exact⟨_,rfl,HO9.out,RJ ZX.out _⟩
end
theorem Az(f:Nat->Nat)(N:Nat)(wt:Nat->Bool):∀n r,r<n->wt r=true->a_ f N r=true->(bR f N wt n)[D5 f N wt r]?=some (bJ f N r)
 |0,r,h,_,_=>by omega
 |n+1,r,h,hw,hl=>by
  rw[dS];rcases Sl (SO h)with h1|h1
  {have:=Az f N wt n r h1 hw hl;rw[TE (Tf.1 this).1];exact this};{subst h1;rw[Re (by rw[hw,hl];rfl),Uc (by rw[oH];exact Rf _),oH];simp}
theorem pt(f:Nat->Nat)(N:Nat)(wt:Nat->Bool):∀n i (hi:i<(bR f N wt n).length),∃r,r<n/\wt r=true/\a_ f N r=true/\D5 f N wt r=i/\(bR f N wt n)[i]=bJ f N r
 |0,i,hi=>by simp[bR]at hi
 |n+1,i,hi=>by
  by_cases hn:i<(bR f N wt n).length;{obtain⟨r,h1,h2,h3,h4,h5⟩:=pt f N wt n i hn;refine⟨r,oZ,h2,h3,h4,?_⟩;simp only[dS];rw[Uj hn];exact h5}
  ·by_cases hb:(wt n&&a_ f N n)=true
   ·have Vj:=hb
    rw[RA]at Vj;have hl:(bR f N wt (n+1)).length=(bR f N wt n).length+1:=by rw[dS,Re hb];simp
    have hi2:i=(bR f N wt n).length:=oZ;refine⟨n,oZ,Vj.1,Vj.2,by rw[hi2,oH],?_⟩;subst hi2;simp only[dS,Re hb];simp
   ·exfalso
    have hl:(bR f N wt (n+1)).length=(bR f N wt n).length:=by rw[dS,Rc hb];simp
    omega
section
variable{f:Nat->Nat}{N:Nat}{wt:Nat->Bool}(hP:aO f N)(hw:∀h,h<N->wt (f h)=wt h)
include hP hw
theorem fw{h:Nat}(hh:h<N)(Wf:wt h=true):e_ f N wt h<(bR f N wt N).length/\(bR f N wt N)[e_ f N wt h]?=some (bJ f N (fu f N h)):=by obtain⟨a1,a2⟩:=c_ hP hh;have:=Az f N wt N (fu f N h) (dJ hP hh a1) (by rw[lA hP hw hh a1];exact Wf) (pQ hP hh);exact⟨(Tf.1 this).1,this⟩
theorem rL{h i:Nat}(hh:h<N)(Wf:wt h=true)(hi:i<(bR f N wt N).length):h∈(bR f N wt N)[i]↔i=e_ f N wt h:=by
 constructor;{intro hm;obtain⟨r,h1,h2,h3,h4,h5⟩:=pt f N wt N i hi;rw[h5]at hm;unfold e_;rw[iE hP h1 hm,iQ hP h1 h3,h4]}
 ·rintro rfl
  have h2:=(fw hP hw hh Wf).2;rw[RH hi]at h2;injection h2 with h2
  rw[h2];obtain⟨a1,a2⟩:=c_ hP hh;exact aL hP hh a1
end
def wZ(sg mt:List Int)(h:Nat):Nat:=if ai sg h=true then h else gn mt h
def fa(mt:List Int)(i:Nat):List Nat:=(aC mt).getD i []
def qd(mt:List Int):List Nat:=(List.range mt.length).filter fun h=>il h&&a_ (au mt) mt.length h
theorem p_(mt:List Int):aC mt=(qd mt).map (bJ (au mt) mt.length):=rfl
theorem qg{mt:List Int}{k:Nat}(hk:k<(aC mt).length):fa mt k=(aC mt)[k]:=by simp[fa,hk]
section
variable{mt:List Int}(hP:aO (au mt) mt.length)
include hP
theorem G8{k x:Nat}(hk:k<(aC mt).length)(h:x∈fa mt k):x<mt.length:=by obtain⟨a,ha,e⟩:=nH hk;rw[qg hk,e]at h;exact dJ hP ha h
theorem sL{i k x:Nat}(hik:i<k)(hk:k<(aC mt).length)(h1:x∈fa mt i)(h2:x∈fa mt k):False:=by
 have hi:i<(aC mt).length:=oZ;rw[qg hi]at h1;rw[qg hk]at h2;simp only[p_,Uf]at h1 h2;have hl:(aC mt).length=(qd mt).length:=by rw[p_,Sa]
 have hr:∀j (hj:j<(qd mt).length),(qd mt)[j]<mt.length/\a_ (au mt) mt.length (qd mt)[j]=true:=by intro j hj;have hm:=R7 hj;unfold qd at hm;rw[R3,RA]at hm;exact⟨Rm.1 hm.1,hm.2.2⟩
 obtain⟨a1,a2⟩:=hr i oZ;obtain⟨b1,b2⟩:=hr k oZ;have m1:=aM hP a1 h1 (aL hP b1 h2);have l1:=dG.1 a2 _ m1;have l2:=dG.1 b2 _ (aL hP a1 m1);have Yz:(qd mt).Pairwise (·<·):=by unfold qd;exact List.Pairwise.filter _ Tc
 have:=TF.1 Yz i k oZ oZ hik;omega
theorem zT{x:Nat}(hx:x<mt.length):∃k,k<(aC mt).length/\x∈fa mt k:=by
 obtain⟨m,h1,h2,h3,h4,-⟩:=pw hP hx;have hm:bJ (au mt) mt.length m∈aC mt:=by unfold aC bR;exact Sb (R3.2 ⟨Rm.2 h2,by rw[h4];rfl⟩)
 obtain⟨k,hk,e⟩:=Te hm;exact⟨k,hk,by rw[qg hk,e];exact h3⟩
theorem MP{k x y:Nat}(hk:k<(aC mt).length)(hx:x∈fa mt k)(hy:y∈fa mt k):y∈bJ (au mt) mt.length x:=by obtain⟨a,ha,e⟩:=nH hk;rw[qg hk,e]at hx hy;exact aM hP (dJ hP ha hx) (aL hP ha hx) hy
end
def Ay(sg mt:List Int)(h:Nat):Nat:=e_ (aP sg mt) mt.length (ai sg) (wZ sg mt h)
def mC(sg mt:List Int)(h k:Nat):Bool:=decide (k∈bJ (au mt) mt.length h)&&(ai sg h==ai sg k)&&decide (Ay sg mt h≠Ay sg mt k)
def gI(sg mt:List Int)(h:Nat):Nat->List (Int×Int)
 |0=>[]
 |k+1=>gI sg mt h k++if h<k/\mC sg mt h k=true then[((h:Int),(k:Int))]else[]
def iZ(sg mt:List Int):Nat->List (Int×Int)
 |0=>[]
 |h+1=>iZ sg mt h++gI sg mt h mt.length
theorem vd(sg mt:List Int)(h:Nat):∀k,k<=h+1->gI sg mt h k=[]
 |0,_=>rfl
 |k+1,hk=>by unfold gI;rw[vd sg mt h k oZ,Rc oZ];rfl
theorem sh(sg mt:List Int)(h:Nat):∀k,(gI sg mt h k).length<=k
 |0=>Rf _
 |k+1=>by have:=sh sg mt h k;unfold gI;rw[Rz];split<;>simp<;>omega
theorem ts(sg mt:List Int):∀h,(iZ sg mt h).length<=h*mt.length
 |0=>by simp[iZ]
 |h+1=>by have:=ts sg mt h;have h2:=sh sg mt h mt.length;unfold iZ;rw[Rz,Ug];omega
def AL(mt:List Int)(k j:Nat)(p:List Int):Prop:=∀x,x<mt.length->(∀i,i<k->x∈fa mt i->gi p x=(i:Int))/\(x∈(fa mt k).take j->gi p x=(k:Int))
theorem vt(mt:List Int)(p:List Int):AL mt 0 0 p:=fun x _=>⟨fun i hi=>by omega,fun hm=>by simp at hm⟩
theorem zw{mt:List Int}{k:Nat}{p:List Int}(h:AL mt k (fa mt k).length p):AL mt (k+1) 0 p:=by
 intro x hx;obtain⟨h1,h2⟩:=h x hx;rw[UE]at h2;refine⟨fun i hi hm=>?_,fun hm=>by simp at hm⟩;rcases Sl (SO hi)with h|h
 {exact h1 i h hm};{subst h;exact h2 hm}
section
variable{mt:List Int}(hP:aO (au mt) mt.length)
include hP
theorem zy{k j:Nat}{p:List Int}(hk:k<(aC mt).length)(hj:j<(fa mt k).length)(hl:p.length=mt.length)(h:AL mt k j p):AL mt k (j+1) (p.set (fa mt k)[j] (k:Int)):=by have hm:=R7 hj;have Vg:=G8 hP hk hm;intro x hx;obtain⟨h1,h2⟩:=h x hx;rw[dB oZ,TL hj,SS,Ti];by_cases e:x=(fa mt k)[j];{rw[Re e];exact⟨fun i hi hmi=>(sL hP hi hk hmi (e▸hm)).elim,fun _=>rfl⟩};{rw[Rc e];exact⟨h1,fun hm=>h2 (hm.elim id fun h=>absurd h e)⟩}
theorem oN{p:List Int}(h:AL mt (aC mt).length 0 p){x y:Nat}(hx:x<mt.length)(hy:y<mt.length):gi p x=gi p y↔y∈bJ (au mt) mt.length x:=by
 obtain⟨a,a1,a2⟩:=zT hP hx;obtain⟨b,b1,b2⟩:=zT hP hy;rw[(h x hx).1 a a1 a2,(h y hy).1 b b1 b2];constructor;{intro e;have:a=b:=oZ;subst this;exact MP hP a1 a2 b2}
 ·intro hm
  obtain⟨r,hr,e⟩:=nH a1;have hya:y∈fa mt a:=by rw[qg a1,e]at a2⊢;exact aM hP hr a2 hm
  rcases SK a b with h1|h1|h1
  {exact(sL hP h1 b1 hya b2).elim};{rw[h1]};{exact(sL hP h1 a1 b2 hya).elim}
end
theorem PD{w:World}{bn gp bd h:Nat}{A1 A2:Option Addr}{c1 c2:Nat}{sg mt:List Int}{L hi:Int}(hbn:w.cell? ⟨bn,0,none⟩=some (.slice (some ⟨gp,0,none⟩) mt.length mt.length))(hD:bI w bd A1 A2 c1 c2 sg mt L)
  (hN:∀x,x<mt.length->w.cell? ⟨gp,x,none⟩=some (.int .i64 (iL (aP sg mt) mt.length (ai sg) x)))(hd:cJ sg mt L)(hh:h<mt.length)(he:hi=h)(m:Nat)(hm:Ay sg mt h=m):
  Calls Tryz.prog 85 #[.int .i64 hi,.pointer (some ⟨bn,0,none⟩),.pointer (some ⟨bd,0,none⟩)] w fun e w'=>e= .returned (.int .i64 (m:Int))/\∃n,w'=w.drewN n:=by
 subst he;obtain⟨Vs,Vv,-,-⟩:=hd.2.2.2.2.2.1.gn hh;have k1:=hD.c1;obtain⟨b,off,rfl,-,hc⟩:=hD.rm.at_ hh;have k3:=hc h hh;rw[Vs]at k3;have n1:=hN h hh;have n2:=hN _ Vv;have hor:(iL (aP sg mt) mt.length (ai sg) h=(m:Int)/\iL (aP sg mt) mt.length (ai sg) (gn mt h)= -1)\/(iL (aP sg mt) mt.length (ai sg) h= -1/\iL (aP sg mt) mt.length (ai sg) (gn mt h)=(m:Int)):=by
  rw[<-hm];unfold iL Ay wZ;have:=hd.2.2.2.2.2.2.1 h hh;by_cases ho:ai sg h=true
  ·have h2:¬ai sg (gn mt h)=true:=by rw[ho]at this;intro h2;rw[h2]at this;exact this rfl
   rw[Re ho,Rc h2,Re ho];exact .inl ⟨rfl,rfl⟩
  ·have h2:ai sg (gn mt h)=true:=by
    cases h':ai sg (gn mt h)
    {rw[h']at this;exact absurd (by simpa using ho) this};{rfl}
   rw[Rc ho,Re h2,Rc ho];exact .inr ⟨rfl,rfl⟩
 obtain⟨g,hg⟩:∃g,gn mt h=g:=⟨_,rfl⟩
 rw[hg]at n2 k3 Vv hor;have M1:max (m:Int) (-1)=(m:Int):=oZ;have M2:max (-1) (m:Int)=(m:Int):=oZ;rcases hor with⟨e1,e2⟩|⟨e1,e2⟩
 all_goals
  rw[e1]at n1;rw[e2]at n2;clear e1 e2 hg hN hc hD hd hm Vs;go_enter Tryz.func85,Tryz.ntmps85
  go_wp2_with fail
  go_quiet(fail)
  go_wp2_with fail;go_ret;exact⟨rfl,_,rfl⟩
def D_(f:Nat->Nat)(N x:Nat):Nat:=it f (eC f N x-1) x
section
variable{f:Nat->Nat}{N:Nat}(hP:aO f N)
include hP
theorem ju{x:Nat}(hx:x<N):D_ f N x<N:=hP.bL _ hx
theorem mW{x:Nat}(hx:x<N):f (D_ f N x)=x:=by obtain⟨h0,-,h1,-⟩:=bz hP hx;unfold D_;show it f (eC f N x-1+1) x=x;rw[TY h0,h1]
theorem M3{x:Nat}(hx:x<N):D_ f N (f x)=x:=hP.inj _ _ (ju hP (hP.lt _ hx)) hx (mW hP (hP.lt _ hx))
theorem JT(k:Nat):aO (it f k) N:=⟨fun _ hh=>hP.bL k hh,fun _ _ ha hb e=>hP.ki k ha hb e⟩
end
theorem JE{f g v:Nat->Nat}{N:Nat}(hf:aO f N)(hg:aO g N)(hv:aO v N)(h:∀y,y<N->f (v (g y))=v y){x y:Nat}(hx:x<N)(hy:y<N):rc f N (v x) (v y)=rc g N x y:=by
 have key:∀k z,z<N->it f k (v (it g k z))=v z:=by
  intro k
  induction k with
  |zero=>intro z _;rfl
  |succ k ih=>intro z hz;rw[zp f,show it g (k+1) z=g (it g k z)from rfl,h _ (hg.bL k hz)];exact ih z hz
 have hEf:=iM hf;have hEg:=iM hg;rw[R_];constructor;{intro hr;obtain⟨k,e⟩:=(dY hf (hv.lt _ hx)).1 hr;have hk:=JT hg k;have e1:=mW hk hx;have e2:=key k (D_ (it g k) N x) (ju hk hx);rw[e1,e]at e2;have e3:=hv.inj _ _ hy (ju hk hx) e2;rw[<-e3]at e1;exact hEg.sym _ _ hy hx ((dY hg hy).2 ⟨k,e1⟩)};{intro hr;obtain⟨k,rfl⟩:=(dY hg hx).1 hr;exact hEf.sym _ _ (hv.lt _ hy) (hv.lt _ hx) ((dY hf (hv.lt _ hy)).2 ⟨k,key k x hx⟩)}
structure Ls(sg mt q r:List Int)(u:Nat->Nat):Prop where
 ui:∀a b,u a=u b->a=b
 ud:∀a,u a/4=a/4
 ql:q.length=sg.length
 rl:r.length=mt.length
 re:∀h,h<mt.length->gi r (u h)=(u (gn mt h):Int)
 qs:EN q
 qo:(∀h,h<mt.length->ai q (u h)=ai sg h)\/(∀h,h<mt.length->ai q (u h)= !ai sg h)
 tu:(∀h,u (ae h 3)=ae (u h) 3)\/(∀h,u (ae h 1)=ae (u h) 3)
section
variable{sg mt q r:List Int}{L:Int}{u:Nat->Nat}(hd:cJ sg mt L)(hM:Ls sg mt q r u)
include hd hM
omit hd in
theorem La{h n:Nat}(hh:h<4*n):u h<4*n:=by have:=hM.ud h;omega
theorem lV:aO u mt.length:=⟨fun h hh=>by have:=hd.2.1;rw[this]at hh⊢;exact La hM hh,fun a b _ _ e=>hM.ui a b e⟩
omit hd in
theorem th{h:Nat}(hh:h<mt.length):gn r (u h)=u (gn mt h):=by unfold gn;rw[hM.re h hh];rfl
theorem xB:cP r:=by
 have hP:=lV hd hM;have hI:=hd.2.2.2.2.2.1;intro h hh;rw[hM.rl]at hh;obtain⟨x,hx,rfl⟩:∃x,x<mt.length/\u x=h:=⟨_,ju hP hh,mW hP hh⟩
 obtain⟨-,g2,g3,g4⟩:=hI.gn hx;rw[hM.rl,th hM hx,hM.re x hx,hM.re _ g2,g4];refine⟨oZ,by have:=hP.lt _ g2;omega,fun e=>g3 (hM.ui _ _ oZ),rfl⟩
theorem LW{h:Nat}(hh:h<mt.length):ai q (u h)≠ai q (gn r (u h)):=by
 have hg:=(hd.2.2.2.2.2.1.gn hh).2.1;have h0:=hd.2.2.2.2.2.2.1 h hh;rw[th hM hh];rcases hM.qo with h1|h1
 {rw[h1 h hh,h1 _ hg];exact h0};{rw[h1 h hh,h1 _ hg];intro e;exact h0 (by simpa using e)}
theorem Oq{c d:Nat}(h:Cn r c d):Cn mt c d:=by
 have hP:=lV hd hM
 induction h with
 |refl=>exact .refl
 |@step d h _ hl he ih=>
  rw[hM.rl]at hl;obtain⟨x,hx,rfl⟩:∃x,x<mt.length/\u x=h:=⟨_,ju hP hl,mW hP hl⟩
  rw[th hM hx,hM.ud];exact .step ih hx (by rw[<-he,hM.ud])
omit hd in
theorem F7{n:Nat}(hn:mt.length=4*n){c d:Nat}(h:Cn mt c d):Cn r c d:=by
 induction h with
 |refl=>exact .refl
 |@step d h _ hl he ih=>have:=Cn.step (mt:=r) ih (h:=u h) (by rw[hM.rl,hn];exact La hM oZ) (by rw[hM.ud];exact he);rwa [th hM hl,hM.ud]at this
theorem Bo{c:Nat}(hc:c<sg.length):aA r sg.length c=aA mt sg.length c:=by
 have hI:=hd.2.2.2.2.2.1;have hn:=hd.2.1;have VX:=xB hd hM;have hn':r.length=4*sg.length:=by rw[hM.rl,hn]
 obtain⟨a1,a2,a3⟩:=df hI hn hc;obtain⟨b1,b2,b3⟩:=df VX hn' hc;have h1:=b2 _ (F7 hM hn (a1.symm hI));have h2:=a2 _ (Oq hd hM (b1.symm VX));unfold aA;omega
theorem Bz(h:∀h,u (ae h 3)=ae (u h) 3){x y:Nat}(hx:x<mt.length)(hy:y<mt.length):rc (au r) mt.length (u x) (u y)=rc (au mt) mt.length x y:=by have hP:=lV hd hM;have hF:=aU hd.2.2.2.2.2.1 hd.2.1;have hF':=aU (xB hd hM) (n:=sg.length) (by rw[hM.rl,hd.2.1]);rw[hM.rl]at hF';refine Fo ⟨fun x hx=>hP.lt x hx,fun x hx=>ju hP hx,fun x hx=>mW hP hx,fun x hx=>M3 hP hx,fun x hx=>?_⟩ hF' hF hx hy;unfold au;rw[th hM hx,h]
theorem Ah:aO (fun x=>u (gn mt x)) mt.length:=
 ⟨fun _ hx=>(lV hd hM).lt _ (hd.2.2.2.2.2.1.gn hx).2.1,fun _ _ ha hb e=>dZ hd.2.2.2.2.2.1 ha hb (hM.ui _ _ e)⟩
theorem BF(h:∀h,u (ae h 1)=ae (u h) 3){x y:Nat}(hx:x<mt.length)(hy:y<mt.length):rc (au r) mt.length (u (gn mt x)) (u (gn mt y))=rc (au mt) mt.length x y:=by
 have hI:=hd.2.2.2.2.2.1;have hn:=hd.2.1;have hF:=aU hI hn;have hF':=aU (xB hd hM) (n:=sg.length) (by rw[hM.rl,hn]);rw[hM.rl]at hF';refine JE hF' hF (Ah hd hM) (fun y hy=>?_) hx hy;have hg:=(hI.gn hy).2.1;have ht:ae (gn mt y) 3<mt.length:=by rw[hn]at hg⊢;exact lq hg
 show ae (gn r (u (gn mt (ae (gn mt y) 3)))) 3=u (gn mt y);rw[th hM (hI.gn ht).2.1,(hI.gn ht).2.2.2,<-h,ar,show 3+1=4 from rfl,bC]
theorem Gi:∃v:Nat->Nat,aO v mt.length/\(v=u\/v=fun x=>u (gn mt x))/\(∀x y,x<mt.length->y<mt.length->rc (au r) mt.length (v x) (v y)=rc (au mt) mt.length x y):=by
 rcases hM.tu with h|h
 {exact⟨u,lV hd hM,.inl rfl,fun x y hx hy=>Bz hd hM h hx hy⟩};{exact⟨_,Ah hd hM,.inr rfl,fun x y hx hy=>BF hd hM h hx hy⟩}
omit hM in
theorem ME{x:Nat}(hx:x<mt.length):aA mt sg.length (gn mt x/4)=aA mt sg.length (x/4):=(oP hd.2.2.2.2.2.1 hd.2.1 hx).symm
theorem Nd:cJ q r L:=by
 have hP:=lV hd hM;have VX:=xB hd hM;obtain⟨v,hv,hv',Zs⟩:=Gi hd hM;have X9:=hd;obtain⟨d1,d2,d3,d4,d5,d6,d7,d8⟩:=hd;have hn':r.length=4*sg.length:=by rw[hM.rl,d2]
 have hF:=aU d6 d2;have hF':=aU VX hn';rw[hM.rl]at hF';refine⟨by rw[hM.ql];exact d1,by rw[hM.rl,hM.ql];exact d2,d3,d4,hM.qs,VX,fun h hh=>?_,?_⟩
 ·rw[hM.rl]at hh
  obtain⟨x,hx,rfl⟩:∃x,x<mt.length/\u x=h:=⟨_,ju hP hh,mW hP hh⟩
  exact LW X9 hM hx
 ·rw[hM.ql,rK VX hn']
  intro c hc ZS;have hs:=(rK d6 d2).1 d8 c hc (by rw[<-Bo X9 hM hc];exact ZS);have hl:∀x,x<mt.length->aA r sg.length (x/4)=aA mt sg.length (x/4):=fun x hx=>Bo X9 hM oZ
  have h1:=IE (r:=rc (au r) mt.length) (r':=rc (au mt) mt.length) (iM hF') (iM hF) (P:=fun h=>decide (aA r sg.length (h/4)=c)) (P':=fun h=>decide (aA mt sg.length (h/4)=c)) (fun x y hx hy h=>by
   have:=jP hF' (p:=fun h=>aA r sg.length (h/4)) (fun h hh=>by
    have hh':h<r.length:=by rw[hM.rl];exact hh
    show aA r sg.length (ae (gn r h) 3/4)=_;rw[af];exact(oP VX hn' hh').symm) hx h
   rw[this]) v (D_ v mt.length) (fun x hx=>hv.lt x hx) (fun x hx=>ju hv hx) (fun x hx=>mW hv hx) Zs (fun x hx=>by
   rw[hl _ (hv.lt x hx)];rcases hv' with rfl|rfl
   {rw[hM.ud]}
   ·rw[hM.ud,ME X9 hx])
  have h2:cW (fun c'=>decide (aA r sg.length c'=c)) sg.length=cW (fun c'=>decide (aA mt sg.length c'=c)) sg.length:=aS fun c' XX=>by rw[Bo X9 hM XX]
  have h3:cW (fun h=>a_ (au r) mt.length h&&decide (aA r sg.length (h/4)=c)) mt.length=cW (fun h=>fg (rc (au r) mt.length) h&&decide (aA r sg.length (h/4)=c)) mt.length:=aS fun x hx=>by rw[yZ hF' hx]
  have h4:cW (fun h=>a_ (au mt) mt.length h&&decide (aA mt sg.length (h/4)=c)) mt.length=cW (fun h=>fg (rc (au mt) mt.length) h&&decide (aA mt sg.length (h/4)=c)) mt.length:=aS fun x hx=>by rw[yZ hF hx]
  rw[hM.rl,h2,h3,<-h1,<-h4];exact hs
end
section
variable{sg mt q r:List Int}{L:Int}(hd:cJ sg mt L)
include hd
omit hd in
theorem Dq{sg:List Int}(h:Nat):ai sg h=if h%4=1 then gi sg (h/4)==1 else if h%4=2 then true else if h%4=3 then gi sg (h/4)== -1 else false:=rfl
theorem Dc(h:BN sg mt (zc sg) I5 q r):Ls sg mt q r (qC (zc sg)):=by
 have hq:∀c,c<sg.length->gi q c= -gi sg c:=fun c hc=>by rw[h.qe c hc];unfold I5;omega
 refine⟨Kn,fun a=>qX,h.ql,h.rl,h.re,fun c hc=>?_,.inl fun x hx=>?_,.inl fun x=>?_⟩;{rw[h.ql]at hc;rw[hq c hc];have:=hd.2.2.2.2.1 c hc;omega}
 ·have hc:x/4<sg.length:=by have:=hd.2.1;omega
  rw[Dq,Dq,qX,hq _ hc,qF,fF];have h4:x%4=0\/x%4=1\/x%4=2\/x%4=3:=oZ;rcases hd.2.2.2.2.1 _ hc with e|e<;>rw[e]<;>rcases h4 with e4|e4|e4|e4<;>rw[e4]<;>decide
 {rw[qF,qF,af,ar,ar,Uw]}
end
theorem Dp{P:Nat->Bool}{a m:Nat}(h:P a=true)(ha:a<m):cW P a<cW P m:=by
 induction m with
 |zero=>omega
 |succ m ih=>
  rw[aT];rcases SN a m with h1|h1
  {have:=ih h1;omega};{obtain rfl:a=m:=oZ;rw[Re h];omega}
theorem FW{f:Nat->Nat}{N:Nat}{wt:Nat->Bool}(hP:aO f N)(hw:∀h,h<N->wt (f h)=wt h){x y:Nat}(hx:x<N)(hy:y<N)(wx:wt x=true)(wy:wt y=true):e_ f N wt x=e_ f N wt y↔rc f N x y=true:=by
 obtain⟨a1,-⟩:=c_ hP hx;obtain⟨b1,-⟩:=c_ hP hy;constructor
 ·intro e
  have key:∀{x:Nat},x<N->wt x=true->(wt (fu f N x)&&a_ f N (fu f N x))=true:=by intro x hx wx;rw[lA hP hw hx (c_ hP hx).1,wx,pQ hP hx];rfl
  have hE:fu f N x=fu f N y:=by
   unfold e_ D5 at e;rcases SK (fu f N x) (fu f N y)with h|h|h
   {have:=Dp (P:=fun x=>wt x&&a_ f N x) (key hx wx) h;omega};{exact h};{have:=Dp (P:=fun x=>wt x&&a_ f N x) (key hy wy) h;omega}
  exact Rj (aM hP hx a1 (by rw[hE];exact aL hP hy b1))
 {intro h;unfold e_;rw[iE hP hx (RU h)]}
theorem Db(c:Nat):ae (4*c) 3=4*c+3:=by unfold ae;omega
theorem CM(c:Nat):ae (4*c+1) 3=4*c:=by unfold ae;omega
theorem Jv(c:Nat):ae (4*c+2) 3=4*c+1:=by unfold ae;omega
theorem CH(c:Nat):ae (4*c+3) 3=4*c+2:=by unfold ae;omega
section
variable{sg mt:List Int}{L:Int}(hd:cJ sg mt L)
include hd
theorem gK{p:Nat->Int}(V3:∀h,h<mt.length->p (au mt h)=p h)(Wt:∀h,h<mt.length->p h-p (gn mt h)=if ai sg h=true then 1 else-1){h:Nat}(hh:h<mt.length):
  p h-p (ae h 3)=if ai sg h=true then 1 else-1:=by
 have hg:=hd.2.2.2.2.2.1.gn hh;have:=V3 (gn mt h) hg.2.1;unfold au at this;rw[hg.2.2.2]at this;rw[this];exact Wt h hh
theorem JM{p:Nat->Int}(V3:∀h,h<mt.length->p (au mt h)=p h)(Wt:∀h,h<mt.length->p h-p (gn mt h)=if ai sg h=true then 1 else-1):∀h,h<mt.length->p (aP sg mt h)=p h:=by
 intro h hh;have hn:=hd.2.1;unfold aP;split
 ·rename_i ho
  have hg:=(hd.2.2.2.2.2.1.gn hh).2.1;have Vn:=xh hd hg (kF hd hh ho);have hc:gn mt h/4<sg.length:=oZ;obtain⟨c,WS⟩:∃c,gn mt h/4=c:=⟨_,rfl⟩
  rw[WS]at Vn hc;have hs:=iN hd.2.2.2.2.1 hc;have f0:=gK hd V3 Wt (h:=4*c) oZ;have f1:=gK hd V3 Wt (h:=4*c+1) oZ;have f2:=gK hd V3 Wt (h:=4*c+2) oZ;have f3:=gK hd V3 Wt (h:=4*c+3) oZ;rw[Db,hs.1]at f0;rw[CM]at f1;rw[Jv,hs.2.1]at f2;rw[CH]at f3;have e:=V3 h hh;unfold au at e;unfold yB eT;rw[WS];simp only[S8,UG,if_true]at f0 f2;rcases Vn with h1|⟨h1,h2⟩|⟨h1,h2⟩
  ·rw[show gn mt h=4*c by omega,Db]at e
   rw[Re h1];rcases hd.2.2.2.2.1 c hc with h2|h2
   {rw[Re h2,<-e];have:=(hs.2.2.1 h2);rw[this.1]at f1;rw[this.2]at f3;simp at f1 f3;omega};{rw[Rc oZ,<-e]}
  {rw[show gn mt h=4*c+3 by omega,CH]at e;rw[Rc oZ,<-e,SP]};{rw[show gn mt h=4*c+1 by omega,CM]at e;rw[Rc oZ,<-e,SP];have:=(hs.2.2.2 h2);rw[this.1]at f1;simp at f1;omega}
 {rfl}
theorem Gk{c:Nat}(hc:c<sg.length):∃a b:Nat,qn sg mt c=((a:Int),(b:Int))/\a<(aD sg mt).length/\b<(aD sg mt).length/\a=e_ (aP sg mt) mt.length (ai sg) (4*c+2)/\b=e_ (aP sg mt) mt.length (ai sg) (eT sg c):=by have hs:=iN hd.2.2.2.2.1 hc;have ho:=oK hd.2.2.2.2.1 hc;have hn:=hd.2.1;refine⟨_,_,?_,(fw (aI hd) (fZ hd) oZ hs.2.1).1,(fw (aI hd) (fZ hd) oZ ho.1).1,rfl,rfl⟩;unfold qn iL;rw[Re hs.2.1,Re ho.1]
end
theorem yM{P:Nat->Bool}:∀{m:Nat},m<=cW P m->∀k,k<m->P k=true
 |0,_,k,hk=>by omega
 |m+1,h,k,hk=>by rw[aT]at h;have h1:=jD P m;by_cases e:P m=true;{rw[Re e]at h;by_cases ek:k=m;{rw[ek];exact e};{exact yM (m:=m) oZ k oZ}};{rw[Rc e]at h;omega}
abbrev oC(sg:List Int)(c:Nat):Nat:=oR (gi sg) c
section
variable{sg mt:List Int}{L:Int}(hd:cJ sg mt L)
include hd
theorem aK{c:Nat}(hc:c<sg.length)(i:Nat):ae (oC sg c) i<mt.length/\oC sg c<mt.length:=by have hn:=hd.2.1;have h1:=af (oC sg c) i;have h2:=dA (gi sg) c;have h3:ae (oC sg c) i/4=c:=h1.trans h2;exact⟨oZ,by show oR (gi sg) c<_;omega⟩
theorem bZ{c:Nat}(hc:c<sg.length):ai sg (oC sg c)=true/\ai sg (ae (oC sg c) 1)=true/\ai sg (ae (oC sg c) 2)=false/\ai sg (ae (oC sg c) 3)=false:=by
 obtain⟨s0,s2,s1,s3⟩:=iN hd.2.2.2.2.1 hc;rcases hd.2.2.2.2.1 c hc with e|e
 {have ho:oC sg c=4*c+1:=Re e;rw[ho,show ae (4*c+1) 1=4*c+2 by unfold ae;omega,show ae (4*c+1) 2=4*c+3 by unfold ae;omega,show ae (4*c+1) 3=4*c by unfold ae;omega];exact⟨(s1 e).1,s2,(s1 e).2,s0⟩};{have ho:oC sg c=4*c+2:=Rc (by rw[e];decide);rw[ho,show ae (4*c+2) 1=4*c+3 by unfold ae;omega,show ae (4*c+2) 2=4*c by unfold ae;omega,show ae (4*c+2) 3=4*c+1 by unfold ae;omega];exact⟨s2,(s3 e).2,s0,(s3 e).1⟩}
theorem Ix{h:Nat}(hh:h<mt.length):h/4<sg.length/\(h=oC sg (h/4)\/h=ae (oC sg (h/4)) 1\/h=ae (oC sg (h/4)) 2\/h=ae (oC sg (h/4)) 3):=
 ⟨by have:=hd.2.1;omega,aw (dA (gi sg) (h/4)).symm⟩
theorem my{h:Nat}(hh:h<mt.length)(ho:ai sg h=true):h=oC sg (h/4)\/h=ae (oC sg (h/4)) 1:=by
 obtain⟨hc,e⟩:=Ix hd hh;obtain⟨o0,o1,o2,o3⟩:=bZ hd hc;rcases e with e|e|e|e
 {exact .inl e};{exact .inr e};{rw[e,o2]at ho;cases ho};{rw[e,o3]at ho;cases ho}
theorem LZ{h:Nat}(hh:h<mt.length)(ho:ai sg h=false):h=ae (oC sg (h/4)) 2\/h=ae (oC sg (h/4)) 3:=by
 obtain⟨hc,e⟩:=Ix hd hh;obtain⟨o0,o1,o2,o3⟩:=bZ hd hc;rcases e with e|e|e|e
 {rw[e,o0]at ho;cases ho};{rw[e,o1]at ho;cases ho};{exact .inl e};{exact .inr e}
theorem cZ{x:Nat}(hx:x<mt.length)(ho:ai sg x=true){c:Nat}:
  (gn mt x=ae (oC sg c) 2->aP sg mt x=ae (oC sg c) 1/\au mt x=ae (oC sg c) 1)/\(gn mt x=ae (oC sg c) 3->aP sg mt x=oC sg c/\au mt x=ae (oC sg c) 2):=by
 have hI:=hd.2.2.2.2.2.1;have hg:=(hI.gn hx).2.1;have hn:=hd.2.1;have hC:aP sg mt x=yB sg mt x:=Re ho;have key:∀i,gn mt x=ae (oC sg c) i->c<sg.length:=fun i e=>by
  have h1:=af (oC sg c) i;have h2:oC sg c/4=c:=dA (gi sg) c;have h3:gn mt x/4=c:=by rw[e];exact h1.trans h2
  omega
 refine⟨fun e=>?_,fun e=>?_⟩
 ·have hc:=key 2 e
  refine⟨?_,by unfold au;rw[e];exact(tt _).2.1⟩;rw[hC];unfold yB eT;rw[e];rcases hd.2.2.2.2.1 c hc with e1|e1
  {have ho:oC sg c=4*c+1:=Re e1;rw[ho,show ae (4*c+1) 1=4*c+2 by unfold ae;omega,show ae (4*c+1) 2=4*c+3 by unfold ae;omega,Rc oZ];omega};{have ho:oC sg c=4*c+2:=Rc (by rw[e1];decide);rw[ho,show ae (4*c+2) 1=4*c+3 by unfold ae;omega,show ae (4*c+2) 2=4*c by unfold ae;omega,Re oZ,show 4*c/4=c by omega,e1,Rc oQ]}
 ·have hc:=key 3 e
  refine⟨?_,by unfold au;rw[e];exact(tt _).2.2.1⟩;rw[hC];unfold yB eT;rw[e];rcases hd.2.2.2.2.1 c hc with e1|e1
  {have ho:oC sg c=4*c+1:=Re e1;rw[ho,show ae (4*c+1) 3=4*c by unfold ae;omega,Re oZ,show 4*c/4=c by omega,e1,Re rfl]};{have ho:oC sg c=4*c+2:=Rc (by rw[e1];decide);rw[ho,show ae (4*c+2) 3=4*c+1 by unfold ae;omega,Rc oZ];omega}
theorem vD{x:Nat}(hx:x<mt.length)(ho:ai sg x=true):gn mt x=ae (oC sg (gn mt x/4)) 2\/gn mt x=ae (oC sg (gn mt x/4)) 3:=
 LZ hd (hd.2.2.2.2.2.1.gn hx).2.1 (kF hd hx ho)
theorem fR{x:Nat}(hx:x<mt.length)(ho:ai sg x=false):ai sg (gn mt x)=true:=by
 have:=hd.2.2.2.2.2.2.1 x hx;rw[ho]at this
 cases h:ai sg (gn mt x)
 {rw[h]at this;exact absurd rfl this};{rfl}
theorem dE:aO (au mt) mt.length:=aU hd.2.2.2.2.2.1 hd.2.1
theorem jI{c:Nat}(hc:c<sg.length):au mt (gn mt (ae (oC sg c) 1))=oC sg c/\au mt (gn mt (oC sg c))=ae (oC sg c) 3/\au mt (gn mt (ae (oC sg c) 2))=ae (oC sg c) 1/\au mt (gn mt (ae (oC sg c) 3))=ae (oC sg c) 2:=by have hI:=hd.2.2.2.2.2.1;obtain⟨t1,t2,t3,-⟩:=tt (oC sg c);refine⟨?_,?_,?_,?_⟩<;>unfold au;{rw[(hI.gn (aK hd hc 1).1).2.2.2];exact t1};{rw[(hI.gn (aK hd hc 1).2).2.2.2]};{rw[(hI.gn (aK hd hc 2).1).2.2.2];exact t2};{rw[(hI.gn (aK hd hc 3).1).2.2.2];exact t3}
end
def Gy(sg mt:List Int):Prop:=∀x y,x<mt.length->y<mt.length->y∈bJ (au mt) mt.length x->ai sg x=ai sg y->Ay sg mt x=Ay sg mt y
def sC(sg mt:List Int)(x y:Nat):Prop:=y∈bJ (aP sg mt) mt.length x
section
variable{sg mt:List Int}{L:Int}(hd:cJ sg mt L)(hi:Gy sg mt)
include hd
theorem sC.refl{x:Nat}(hx:x<mt.length):sC sg mt x x:=bE (aI hd) hx
theorem sC.symm{x y:Nat}(hx:x<mt.length)(h:sC sg mt x y):sC sg mt y x:=aL (aI hd) hx h
theorem sC.trans{x y z:Nat}(hx:x<mt.length)(h:sC sg mt x y)(h':sC sg mt y z):sC sg mt x z:=aM (aI hd) hx h h'
theorem sC.lt{x y:Nat}(hx:x<mt.length)(h:sC sg mt x y):y<mt.length:=dJ (aI hd) hx h
theorem sC.out{x y:Nat}(hx:x<mt.length)(ho:ai sg x=true)(h:sC sg mt x y):ai sg y=true:=by rw[lA (aI hd) (fZ hd) hx h];exact ho
theorem sC.next{x:Nat}(hx:x<mt.length):sC sg mt x (aP sg mt x):=bU (aI hd) hx (bE (aI hd) hx)
theorem sC.num{x y:Nat}(hx:x<mt.length)(hy:y<mt.length)(ox:ai sg x=true)(oy:ai sg y=true):e_ (aP sg mt) mt.length (ai sg) x=e_ (aP sg mt) mt.length (ai sg) y↔sC sg mt x y:=by rw[FW (aI hd) (fZ hd) hx hy ox oy];exact Un
include hi
theorem J2{x y:Nat}(hx:x<mt.length)(hf:y∈bJ (au mt) mt.length x)(ox:ai sg x=true)(oy:ai sg y=true):sC sg mt x y:=by have hy:=dJ (dE hd) hx hf;have:=hi x y hx hy hf (by rw[ox,oy]);unfold Ay wZ at this;rw[ox,oy,Re rfl,Re rfl]at this;exact(sC.num hd hx hy ox oy).1 this
theorem Mt{x y:Nat}(hx:x<mt.length)(hf:y∈bJ (au mt) mt.length x)(ox:ai sg x=false)(oy:ai sg y=false):sC sg mt (gn mt x) (gn mt y):=by have hy:=dJ (dE hd) hx hf;have:=hi x y hx hy hf (by rw[ox,oy]);unfold Ay wZ at this;rw[ox,oy,Rc oQ,Rc oQ]at this;exact(sC.num hd (hd.2.2.2.2.2.1.gn hx).2.1 (hd.2.2.2.2.2.1.gn hy).2.1 (fR hd hx ox) (fR hd hy oy)).1 this
def RN(sg mt:List Int)(x z:Nat):Prop:=ai sg z=true/\z∈bJ (au mt) mt.length (gn mt x)
def LN(sg mt:List Int)(x z:Nat):Prop:=z<mt.length/\ai sg z=true/\gn mt z∈bJ (au mt) mt.length x
theorem RN.uniq{x z z':Nat}(hx:x<mt.length)(h:RN sg mt x z)(h':RN sg mt x z'):sC sg mt z z':=by have hg:=(hd.2.2.2.2.2.1.gn hx).2.1;exact J2 hd hi (dJ (dE hd) hg h.2) (aM (dE hd) (dJ (dE hd) hg h.2) (aL (dE hd) hg h.2) h'.2) h.1 h'.1
theorem LN.uniq{x z z':Nat}(hx:x<mt.length)(h:LN sg mt x z)(h':LN sg mt x z'):sC sg mt z z':=by have hI:=hd.2.2.2.2.2.1;have h1:=Mt hd hi (x:=gn mt z) (y:=gn mt z') (dJ (dE hd) hx h.2.2) (aM (dE hd) (dJ (dE hd) hx h.2.2) (aL (dE hd) hx h.2.2) h'.2.2) (kF hd h.1 h.2.1) (kF hd h'.1 h'.2.1);rwa [(hI.gn h.1).2.2.2,(hI.gn h'.1).2.2.2]at h1
theorem RN.next{x z:Nat}(hx:x<mt.length)(ox:ai sg x=true)(h:RN sg mt x z):∃z',RN sg mt (aP sg mt x) z'/\sC sg mt z z':=by
 have hI:=hd.2.2.2.2.2.1;have hF:=dE hd;obtain⟨c,hc⟩:∃c,gn mt x/4=c:=⟨_,rfl⟩
 have hg:=(hI.gn hx).2.1;have Vo:c<sg.length:=by have:=hd.2.1;omega
 have hz:=dJ hF hg h.2;obtain⟨f1,f2,f3,f4⟩:=jI hd Vo;obtain⟨o0,o1,o2,o3⟩:=bZ hd Vo;have e:=vD hd hx ox;rw[hc]at e;rcases e with e|e
 ·
  rw[((cZ hd hx ox).1 e).1];have hb:gn mt (ae (oC sg c) 3)∈bJ (au mt) mt.length (gn mt x):=by
   have hl:=(hI.gn (aK hd Vo 3).1).2.1;have:gn mt x∈bJ (au mt) mt.length (gn mt (ae (oC sg c) 3)):=by have:=bU hF hl (bE hF hl);rwa [f4,<-e]at this
   exact aL hF hl this
  refine⟨oC sg c,⟨o0,?_⟩,?_⟩;{have hl:=(hI.gn (aK hd Vo 1).1).2.1;have:=bU hF hl (bE hF hl);rwa [f1]at this};{have h1:=RN.uniq hd hi hx h ⟨fR hd (aK hd Vo 3).1 o3,hb⟩;have hl:=(hI.gn (aK hd Vo 3).1).2.1;have h2:=sC.next hd hl;rw[((cZ hd hl (fR hd (aK hd Vo 3).1 o3) (c:=c)).2 (hI.gn (aK hd Vo 3).1).2.2.2).1]at h2;exact sC.trans hd hz h1 h2}
 ·rw[((cZ hd hx ox).2 e).1]
  refine⟨z,⟨h.1,?_⟩,sC.refl hd hz⟩;have hl:=(hI.gn (aK hd Vo 3).2).2.1;have:gn mt x∈bJ (au mt) mt.length (gn mt (oC sg c)):=by have:=bU hF hl (bE hF hl);rwa [f2,<-e]at this
  exact aM hF hl this h.2
theorem LN.next{x z:Nat}(hx:x<mt.length)(ox:ai sg x=true)(h:LN sg mt x z):∃z',LN sg mt (aP sg mt x) z'/\sC sg mt z z':=by
 have hI:=hd.2.2.2.2.2.1;have hF:=dE hd;obtain⟨c,hc⟩:∃c,gn mt x/4=c:=⟨_,rfl⟩
 have hg:=(hI.gn hx).2.1;have Vo:c<sg.length:=by have:=hd.2.1;omega
 obtain⟨f1,f2,f3,f4⟩:=jI hd Vo;obtain⟨o0,o1,o2,o3⟩:=bZ hd Vo;have e:=vD hd hx ox;rw[hc]at e;have hfx:=bU hF hx (bE hF hx);rcases e with e|e
 {obtain⟨e1,e2⟩:=(cZ hd hx ox).1 e;rw[e1];rw[e2]at hfx;exact⟨z,⟨h.1,h.2.1,aM hF (aK hd Vo 1).1 (aL hF hx hfx) h.2.2⟩,sC.refl hd h.1⟩};{obtain⟨e1,e2⟩:=(cZ hd hx ox).2 e;rw[e1];rw[e2]at hfx;have hl2:=(hI.gn (aK hd Vo 2).1).2.1;have ow:=fR hd (aK hd Vo 2).1 o2;have h1:LN sg mt x (gn mt (ae (oC sg c) 2)):=⟨hl2,ow,by rw[(hI.gn (aK hd Vo 2).1).2.2.2];exact hfx⟩;have h2:=sC.next hd hl2;rw[((cZ hd hl2 ow (c:=c)).1 (hI.gn (aK hd Vo 2).1).2.2.2).1]at h2;have Xw:=(hI.gn (aK hd Vo 1).1).2.1;refine⟨ae (oC sg c) 1,⟨(aK hd Vo 1).1,o1,?_⟩,sC.trans hd h.1 (LN.uniq hd hi hx h h1) h2⟩;have:=bU hF Xw (bE hF Xw);rw[f1]at this;exact aL hF Xw this}
theorem RN.along{x y z:Nat}(hx:x<mt.length)(ox:ai sg x=true)(hy:sC sg mt x y)(h:RN sg mt x z):∃z',RN sg mt y z'/\sC sg mt z z':=by
 obtain⟨k,rfl⟩:=(aG (aI hd) hx).1 hy;clear hy;have hz:=dJ (dE hd) (hd.2.2.2.2.2.1.gn hx).2.1 h.2
 induction k with
 |zero=>exact⟨z,h,sC.refl hd hz⟩
 |succ k ih=>obtain⟨z1,h1,h2⟩:=ih;have hk:=(aI hd).bL k hx;have ok:ai sg (it (aP sg mt) k x)=true:=sC.out hd hx ox ((aG (aI hd) hx).2 ⟨k,rfl⟩);obtain⟨z2,h3,h4⟩:=RN.next hd hi hk ok h1;exact⟨z2,h3,sC.trans hd hz h2 h4⟩
theorem LN.along{x y z:Nat}(hx:x<mt.length)(ox:ai sg x=true)(hy:sC sg mt x y)(h:LN sg mt x z):∃z',LN sg mt y z'/\sC sg mt z z':=by
 obtain⟨k,rfl⟩:=(aG (aI hd) hx).1 hy;clear hy;have hz:=h.1
 induction k with
 |zero=>exact⟨z,h,sC.refl hd hz⟩
 |succ k ih=>obtain⟨z1,h1,h2⟩:=ih;have hk:=(aI hd).bL k hx;have ok:ai sg (it (aP sg mt) k x)=true:=sC.out hd hx ox ((aG (aI hd) hx).2 ⟨k,rfl⟩);obtain⟨z2,h3,h4⟩:=LN.next hd hi hk ok h1;exact⟨z2,h3,sC.trans hd hz h2 h4⟩
def Rr(sg mt:List Int)(x y:Nat):Prop:=∃c,c<sg.length/\sC sg mt (ae (oC sg c) 1) x/\sC sg mt (oC sg c) y
omit hi in
theorem Rr.lt{x y:Nat}(h:Rr sg mt x y):x<mt.length/\y<mt.length/\ai sg x=true/\ai sg y=true:=by obtain⟨c,hc,h1,h2⟩:=h;obtain⟨o0,o1,-,-⟩:=bZ hd hc;exact⟨sC.lt hd (aK hd hc 1).1 h1,sC.lt hd (aK hd hc 1).2 h2,sC.out hd (aK hd hc 1).1 o1 h1,sC.out hd (aK hd hc 1).2 o0 h2⟩
theorem Rr.Oj{x y y':Nat}(h:Rr sg mt x y)(h':Rr sg mt x y'):sC sg mt y y':=by
 have hF:=dE hd;have hI:=hd.2.2.2.2.2.1;obtain⟨c,hc,h1,h2⟩:=h;obtain⟨d,Xe,k1,k2⟩:=h';obtain⟨o0,o1,-,-⟩:=bZ hd hc;obtain⟨p0,p1,-,-⟩:=bZ hd Xe;have rn:∀c,c<sg.length->RN sg mt (ae (oC sg c) 1) (oC sg c):=fun c hc=>by have hl:=(hI.gn (aK hd hc 1).1).2.1;have:=bU hF hl (bE hF hl);rw[(jI hd hc).1]at this;exact⟨(bZ hd hc).1,this⟩
 have YR:sC sg mt (ae (oC sg c) 1) (ae (oC sg d) 1):=sC.trans hd (aK hd hc 1).1 h1 (sC.symm hd (aK hd Xe 1).1 k1);obtain⟨z',r1,r2⟩:=RN.along hd hi (aK hd hc 1).1 o1 YR (rn c hc);have r3:=RN.uniq hd hi (aK hd Xe 1).1 r1 (rn d Xe);have hy:=sC.lt hd (aK hd hc 1).2 h2;exact sC.trans hd hy (sC.symm hd (aK hd hc 1).2 h2) (sC.trans hd (aK hd hc 1).2 r2 (sC.trans hd (sC.lt hd (aK hd hc 1).2 r2) r3 k2))
theorem Rr.OZ{x x' y:Nat}(h:Rr sg mt x y)(h':Rr sg mt x' y):sC sg mt x x':=by
 have hF:=dE hd;have hI:=hd.2.2.2.2.2.1;obtain⟨c,hc,h1,h2⟩:=h;obtain⟨d,Xe,k1,k2⟩:=h';obtain⟨o0,o1,-,-⟩:=bZ hd hc;have ln:∀c,c<sg.length->LN sg mt (oC sg c) (ae (oC sg c) 1):=fun c hc=>by have hl:=(hI.gn (aK hd hc 1).1).2.1;have:=bU hF hl (bE hF hl);rw[(jI hd hc).1]at this;exact⟨(aK hd hc 1).1,(bZ hd hc).2.1,aL hF hl this⟩
 have YR:sC sg mt (oC sg c) (oC sg d):=sC.trans hd (aK hd hc 1).2 h2 (sC.symm hd (aK hd Xe 1).2 k2);obtain⟨z',r1,r2⟩:=LN.along hd hi (aK hd hc 1).2 o0 YR (ln c hc);have r3:=LN.uniq hd hi (aK hd Xe 1).2 r1 (ln d Xe);have hx:=sC.lt hd (aK hd hc 1).1 h1;exact sC.trans hd hx (sC.symm hd (aK hd hc 1).1 h1) (sC.trans hd (aK hd hc 1).1 r2 (sC.trans hd (sC.lt hd (aK hd hc 1).1 r2) r3 k1))
def EU(sg mt:List Int)(x0:Nat):Nat->Nat->Prop
 |0,y=>sC sg mt x0 y
 |d+1,y=>∃z,EU sg mt x0 d z/\Rr sg mt z y
def Up(sg mt:List Int)(x0:Nat):Nat->Nat->Prop
 |0,y=>sC sg mt x0 y
 |d+1,y=>∃z,Up sg mt x0 d z/\Rr sg mt y z
omit hi in
theorem Rr.PJ{x y y':Nat}(h:Rr sg mt x y)(h':sC sg mt y y'):Rr sg mt x y':=by obtain⟨c,hc,h1,h2⟩:=h;exact⟨c,hc,h1,sC.trans hd (aK hd hc 1).2 h2 h'⟩
omit hi in
theorem Rr.PH{x x' y:Nat}(h:Rr sg mt x y)(h':sC sg mt x x'):Rr sg mt x' y:=by obtain⟨c,hc,h1,h2⟩:=h;exact⟨c,hc,sC.trans hd (aK hd hc 1).1 h1 h',h2⟩
omit hi in
theorem EU.Lb{x0 d y y':Nat}(hx:x0<mt.length)(h:EU sg mt x0 d y)(h':sC sg mt y y'):EU sg mt x0 d y':=by
 cases d with
 |zero=>exact sC.trans hd hx h h'
 |succ d=>obtain⟨z,h1,h2⟩:=h;exact⟨z,h1,h2.PJ hd h'⟩
omit hi in
theorem Up.Lb{x0 d y y':Nat}(hx:x0<mt.length)(h:Up sg mt x0 d y)(h':sC sg mt y y'):Up sg mt x0 d y':=by
 cases d with
 |zero=>exact sC.trans hd hx h h'
 |succ d=>obtain⟨z,h1,h2⟩:=h;exact⟨z,h1,h2.PH hd h'⟩
def Tr(sg mt:List Int)(x0 y:Nat):Prop:=∃d,EU sg mt x0 d y\/Up sg mt x0 d y
omit hi in
theorem Tr.Lb{x0 y y':Nat}(hx:x0<mt.length)(h:Tr sg mt x0 y)(h':sC sg mt y y'):Tr sg mt x0 y':=by obtain⟨d,h|h⟩:=h;{exact⟨d,.inl (h.Lb hd hx h')⟩};{exact⟨d,.inr (h.Lb hd hx h')⟩}
theorem Tr.Lj{x0 c:Nat}(hx:x0<mt.length)(hc:c<sg.length):Tr sg mt x0 (oC sg c)↔Tr sg mt x0 (ae (oC sg c) 1):=by
 have hR:Rr sg mt (ae (oC sg c) 1) (oC sg c):=⟨c,hc,sC.refl hd (aK hd hc 1).1,sC.refl hd (aK hd hc 1).2⟩;constructor
 ·rintro⟨d,h|h⟩
  ·cases d with
   |zero=>exact⟨1,.inr ⟨_,h,hR⟩⟩
   |succ d=>obtain⟨z,h1,h2⟩:=h;have hz:=Rr.OZ hd hi h2 hR;exact⟨d,.inl (h1.Lb hd hx hz)⟩
  {exact⟨d+1,.inr ⟨_,h,hR⟩⟩}
 ·rintro⟨d,h|h⟩
  {exact⟨d+1,.inl ⟨_,h,hR⟩⟩}
  ·cases d with
   |zero=>exact⟨1,.inl ⟨_,h,hR⟩⟩
   |succ d=>obtain⟨z,h1,h2⟩:=h;have hz:=Rr.Oj hd hi h2 hR;exact⟨d,.inr (h1.Lb hd hx hz)⟩
theorem Tr.all{x0:Nat}(hx:x0<mt.length)(ox:ai sg x0=true)(YU:∀c,c<sg.length->Cn mt (x0/4) c){y:Nat}(hy:y<mt.length)(oy:ai sg y=true):Tr sg mt x0 y:=by
 have hI:=hd.2.2.2.2.2.1;have hn:=hd.2.1;have key:∀c,Cn mt (x0/4) c->c<sg.length/\Tr sg mt x0 (oC sg c)/\Tr sg mt x0 (ae (oC sg c) 1):=by
  have both:∀z,z<mt.length->ai sg z=true->Tr sg mt x0 z->z/4<sg.length/\Tr sg mt x0 (oC sg (z/4))/\Tr sg mt x0 (ae (oC sg (z/4)) 1):=fun z hz oz hT=>by
   have hc:z/4<sg.length:=oZ;rcases my hd hz oz with e|e
   {have:Tr sg mt x0 (oC sg (z/4)):=e▸hT;exact⟨hc,this,(Tr.Lj hd hi hx hc).1 this⟩};{have:Tr sg mt x0 (ae (oC sg (z/4)) 1):=e▸hT;exact⟨hc,(Tr.Lj hd hi hx hc).2 this,this⟩}
  intro c h
  induction h with
  |refl=>exact both x0 hx ox ⟨0,.inl (sC.refl hd hx)⟩
  |@step d h YR hl he ih=>
   obtain⟨i1,i2,i3⟩:=ih;have hg:=hI.gn hl;rcases TQ (ai sg h)with oh|oh
   ·
    have hT:Tr sg mt x0 h:=by
     rcases my hd hl oh with e|e
     {rw[he]at e;rw[e];exact i2};{rw[he]at e;rw[e];exact i3}
    have hC:=aI hd;have h4:aP sg mt h/4=gn mt h/4:=by rw[show aP sg mt h=yB sg mt h from Re oh];exact(lJ hd hl).2.2
    have:=both (aP sg mt h) (hC.1 h hl) (by rw[fZ hd h hl,oh]) (hT.Lb hd hx (sC.next hd hl));rwa [h4]at this
   ·have og:=fR hd hl oh
    have h4:aP sg mt (gn mt h)/4=d:=by rw[show aP sg mt (gn mt h)=yB sg mt (gn mt h)from Re og,(lJ hd hg.2.1).2.2,hg.2.2.2,he]
    have hCl:=(aI hd).1 _ hg.2.1;have hT:Tr sg mt x0 (aP sg mt (gn mt h)):=by
     rcases my hd hCl (by rw[fZ hd _ hg.2.1,og])with e|e
     {rw[h4]at e;rw[e];exact i2};{rw[h4]at e;rw[e];exact i3}
    exact both (gn mt h) hg.2.1 og (hT.Lb hd hx (sC.symm hd hg.2.1 (sC.next hd hg.2.1)))
 obtain⟨h1,h2,h3⟩:=key (y/4) (YU _ oZ);rcases my hd hy oy with e|e
 {rw[e];exact h2};{rw[e];exact h3}
variable{p:Nat->Int}(V3:∀h,h<mt.length->p (au mt h)=p h)(Wt:∀h,h<mt.length->p h-p (gn mt h)=if ai sg h=true then 1 else-1)
include V3 Wt
omit hi in
theorem fv{x y:Nat}(hx:x<mt.length)(h:sC sg mt x y):p y=p x:=jP (aI hd) (JM hd V3 Wt) hx (Rj h)
omit hi in
theorem jO{c:Nat}(hc:c<sg.length):p (oC sg c)=p (ae (oC sg c) 1)-1:=by have:=gK hd V3 Wt (aK hd hc 1).1;rw[(tt _).1,(bZ hd hc).2.1,Re rfl]at this;omega
omit hi in
theorem Im{x y:Nat}(h:Rr sg mt x y):p y=p x-1:=by obtain⟨c,hc,h1,h2⟩:=h;rw[fv hd V3 Wt (aK hd hc 1).1 h1,fv hd V3 Wt (aK hd hc 1).2 h2,jO hd V3 Wt hc]
omit hi in
theorem pU{x0:Nat}(hx:x0<mt.length):∀{d y:Nat},EU sg mt x0 d y->p y=p x0-d
 |0,y,h=>by rw[fv hd V3 Wt hx h];omega
 |d+1,y,⟨z,h1,h2⟩=>by rw[Im hd V3 Wt h2,pU hx h1];omega
omit hi in
theorem Hi{x0:Nat}(hx:x0<mt.length):∀{d y:Nat},Up sg mt x0 d y->p y=p x0+d
 |0,y,h=>by rw[fv hd V3 Wt hx h];omega
 |d+1,y,⟨z,h1,h2⟩=>by have:=Im hd V3 Wt h2;rw[Hi hx h1]at this;omega
theorem Kj(YU:∀c d,c<sg.length->d<sg.length->Cn mt c d){x y:Nat}(hx:x<mt.length)(ox:ai sg x=true)(hy:y<mt.length)(oy:ai sg y=true)(e:p x=p y):sC sg mt x y:=by obtain⟨d,h|h⟩:=Tr.all hd hi hx ox (fun c hc=>YU _ c (by have:=hd.2.1;omega) hc) hy oy;{have:=pU hd V3 Wt hx h;obtain rfl:d=0:=oZ;exact h};{have:=Hi hd V3 Wt hx h;obtain rfl:d=0:=oZ;exact h}
end
end Go.Proofs.YtdbhigmklejicaaGreat
