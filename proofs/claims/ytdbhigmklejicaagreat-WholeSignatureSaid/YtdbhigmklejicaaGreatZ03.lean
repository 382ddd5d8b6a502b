import Derived.Test.YtdbhigmklejicaaGreatZ02
import Derived.Deep.RegionHeld3
import Derived.StillTailTactics
namespace Go.Proofs.YtdbhigmklejicaaGreat
set_option maxHeartbeats 16000000
set_option maxRecDepth 100000
open Go.RowKit
def ae(h k:Nat):Nat:=h-h%4+(h%4+k)%4
theorem af(h k:Nat):ae h k/4=h/4:=by unfold ae;omega
theorem fH(h k:Nat):ae h k%4=(h%4+k)%4:=by unfold ae;omega
theorem ar(h j k:Nat):ae (ae h j) k=ae h (j+k):=by have h1:=fH h j;have h2:=af h j;unfold ae at h1 h2⊢;omega
theorem lh{h k n:Nat}(hh:h<4*n):ae h k<4*n:=by unfold ae;omega
theorem eG(h:Nat):ae h 0=h:=by unfold ae;omega
theorem bC(h:Nat):ae h 4=h:=by unfold ae;omega
theorem dD{a b k:Nat}(h:ae a k=ae b k):a=b:=by unfold ae at h;omega
theorem I9(h:Nat)(b:Int):(h:Int)-(h:Int)%4+((h:Int)%4+b.tmod 4+4)%4=(ae h (b%4).toNat:Int):=by
 have h1:=Int.tmod_eq_emod (a:=b) (b:=4);unfold ae;have e:b.tmod 4=b%4\/b.tmod 4=b%4-4:=by rw[h1];split<;>omega
 omega
theorem Hp(b:Int): -3<=b.tmod 4/\b.tmod 4<=3:=by
 have h1:=Int.tmod_eq_emod (a:=b) (b:=4);rw[h1];split;{omega}
 ·rename_i h
  have h2:¬(4:Int)∣b:=fun hd=>h (.inr hd)
  have h3:b%4≠0:=fun e=>h2 (Int.dvd_of_emod_eq_zero e)
  omega
theorem zn(h:Nat)(b:Int)(w:World)(hh:h<=1099511627776):
  Calls Tryz.prog 31 #[.int .i64 h,.int .i64 b] w fun e w'=>e= .returned (.int .i64 (ae h (b%4).toNat))/\w=w':=by
 have hE:=Rb (I9 h b);have ht:=Hp b;go_enter Tryz.func31,Tryz.ntmps31
 go_wp2;go_ret;exact⟨cF (by have:=hE.out;omega),rfl⟩
theorem nH{a b:Int}(h k:Nat)(w:World)(ha:a=h)(hh:h<=1099511627776)(hk:(b%4).toNat=k):
  Calls Tryz.prog 31 #[.int .i64 a,.int .i64 b] w fun e w'=>e= .returned (.int .i64 (ae h k))/\w=w':=by
 subst ha hk;exact zn h b w hh
theorem dE{a:Int}(h:Nat)(w:World)(ha:a=h)(hh:h<=1099511627776):
  Calls Tryz.prog 61 #[.int .i64 a] w fun e w'=>e= .returned (.int .i64 (ae h 2))/\w=w':=by
 subst ha;go_enter Tryz.func61,Tryz.ntmps61
 go_wp2_with fail;refine(nH h 2 _ rfl hh oQ).mono ?_;rintro e w1 ⟨rfl,rfl⟩;go_wp2_with fail;go_ret;exact⟨rfl,rfl⟩
def ai(sg:List Int)(h:Nat):Bool:=if h%4=1 then gi sg (h/4)==1 else if h%4=2 then true else if h%4=3 then gi sg (h/4)== -1 else false
theorem mod_eq{h r k:Nat}(hr:h%4=r)(b:Bool)(hb:decide (r=k)=b):((h:Int)%4==(k:Int))=b:=by subst hb;rw[R_,SA,RE];omega
theorem nO(A1 A2:Option Addr)(c1 c2 ml:Nat)(sg:List Int)(L a:Int)(h:Nat)(w:World)(S:Nat->Prop)(hx:RI w S A1 sg)(hS:∀b,S b->b<w.heap.size)(hm:sg.length<=1099511627776)(ha:a=h)(hh:h<4*sg.length):
  Calls Tryz.prog 25 #[.agg #[.slice A1 sg.length c1,.slice A2 ml c2,.int .i64 L],.int .i64 a] w fun e w'=>e= .returned (.bool (ai sg h))/\Below w.heap.size w w':=by
 subst ha;have hb:Below w.heap.size w (w.alloc (.cells #[.slice A1 sg.length c1,.slice A2 ml c2,.int .i64 L] 24)):=(Rh _ _).alloc (Rf _) _;have HB:=Rb hb;clear hb;obtain⟨b,off,rfl,Xv,hc⟩:=hx.at_ (k:=h/4) oZ;have k1:=hc (h/4) oZ;have Xv:=hS b Xv;clear hc hx hS;have Wl:h%4=0\/h%4=1\/h%4=2\/h%4=3:=oZ;rcases Wl with hr|hr|hr|hr
 ·have e:ai sg h=false:=by unfold ai;rw[Rc oZ,Rc oZ,Rc oZ]
  have g1:=mod_eq (k:=1) hr false oQ;have g2:=mod_eq (k:=2) hr false oQ;have g3:=mod_eq (k:=3) hr false oQ;have E:=Rb e;clear e hr;go_enter Tryz.func25,Tryz.ntmps25
  go_wp2;go_ret;exact⟨aF E.out.symm,HB.out⟩
 ·have e:ai sg h=(gi sg (h/4)==1):=by unfold ai;rw[Re hr]
  have g1:=mod_eq (k:=1) hr true oQ;have E:=Rb e;clear e hr;go_enter Tryz.func25,Tryz.ntmps25
  go_wp2;go_ret;exact⟨aF E.out.symm,HB.out⟩
 ·have e:ai sg h=true:=by unfold ai;rw[Rc oZ,Re hr]
  have g1:=mod_eq (k:=1) hr false oQ;have g2:=mod_eq (k:=2) hr true oQ;have E:=Rb e;clear e hr;go_enter Tryz.func25,Tryz.ntmps25
  go_wp2;go_ret;exact⟨aF E.out.symm,HB.out⟩
 ·have e:ai sg h=(gi sg (h/4)== -1):=by unfold ai;rw[Rc oZ,Rc oZ,Re hr]
  have g1:=mod_eq (k:=1) hr false oQ;have g2:=mod_eq (k:=2) hr false oQ;have g3:=mod_eq (k:=3) hr true oQ;have E:=Rb e;clear e hr;go_enter Tryz.func25,Tryz.ntmps25
  go_wp2;go_ret;exact⟨aF E.out.symm,HB.out⟩
def cV(P:Nat->Bool)(m:Nat):Nat:=((List.range m).filter P).length
theorem FU(P:Nat->Bool):cV P 0=0:=rfl
theorem aT(P:Nat->Bool)(m:Nat):cV P (m+1)=cV P m+if P m=true then 1 else 0:=by unfold cV;rw[Sk,Th,Rz];congr 1;by_cases h:P m=true<;>simp[h]
theorem jz(P:Nat->Bool)(m:Nat):cV P m<=m:=by unfold cV;have:=Tg P (List.range m);simpa using this
theorem aQ{P Q:Nat->Bool}{m:Nat}(h:∀x,x<m->P x=Q x):cV P m=cV Q m:=by unfold cV;congr 1;apply List.filter_congr;intro x hx;exact h x (Rm.1 hx)
section
variable{f:Nat->Nat}{N:Nat}{wt:Nat->Bool}
def pX(f:Nat->Nat)(N:Nat)(wt:Nat->Bool)(n:Nat)(bs:List Bool):Prop:=bs.length=N/\∀x,x<N->(gb bs x=true↔Seen f N wt n x)
def pZ(f:Nat->Nat)(N:Nat)(wt:Nat->Bool)(h j:Nat)(bs:List Bool):Prop:=bs.length=N/\∀x,x<N->(gb bs x=true↔Seen f N wt h x\/∃i,i<j/\it f i h=x)
theorem rT(f:Nat->Nat)(N:Nat)(wt:Nat->Bool):pX f N wt 0 (List.replicate N false):=
 ⟨oX,fun x hx=>by simp[gb,hx,vv]⟩
theorem tR{h:Nat}{bs:List Bool}(hs:pX f N wt h bs):pZ f N wt h 0 bs:=
 ⟨hs.1,fun x hx=>by rw[hs.2 x hx];exact⟨.inl,fun h=>h.elim id fun⟨i,hi,_⟩=>absurd hi (RG i)⟩⟩
theorem tW{h j:Nat}{bs:List Bool}(hP:aO f N)(hh:h<N)(hs:pZ f N wt h j bs):pZ f N wt h (j+1) (bs.set (it f j h) true):=by
 refine⟨by rw[Ry];exact hs.1,fun x hx=>?_⟩;rw[mO (by rw[hs.1];exact hP.bL j hh)];by_cases e:x=it f j h;{subst e;rw[Re rfl];exact⟨fun _=> .inr ⟨j,oZ,rfl⟩,fun _=>rfl⟩}
 ·rw[Rc e,hs.2 x hx]
  constructor;{rintro(h1|⟨i,h1,h2⟩);{exact .inl h1};{exact .inr ⟨i,oZ,h2⟩}}
  ·rintro(h1|⟨i,h1,h2⟩)
   {exact .inl h1}
   ·refine .inr ⟨i,?_,h2⟩
    have:i≠j:=by rintro rfl;exact e h2.symm
    omega
variable(hP:aO f N)(hw:∀h,h<N->wt (f h)=wt h)
include hP hw
omit hw in
theorem qt{n g x:Nat}(hg:g<N)(hx:x∈bJ f N g)(hn:n<=N)(hs:Seen f N wt n x):Seen f N wt n g:=by obtain⟨h,h1,h2,h3,h4⟩:=hs;exact⟨h,h1,h2,h3,aM hP oZ h4 (aL hP hg hx)⟩
theorem Bp{h j:Nat}{bs:List Bool}(hh:h<N)(Wf:wt h=true)(hl:aZ f N h=true)(hs:pZ f N wt h j bs)(hj:j<eC f N h):gb bs (it f j h)=false:=by
 rw[Sf];intro hb;rcases(hs.2 _ (hP.bL j hh)).1 hb with h1|⟨i,h1,h2⟩
 {have:=qt hP hh ((aG hP hh).2 ⟨j,rfl⟩) (Uv hh) h1;rw[oS hP hw hh Wf,hl]at this;cases this}
 ·have e2:it f j h=it f i (it f (j-i) h):=by rw[<-fN];congr 1;omega
  rw[e2]at h2;have:=hP.j_ i hh (hP.bL _ hh) h2;exact(bz hP hh).2.2.2 (j-i) oZ oZ this.symm
omit hw in
theorem Cq{h j:Nat}{bs:List Bool}(hh:h<N)(hs:pZ f N wt h j bs)(hj:j=eC f N h):gb bs (it f j h)=true:=by subst hj;obtain⟨h0,_,h1,_⟩:=bz hP hh;rw[hs.2 _ (hP.bL _ hh)];exact .inr ⟨0,h0,h1.symm⟩
omit hw in
theorem wh{h j:Nat}{bs:List Bool}(hh:h<N)(Wf:wt h=true)(hl:aZ f N h=true)(hs:pZ f N wt h j bs)(hj:j=eC f N h):pX f N wt (h+1) bs:=by subst hj;refine⟨hs.1,fun x hx=>?_⟩;rw[hs.2 x hx,mh];constructor;{rintro(h1|⟨i,h1,h2⟩);{exact .inl h1};{exact .inr ⟨Wf,hl,(aG hP hh).2 ⟨i,h2⟩⟩}};{rintro(h1|⟨_,_,h2⟩);{exact .inl h1};{obtain⟨i,hi⟩:=(aG hP hh).1 h2;exact .inr ⟨i%eC f N h,RY _ (bz hP hh).1,by rw[<-jv hP hh];exact hi⟩}}
theorem lD{h:Nat}{bs:List Bool}(hh:h<N)(Wf:wt h=true)(hs:pX f N wt h bs):gb bs h= !aZ f N h:=by
 have h1:=hs.2 h hh;rw[oS hP hw hh Wf]at h1
 cases hb:gb bs h<;>cases hl:aZ f N h<;>simp_all
omit hP hw in
theorem tQ{h:Nat}{bs:List Bool}(hs:pX f N wt h bs)(VT:¬(wt h=true/\aZ f N h=true)):pX f N wt (h+1) bs:=by refine⟨hs.1,fun x hx=>?_⟩;rw[hs.2 x hx,mh];constructor;{exact .inl};{rintro(h1|⟨h1,h2,_⟩);{exact h1};{exact absurd ⟨h1,h2⟩ VT}}
end
def au(mt:List Int)(g:Nat):Nat:=ae (gn mt g) 3
def MV(mt:List Int)(g:Nat):Nat:=ae (gn mt g) 2
theorem dX{mt:List Int}(hI:cN mt){a b:Nat}(ha:a<mt.length)(hb:b<mt.length)(h:gn mt a=gn mt b):a=b:=by have h1:=(hI.gn ha).2.2.2;have h2:=(hI.gn hb).2.2.2;rw[<-h1,h,h2]
theorem aU{mt:List Int}(hI:cN mt){n:Nat}(hn:mt.length=4*n):aO (au mt) mt.length:=
 ⟨fun h hh=>by rw[hn];exact lh (by have:=(hI.gn hh).2.1;omega),fun a b ha hb e=>dX hI ha hb (dD e)⟩
theorem Gf{mt:List Int}(hI:cN mt){n:Nat}(hn:mt.length=4*n):aO (MV mt) mt.length:=
 ⟨fun h hh=>by rw[hn];exact lh (by have:=(hI.gn hh).2.1;omega),fun a b ha hb e=>dX hI ha hb (dD e)⟩
def jt(mt:List Int)(n p m:Nat):Nat:=cV (fun h=>aZ (au mt) mt.length h&&decide (av mt n (aA mt n (h/4))=p)) m
def jg(mt:List Int)(n p m:Nat):Nat:=cV (fun c=>decide (av mt n (aA mt n c)=p)) m
def I_(mt:List Int)(n:Nat):Prop:=∀p,p<av mt n n->jt mt n p mt.length=jg mt n p n+2
instance(mt:List Int)(n:Nat):Decidable (I_ mt n):=by unfold I_;infer_instance
def xh(sg mt:List Int):Prop:=∀h,h<mt.length->ai sg h≠ai sg (gn mt h)
def EN(sg:List Int):Prop:=∀c,c<sg.length->gi sg c=1\/gi sg c= -1
def cJ(sg mt:List Int)(L:Int):Prop:=sg.length<=64/\mt.length=4*sg.length/\0<=L/\L<=64/\EN sg/\cN mt/\xh sg mt/\I_ mt sg.length
instance(mt:List Int):Decidable (cN mt):=by unfold cN;infer_instance
instance(sg mt:List Int):Decidable (xh sg mt):=by unfold xh;infer_instance
instance(sg:List Int):Decidable (EN sg):=by unfold EN;infer_instance
instance(sg mt:List Int)(L:Int):Decidable (cJ sg mt L):=by unfold cJ;infer_instance
theorem qZ{mt:List Int}(hI:cN mt){n:Nat}(hn:mt.length=4*n):
  I_ mt n↔∀r,r<n->aA mt n r=r->cV (fun h=>aZ (au mt) mt.length h&&decide (aA mt n (h/4)=r)) mt.length=cV (fun c=>decide (aA mt n c=r)) n+2:=by
 have key:∀r,r<n->aA mt n r=r->jt mt n (av mt n r) mt.length=cV (fun h=>aZ (au mt) mt.length h&&decide (aA mt n (h/4)=r)) mt.length/\
   jg mt n (av mt n r) n=cV (fun c=>decide (aA mt n c=r)) n:=by
  intro r hr hl;have e:∀c,c<n->decide (av mt n (aA mt n c)=av mt n r)=decide (aA mt n c=r):=by intro c hc;rw[R_,RE,RE];exact⟨fun h=>zH _ (ji hI hn hc) hl h,fun h=>by rw[h]⟩
  exact⟨aQ fun h hh=>by rw[e (h/4) oZ],aQ fun c hc=>e c hc⟩
 constructor;{intro h r hr hl;obtain⟨k1,k2⟩:=key r hr hl;rw[<-k1,<-k2];exact h _ (kl _ hr hl)};{intro h p hp;obtain⟨r,hr,hl,rfl⟩:=D9 _ hp;obtain⟨k1,k2⟩:=key r hr hl;have:=h r hr hl;rw[<-k1,<-k2]at this;exact this}
theorem kF{A B:Nat->Bool}{N M:Nat}(g:Nat->Nat)(hg:∀x,x<N->A x=true->g x<M/\B (g x)=true)(hi:∀x y,x<N->y<N->A x=true->A y=true->g x=g y->x=y):cV A N<=cV B M:=by
 have Yz:(((List.range N).filter A).map g).Nodup:=by rw[List.Nodup,Tq];refine((Tc (n:=N)).filter A).imp_of_mem ?_;intro a b ha hb hab e;rw[R3,Rm]at ha hb;have:=hi a b ha.1 hb.1 ha.2 hb.2 e;omega
 have Ye:((List.range N).filter A).map g⊆(List.range M).filter B:=by intro x hx;rw[So]at hx;obtain⟨a,ha,rfl⟩:=hx;rw[R3,Rm]at ha;rw[R3,Rm];exact hg a ha.1 ha.2
 have:=Yz.length_le_of_subset Ye;rw[Sa]at this;exact this
structure uO(r:Nat->Nat->Bool)(N:Nat):Prop where
 rfl_:∀x,x<N->r x x=true
 sym:∀x y,x<N->y<N->r x y=true->r y x=true
 tr:∀x y z,x<N->y<N->z<N->r x y=true->r y z=true->r x z=true
def e_(r:Nat->Nat->Bool)(x:Nat):Bool:=(List.range x).all fun y=> !r y x
def dw(r:Nat->Nat->Bool)(N:Nat):Nat:=cV (e_ r) N
theorem bY{r:Nat->Nat->Bool}{x:Nat}:e_ r x=true↔∀y,y<x->r y x=false:=by unfold e_;rw[List.all_eq_true];constructor;{intro h y hy;have:=h y (Rm.2 hy);simpa using this};{intro h y hy;have:=h y (Rm.1 hy);simp[this]}
theorem iJ{r r':Nat->Nat->Bool}{N:Nat}(h:∀x y,x<N->y<N->r x y=r' x y):dw r N=dw r' N:=by
 unfold dw;refine aQ fun x hx=>?_
 rw[R_,bY,bY];exact⟨fun g y hy=>by rw[<-h y x oZ hx];exact g y hy,fun g y hy=>by rw[h y x oZ hx];exact g y hy⟩
def eT(r:Nat->Nat->Bool)(x y z w:Nat):Bool:=r z w||(r z x&&r y w)||(r z y&&r x w)
theorem cD{r:Nat->Nat->Bool}{x y z w:Nat}:eT r x y z w=true↔r z w=true\/(r z x=true/\r y w=true)\/(r z y=true/\r x w=true):=by unfold eT;simp only[TH,RA];exact⟨fun h=>h.elim (fun h=>h.elim .inl fun h=> .inr (.inl h)) fun h=> .inr (.inr h),fun h=>h.elim (fun h=> .inl (.inl h)) fun h=>h.elim (fun h=> .inl (.inr h)) .inr⟩
theorem BL(r:Nat->Nat->Bool)(x y z w:Nat):eT r x y z w=eT r y x z w:=by
 unfold eT
 cases r z w<;>cases(r z x&&r y w)<;>cases(r z y&&r x w)<;>rfl
section
variable{r:Nat->Nat->Bool}{N:Nat}(hE:uO r N){x y:Nat}(hx:x<N)(hy:y<N)
include hE hx hy
theorem vO:uO (eT r x y) N:=by
 refine⟨fun z hz=>cD.2 (.inl (hE.rfl_ z hz)),fun z w hz hw h=>?_,fun z w v hz hw hv h1 h2=>?_⟩
 ·rw[cD]at h⊢
  rcases h with h|⟨h1,h2⟩|⟨h1,h2⟩
  {exact .inl (hE.sym _ _ hz hw h)};{exact .inr (.inr ⟨hE.sym _ _ hy hw h2,hE.sym _ _ hz hx h1⟩)};{exact .inr (.inl ⟨hE.sym _ _ hx hw h2,hE.sym _ _ hz hy h1⟩)}
 ·rw[cD]at h1 h2⊢
  rcases h1 with h1|⟨a1,a2⟩|⟨a1,a2⟩<;>rcases h2 with h2|⟨b1,b2⟩|⟨b1,b2⟩
  {exact .inl (hE.tr _ _ _ hz hw hv h1 h2)};{exact .inr (.inl ⟨hE.tr _ _ _ hz hw hx h1 b1,b2⟩)};{exact .inr (.inr ⟨hE.tr _ _ _ hz hw hy h1 b1,b2⟩)};{exact .inr (.inl ⟨a1,hE.tr _ _ _ hy hw hv a2 h2⟩)};{exact .inr (.inl ⟨a1,b2⟩)};{exact .inl (hE.tr _ _ _ hz hx hv a1 b2)};{exact .inr (.inr ⟨a1,hE.tr _ _ _ hx hw hv a2 h2⟩)};{exact .inl (hE.tr _ _ _ hz hy hv a1 b2)};{exact .inr (.inr ⟨a1,b2⟩)}
theorem Cd(h:r x y=true){z w:Nat}(hz:z<N)(hw:w<N):eT r x y z w=r z w:=by rw[R_,cD];constructor;{rintro(h1|⟨h1,h2⟩|⟨h1,h2⟩);{exact h1};{exact hE.tr _ _ _ hz hx hw h1 (hE.tr _ _ _ hx hy hw h h2)};{exact hE.tr _ _ _ hz hy hw h1 (hE.tr _ _ _ hy hx hw (hE.sym _ _ hx hy h) h2)}};{exact .inl}
omit hx hy in
theorem xS{z:Nat}(hz:z<N):∃m,m<=z/\r m z=true/\e_ r m=true:=by obtain⟨m,hm,hl⟩:=oM (P:=fun m=>m<N/\r m z=true) ⟨hz,hE.rfl_ z hz⟩;refine⟨m,hl z ⟨hz,hE.rfl_ z hz⟩,hm.2,bY.2 fun y hy=>?_⟩;rw[Sf];intro h;have:=hl y ⟨oZ,hE.tr _ _ _ oZ hm.1 hz h hm.2⟩;omega
omit hE hx hy in
theorem nQ{m z:Nat}(hh:e_ r m=true)(h:r z m=true):m<=z:=by
 rcases SN z m with h1|h1
 {rw[bY.1 hh z h1]at h;cases h};{exact h1}
theorem mI{a b:Nat}(ha:a<N)(hb:b<N)(hra:r a x=true)(hrb:r b y=true)(hha:e_ r a=true)(hhb:e_ r b=true)(Vg:a<b):
  dw (eT r x y) N+1=dw r N:=by
 have key:∀z,z<N->e_ r z=(e_ (eT r x y) z||decide (z=b)):=by
  intro z hz;rw[R_,TH,RE];constructor
  ·intro h
   by_cases e:z=b;{exact .inr e}
   ·refine .inl (bY.2 fun w hw=>?_)
    rw[Sf];intro hj;rcases cD.1 hj with h1|⟨h1,h2⟩|⟨h1,h2⟩
    {rw[bY.1 h w hw]at h1;cases h1};{have hbz:=hE.tr _ _ _ hb hy hz hrb h2;have h3:=nQ h hbz;have h4:=nQ hhb (hE.sym _ _ hb hz hbz);omega};{have haz:=hE.tr _ _ _ ha hx hz hra h2;have hwb:=hE.tr _ _ _ oZ hy hb h1 (hE.sym _ _ hb hy hrb);have h3:=nQ h haz;have h4:=nQ hha (hE.sym _ _ ha hz haz);have h5:=nQ hhb hwb;omega}
  ·rintro(h|rfl)
   ·refine bY.2 fun w hw=>?_
    rw[Sf];intro h1;have:=bY.1 h w hw;rw[cD.2 (.inl h1)]at this
    cases this
   {exact hhb}
 have Vz:e_ (eT r x y) b=false:=by
  rw[Sf];intro h;have:=bY.1 h a Vg;rw[cD.2 (.inr (.inl ⟨hra,hE.sym _ _ hb hy hrb⟩))]at this
  cases this
 have hcnt:∀m,cV (fun z=>e_ (eT r x y) z||decide (z=b)) m=cV (e_ (eT r x y)) m+if b<m then 1 else 0:=by
  intro m
  induction m with
  |zero=>rfl
  |succ m ih=>
   rw[aT,aT,ih];by_cases e:m=b;{subst e;rw[Vz];simp}
   ·have:(b<m+1)=(b<m):=by rw[eq_iff_iff];omega
    simp[e,this];split<;>split<;>omega
 have:=aQ key;rw[hcnt,Re hb]at this;unfold dw;omega
theorem pL:dw (eT r x y) N+(if r x y=true then 0 else 1)=dw r N:=by
 by_cases h:r x y=true;{rw[Re h,Tx];exact iJ fun z w hz hw=>Cd hE hx hy h hz hw}
 ·rw[Rc h]
  rw[Bool.not_eq_true]at h;obtain⟨a,a1,a2,a3⟩:=xS hE hx;obtain⟨b,b1,b2,b3⟩:=xS hE hy;have Vh:a≠b:=by
   rintro rfl;rw[hE.tr _ _ _ hx oZ hy (hE.sym _ _ oZ hx a2) b2]at h
   cases h
  rcases US Vh with Vg|Vg
  {exact mI hE hx hy oZ oZ a2 b2 a3 b3 Vg};{rw[<-mI hE hy hx oZ oZ b2 a2 b3 a3 Vg];congr 1;exact iJ fun z w _ _=>BL r x y z w}
end
def rc(f:Nat->Nat)(N x y:Nat):Bool:=decide (y∈bJ f N x)
theorem dZ{f:Nat->Nat}{N:Nat}(hP:aO f N){x y:Nat}(hx:x<N):rc f N x y=true↔∃k,it f k x=y:=by unfold rc;rw[RE];exact aG hP hx
theorem iK{f:Nat->Nat}{N:Nat}(hP:aO f N):uO (rc f N) N:=by refine⟨fun x hx=>?_,fun x y hx _ h=>?_,fun x y z hx _ _ h1 h2=>?_⟩;{exact Rj (bE hP hx)};{exact Rj (aL hP hx (RU h))};{exact Rj (aM hP hx (RU h1) (RU h2))}
theorem nF{f:Nat->Nat}{N:Nat}(hP:aO f N){x:Nat}(hx:x<N):rc f N x (f x)=true:=(dZ hP hx).2 ⟨1,rfl⟩
theorem CT{f:Nat->Nat}{N:Nat}(hP:aO f N):dw (rc f N) N=cV (aZ f N) N:=by
 unfold dw;refine aQ fun x hx=>?_
 rw[R_,bY,dF];constructor
 ·intro h g hg
  have hgN:=dI hP hx hg;rcases SN g x with h1|h1
  {have h2:=h g h1;rw[show rc f N g x=true from Rj (aL hP hx hg)]at h2;cases h2};{exact h1}
 {intro h y hy;rw[Sf];intro h1;have:=h y (aL hP oZ (RU h1));omega}
theorem BS{f:Nat->Nat}{N:Nat}(hP:aO f N){r:Nat->Nat->Bool}(hE:uO r N)(hr:∀x,x<N->r x (f x)=true){x y:Nat}(hx:x<N)(h:rc f N x y=true):r x y=true:=by
 obtain⟨k,rfl⟩:=(dZ hP hx).1 h;clear h
 induction k with
 |zero=>exact hE.rfl_ x hx
 |succ k ih=>exact hE.tr _ _ _ hx (hP.bL k hx) (hP.lt _ (hP.bL k hx)) ih (hr _ (hP.bL k hx))
def sw(x y z:Nat):Nat:=if z=x then y else if z=y then x else z
theorem zL(x y:Nat):sw x y x=y:=by simp[sw]
theorem zW(x y:Nat):sw x y y=x:=by unfold sw;by_cases h:y=x;{simp[h]};{simp[h]}
theorem uB{x y z:Nat}(h1:z≠x)(h2:z≠y):sw x y z=z:=by simp[sw,h1,h2]
theorem AD(x y z:Nat):sw x y (sw x y z)=z:=by by_cases h1:z=x;{subst h1;rw[zL,zW]};{by_cases h2:z=y;{subst h2;rw[zW,zL]};{rw[uB h1 h2,uB h1 h2]}}
theorem ug{x y z N:Nat}(hx:x<N)(hy:y<N)(hz:z<N):sw x y z<N:=by unfold sw;split;{exact hy};{split;{exact hx};{exact hz}}
theorem mj{f:Nat->Nat}{N x y:Nat}(hP:aO f N)(hx:x<N)(hy:y<N):aO (fun z=>f (sw x y z)) N:=
 ⟨fun z hz=>hP.lt _ (ug hx hy hz),fun a b ha hb e=>by
  have:=hP.inj _ _ (ug hx hy ha) (ug hx hy hb) e;rw[<-AD x y a,this,AD]⟩
section
variable{f:Nat->Nat}{N:Nat}(hP:aO f N){x y:Nat}(hx:x<N)(hy:y<N)
include hP hx hy
theorem IN{z w:Nat}(hz:z<N)(hw:w<N)(h:eT (rc (fun z=>f (sw x y z)) N) x y z w=true):eT (rc f N) x y z w=true:=by
 have hE:=iK hP;have hJ:=vO hE hx hy;have YK:∀u,u<N->eT (rc f N) x y u (f (sw x y u))=true:=by intro u hu;rw[cD];by_cases h1:u=x;{subst h1;rw[zL];exact .inr (.inl ⟨hE.rfl_ _ hx,nF hP hy⟩)};{by_cases h2:u=y;{subst h2;rw[zW];exact .inr (.inr ⟨hE.rfl_ _ hy,nF hP hx⟩)};{rw[uB h1 h2];exact .inl (nF hP hu)}}
 have Xl:=mj hP hx hy;have hs:∀{u v},u<N->rc (fun z=>f (sw x y z)) N u v=true->eT (rc f N) x y u v=true:=fun hu h=>BS Xl hJ YK hu h
 have Vw:eT (rc f N) x y x y=true:=cD.2 (.inr (.inl ⟨hE.rfl_ _ hx,hE.rfl_ _ hy⟩));rcases cD.1 h with h1|⟨h1,h2⟩|⟨h1,h2⟩
 {exact hs hz h1};{exact hJ.tr _ _ _ hz hx hw (hs hz h1) (hJ.tr _ _ _ hx hy hw Vw (hs hy h2))};{exact hJ.tr _ _ _ hz hy hw (hs hz h1) (hJ.tr _ _ _ hy hx hw (hJ.sym _ _ hx hy Vw) (hs hx h2))}
theorem JL{z w:Nat}(hz:z<N)(hw:w<N):eT (rc (fun z=>f (sw x y z)) N) x y z w=eT (rc f N) x y z w:=by
 rw[R_];refine⟨IN hP hx hy hz hw,fun h=>?_⟩;have:=IN (mj hP hx hy) hx hy (z:=z) (w:=w) hz hw;have e:(fun z=>(fun z=>f (sw x y z)) (sw x y z))=f:=by funext z;show f (sw x y (sw x y z))=f z;rw[AD]
 rw[e]at this;exact this h
theorem Gh(h:rc f N x y=false):rc (fun z=>f (sw x y z)) N x y=true:=by
 have Xl:=mj hP hx hy;obtain⟨p0,p1,p2,p3⟩:=bz hP hy;have VT:∀k,it f k y≠x:=by
  intro k e;have:rc f N y x=true:=(dZ hP hy).2 ⟨k,e⟩;rw[(iK hP).sym _ _ hy hx this]at h
  cases h
 have key:∀k,k<eC f N y->it (fun z=>f (sw x y z)) (k+1) x=it f (k+1) y:=by
  intro k
  induction k with
  |zero=>intro _;show f (sw x y x)=f y;rw[zL]
  |succ k ih=>intro hk;show f (sw x y (it (fun z=>f (sw x y z)) (k+1) x))=f (it f (k+1) y);rw[ih oZ,uB (VT _) (p3 _ oZ hk)]
 refine(dZ Xl hx).2 ⟨eC f N y-1+1,?_⟩;rw[key _ oZ,TY p0];exact p2
theorem zQ(Vh:x≠y)(h:rc f N x y=true):rc (fun z=>f (sw x y z)) N x y=false:=by
 have Xl:=mj hP hx hy;obtain⟨p0,p1,p2,p3⟩:=bz hP hx;obtain⟨k0,Yg⟩:=(dZ hP hx).1 h;obtain⟨k,hk,WV⟩:=oM (P:=fun k=>it f k x=y) Yg;have hkp:k<eC f N x:=by have:=WV (k0%eC f N x) (by rw[<-jv hP hx];exact Yg);have:=RY k0 p0;omega
 have hk1:0<k:=by
  rcases Se k with e|e
  {subst e;exact absurd hk Vh};{exact e}
 have key:∀j,j<k->it (fun z=>f (sw x y z)) (j+1) y=it f (j+1) x:=by
  intro j
  induction j with
  |zero=>intro _;show f (sw x y y)=f x;rw[zW]
  |succ j ih=>intro hj;show f (sw x y (it (fun z=>f (sw x y z)) (j+1) y))=f (it f (j+1) x);rw[ih oZ,uB (p3 _ oZ oZ) (fun e=>by have:=WV _ e;omega)]
 rw[Sf];intro h';have h2:=(iK Xl).sym _ _ hx hy h';have hret:it (fun z=>f (sw x y z)) k y=y:=by have:=key (k-1) oZ;rw[TY hk1]at this;rw[this];exact hk
 have Vx:∀m,it (fun z=>f (sw x y z)) m y≠x:=by
  intro m;have hm:it (fun z=>f (sw x y z)) m y=it (fun z=>f (sw x y z)) (m%k) y:=by
   have hq:∀q,it (fun z=>f (sw x y z)) (k*q) y=y:=by
    intro q
    induction q with
    |zero=>rfl
    |succ q ih=>rw[Va,fN,hret,ih]
   have e:=Nat.mod_add_div m k
   conv=>lhs;rw[<-e]
   rw[fN,hq]
  rw[hm];have Vg:=RY m hk1;rcases Se (m%k)with e|e
  {rw[e];exact fun e=>Vh e.symm};{have:=key (m%k-1) oZ;rw[TY e]at this;rw[this];exact p3 _ e oZ}
 obtain⟨m,hm⟩:=(dZ Xl hy).1 h2;exact Vx m hm
theorem De:dw (rc (fun z=>f (sw x y z)) N) N+(if rc f N x y=true then 0 else 1)=dw (rc f N) N+(if rc (fun z=>f (sw x y z)) N x y=true then 0 else 1):=by
 have h1:=pL (iK hP) hx hy;have h2:=pL (iK (mj hP hx hy)) hx hy;have h3:=iJ (N:=N) fun z w hz hw=>JL hP hx hy hz hw
 rw[<-h1,<-h2,h3];simp only[TO];rw[Uw (if rc f N x y=true then 0 else 1)]
theorem sU(h:rc f N x y=false):dw (rc (fun z=>f (sw x y z)) N) N+1=dw (rc f N) N:=by have:=De hP hx hy;rw[h,Gh hP hx hy h]at this;simpa using this
theorem Cg(Vh:x≠y)(h:rc f N x y=true):dw (rc (fun z=>f (sw x y z)) N) N=dw (rc f N) N+1:=by have:=De hP hx hy;rw[h,zQ hP hx hy Vh h]at this;simpa using this
end
def fE(a:Nat->Nat):List (Nat×Nat)->Nat->Nat
 |[]=>a
 |e::es=>fun z=>fE a es (sw e.1 e.2 z)
def eE:List (Nat×Nat)->Nat->Nat
 |[]=>fun z=>z
 |e::es=>fun z=>eE es (sw e.1 e.2 z)
theorem zx(a:Nat->Nat):∀es z,fE a es z=a (eE es z)
 |[],_=>rfl
 |e::es,z=>zx a es (sw e.1 e.2 z)
def kE(a:Nat->Nat)(N:Nat):List (Nat×Nat)->Nat->Nat->Bool
 |[]=>rc a N
 |e::es=>eT (kE a N es) e.1 e.2
def oW(N:Nat)(es:List (Nat×Nat)):Prop:=∀e,e∈es->e.1<N/\e.2<N/\e.1≠e.2
theorem oW.tail{N:Nat}{e:Nat×Nat}{es:List (Nat×Nat)}(h:oW N (e::es)):oW N es:=fun x hx=>h x (SE _ hx)
theorem oW.head{N:Nat}{e:Nat×Nat}{es:List (Nat×Nat)}(h:oW N (e::es)):e.1<N/\e.2<N/\e.1≠e.2:=h e (SM ..)
section
variable{a:Nat->Nat}{N:Nat}(hP:aO a N)
include hP
theorem jl:∀es,oW N es->aO (fE a es) N
 |[],_=>hP
 |_::es,h=>mj (jl es h.tail) h.head.1 h.head.2.1
theorem gD:∀es,oW N es->uO (kE a N es) N
 |[],_=>iK hP
 |_::es,h=>vO (gD es h.tail) h.head.1 h.head.2.1
theorem rA:∀es,oW N es->∀z,z<N->kE a N es z (eE es z)=true
 |[],h,z,hz=>(gD hP [] h).rfl_ z hz
 |e::es,h,z,hz=>by obtain⟨h1,h2,-⟩:=h.head;have hE:=gD hP es h.tail;have ih:=rA es h.tail (sw e.1 e.2 z) (ug h1 h2 hz);show eT (kE a N es) e.1 e.2 z (eE es (sw e.1 e.2 z))=true;rw[cD];by_cases e1:z=e.1;{subst e1;rw[zL]at ih⊢;exact .inr (.inl ⟨hE.rfl_ _ h1,ih⟩)};{by_cases e2:z=e.2;{subst e2;rw[zW]at ih⊢;exact .inr (.inr ⟨hE.rfl_ _ h2,ih⟩)};{rw[uB e1 e2]at ih⊢;exact .inl ih}}
omit hP in
theorem yM:∀es,oW N es->∀z,z<N->eE es z<N
 |[],_,_,hz=>hz
 |_::es,h,_,hz=>yM es h.tail _ (ug h.head.1 h.head.2.1 hz)
omit hP in
theorem LB:∀es,oW N es->∀z w,z<N->rc a N z w=true->kE a N es z w=true
 |[],_,_,_,_,h=>h
 |_::es,h,z,w,hz,h1=>cD.2 (.inl (LB es h.tail z w hz h1))
theorem rp(es:List (Nat×Nat))(h:oW N es){z:Nat}(hz:z<N):kE a N es z (a z)=true:=LB es h z _ hz (nF hP hz)
theorem C6(es:List (Nat×Nat))(h:oW N es){z:Nat}(hz:z<N):kE a N es z (fE a es z)=true:=by have hE:=gD hP es h;have h1:=yM es h z hz;rw[zx];exact hE.tr _ _ _ hz h1 (hP.lt _ h1) (rA hP es h z hz) (rp hP es h h1)
theorem H6(es:List (Nat×Nat))(h:oW N es){z w:Nat}(hz:z<N)(hr:rc (fE a es) N z w=true):kE a N es z w=true:=
 BS (jl hP es h) (gD hP es h) (fun _ hx=>C6 hP es h hx) hz hr
theorem Cy(e:Nat×Nat)(es:List (Nat×Nat))(h:oW N (e::es)):
  (kE a N es e.1 e.2=false/\rc (fE a es) N e.1 e.2=false/\dw (rc (fE a (e::es)) N) N+1=dw (rc (fE a es) N) N/\dw (kE a N (e::es)) N+1=dw (kE a N es) N)\/
  (kE a N es e.1 e.2=true/\rc (fE a es) N e.1 e.2=false/\dw (rc (fE a (e::es)) N) N+1=dw (rc (fE a es) N) N/\dw (kE a N (e::es)) N=dw (kE a N es) N)\/
  (kE a N es e.1 e.2=true/\rc (fE a es) N e.1 e.2=true/\dw (rc (fE a (e::es)) N) N=dw (rc (fE a es) N) N+1/\dw (kE a N (e::es)) N=dw (kE a N es) N):=by
 obtain⟨h1,h2,h3⟩:=h.head;have hF:=jl hP es h.tail;have hk:dw (kE a N (e::es)) N+(if kE a N es e.1 e.2=true then 0 else 1)=dw (kE a N es) N:=pL (gD hP es h.tail) h1 h2
 cases hkk:kE a N es e.1 e.2
 ·left
  have hr:rc (fE a es) N e.1 e.2=false:=by
   rw[Sf];intro hr;rw[H6 hP es h.tail h1 hr]at hkk
   cases hkk
  rw[hkk]at hk;exact⟨rfl,hr,sU hF h1 h2 hr,by simpa using hk⟩
 ·right
  rw[hkk]at hk
  cases hr:rc (fE a es) N e.1 e.2
  {exact .inl ⟨rfl,rfl,sU hF h1 h2 hr,by simpa using hk⟩};{exact .inr ⟨rfl,rfl,Cg hF h1 h2 h3 hr,by simpa using hk⟩}
theorem uf:∀es,oW N es->∃d,dw (rc (fE a es) N) N+dw (rc a N) N+2*d=es.length+2*dw (kE a N es) N
 |[],_=>⟨0,by show dw (rc a N) N+_+_=0+2*dw (rc a N) N;omega⟩
 |e::es,h=>by
  obtain⟨d,hd⟩:=uf es h.tail;rw[SI];rcases Cy hP e es h with⟨-,-,h3,h4⟩|⟨-,-,h3,h4⟩|⟨-,-,h3,h4⟩
  {exact⟨d,oZ⟩};{exact⟨d+1,oZ⟩};{exact⟨d,oZ⟩}
def tF(a:Nat->Nat)(N:Nat)(es:List (Nat×Nat)):Prop:=dw (rc (fE a es) N) N+dw (rc a N) N=es.length+2*dw (kE a N es) N
theorem tF.tail{e:Nat×Nat}{es:List (Nat×Nat)}(h:oW N (e::es))(hp:tF a N (e::es)):
  tF a N es/\(kE a N es e.1 e.2=true->rc (fE a es) N e.1 e.2=true):=by
 obtain⟨d,hd⟩:=uf hP es h.tail;unfold tF at hp⊢;rw[SI]at hp;rcases Cy hP e es h with⟨h1,-,h3,h4⟩|⟨h1,-,h3,h4⟩|⟨h1,h2,h3,h4⟩
 {exact⟨oZ,fun h=>by rw[h1]at h;cases h⟩};{omega};{exact⟨oZ,fun _=>h2⟩}
end
def fM(K:Nat):Prop:=∀(args:Array Value) (w:World),(callFunc K args).run Tryz.prog w= .ok (.enter K args) w
theorem gA{K:Nat}{fn:Func}{c:Code}(hf:Tryz.prog.funcs[K]?=some fn)(hname:(fn.name== "runtime.NumGoroutine")=false)(hb:fn.body=some c):fM K:=by
 intro args w;have h1:fn.name≠ "runtime.NumGoroutine" :=by simpa using hname
 simp[callFunc,hf,h1,hb]
def mW(K bd N:Nat)(f:Nat->Nat)(w:World):Prop:=∀(g:Nat) (W:World),g<N->Below w.heap.size w W->
 Calls Tryz.prog K #[.int .i64 g,.pointer (some ⟨bd,0,none⟩)] W fun e w'=>e= .returned (.int .i64 (f g))/\W=w'
theorem mW.v_{K bd N:Nat}{f:Nat->Nat}{w w':World}(h:mW K bd N f w)(hb:Below w.heap.size w w'):mW K bd N f w':=fun g W hg hW=>
 h g W hg (hb.trans (hW.mono hb.size))
def ints(l:List Nat):List Int:=l.map Int.ofNat
theorem aH(l:List Nat):(ints l).length=l.length:=by simp[ints]
theorem lG(l m:List Nat):ints (l++m)=ints l++ints m:=by simp[ints]
theorem jj{l:List Nat}{k:Nat}(h:k<l.length):gi (ints l) k=(gN l k:Int):=Ni h
theorem EI(K bd N h:Nat)(f:Nat->Nat)(w:World)(hP:aO f N)(hh:h<N)(hN:N<=400000)(hK:fM K)(X5:mW K bd N f w):
  Calls Tryz.prog 62 #[.int .i64 h,.func (.func K) #[] #[.pointer (some ⟨bd,0,none⟩)]] w fun e w'=>∃v,e= .returned v/\OI w' w.heap.size v (ints (bJ f N h))/\Below w.heap.size w w':=by
 obtain⟨p0,p1,p2,p3⟩:=bz hP hh;have H3:=Rb p3;have H2:=Rb p2;have HX:=Rb X5;have HP:=Rb hP;have Vn:∀(args:Array Value) (w:World),(callFunc K args).run Tryz.prog w= .ok (.enter K args) w:=hK
 clear p2 p3 X5 hP hK;go_enter Tryz.func62,Tryz.ntmps62
 go_wp2_with fail;have Vi:Below w.heap.size w (w.alloc (.cells #[.int .i64 h] 3)):=(Rh _ _).alloc (Rf _) _;have ho:OI (w.alloc (.cells #[.int .i64 h] 3)) w.heap.size (.slice (some ⟨w.heap.size,0,none⟩) 1 1) (ints ((bJ f N h).take 1)):=by
  have h1:=OR.made (e:=3) (f:=Value.int .i64) (xs:=[(h:Int)]) w w.heap.size #[.int .i64 h] (Rf _) (by simp[maxLen]) oX;have e:(bJ f N h).take 1=[h]:=by have:=jD (f:=f) (N:=N) (h:=h) (k:=0) p0;simpa[it]using this.symm
  rw[e];exact h1
 have HO:=Rb ho;clear ho;refine(HX.out h _ hh Vi).mono ?_;rintro e w1 ⟨rfl,rfl⟩;go_wp2_with fail;go_loopg[5,6] (eC f N h) (fun F v g wr=>∃j:Nat,1<=j/\j<=eC f N h/\g= .int .i64 (it f j h)/\Hid (OI wr w.heap.size v (ints ((bJ f N h).take j)))/\Hid (Below w.heap.size w wr)/\Hid (eC f N h-j<F))
 case atStart=>exact⟨1,oZ,oZ,rfl,HO,Vi,by show _-_<_;omega⟩
 case round=>
  clear HO Vi;obtain⟨j,hj1,hj,rfl,HO,HB,HF⟩:=hrel;by_cases Yh:j<eC f N h
  ·have Vh:it f j h≠h:=H3.out j oZ Yh
   have hne':(((it f j h:Nat):Int)!=(h:Int))=true:=by rw[RZ];omega
   have VS:it f j h<N:=HP.out.bL j hh;have HT:=Rb (jD (f:=f) (N:=N) (h:=h) Yh);have hlen:(ints ((bJ f N h).take j)).length<1099511627776:=by rw[aH,UD];omega
   have HL:=Rb hlen;have VI:=HB.out.size;clear Vh hlen;go_wp2_with(at_builtin;refine BE HO.out HL.out VI rfl rfl Tryz.underlying22 rfl rfl ?_;intro v' w' ho hg Vu);have hbn:=HO.out.eH HB.out VI _ hg;have HBN:=Rb hbn;have ho':OI w' w.heap.size v' (ints ((bJ f N h).take (j+1))):=by rw[<-HT.out,lG];exact ho
   have HON:=Rb ho';clear ho hg Vu hbn ho';refine(HX.out (it f j h) _ VS HBN.out).mono ?_;rintro e w1 ⟨rfl,rfl⟩;go_wp2_with fail;go_roundg (eC f N h-j)
   case measure=>exact HF.out
   case rel=>exact⟨j+1,oZ,oZ,rfl,HON,HBN,by show _-_<_;omega⟩
  ·have Yh:j=eC f N h:=oZ
   have he:it f j h=h:=by rw[Yh];exact H2.out
   have WB:(((it f j h:Nat):Int)!=(h:Int))=false:=by rw[RK];omega
   have Za:Hid (OI wr w.heap.size u5 (ints (bJ f N h))):=by have:=HO.out;rw[Ux (by rw[eF];omega)]at this;exact this
   clear he Yh HO;go_wp2_with fail;go_ret;exact⟨_,rfl,Za.out,HB.out⟩
theorem ld:(Tryz.prog.info? 22).map (fun i=>(i.zero,i.size,i.bytes))=some (some (.slice none 0 0),1,24):=by kernel_rfl
theorem OR.apart{α β:Type}{e e':TypeId}{f:α->Value}{f':β->Value}{w:World}{B B':Nat}{v v':Value}{xs:List α}{ys:List β}(h:OR e f w B v xs)(h':OR e' f' w B' v' ys)(Vh:e≠e'){g:Nat}
  (hg:v.ownBlock=some g):v'.ownBlock≠some g:=by
 intro X6;rcases h.2 with⟨rfl,_⟩|⟨k,c,cur,rfl,_,hh,_⟩
 {simp[Value.ownBlock]at hg};rcases h'.2 with⟨rfl,_⟩|⟨k',c',cur',rfl,_,hh',_⟩
 {simp[Value.ownBlock]at X6};simp[Value.ownBlock]at hg X6;subst hg;subst X6;rw[hh]at hh';injection hh' with hh'
 injection hh' with _ ht
 exact Vh ht
def ET(eo:TypeId)(w:World)(N:Nat)(F:Nat->Prop)(v:Value)(vs:List Value)(xss:List (List Int)):Prop:=
 OR eo id w N v vs/\(∀g,v.ownBlock=some g->¬F g)/\vs.length=xss.length/\
  ∀k (h:k<vs.length),OI w N vs[k] (xss.getD k [])/\∀g,vs[k].ownBlock=some g->¬F g
def RR(eo:TypeId)(w:World)(N:Nat)(F:Nat->Prop)(v:Value)(xss:List (List Int)):Prop:=∃vs:List Value,ET eo w N F v vs xss
section
variable{eo:TypeId}{w w':World}{N:Nat}{F:Nat->Prop}{v:Value}{xss:List (List Int)}
theorem RR.nil(w:World)(N:Nat)(F:Nat->Prop):RR eo w N F (.slice none 0 0) []:=
 ⟨[],OR.nil _ _,by simp[Value.ownBlock],rfl,oX⟩
theorem RR.ak(h:RR eo w N F v xss)(hk:∀b,N<=b->b<w.heap.size->¬F b->w'.heap[b]?=w.heap[b]?):RR eo w' N F v xss:=by obtain⟨vs,h1,h2,h3,h4⟩:=h;refine⟨vs,h1.ak fun g hg=>?_,h2,h3,fun k VA=>⟨(h4 k VA).1.ak fun g hg=>?_,(h4 k VA).2⟩⟩;{have:=h1.lt g hg;exact hk g this.1 this.2 (h2 g hg)};{have:=(h4 k VA).1.lt g hg;exact hk g this.1 this.2 ((h4 k VA).2 g hg)}
theorem RR.imp{F':Nat->Prop}(h:RR eo w N F v xss)(hF:∀b,N<=b->b<w.heap.size->F' b->F b):RR eo w N F' v xss:=by obtain⟨vs,h1,h2,h3,h4⟩:=h;refine⟨vs,h1,fun g hg hF'=>?_,h3,fun k VA=>⟨(h4 k VA).1,fun g hg hF'=>?_⟩⟩;{have:=h1.lt g hg;exact h2 g hg (hF g this.1 this.2 hF')};{have:=(h4 k VA).1.lt g hg;exact(h4 k VA).2 g hg (hF g this.1 this.2 hF')}
theorem RR.mono{N':Nat}(h:RR eo w N F v xss)(hN:N'<=N):RR eo w N' F v xss:=by obtain⟨vs,h1,h2,h3,h4⟩:=h;exact⟨vs,h1.mono hN,h2,h3,fun k VA=>⟨(h4 k VA).1.mono hN,(h4 k VA).2⟩⟩
theorem RR.below{C:Nat}(h:RR eo w N F v xss)(hb:Below C w w')(hC:w.heap.size<=C):RR eo w' N F v xss:=
 h.ak fun b _ h2 _=>hb.block b oZ
theorem RR.shape(h:RR eo w N F v xss):∃A c,v= .slice A xss.length c/\xss.length<=c/\c<=maxLen/\(xss≠[]->∃g,A=some ⟨g,0,none⟩):=by obtain⟨vs,h1,h2,h3,h4⟩:=h;obtain⟨A,c,e,ha,hb,hc⟩:=h1.shape;rw[h3]at e ha;refine⟨A,c,e,ha,hb,fun Vh=>hc (by intro e0;subst e0;exact Vh (Sh h3.symm))⟩
theorem RR.at_(h:RR eo w N F v xss){k:Nat}(hk:k<xss.length):∃g c A c',v= .slice (some ⟨g,0,none⟩) xss.length c/\N<=g/\g<w.heap.size/\
  w.cell? ⟨g,k,none⟩=some (.slice A (xss.getD k []).length c')/\RI w (fun b=>N<=b/\b<w.heap.size) A (xss.getD k [])/\(xss.getD k []).length<=maxLen:=by
 obtain⟨vs,h1,h2,h3,h4⟩:=h;obtain⟨g,c,e,Vs,Vv,_,_,Vk,_⟩:=h1.block oZ;have h5:=(h4 k oZ).1;obtain⟨A,c',e',Xw,hl2,hr⟩:=h5.reads;refine⟨g,c,A,c',by rw[e,h3],Vs,Vv,?_,hr,h5.len⟩;rw[Vk k oZ,id,e']
theorem ET.push{u v':Value}{x:List Int}{vs:List Value}(heo:eo≠3)(h:ET eo w N F v vs xss)(hu:OI w N u x)(huF:∀g,u.ownBlock=some g->¬F g)(hF:∀b,F b->b<w.heap.size)
  (VB:OR eo id w' N v' (vs++[u]))(hg:(w.alloc (.cells #[u] eo)).grownBy w' v.ownBlock)(hv:v'.ownBlock=v.ownBlock\/v'.ownBlock=some (w.heap.size+1)):
  ET eo w' N F v' (vs++[u]) (xss++[x]):=by
 obtain⟨h1,h2,h3,h4⟩:=h;have ak:∀{y:Value} {z:List Int},OI w N y z->OI w' N y z:=fun{y z} hy=>hy.ak fun g hgy=>by have Vg:=(hy.lt g hgy).2;have Vh:=OR.apart hy h1 (fun e=>heo e.symm) hgy;rw[hg.block g qj (fun e=>Vh e.symm),Rx w _ g Vg]
 refine⟨VB,fun g WQ=>?_,by simp[h3],fun k hk=>?_⟩
 ·rcases hv with e|e
  {exact h2 g (by rw[<-e];exact WQ)}
  ·rw[e]at WQ
   injection WQ with WQ
   subst WQ;intro hf;have:=hF _ hf;omega
 ·rcases SN k vs.length with Vg|Yf
  ·have:=h4 k Vg
   rw[Uj Vg];refine⟨?_,this.2⟩;have e:(xss++[x]).getD k []=xss.getD k []:=by rw[Rw,Rw,TE oZ]
   rw[e];exact ak this.1
  ·have VH:k=vs.length:=by simp at hk;omega
   subst VH;have e:(xss++[x]).getD vs.length []=x:=by simp[h3]
   rw[e];have e2:(vs++[u])[vs.length]=u:=oX;rw[e2];exact⟨ak hu,huF⟩
end
theorem iE{w w':World}{A1 A2:Option Addr}{n1 c1 n2 c2:Nat}{L:Int}(hb:Below (w.heap.size+1) (w.alloc (.cells #[.slice A1 n1 c1,.slice A2 n2 c2,.int .i64 L] 24)) w'):
  w'.cell? ⟨w.heap.size,0,none⟩=some (.slice A1 n1 c1)/\w'.cell? ⟨w.heap.size,1,none⟩=some (.slice A2 n2 c2)/\w'.cell? ⟨w.heap.size,2,none⟩=some (.int .i64 L):=by
 have h0:=Ru w (.cells #[.slice A1 n1 c1,.slice A2 n2 c2,.int .i64 L] 24);refine⟨(hb.cell (p:=⟨w.heap.size,0,none⟩) oX).trans ?_,(hb.cell (p:=⟨w.heap.size,1,none⟩) oX).trans ?_,(hb.cell (p:=⟨w.heap.size,2,none⟩) oX).trans ?_⟩
 all_goals
  rw[Rt _ _ _ _ _ _ h0];rfl
theorem bX{w w':World}{o:Obj}(hb:Below (w.heap.size+1) (w.alloc o) w'):Below w.heap.size w w':=((Rh _ _).alloc (Rf _) _).trans (hb.mono oZ)
structure gF(w1 wr:World)(B g n:Nat)(p:List Int):Prop where
 own:OI wr B (.slice (some ⟨g,0,none⟩) n n) p
 below:Below B w1 wr
 size:g<wr.heap.size
theorem gF.store{w1 wr:World}{B g n k:Nat}{p:List Int}(h:gF w1 wr B g n p)(hl:p.length=n)(hB:B<=g)(y:Int):gF w1 (wr.setCell ⟨g,k,none⟩ (.int .i64 y)) B g n (p.set k y):=by subst hl;refine⟨?_,h.below.setCell hB _,by simpa using h.size⟩;have h2:=OR.stored (k:=k) h.own y;rw[Ry]at h2;exact h2
theorem gF.alloc{w1 wr:World}{B g n:Nat}{p:List Int}(h:gF w1 wr B g n p)(hB:B<=g)(o:Obj):gF w1 (wr.alloc o) B g n p:=
 ⟨h.own.alloc o,h.below.alloc (by have:=h.size;omega) o,by have:=h.size;simp;omega⟩
theorem GC{a b F n:Nat}(h:a+(b+1)<F/\a+(b+1)<=n+1):a+b+1<F/\a+b<=n:=oZ
theorem gF.grown{w1 wr w':World}{B g n:Nat}{p:List Int}{o:Obj}{row:Option Nat}(h:gF w1 wr B g n p)(hB:B<=g)(hg:(wr.alloc o).grownBy w' row)(VB:∀k,row=some k->g<k):gF w1 w' B g n p:=by
 have hs:=h.size;refine⟨h.own.ak fun k hk=>?_,(h.below.alloc oZ o).grown hg qj (fun k hk=>by have:=VB k hk;omega),by have:=hg.size;simp at this;omega⟩;have:k=g:=by simp[Value.ownBlock]at hk;omega
 subst this;rw[hg.block k qj (fun e=>by have:=VB k e.symm;omega),Rx wr o k hs]
theorem OQ.setCell{w:World}{B:Nat}{v:Value}{xs:List Int}(h:OQ w B v xs){g j:Nat}(hg:g<B)(y:Value):OQ (w.setCell ⟨g,j,none⟩ y) B v xs:=
 h.ak (fun k hk=>Rn w _ _ k (by have:=(h.lt k hk).1;simp;omega)) oX
theorem vY(A1 A2:Option Addr)(c1 c2 n:Nat)(mt:List Int)(L:Int)(w:World)(S:Nat->Prop)(hy:RI w S A2 mt)(hS:∀b,S b->b<w.heap.size)(hn:mt.length=4*n)(hI:cN mt)(VO:n<=100000):
  Calls Tryz.prog 32 #[.agg #[.slice A1 n c1,.slice A2 mt.length c2,.int .i64 L]] w fun e w'=>
   ∃v,e= .returned (.tuple #[v,.int .i64 (av mt n n)])/\OI w' w.heap.size v (nV mt n)/\Below w.heap.size w w':=by
 have XP:RI (w.alloc (.cells #[.slice A1 n c1,.slice A2 mt.length c2,.int .i64 L] 24)) (·<w.heap.size+1) A2 mt:=(hy.ak fun b hb=>Rx w _ b (hS b hb)).imp fun b hb=>by have:=hS b hb;omega
 have V0:OI ((w.alloc (.cells #[.slice A1 n c1,.slice A2 mt.length c2,.int .i64 L] 24)).alloc (.cells (List.replicate n (Value.int .i64 0)).toArray 3)) (w.heap.size+1) (.slice (some ⟨w.heap.size+1,0,none⟩) n n) (List.replicate n 0):=by have:=OI.new (w.alloc (.cells #[.slice A1 n c1,.slice A2 mt.length c2,.int .i64 L] 24)) (w.heap.size+1) n oX (by unfold maxLen;omega);simpa using this
 have WY:=dL 22 Tryz.underlying22 n oZ;have HY:=Rb XP;have HN:=Rb hn;have HI:=Rb hI;have H0:Hid (gF (w.alloc (.cells #[.slice A1 n c1,.slice A2 mt.length c2,.int .i64 L] 24)) ((w.alloc (.cells #[.slice A1 n c1,.slice A2 mt.length c2,.int .i64 L] 24)).alloc (.cells (Array.replicate n (Value.int .i64 0)) 3)) (w.heap.size+1) (w.heap.size+1) n (List.replicate n 0)):=
  ⟨by simpa using V0,(Rh _ _).alloc oX _,oX⟩
 clear hy hS XP V0 hn hI;go_enter Tryz.func32,Tryz.ntmps32
 go_wp2;clear WY;go_loopw[18] (fun i wr=>∃(k:Nat) (p:List Int),k<=n/\i= .int .i64 k/\Hid (gF (w.alloc (.cells #[.slice A1 n c1,.slice A2 mt.length c2,.int .i64 L] 24)) wr (w.heap.size+1) (w.heap.size+1) n p)/\Hid (p.length=n/\∀j,j<k->gi p j= -1)) (fun i _=>n-(intOf i).toNat)
 case atStart=>exact⟨0,_,Rv _,rfl,H0,oX,by intro j hj;omega⟩
 case round=>
  obtain⟨k,p,hk,rfl,HP,HV⟩:=hrel;by_cases Vg:k<n
  ·obtain⟨g,cc,hv,hBg,Xm,ZS,Wy,Vk,Xn⟩:=HP.out.own.ints (by rw[HV.out.1];omega)
   have hg:w.heap.size+1=g:=by injection hv with h1 h2 h3;injection h1 with h1;injection h1
   subst hg;have k1:=Vk k (by rw[HV.out.1];exact Vg);have k2:=Xn k;have X7:Hid (gF (w.alloc (.cells #[.slice A1 n c1,.slice A2 mt.length c2,.int .i64 L] 24)) (wr.setCell ⟨w.heap.size+1,k,none⟩ (.int .i64 (-1))) (w.heap.size+1) (w.heap.size+1) n (p.set k (-1))):=by
    refine⟨?_,HP.out.below.setCell oX _,by simpa using HP.out.size⟩;have h1:OI wr (w.heap.size+1) (.slice (some ⟨w.heap.size+1,0,none⟩) p.length n) p:=by rw[HV.out.1];exact HP.out.own
    have h2:=OR.stored (k:=k) h1 (-1);rw[Ry,HV.out.1]at h2;exact h2
   have HV':Hid ((p.set k (-1)).length=n/\∀j,j<k+1->gi (p.set k (-1)) j= -1):=by refine⟨by rw[Ry];exact HV.out.1,fun j hj=>?_⟩;rw[dB (by rw[HV.out.1];exact Vg)];split;{rfl};{exact HV.out.2 j oZ}
   clear Vk Xn hv ZS Wy;go_wp2;go_roundw
   case rel=>exact⟨k+1,_,oZ,by go_num,X7,HV'⟩
   case measure=>simp[intOf];omega
  ·have HO:Hid (xy mt n 0 p):=BQ HV.out.1 fun x hx=>HV.out.2 x oZ
   clear HV;go_wp2;clear hk Vg;obtain⟨w2,rfl⟩:∃x:World,x=wr:=⟨_,rfl⟩
   go_loopw[6,27] (fun t i wr=>∃(k:Nat) (p:List Int),k<=n/\i= .int .i64 k/\t= .int .i64 (av mt n k)/\Hid (gF (w.alloc (.cells #[.slice A1 n c1,.slice A2 mt.length c2,.int .i64 L] 24)) wr (w.heap.size+1) (w.heap.size+1) n p)/\Hid (xy mt n k p)) (fun _ i _=>n-(intOf i).toNat)
   case atStart=>exact⟨0,p,Rv _,rfl,rfl,HP,HO⟩
   case round=>
    clear HP HO;obtain⟨k,p,hk,rfl,rfl,HP,HO⟩:=hrel;by_cases Vg:k<n
    ·obtain⟨g,cc,hv,hBg,Xm,ZS,Wy,Vk,Xn⟩:=HP.out.own.ints (by rw[HO.out.len];omega)
     have hg:w.heap.size+1=g:=by injection hv with h1 h2 h3;injection h1 with h1;injection h1
     subst hg;have k1:=Vk k (by rw[HO.out.len];exact Vg);have k2:=Xn k;by_cases h0:0<=gi p k
     ·obtain⟨hO',hix⟩:=Dz HI.out HN.out Vg HO.out h0
      have HO':=Rb hO';have HX:=Rb hix;clear Vk Xn hv ZS Wy hO' hix;go_wp2;go_roundw
      case rel=>exact⟨k+1,p,oZ,by go_num,by rw[HX.out],HP,HO'⟩
      case measure=>simp[intOf];omega
     ·obtain⟨hlk,hpk,hix⟩:=yX HI.out HN.out Vg HO.out h0
      have HB:=Rb (Gx HI.out HN.out Vg HO.out h0);have HLK:=Rb hlk;have HX:=Rb hix;have X7:=Rb (HP.out.store (n:=n) (k:=k) HO.out.len (Rf _) (av mt n k:Int));have hng:=Ka (p.set k (av mt n k:Int));have Wr:(p.set k (av mt n k:Int)).length=n:=by rw[Ry];exact HO.out.len
      rw[Wr]at hng;have XQ:OQ ((wr.setCell ⟨w.heap.size+1,k,none⟩ (.int .i64 (av mt n k:Int))).alloc (.cells #[.int .i64 k] 3)) (w.heap.size+2) (.slice (some ⟨wr.heap.size,0,none⟩) 1 1) ([k].map Int.ofNat):=by have h1:=OR.made (e:=3) (f:=Value.int .i64) (xs:=[(k:Int)]) (wr.setCell ⟨w.heap.size+1,k,none⟩ (.int .i64 (av mt n k:Int))) (w.heap.size+2) #[.int .i64 k] qj (by simp[maxLen]) oX;have h2:=OQ.FB h1 oX;simpa using h2
      have HQ:=Rb XQ;have X8:=Rb hng;clear Vk Xn hv ZS Wy hlk hpk hix Wr XQ hng HP HO;go_wp2;clear k1 k2;obtain⟨w3,rfl⟩:∃x:World,x=wr:=⟨_,rfl⟩
      go_loopg[8] (n+2) (fun F v wr=>∃(p:List Int) (q:List Nat) (a:Nat),Hid (gF (w.alloc (.cells #[.slice A1 n c1,.slice A2 mt.length c2,.int .i64 L] 24)) wr (w.heap.size+1) (w.heap.size+1) n p)/\
       Hid (OQ wr (w.heap.size+2) v (q.map Int.ofNat))/\Hid (BI mt n k p q a 4)/\Hid (xR p+q.length<F/\xR p+q.length<=n+1))
      case atStart=>exact⟨_,[k],n,X7.out.alloc (Rf _) _,HQ,HB,by have:=X8.out;exact⟨by show _+1<_;omega,by show _+1<=_;omega⟩⟩
      case round=>
       clear X7 HQ HB X8;obtain⟨p,q,a,HP,HQ,HB,HF⟩:=hrel;rcases q with _|⟨x,q⟩
       ·have HO:=Rb (JA HI.out HN.out Vg HLK.out HB.out)
        obtain⟨gq,oq,cq,rfl,hlq,hcq⟩:=HQ.out.shape;have HX2:Hid (((av mt n (k+1):Nat):Int)=(av mt n k:Int)+1):=by rw[HX.out];show((_+1:Nat):Int)=_;omega
        simp only[Tw,List.length_nil]at hlq;have hib:(av mt n k:Int)<=100000:=by have:=ry (eL mt n) k;unfold av;omega
        clear hcq;go_wp2;go_roundw
        case rel=>exact⟨k+1,p,oZ,by go_num,by rw[HX2.out],HP,HO⟩
        case measure=>simp[intOf];omega
       ·obtain⟨gq,oq,cq,rfl,-,-⟩:=HQ.out.shape
        have e:(List.map Int.ofNat (x::q)).length=q.length+1:=oX;rw[e]at HQ⊢;have hpop:=OQ.pop (x:=(x:Int)) (xs:=q.map Int.ofNat) (by simpa using HQ.out);obtain⟨WG,hcx,-,hcq,hgq⟩:=hpop;rw[Sa]at WG hcq;obtain⟨XI,hlx,-⟩:=HB.out.qv x oX;have HLX:=Rb hlx;have Vr:=Rb (Mu HB.out);have Zt:=Rb (GC HF.out);obtain⟨T,hT⟩:∃T,xR p+q.length=T:=⟨_,rfl⟩
        rw[hT]at Zt;have HT:=Rb hT;clear e HQ HB HF hlx hT;by_cases hc:cq=1
        case' pos=>subst hc;obtain rfl:q=[]:=Sh oZ;have Xo:=Rb (show OQ wr (w.heap.size+2) (.slice (some ⟨gq,oq,none⟩) 0 0) (([]:List Nat).map Int.ofNat) by simpa using WG);clear WG hcq;simp only[List.length_nil,Sr];go_wp2
        case' neg=>rw[Rc hc]at WG;have Xo:=Rb WG;clear WG;go_wp2;clear hc hcq
        all_goals
         clear hcx hgq;obtain⟨w4,rfl⟩:∃x:World,x=wr:=⟨_,rfl⟩
         go_loopw[8,49] (fun v i wr=>∃(s:Nat) (p:List Int) (q:List Nat),s<=4/\i= .int .i64 s/\Hid (gF (w.alloc (.cells #[.slice A1 n c1,.slice A2 mt.length c2,.int .i64 L] 24)) wr (w.heap.size+1) (w.heap.size+1) n p)/\
          Hid (OQ wr (w.heap.size+2) v (q.map Int.ofNat))/\Hid (BI mt n k p q x s)/\Hid (xR p+q.length=T)) (fun _ i _=>4-(intOf i).toNat)
         case atStart=>exact⟨0,p,_,oZ,rfl,HP,Xo,Vr,HT⟩
         case round=>
          clear HP Xo Vr HT;obtain⟨s,p,q,hs,rfl,HP,HQ,HB,HT⟩:=hrel;by_cases hs4:s<4
          ·obtain⟨htn,htl,V4⟩:=FH HI.out HN.out HB.out XI HLX.out hs4
           obtain⟨Vs,Vv,-,-⟩:=HI.out.gn V4;obtain⟨-,m1,-⟩:=iE HP.out.below;obtain⟨bm,om,rfl,YM,Wy⟩:=(HY.out.below HP.out.below).at_ V4;have k3:=Wy (4*x+s) V4;rw[Vs]at k3;obtain⟨-,-,hgs2,-,Vk,Xn⟩:=HP.out.own.ints_at (by rw[HB.out.len];omega);have k4:=Vk (gn mt (4*x+s)/4) (by rw[HB.out.len];exact htn);have k5:=Xn (gn mt (4*x+s)/4);have i1:(0:Int)<=4*(x:Int)+(s:Int)/\4*(x:Int)+(s:Int)<mt.length:=oZ;have i2:(4*(x:Int)+(s:Int)).toNat=4*x+s:=oZ;have i4:gn mt (4*x+s)<=400000:=by have:=HN.out;omega
           clear Wy Vk Xn Vs;by_cases h0:0<=gi p (gn mt (4*x+s)/4)
           ·have HB':=Rb (JO HI.out HN.out HB.out XI HLX.out hs4 h0)
            go_wp2;go_roundw
            case rel=>exact⟨s+1,p,q,oZ,by go_num,HP,HQ,HB',HT⟩
            case measure=>simp[intOf];omega
           ·have Wm:gi p (gn mt (4*x+s)/4)<0:=oZ
            have HB':=Rb (LQ HI.out HN.out HB.out XI HLX.out hs4 h0);have X7:=Rb (HP.out.store (k:=gn mt (4*x+s)/4) HB.out.len (Rf _) (av mt n k:Int));have ZT:=Rb (HQ.out.setCell (j:=gn mt (4*x+s)/4) (show w.heap.size+1<w.heap.size+2 by omega) (.int .i64 (av mt n k:Int)));have hT2:xR (p.set (gn mt (4*x+s)/4) (av mt n k:Int))+(q++[gn mt (4*x+s)/4]).length=T:=by have h1:=G5 (p:=p) (y:=(av mt n k:Int)) (by rw[HB.out.len];exact htn) Wm oZ;have h2:=HT.out;rw[Rz,SY];omega
            have HT2:=Rb hT2;have Xf:(q.map Int.ofNat).length<1099511627776:=by have h1:=HT.out;have h2:=Zt.out.2;rw[Sa];omega
            have VI:w.heap.size+2<=(wr.setCell ⟨w.heap.size+1,gn mt (4*x+s)/4,none⟩ (.int .i64 (av mt n k:Int))).heap.size:=by simp;omega
            have VZ:=Rb VI;have HQL:=Rb Xf;clear hT2 Xf VI h0;go_wp2_with(at_builtin;refine O' ZT.out HQL.out VZ.out rfl rfl Tryz.underlying22 rfl oX rfl ?_;intro v' w' ho hg Vu);go_roundw
            case rel=>exact⟨s+1,_,_,oZ,by go_num,X7.out.grown (Rf _) hg (fun k hk=>by have:=(HQ.out.lt k hk).1;omega),by rw[SB];exact ho,HB',HT2⟩
            case measure=>simp[intOf];omega
          ·obtain rfl:s=4:=oZ
           clear HLX;go_wp2;go_roundg (T+1)
           case measure=>have:=Zt.out;omega
           case rel=>exact⟨p,q,x,HP,HQ,HB,by have h1:=HT.out;have h2:=Zt.out;exact⟨oZ,oZ⟩⟩
    ·obtain rfl:k=n:=oZ
     have hp:p=nV mt k:=Ie HI.out HN.out HO.out;have Za:Hid (OI wr w.heap.size (.slice (some ⟨w.heap.size+1,0,none⟩) k k) (nV mt k)):=by rw[<-hp];exact HP.out.own.mono oZ
     have Xx:=bX HP.out.below;clear hp;go_wp2;go_ret2;exact⟨_,rfl,Za.out,Xx⟩
def uV(mt:List Int)(n k:Nat)(e:List Int):Prop:=e.length=av mt n n/\∀p,p<av mt n n->gi e p= -(jg mt n p k:Int)
def tE(mt:List Int)(n k:Nat)(e:List Int):Prop:=e.length=av mt n n/\∀p,p<av mt n n->gi e p=(jt mt n p k:Int)-(jg mt n p n:Int)
theorem wV{mt:List Int}(hI:cN mt){n:Nat}(hn:mt.length=4*n){c:Nat}(hc:c<n):av mt n (aA mt n c)<av mt n n:=
 kl _ (c_ hI hn hc).2.2 (ji hI hn hc)
theorem Cs{mt:List Int}{n k:Nat}{e:List Int}(h:uV mt n k e)(hp:av mt n (aA mt n k)<av mt n n):uV mt n (k+1) (e.set (av mt n (aA mt n k)) (gi e (av mt n (aA mt n k))-1)):=by refine⟨by rw[Ry];exact h.1,fun p hpp=>?_⟩;rw[dB (by rw[h.1];exact hp)];unfold jg;rw[aT];by_cases ep:p=av mt n (aA mt n k);{subst ep;rw[Re rfl,Re oX,h.2 _ hpp];unfold jg;omega};{rw[Rc ep,Rc (by simp;exact fun e=>ep e.symm),h.2 _ hpp];rfl}
theorem yE{mt:List Int}{n:Nat}{e:List Int}(h:uV mt n n e):tE mt n 0 e:=
 ⟨h.1,fun p hp=>by rw[h.2 p hp];unfold jt;rw[FU];omega⟩
theorem BY{mt:List Int}{n k:Nat}{e:List Int}(h:tE mt n k e)(hl:aZ (au mt) mt.length k=false):tE mt n (k+1) e:=by refine⟨h.1,fun p hp=>?_⟩;unfold jt;rw[aT,Rc (by rw[hl];simp),h.2 p hp];rfl
theorem B8{mt:List Int}{n k:Nat}{e:List Int}(h:tE mt n k e)(hl:aZ (au mt) mt.length k=true)(hp:av mt n (aA mt n (k/4))<av mt n n):
  tE mt n (k+1) (e.set (av mt n (aA mt n (k/4))) (gi e (av mt n (aA mt n (k/4)))+1)):=by
 refine⟨by rw[Ry];exact h.1,fun p hpp=>?_⟩;rw[dB (by rw[h.1];exact hp)];unfold jt;rw[aT];by_cases ep:p=av mt n (aA mt n (k/4));{subst ep;rw[Re rfl,Re (by rw[hl];simp),h.2 _ hpp];unfold jt;omega};{rw[Rc ep,Rc (by rw[hl];simp;exact fun e=>ep e.symm),h.2 _ hpp];rfl}
theorem yL{mt:List Int}{n k:Nat}{e:List Int}(h:tE mt n k e)(hk:k<=400000)(hn:n<=100000){p:Nat}(hp:p<av mt n n): -100000<=gi e p/\gi e p<=400000:=by have h1:=h.2 p hp;have h2:jt mt n p k<=k:=jz _ _;have h3:jg mt n p n<=n:=jz _ _;omega
theorem wN{mt:List Int}{n k:Nat}{e:List Int}(h:uV mt n k e)(hk:k<=100000){p:Nat}(hp:p<av mt n n): -100000<=gi e p/\gi e p<=0:=by have h1:=h.2 p hp;have h3:jg mt n p k<=k:=jz _ _;omega
def ir:Nat->Bool:=fun _=>true
structure pJ(wr:World)(g N:Nat)(bs:List Bool):Prop where
 own:OB wr g (.slice (some ⟨g,0,none⟩) N N) bs
 len:bs.length=N
 size:g<wr.heap.size
theorem pJ.mark{wr:World}{g N:Nat}{bs:List Bool}(h:pJ wr g N bs)(j:Nat):pJ (wr.setCell ⟨g,j,none⟩ (.bool true)) g N (bs.set j true):=by
 refine⟨?_,by rw[Ry];exact h.len,by simpa using h.size⟩;have h1:OB wr g (.slice (some ⟨g,0,none⟩) bs.length N) bs:=by rw[h.len];exact h.own
 have h2:=OR.stored (k:=j) h1 true;rw[Ry,h.len]at h2;exact h2
theorem pJ.at_{wr:World}{g N:Nat}{bs:List Bool}(h:pJ wr g N bs){j:Nat}(hj:j<N):wr.cell? ⟨g,j,none⟩=some (.bool (gb bs j))/\wr.frozen? ⟨g,j,none⟩=false:=by obtain⟨-,-,-,-,hc,hf⟩:=h.own.dN (by rw[h.len];omega);exact⟨hc j (by rw[h.len];exact hj),hf j⟩
theorem pJ.ak{wr w':World}{g N:Nat}{bs:List Bool}(h:pJ wr g N bs)(hk:w'.heap[g]?=wr.heap[g]?)(hs:wr.heap.size<=w'.heap.size):pJ w' g N bs:=
 ⟨h.own.ak fun k VH=>by
               have:k=g:=by simp[Value.ownBlock]at VH;omega
               subst this;exact hk,h.len,by have:=h.size;omega⟩
theorem gF.at_{w1 wr:World}{B g n:Nat}{p:List Int}(h:gF w1 wr B g n p)(hl:p.length=n){j:Nat}(hj:j<n):wr.cell? ⟨g,j,none⟩=some (.int .i64 (gi p j))/\wr.frozen? ⟨g,j,none⟩=false:=by obtain⟨-,-,-,-,hc,hf⟩:=h.own.ints_at oZ;exact⟨hc j oZ,hf j⟩
theorem gF.other{w1 wr:World}{B g n:Nat}{p:List Int}(h:gF w1 wr B g n p){b j:Nat}(hb:B<=b)(Vh:b≠g)(v:Value):gF w1 (wr.setCell ⟨b,j,none⟩ v) B g n p:=
  ⟨h.own.ak fun k hk=>by
                             have:k=g:=by simp[Value.ownBlock]at hk;omega
                             subst this;exact Rn wr _ _ k qj,h.below.setCell hb _,by simpa using h.size⟩
theorem uC(A1 A2:Option Addr)(c1 c2 n:Nat)(mt:List Int)(L:Int)(w:World)(S:Nat->Prop)(hy:RI w S A2 mt)(hS:∀b,S b->b<w.heap.size)(hn:mt.length=4*n)(hI:cN mt)(VO:n<=100000):
  Calls Tryz.prog 26 #[.agg #[.slice A1 n c1,.slice A2 mt.length c2,.int .i64 L]] w fun e w'=>e= .returned (.bool (decide (I_ mt n)))/\Below w.heap.size w w':=by
 have hpn:av mt n n<=n:=ry _ _;have XP:RI (w.alloc (.cells #[.slice A1 n c1,.slice A2 mt.length c2,.int .i64 L] 24)) (·<w.heap.size+1) A2 mt:=(hy.ak fun b hb=>Rx w _ b (hS b hb)).imp fun b hb=>by have:=hS b hb;omega
 have Zu:=vY A1 A2 c1 c2 n mt L (w.alloc (.cells #[.slice A1 n c1,.slice A2 mt.length c2,.int .i64 L] 24)) (·<w.heap.size+1) XP (fun b hb=>by simpa using hb) hn hI VO;have HLAB:=Rb Zu;have HY:=Rb XP;have HN:=Rb hn;have HI:=Rb hI;obtain⟨q,hq⟩:∃q,av mt n n=q:=⟨_,rfl⟩
 have HQ:=Rb hq;have hqn:q<=100000:=oZ;have WY:=dL 22 Tryz.underlying22 q oZ;have hmb:=gm 94 Tryz.underlying94 mt.length oZ;have HMB:=Rb hmb;have VQ:mt.length<=400000:=oZ;clear hy hS XP hn hI Zu hq hpn hmb;go_enter Tryz.func26,Tryz.ntmps26
 go_wp2_with fail;refine HLAB.out.mono ?_;rintro e w2 ⟨v,rfl,ho,Vj⟩;rw[HQ.out];have hb2':Below (w.heap.size+1) (w.alloc (.cells #[.slice A1 n c1,.slice A2 mt.length c2,.int .i64 L] 24)) w2:=by simpa using Vj
 have Xp:=hb2'.size;simp at Xp;obtain⟨A3,c3,rfl,-,-,hr3⟩:=ho.reads;rw[cX];have HR3:Hid (RI w2 (·<w2.heap.size) A3 (nV mt n)):=hr3.imp fun b hb=>hb.2
 have HY2:Hid (RI w2 (·<w2.heap.size) A2 mt):=(HY.out.below hb2').imp fun b hb=>by omega
 have ZU:=Rb hb2';have H0:Hid (gF w2 (w2.alloc (.cells (Array.replicate q (Value.int .i64 0)) 3)) w2.heap.size w2.heap.size q (List.replicate q 0)):=
  ⟨by have:=OI.new w2 w2.heap.size q (Rf _) (by unfold maxLen;omega);simpa using this,(Rh _ _).alloc (Rf _) _,oX⟩
 have Xq:Hid (uV mt n 0 (List.replicate q 0)):=⟨by rw[Sd,HQ.out],fun p hp=>by rw[iw (by rw[<-HQ.out];exact hp)];rfl⟩;clear HLAB ho Vj hb2' hr3 HY;go_wp2_with fail;clear WY;go_loopw[22] (fun i wr=>∃(k:Nat) (e:List Int),k<=n/\i= .int .i64 k/\Hid (gF w2 wr w2.heap.size w2.heap.size q e)/\Hid (uV mt n k e)) (fun i _=>n-(intOf i).toNat)
 case atStart=>exact⟨0,_,Rv _,rfl,H0,Xq⟩
 case round=>
  clear H0 Xq;obtain⟨k,e,hk,rfl,HP,HE⟩:=hrel;by_cases Vg:k<n
  ·have Wr:=wV HI.out HN.out Vg
   rw[HQ.out]at Wr;obtain⟨b,off,rfl,Yi,hc⟩:=(HR3.out.below HP.out.below).at_ (k:=k) (by rw[cX];exact Vg);have k1:=hc k (by rw[cX];exact Vg);rw[nD Vg]at k1;obtain⟨k2,k3⟩:=HP.out.at_ (by rw[HE.out.1,HQ.out]) Wr;have YN:=wN HE.out oZ (show av mt n (aA mt n k)<av mt n n by rw[HQ.out];exact Wr);have HE':=Rb (Cs HE.out (by rw[HQ.out];exact Wr));have X7:=Rb (HP.out.store (k:=av mt n (aA mt n k)) (by rw[HE.out.1,HQ.out]) (Rf _) (gi e (av mt n (aA mt n k))-1));clear hc;go_wp2_with fail;go_roundw
   case rel=>exact⟨k+1,_,oZ,by go_num,X7,HE'⟩
   case measure=>simp[intOf];omega
  ·obtain rfl:n=k:=oZ
   have Zv:=Rb (yE HE.out);obtain⟨-,m1,-⟩:=iE (ZU.out.trans (HP.out.below.mono oZ));have hmb:=HMB.out;have hw0:w.heap.size<wr.heap.size:=by have:=HP.out.size;omega
   have m2:∀o:Obj,(wr.alloc o).cell? ⟨w.heap.size,1,none⟩=some (.slice A2 mt.length c2):=fun o=>(Sm wr o _ hw0).trans m1
   clear HE Vg;go_wp2_with fail;obtain⟨w3,rfl⟩:∃x:World,x=wr:=⟨_,rfl⟩
   have H3:Hid (pJ (w3.alloc (.cells (Array.replicate mt.length (Value.bool false)) 4)) w3.heap.size mt.length (List.replicate mt.length false)):=
    ⟨by have:=OB.new w3 w3.heap.size mt.length (Rf _) (by unfold maxLen;omega);simpa using this,oX,oX⟩
   have HS0:=Rb (rT (au mt) mt.length ir);clear hmb m1 m2 hw0
   go_loopw[40] (fun i wr=>∃(k:Nat) (e:List Int) (bs:List Bool),k<=mt.length/\i= .int .i64 k/\Hid (gF w2 wr w2.heap.size w2.heap.size q e)/\Hid (pJ wr w3.heap.size mt.length bs)/\
    Hid (tE mt n k e)/\Hid (pX (au mt) mt.length ir k bs)) (fun i _=>mt.length-(intOf i).toNat)
   case atStart=>exact⟨0,_,_,Rv _,rfl,HP.out.alloc (Rf _) _,H3,Zv,HS0⟩
   case round=>
    have Xm:=HP.out.size;clear H3 Zv HS0 HP;obtain⟨h,e,bs,hh,rfl,HP,HBR,HE,HS⟩:=hrel;have ZV:=Rb (aU HI.out HN.out);by_cases Vg:h<mt.length
    ·obtain⟨k1,-⟩:=HBR.out.at_ Vg
     have WV:=lD ZV.out (wt:=ir) (fun _ _=>rfl) Vg rfl HS.out;by_cases hl:aZ (au mt) mt.length h=true
     ·rw[hl]at WV
      have WV:gb bs h=false:=WV;have XJ:h/4<n:=by have:=HN.out;omega
      have Wr:=wV HI.out HN.out XJ;rw[HQ.out]at Wr;obtain⟨b,off,rfl,Yi,hc⟩:=(HR3.out.below HP.out.below).at_ (k:=h/4) (by rw[cX];exact XJ);have k4:=hc (h/4) (by rw[cX];exact XJ);rw[nD XJ]at k4;obtain⟨k2,k3⟩:=HP.out.at_ (by rw[HE.out.1,HQ.out]) Wr;have YN:=yL HE.out oZ VO (show av mt n (aA mt n (h/4))<av mt n n by rw[HQ.out];exact Wr);have HE':=Rb (B8 HE.out hl (by rw[HQ.out];exact Wr));have X7:=Rb (HP.out.store (k:=av mt n (aA mt n (h/4))) (by rw[HE.out.1,HQ.out]) (Rf _) (gi e (av mt n (aA mt n (h/4)))+1));have HB':=Rb (HBR.out.ak (w':=wr.setCell ⟨w2.heap.size,av mt n (aA mt n (h/4)),none⟩ (.int .i64 (gi e (av mt n (aA mt n (h/4)))+1))) (Rn wr _ _ _ qj) oX);have HJ:=Rb (tR HS.out);have HL:=Rb hl;clear hc HS HP HE HBR hl;go_wp2_with fail;clear k1 k2 k3 k4 WV YN Wr;obtain⟨w4,rfl⟩:∃x:World,x=wr:=⟨_,rfl⟩
      go_loopg[10] (eC (au mt) mt.length h+1) (fun F g wr=>∃(j:Nat) (bs:List Bool),j<=eC (au mt) mt.length h/\g= .int .i64 (it (au mt) j h)/\Hid (gF w2 wr w2.heap.size w2.heap.size q (e.set (av mt n (aA mt n (h/4))) (gi e (av mt n (aA mt n (h/4)))+1)))/\
       Hid (pJ wr w3.heap.size mt.length bs)/\Hid (pZ (au mt) mt.length ir h j bs)/\Hid (eC (au mt) mt.length h-j<F))
      case atStart=>exact⟨0,bs,Rv _,rfl,X7,HB',HJ,by show _<_;omega⟩
      case round=>
       clear X7 HB' HJ;obtain⟨j,bs,hj,rfl,HP,HBR,HJ,HF⟩:=hrel;obtain⟨g,hg⟩:∃g,it (au mt) j h=g:=⟨_,rfl⟩
       have VS:g<mt.length:=by rw[<-hg];exact ZV.out.bL j Vg
       have HG:=Rb hg;obtain⟨k1,k2⟩:=HBR.out.at_ VS;by_cases Yh:j<eC (au mt) mt.length h
       ·have hop:=Bp ZV.out (wt:=ir) (fun _ _=>rfl) Vg rfl HL.out HJ.out Yh
        rw[hg]at hop;obtain⟨Vs,Vv,-,-⟩:=HI.out.gn VS;have Vz:=HP.out.below;obtain⟨-,m1,-⟩:=iE (ZU.out.trans (Vz.mono oZ));have Vh:w.heap.size≠w3.heap.size:=oZ;have HP2:=Rb (HP.out.other (b:=w3.heap.size) (j:=g) oZ oZ (.bool true));have VD:=Rb (HBR.out.mark g);have HJ2:=Rb (tW ZV.out Vg HJ.out);obtain⟨b,off,rfl,Yi,hc⟩:=(HY2.out.below Vz).at_ VS;have k3:=hc g VS;rw[Vs]at k3;have hne2:b≠w3.heap.size:=oZ;have X5:Hid ((ae (gn mt g) 3:Nat)=it (au mt) (j+1) h):=by show _=au mt (it (au mt) j h);rw[hg];rfl
        have HG1:Hid (gn mt g<=1099511627776):=by show _<=_;omega
        rw[hg]at HJ2⊢;clear hc Vs Vv HP HBR HJ hg;go_wp2_with fail;refine(nH (gn mt g) 3 _ rfl HG1.out oQ).mono ?_;rintro e' w' ⟨rfl,rfl⟩;rw[X5.out];go_wp2_with fail;go_roundg (eC (au mt) mt.length h-j)
        case measure=>exact HF.out
        case rel=>exact⟨j+1,_,oZ,rfl,HP2,VD,HJ2,by show _<_;omega⟩
       ·have Yh:j=eC (au mt) mt.length h:=oZ
        have hsh:=Cq ZV.out Vg HJ.out Yh;rw[hg]at hsh;have HS':=Rb (wh ZV.out Vg (by rfl) HL.out HJ.out Yh);rw[hg];clear Yh hg HF;go_wp2_with fail;go_roundw
        case rel=>exact⟨h+1,_,bs,oZ,by go_num,HP,HBR,HE',HS'⟩
        case measure=>simp[intOf];omega
     ·have hl:aZ (au mt) mt.length h=false:=by simpa using hl
      rw[hl]at WV;have HE':=Rb (BY HE.out hl);have HS':=Rb (tQ HS.out (by rw[hl];simp));have WV:gb bs h=true:=WV;clear hl;go_wp2_with fail;go_roundw
      case rel=>exact⟨h+1,e,bs,oZ,by go_num,HP,HBR,HE',HS'⟩
      case measure=>simp[intOf];omega
    ·obtain rfl:mt.length=h:=oZ
     clear HS;go_wp2_with fail;obtain⟨w5,rfl⟩:∃x:World,x=wr:=⟨_,rfl⟩
     go_loop [75] (fun i=>∃k:Nat,k<=q/\i= .int .i64 k/\Hid (∀p,p<k->gi e p=2)) (fun i=>q-(intOf i).toNat)
     case atStart=>exact⟨0,Rv _,rfl,by intro p hp;omega⟩
     case round=>
      obtain⟨k,hk,rfl,HA⟩:=hrel;by_cases hkq:k<q
      ·obtain⟨k2,-⟩:=HP.out.at_ (by rw[HE.out.1,HQ.out]) hkq
       by_cases h2:gi e k=2
       ·have h3:(gi e k !=2)=false:=by rw[RK];exact h2
        have ZW:Hid (∀p,p<k+1->gi e p=2):=by
         intro p hp;rcases Sl (SO hp)with h4|rfl
         {exact HA.out p h4};{exact h2}
        clear h2;go_wp2_with fail
        go_round
        case rel=>exact⟨k+1,oZ,by go_num,ZW⟩
        case measure=>simp[intOf];omega
       ·have h3:(gi e k !=2)=true:=by rw[RZ];exact h2
        have hd:decide (I_ mt n)=false:=Rl fun hs=>by have h4:=hs k (by rw[HQ.out];exact hkq);have h5:=HE.out.2 k (by rw[HQ.out];exact hkq);omega
        have H:=Rb hd;have WZ:=Rb (bX (ZU.out.trans (HP.out.below.mono oZ)));clear h2 hd;go_wp2_with fail;go_ret;exact⟨aF H.out.symm,WZ.out⟩
      ·have hd:decide (I_ mt n)=true:=Rj fun p hp=>by
        have h4:=HA.out p (by rw[HQ.out]at hp;omega);have h5:=HE.out.2 p hp;omega
       have H:=Rb hd;have WZ:=Rb (bX (ZU.out.trans (HP.out.below.mono oZ)));clear hd;go_wp2_with fail;go_ret;exact⟨aF H.out.symm,WZ.out⟩
def BW(K:Nat)(cw:Array Value)(N:Nat)(wt:Nat->Bool)(w:World):Prop:=∀(g:Nat) (W:World),g<N->Below w.heap.size w W->
 Calls Tryz.prog K (#[.int .i64 g]++cw) W fun e w'=>e= .returned (.bool (wt g))/\Below W.heap.size W w'
def rows(ls:List (List Nat)):List (List Int):=ls.map ints
structure rZ(w wr:World)(f:Nat->Nat)(N:Nat)(wt:Nat->Bool)(k:Nat)(bs:List Bool)(v:Value):Prop where
 br:pJ wr w.heap.size N bs
 seen:pX f N wt k bs
 row:RR 22 wr w.heap.size (·=w.heap.size) v (rows (bR f N wt k))
 below:Below w.heap.size w wr
theorem rZ.v_{w wr w':World}{f:Nat->Nat}{N:Nat}{wt:Nat->Bool}{k:Nat}{bs:List Bool}{v:Value}(h:rZ w wr f N wt k bs v)(hb:Below wr.heap.size wr w'):rZ w w' f N wt k bs v:=
 ⟨h.br.ak (hb.block _ h.br.size) hb.size,h.seen,h.row.below hb (Rf _),h.below.trans (hb.mono h.below.size)⟩
theorem rZ.skip{w wr:World}{f:Nat->Nat}{N:Nat}{wt:Nat->Bool}{k:Nat}{bs:List Bool}{v:Value}(h:rZ w wr f N wt k bs v)(VT:¬(wt k=true/\aZ f N k=true)):rZ w wr f N wt (k+1) bs v:=by refine⟨h.br,tQ h.seen VT,?_,h.below⟩;rw[dS,Rc (by rw[RA];exact VT),S6];exact h.row
structure Bk(w wr:World)(f:Nat->Nat)(N:Nat)(wt:Nat->Bool)(k j:Nat)(bs:List Bool)(v u:Value)(B:Nat):Prop where
 br:pJ wr w.heap.size N bs
 seen:pZ f N wt k j bs
 row:RR 22 wr w.heap.size (·=w.heap.size) v (rows (bR f N wt k))
 list:OI wr B u (ints (bJ f N k))
 below:Below w.heap.size w wr
theorem Bk.mark{w wr:World}{f:Nat->Nat}{N:Nat}{wt:Nat->Bool}{k j:Nat}{bs:List Bool}{v u:Value}{B:Nat}(hP:aO f N)(hk:k<N)(hB:w.heap.size<B)(h:Bk w wr f N wt k j bs v u B):
  Bk w (wr.setCell ⟨w.heap.size,it f j k,none⟩ (.bool true)) f N wt k (j+1) (bs.set (it f j k) true) v u B:=
 ⟨h.br.mark _,tW hP hk h.seen,h.row.ak fun b _ _ hF=>Rn wr _ _ b hF,h.list.ak fun g hg=>Rn wr _ _ g (by have:=(h.list.lt g hg).1;simp;omega),h.below.setCell (Rf _) _⟩
theorem aE(ls:List (List Nat)):(rows ls).length=ls.length:=by simp[rows]
theorem tU{w:World}{N:Nat}{F:Nat->Prop}{v:Value}{vs:List Value}{xss:List (List Int)}(h:ET 22 w N F v vs xss):vs.length=xss.length:=h.2.2.1
theorem dO(f:Nat->Nat)(N:Nat)(wt:Nat->Bool)(k:Nat):(rows (bR f N wt k)).length<=k:=by unfold rows bR;rw[Sa,Sa];have:=Tg (fun h=>wt h&&aZ f N h) (List.range k);simpa using this
theorem Bk.push{w wr w':World}{f:Nat->Nat}{N:Nat}{wt:Nat->Bool}{k j:Nat}{bs:List Bool}{v v' u:Value}{B:Nat}{vs:List Value}(h:Bk w wr f N wt k j bs v u B)(hB:w.heap.size<B)(hP:aO f N)(hk:k<N)(Wf:wt k=true)(hl:aZ f N k=true)(hj:j=eC f N k)
  (HV:ET 22 wr w.heap.size (·=w.heap.size) v vs (rows (bR f N wt k)))(ho:OR 22 id w' w.heap.size v' (vs++[u]))(hg:(wr.alloc (.cells #[u] 22)).grownBy w' v.ownBlock)(Vu:v'.ownBlock=v.ownBlock\/v'.ownBlock=some (wr.heap.size+1)):
  rZ w w' f N wt (k+1) bs v':=by
 have hR:=ET.push oQ HV (h.list.mono oZ) (fun g hgu hF=>by have:=(h.list.lt g hgu).1;omega) (fun b hF=>by have:=h.br.size;omega) ho hg Vu;refine⟨h.br.ak ?_ (by have:=hg.size;simp at this;omega),wh hP hk Wf hl h.seen hj,⟨vs++[u],?_⟩,?_⟩;{rw[hg.block _ (by have:=h.br.size;simp;omega) (fun e=>HV.2.1 _ e.symm rfl),Rx wr _ _ h.br.size]};{rw[dS,Re (by rw[Wf,hl];rfl)];unfold rows at hR⊢;rw[SB];exact hR};{exact((h.below.alloc h.below.size _).grown hg (by have:=h.below.size;simp;omega) fun g WQ=>(HV.1.lt g WQ).1)}
theorem tP(K KW bd N:Nat)(cw:Array Value)(f:Nat->Nat)(wt:Nat->Bool)(w:World)(hP:aO f N)(hw:∀h,h<N->wt (f h)=wt h)(hN:N<=400000)(hK:fM K)(hKW:fM KW)(X5:mW K bd N f w)(hwx:BW KW cw N wt w):
  Calls Tryz.prog 29 #[.int .i64 N,.func (.func KW) #[] cw,.func (.func K) #[] #[.pointer (some ⟨bd,0,none⟩)]] w fun e w'=>
   ∃v,e= .returned v/\RR 22 w' w.heap.size (fun _=>False) v (rows (bR f N wt N))/\Below w.heap.size w w':=by
 have HX:=Rb X5;have HW:=Rb hwx;have HP:=Rb hP;have HWT:=Rb hw;have HK:=Rb hK;have WY:=gm 94 Tryz.underlying94 N oZ;have H0:Hid (rZ w (w.alloc (.cells (Array.replicate N (Value.bool false)) 4)) f N wt 0 (List.replicate N false) (.slice none 0 0)):=
  ⟨⟨by have:=OB.new w w.heap.size N (Rf _) (by unfold maxLen;omega);simpa using this,oX,oX⟩,rT _ _ _,RR.nil _ _ _,(Rh _ _).alloc (Rf _) _⟩
 have Vn:∀(args:Array Value) (w:World),(callFunc KW args).run Tryz.prog w= .ok (.enter KW args) w:=hKW
 clear X5 hwx hP hw hK hKW;go_enter Tryz.func29,Tryz.ntmps29
 go_wp2_with fail;clear WY;go_loopw[7,16] (fun v i wr=>∃(k:Nat) (bs:List Bool),k<=N/\i= .int .i64 k/\Hid (rZ w wr f N wt k bs v)) (fun _ i _=>N-(intOf i).toNat)
 case atStart=>exact⟨0,_,Rv _,rfl,H0⟩
 case round=>
  clear H0;obtain⟨k,bs,hk,rfl,HC⟩:=hrel;by_cases Vg:k<N
  ·obtain⟨k1,-⟩:=HC.out.br.at_ Vg
   by_cases hb:gb bs k=true
   ·have HC':Hid (rZ w wr f N wt (k+1) bs u7):=HC.out.skip fun⟨h1,h2⟩=>by
     have:=lD HP.out HWT.out Vg h1 HC.out.seen;rw[hb,h2]at this
     cases this
    go_wp2_with fail;go_roundw
    case rel=>exact⟨k+1,bs,oZ,by go_num,HC'⟩
    case measure=>simp[intOf];omega
   ·have hb:gb bs k=false:=by simpa using hb
    have WV:wt k=true->aZ f N k=true:=fun h1=>by have:=lD HP.out HWT.out Vg h1 HC.out.seen;rw[hb]at this;simpa using this.symm
    have HLST:=Rb WV;clear WV;go_wp2_with fail;refine(HW.out k _ Vg HC.out.below).mono ?_;rintro e w1 ⟨rfl,Vi⟩;have Wu:=Rb (HC.out.v_ Vi);clear Vi HC k1;by_cases Wf:wt k=true
    ·rw[Wf]
     have HL:=Rb (HLST.out Wf);have HWK:=Rb Wf;clear Wf HLST;go_wp2_with fail;refine(EI K bd N k f _ HP.out Vg hN HK.out (HX.out.v_ Wu.out.below)).mono ?_;rintro e w2 ⟨u,rfl,hu,Vj⟩;have Wr:(bJ f N k).length<=N:=fk HP.out Vg;have hpe:eC f N k=(bJ f N k).length:=(eF f N k).symm;obtain⟨q,hq⟩:∃q,(bJ f N k).length=q:=⟨_,rfl⟩
     rw[hq]at Wr hpe;have HPE:=Rb hpe;have HQ:=Rb hq;have hB1:w.heap.size<w1.heap.size:=Wu.out.br.size;have HM:Hid (Bk w w2 f N wt k 0 bs u7 u w1.heap.size):=⟨(Wu.out.v_ Vj).br,tR Wu.out.seen,(Wu.out.v_ Vj).row,hu,(Wu.out.v_ Vj).below⟩;obtain⟨A,cu,rfl,-,-,-⟩:=hu.reads;rw[aH,hq]at HM⊢;clear Wu hu Vj hpe hq;go_wp2_with fail;go_loopw[34] (fun i wr=>∃(j:Nat) (bs:List Bool),j<=q/\i= .int .i64 j/\Hid (Bk w wr f N wt k j bs u7 (.slice A q cu) w1.heap.size)) (fun i _=>q-(intOf i).toNat)
     case atStart=>exact⟨0,bs,Rv _,rfl,HM⟩
     case round=>
      clear HM;obtain⟨j,bs,hj,rfl,HM⟩:=hrel;by_cases hjq:j<q
      ·have WH:j<(ints (bJ f N k)).length:=by rw[aH,HQ.out];exact hjq
       obtain⟨g,c,hv,-,-,-,-,Vk,-⟩:=HM.out.list.ints oZ;injection hv with e1 e2 e3
       subst e1 e3;have k2:=Vk j WH;have e:gi (ints (bJ f N k)) j=(it f j k:Nat):=by rw[jj (by rw[HQ.out];exact hjq),CZ (by rw[HQ.out];exact hjq)];simp[bJ]
       rw[e]at k2;have VS:it f j k<N:=HP.out.bL j Vg;obtain⟨k3,k4⟩:=HM.out.br.at_ VS;have HM':=Rb (HM.out.mark HP.out Vg hB1);clear Vk e HM e2 WH;go_wp2_with fail;go_roundw
       case rel=>exact⟨j+1,_,oZ,by go_num,HM'⟩
       case measure=>simp[intOf];omega
      ·obtain rfl:q=j:=oZ
       obtain⟨vs,hvs⟩:=HM.out.row;have HV:=Rb hvs;have Xr:vs.length<1099511627776:=by have h1:=tU hvs;have h2:=dO f N wt k;omega
       have YO:=Rb Xr;have VI:=HM.out.below.size;clear hvs Xr hjq;go_wp2_with(at_builtin;refine nY (f:=id) (y:=Value.slice A q cu) ld rfl oQ rfl HV.out.1 YO.out VI rfl rfl Tryz.underlying39 rfl rfl ?_;intro v' w' ho hg Vu);go_roundw
       case rel=>exact⟨k+1,bs,oZ,by go_num,HM.out.push hB1 HP.out Vg HWK.out HL.out HPE.out.symm HV.out ho hg Vu⟩
       case measure=>simp[intOf];omega
    ·have Wf:wt k=false:=by simpa using Wf
     rw[Wf];have HC':Hid (rZ w w1 f N wt (k+1) bs u7):=Wu.out.skip fun⟨h1,h2⟩=>by rw[Wf]at h1;cases h1
     clear Wf HLST;go_wp2_with fail;go_roundw
     case rel=>exact⟨k+1,bs,oZ,by go_num,HC'⟩
     case measure=>simp[intOf];omega
  ·obtain rfl:N=k:=oZ
   have HR:Hid (RR 22 wr w.heap.size (fun _=>False) u7 (rows (bR f N wt N))):=HC.out.row.imp fun _ _ _ h=>h.elim
   have WZ:=HC.out.below;clear HC Vg;go_wp2_with fail;go_ret;exact⟨_,rfl,HR.out,WZ⟩
def Pe(mt:List Int)(n r k:Nat):List Nat:=(List.range k).filter fun b=>decide (aA mt n b=r)
def Hc(mt:List Int)(n k:Nat):List (List Nat):=((List.range k).filter fun r=>decide (aA mt n r=r)).map fun r=>Pe mt n r n
def dq(mt:List Int)(n:Nat):List (List Nat):=Hc mt n n
def gU(mt:List Int)(n p k:Nat):List Nat:=(List.range k).filter fun b=>decide (av mt n (aA mt n b)=p)
theorem tj(mt:List Int)(n p k:Nat):gU mt n p (k+1)=gU mt n p k++if av mt n (aA mt n k)=p then[k]else[]:=by unfold gU;rw[Sk,Th];congr 1;by_cases h:av mt n (aA mt n k)=p<;>simp[h]
theorem E_(mt:List Int)(n k:Nat):((List.range k).filter fun r=>decide (aA mt n r=r)).map (av mt n)=List.range (av mt n k):=by
 induction k with
 |zero=>rfl
 |succ k ih=>rw[Sk,Th,SB,ih];unfold av;rw[iC];by_cases h:aA mt n k=k;{rw[Re (show gN (eL mt n) k=k from h),Sk];simp[h]};{rw[Rc (show¬gN (eL mt n) k=k from h)];simp[h]}
theorem i_{mt:List Int}(hI:cN mt){n:Nat}(hn:mt.length=4*n):(List.range (av mt n n)).map (fun p=>gU mt n p n)=dq mt n:=by rw[<-E_,List.map_map];unfold dq Hc;apply List.map_congr_left;intro r hr;rw[R3,Rm]at hr;obtain⟨hrn,hl⟩:=hr;have hl:=RU hl;simp only[Function.comp];unfold gU Pe;apply List.filter_congr;intro b hb;rw[Rm]at hb;rw[R_,RE,RE];exact⟨fun h=>zH _ (ji hI hn hb) hl h,fun h=>by rw[h]⟩
structure qM(w:World)(N gg:Nat)(vs:List Value)(xss:List (List Int)):Prop where
 out:OR 22 id w N (.slice (some ⟨gg,0,none⟩) vs.length vs.length) vs
 len:vs.length=xss.length
 row:∀k (h:k<vs.length),OI w N vs[k] (xss.getD k [])
 L8:∀k (h:k<vs.length) g,vs[k].ownBlock=some g->g≠gg
 apart:∀j k (hj:j<vs.length) (hk:k<vs.length),j≠k->∀g,vs[j].ownBlock=some g->vs[k].ownBlock≠some g
theorem fQ{w w':World}{o:Obj}{row:Option Nat}(hg:(w.alloc o).grownBy w' row){b:Nat}(hb:b<w.heap.size)(Vh:some b≠row):w'.heap[b]?=w.heap[b]?:=
 (hg.block b qj Vh).trans (Rx w o b hb)
theorem qM.push{w w':World}{N gg p:Nat}{vs:List Value}{xss:List (List Int)}{v':Value}{y:Int}{o:Obj}(h:qM w N gg vs xss)(hp:p<vs.length)(hgg:gg<w.heap.size)
  (ho:OI w' N v' (xss.getD p []++[y]))(hg:(w.alloc o).grownBy w' vs[p].ownBlock)(Vu:v'.ownBlock=vs[p].ownBlock\/v'.ownBlock=some (w.heap.size+1)):
  qM (w'.setCell ⟨gg,p,none⟩ v') N gg (vs.set p v') (xss.set p (xss.getD p []++[y])):=by
 have hpx:p<xss.length:=by rw[<-h.len];exact hp
 have hv'g:∀g,v'.ownBlock=some g->g≠gg:=fun g WQ=>by
  rcases Vu with e|e
  {exact h.L8 p hp g (by rw[<-e];exact WQ)};{rw[e]at WQ;injection WQ with WQ;omega}
 refine⟨?_,by simp[h.len],fun k hk=>?_,fun k hk g WQ=>?_,fun j k hj hk hjk g Yj=>?_⟩
 ·have h1:OR 22 id w' N (.slice (some ⟨gg,0,none⟩) vs.length vs.length) vs:=h.out.ak fun g X6=>by
   have:g=gg:=by simp[Value.ownBlock]at X6;omega
   subst this;exact fQ hg hgg (fun e=>h.L8 p hp g e.symm rfl)
  have h2:=OR.stored (k:=p) h1 v';rw[Ry]at h2⊢;exact h2
 ·rw[Ry]at hk
  by_cases e:k=p
  ·subst e
   rw[TC];have e2:(xss.set k (xss.getD k []++[y])).getD k []=xss.getD k []++[y]:=by simp[hpx]
   rw[e2];exact ho.ak fun g WQ=>Rn w' _ _ g (by have:=hv'g g WQ;simp;omega)
  ·rw[Tv (fun e'=>e e'.symm)]
   have e2:(xss.set p (xss.getD p []++[y])).getD k []=xss.getD k []:=by simp only[Rw];rw[Ua (fun e'=>e e'.symm)]
   rw[e2];refine(h.row k hk).ak fun g WQ=>?_
   rw[Rn w' _ _ g (by have:=h.L8 k hk g WQ;simp;omega)];exact fQ hg ((h.row k hk).lt g WQ).2 (fun e'=>h.apart k p hk hp e g WQ e'.symm)
 {rw[Ry]at hk;by_cases e:k=p;{subst e;rw[TC]at WQ;exact hv'g g WQ};{rw[Tv (fun e'=>e e'.symm)]at WQ;exact h.L8 k hk g WQ}}
 ·have YP:j<vs.length:=by simpa using hj
  have VH:k<vs.length:=by simpa using hk
  have Vg:∀i (hi:i<vs.length) g,vs[i].ownBlock=some g->g<w.heap.size:=fun i hi g WQ=>((h.row i hi).lt g WQ).2
  by_cases ej:j=p
  ·subst ej
   rw[TC]at Yj;rw[Tv hjk];intro Wv;rcases Vu with e|e
   {exact h.apart j k YP VH hjk g (by rw[<-e];exact Yj) Wv}
   ·rw[e]at Yj
    injection Yj with Yj
    have:=Vg k VH g Wv;omega
  ·rw[Tv (fun e'=>ej e'.symm)]at Yj
   by_cases ek:k=p
   ·subst ek
    rw[TC];intro Wv;rcases Vu with e|e
    {exact h.apart j k YP VH hjk g Yj (by rw[<-e];exact Wv)}
    ·rw[e]at Wv
     injection Wv with Wv
     have:=Vg j YP g Yj;omega
   {rw[Tv (fun e'=>ek e'.symm)];exact h.apart j k YP VH hjk g Yj}
theorem qM.rr{w:World}{N gg:Nat}{vs:List Value}{xss:List (List Int)}(h:qM w N gg vs xss):RR 22 w N (fun _=>False) (.slice (some ⟨gg,0,none⟩) vs.length vs.length) xss:=
 ⟨vs,h.out,fun _ _ h=>h,h.len,fun k hk=>⟨h.row k hk,fun _ _ h=>h⟩⟩
theorem qM.at_{w:World}{N gg:Nat}{vs:List Value}{xss:List (List Int)}(h:qM w N gg vs xss){p:Nat}(hp:p<vs.length):w.cell? ⟨gg,p,none⟩=some vs[p]/\w.frozen? ⟨gg,p,none⟩=false/\gg<w.heap.size:=by
 obtain⟨g,c,hv,h1,h2,h3,h4,h5,h6⟩:=h.out.block oZ;injection hv with e1 e2 e3
 injection e1 with e1
 injection e1 with e1
 subst e1;exact⟨h5 p hp,h6 p,h2⟩
theorem qM.start(w:World)(q:Nat)(hq:q<=maxLen):qM (w.alloc (.cells (Array.replicate q (Value.slice none 0 0)) 22)) w.heap.size w.heap.size (List.replicate q (.slice none 0 0)) (List.replicate q []):=by
 have hg:∀k (hk:k<(List.replicate q (Value.slice none 0 0)).length),(List.replicate q (Value.slice none 0 0))[k]= .slice none 0 0:=fun k hk=>by simp
 refine⟨?_,oX,fun k hk=>?_,fun k hk g WQ=>?_,fun j k hj hk hjk g Yj=>?_⟩;{have:=OR.made (e:=22) (f:=id) (xs:=List.replicate q (Value.slice none 0 0)) w w.heap.size (Array.replicate q (Value.slice none 0 0)) (Rf _) (by simpa using hq) oX;simpa using this}
 ·rw[hg k hk]
  have e:(List.replicate q ([]:List Int)).getD k []=[]:=by rw[Rw];by_cases h:k<q<;>simp[h]
  rw[e];exact OR.nil _ _
 {rw[hg k hk]at WQ;simp[Value.ownBlock]at WQ};{rw[hg j hj]at Yj;simp[Value.ownBlock]at Yj}
theorem Ef(t:TypeId)(ht:Tryz.prog.underlying t=some (.slice 22))(n:Nat)(hn:n<=1099511627776)(w:World):
  (Instr.makeSlice t (.int .i64 (n:Int)) (.int .i64 (n:Int))).run Tryz.prog w= .ok (.slice (some ⟨w.heap.size,0,none⟩) n n) (w.alloc (.cells (List.replicate n (Value.slice none 0 0)).toArray 22)):=by
 obtain⟨i0,hi,V6,VU,VN⟩:=S7 ld;have h:=run_make (P:=Tryz.prog) w t 22 i0 (.slice none 0 0) ht hi V6 .i64 .i64 n n oZ (TK _) (by rw[VN];omega) oZ;simp only[Si]at h;rw[h,VU];have e:madeCells (Value.slice none 0 0).cells (n*1)=(List.replicate n (Value.slice none 0 0)).toArray:=by apply TT.1;rw[Ta,show(Value.slice none 0 0).cells=#[Value.slice none 0 0]from rfl,Tn]
 rw[e]
def Inv2(sg mt:List Int)(k:Nat):Prop:=∀h,h<k->(0<=gi mt h/\gi mt h<mt.length/\gi mt h≠h/\gi mt (gn mt h)=h)/\ai sg h≠ai sg (gn mt h)
theorem Eu{sg mt:List Int}{k:Nat}(h0:Inv2 sg mt k)(h1:0<=gi mt k)(h2:gi mt k<mt.length)(h3:gi mt k≠k)(h4:gi mt (gn mt k)=k)(h5:ai sg k≠ai sg (gn mt k)):Inv2 sg mt (k+1):=by
 intro i hi;rcases Sl (SO hi)with h|rfl
 {exact h0 i h};{exact⟨⟨h1,h2,h3,h4⟩,h5⟩}
theorem GX{sg mt:List Int}(h:Inv2 sg mt mt.length):cN mt/\xh sg mt:=⟨fun i hi=>(h i hi).1,fun i hi=>(h i hi).2⟩
theorem oG{sg mt:List Int}{L:Int}{k:Nat}(hk:k<mt.length)(h:gi mt k<0\/(mt.length:Int)<=gi mt k\/gi mt k=k\/gi mt (gn mt k)≠k\/ai sg k=ai sg (gn mt k)):decide (cJ sg mt L)=false:=by
 refine Rl ?_;rintro⟨_,_,_,_,_,hI,hO,_⟩;obtain⟨h1,h2,h3,h4⟩:=hI k hk;have h5:=hO k hk;rcases h with h|h|h|h|h
 {omega};{omega};{exact h3 h};{exact h h4};{exact h5 h}
theorem K6{w w':World}{A1 A2:Option Addr}{n1 c1 n2 c2:Nat}{L:Int}(hb:Below (w.heap.size+1) (w.alloc (.cells #[.slice A1 n1 c1,.slice A2 n2 c2,.int .i64 L] 24)) w'):
  Hid (Below (w.heap.size+1) (w.alloc (.cells #[.slice A1 n1 c1,.slice A2 n2 c2,.int .i64 L] 24)) w')/\
  w'.cell? ⟨w.heap.size,0,none⟩=some (.slice A1 n1 c1)/\w'.cell? ⟨w.heap.size,1,none⟩=some (.slice A2 n2 c2)/\w'.cell? ⟨w.heap.size,2,none⟩=some (.int .i64 L):=⟨hb,iE hb⟩
theorem J5{w w' w'':World}{A1 A2:Option Addr}{n1 c1 n2 c2:Nat}{L:Int}(hb:Hid (Below (w.heap.size+1) (w.alloc (.cells #[.slice A1 n1 c1,.slice A2 n2 c2,.int .i64 L] 24)) w'))(h:Below w'.heap.size w' w''):
  Hid (Below (w.heap.size+1) (w.alloc (.cells #[.slice A1 n1 c1,.slice A2 n2 c2,.int .i64 L] 24)) w'')/\
  w''.cell? ⟨w.heap.size,0,none⟩=some (.slice A1 n1 c1)/\w''.cell? ⟨w.heap.size,1,none⟩=some (.slice A2 n2 c2)/\w''.cell? ⟨w.heap.size,2,none⟩=some (.int .i64 L):=
 K6 (hb.out.trans (h.mono (by have:=hb.out.size;simpa using this)))
theorem pt{w w':World}{o:Obj}(hb:Hid (Below (w.heap.size+1) (w.alloc o) w')):w.heap.size+1<=w'.heap.size:=by have:=hb.out.size;simpa using this
theorem Hj{w W:World}{A1 A2:Option Addr}{c1 c2 ml:Nat}{sg:List Int}{L a:Int}{h:Nat}(HX:Hid (RI (w.alloc (.cells #[.slice A1 sg.length c1,.slice A2 ml c2,.int .i64 L] 24)) (·<w.heap.size+1) A1 sg))
  (hB:Hid (Below (w.heap.size+1) (w.alloc (.cells #[.slice A1 sg.length c1,.slice A2 ml c2,.int .i64 L] 24)) W))(hm:sg.length<=64)(ha:a=h)(hh:h<4*sg.length){r:Bool}(hr:Hid (ai sg h=r)):
  Calls Tryz.prog 25 #[.agg #[.slice A1 sg.length c1,.slice A2 ml c2,.int .i64 L],.int .i64 a] W fun e w'=>e= .returned (.bool r)/\Below W.heap.size W w':=by
 rw[<-hr.out];exact nO A1 A2 c1 c2 ml sg L a h W (·<w.heap.size+1) (HX.out.below hB.out) (fun b hb=>by have:=pt hB;omega) oZ ha hh
theorem gC(A1 A2:Option Addr)(c1 c2:Nat)(sg mt:List Int)(L:Int)(w:World)(S:Nat->Prop)(hx:RI w S A1 sg)(hy:RI w S A2 mt)(hS:∀b,S b->b<w.heap.size)(VL:sg.length<=maxLen)(Wb:mt.length<=maxLen):
  Calls Tryz.prog 10 #[.agg #[.slice A1 sg.length c1,.slice A2 mt.length c2,.int .i64 L]] w fun e w'=>e= .returned (.bool (decide (cJ sg mt L)))/\Below w.heap.size w w':=by
 unfold maxLen at VL Wb;have hb:=Rb ((Rh w.heap.size w).alloc (Rf _) (.cells #[.slice A1 sg.length c1,.slice A2 mt.length c2,.int .i64 L] 24));by_cases VO:sg.length<=64
 case neg=>
  have H:=Rb (show decide (cJ sg mt L)=false from Rl fun h=>VO h.1);have h1:(64:Int)<sg.length:=oZ;clear hx hy VO;go_enter Tryz.func10,Tryz.ntmps10
  go_wp2_with fail;go_ret;exact⟨aF H.out.symm,hb.out⟩
 case pos=>
 have h1:¬(64:Int)<sg.length:=oZ;by_cases VQ:mt.length=4*sg.length
 case neg=>
  have H:=Rb (show decide (cJ sg mt L)=false from Rl fun h=>VQ h.2.1);have h2:((mt.length:Int)!=4*(sg.length:Int))=true:=by rw[RZ];omega
  clear hx hy VQ;go_enter Tryz.func10,Tryz.ntmps10
  go_wp2_with fail;go_ret;exact⟨aF H.out.symm,hb.out⟩
 case pos=>
 have h2:((mt.length:Int)!=4*(sg.length:Int))=false:=by rw[RK];omega
 by_cases hL0:L<0
 ·have H:=Rb (show decide (cJ sg mt L)=false from Rl fun h=>by have:=h.2.2.1;omega)
  clear hx hy VQ;go_enter Tryz.func10,Tryz.ntmps10
  go_wp2_with fail;go_ret;exact⟨aF H.out.symm,hb.out⟩
 by_cases hL1:(64:Int)<L
 ·have H:=Rb (show decide (cJ sg mt L)=false from Rl fun h=>by have:=h.2.2.2.1;omega)
  clear hx hy VQ;go_enter Tryz.func10,Tryz.ntmps10
  go_wp2_with fail;go_ret;exact⟨aF H.out.symm,hb.out⟩
 have HX:=Rb (show RI (w.alloc (.cells #[.slice A1 sg.length c1,.slice A2 mt.length c2,.int .i64 L] 24)) (·<w.heap.size+1) A1 sg from(hx.ak fun b hb=>Rx w _ b (hS b hb)).imp fun b hb=>by have:=hS b hb;omega);have HY:=Rb (show RI (w.alloc (.cells #[.slice A1 sg.length c1,.slice A2 mt.length c2,.int .i64 L] 24)) (·<w.heap.size+1) A2 mt from(hy.ak fun b hb=>Rx w _ b (hS b hb)).imp fun b hb=>by have:=hS b hb;omega);have Zb:=Rb VQ;clear hx hy hS VQ;go_enter Tryz.func10,Tryz.ntmps10
 go_wp2_with fail
 go_loop [34] (fun i=>∃k:Nat,k<=sg.length/\i= .int .i64 k/\Hid (∀c,c<k->gi sg c=1\/gi sg c= -1)) (fun i=>sg.length-(intOf i).toNat)
 case atStart=>exact⟨0,Rv _,rfl,by intro c hc;omega⟩
 case round=>
  obtain⟨k,hk,rfl,HS⟩:=hrel;by_cases Vg:k<sg.length
  ·obtain⟨b,off,rfl,Yi,hc⟩:=HX.out.at_ Vg
   have k1:=hc k Vg;clear hc;by_cases g1:gi sg k=1
   ·have e1:(gi sg k !=1)=false:=by rw[RK];exact g1
    have HS':Hid (∀c,c<k+1->gi sg c=1\/gi sg c= -1):=by
     intro c hc;rcases Sl (SO hc)with h|rfl
     {exact HS.out c h};{exact .inl g1}
    clear g1;go_wp2_with fail
    go_round
    case rel=>exact⟨k+1,oZ,by go_num,HS'⟩
    case measure=>simp[intOf];omega
   have e1:(gi sg k !=1)=true:=by rw[RZ];exact g1
   by_cases g2:gi sg k= -1
   ·have e2:(gi sg k != -1)=false:=by rw[RK];exact g2
    have HS':Hid (∀c,c<k+1->gi sg c=1\/gi sg c= -1):=by
     intro c hc;rcases Sl (SO hc)with h|rfl
     {exact HS.out c h};{exact .inr g2}
    clear g1 g2;go_wp2_with fail
    go_round
    case rel=>exact⟨k+1,oZ,by go_num,HS'⟩
    case measure=>simp[intOf];omega
   have e2:(gi sg k != -1)=true:=by rw[RZ];exact g2
   have H:=Rb (show decide (cJ sg mt L)=false from Rl fun h=>by
    rcases h.2.2.2.2.1 k Vg with h|h
    {exact g1 h}
    ·exact g2 h)
   clear g1 g2;go_wp2_with fail;go_ret;exact⟨aF H.out.symm,hb.out⟩
  ·have Xy:Hid (EN sg):=fun c hc=>HS.out c oZ
   clear HS;go_wp2_with fail;go_loopw[48] (fun i wr=>∃k:Nat,k<=mt.length/\i= .int .i64 k/\Hid (Below (w.heap.size+1) (w.alloc (.cells #[.slice A1 sg.length c1,.slice A2 mt.length c2,.int .i64 L] 24)) wr)/\Hid (Inv2 sg mt k)) (fun i _=>mt.length-(intOf i).toNat)
   case atStart=>exact⟨0,Rv _,rfl,Rh _ _,by intro h hh;omega⟩
   case round=>
    clear hk Vg;obtain⟨k,hk,rfl,HB,HI⟩:=hrel;obtain⟨m0,m1,m2⟩:=iE HB.out;have hw0:=pt HB;by_cases Vg:k<mt.length
    ·obtain⟨b,off,rfl,Yi,hc⟩:=(HY.out.below HB.out).at_ Vg
     have k1:=hc k Vg;by_cases g1:gi mt k<0;{have H:=Rb (oG (sg:=sg) (L:=L) Vg (.inl g1));have WZ:=bX HB.out;clear hc;go_wp2_with fail;go_ret;exact⟨aF H.out.symm,WZ⟩};have HML':=Zb.out;by_cases g2:gi mt k<4*(sg.length:Int)
     case neg=>have H:=Rb (oG (sg:=sg) (L:=L) Vg (.inr (.inl oZ)));have WZ:=bX HB.out;clear hc HML';go_wp2_with fail;go_ret;exact⟨aF H.out.symm,WZ⟩
     have g2':gi mt k<(mt.length:Int):=oZ;by_cases g3:gi mt k=k
     ·have H:=Rb (oG (sg:=sg) (L:=L) Vg (.inr (.inr (.inl g3))))
      have g3':(gi mt k==(k:Int))=true:=by rw[SA];exact g3
      have WZ:=bX HB.out;clear hc HML' g3;go_wp2_with fail;go_ret;exact⟨aF H.out.symm,WZ⟩
     have g3':(gi mt k==(k:Int))=false:=by rw[Rs];exact g3
     have k2:=hc (gn mt k) (by unfold gn;omega);have k2':wr.cell? ⟨b,off+(gi mt k).toNat,none⟩=some (.int .i64 (gi mt (gn mt k))):=k2;by_cases g4:gi mt (gn mt k)=k
     case neg=>
      have H:=Rb (oG (sg:=sg) (L:=L) Vg (.inr (.inr (.inr (.inl g4)))));have g4':(gi mt (gn mt k)!=(k:Int))=true:=by rw[RZ];exact g4
      have WZ:=bX HB.out;clear hc HML' g3 g4 k2;go_wp2_with fail;go_ret;exact⟨aF H.out.symm,WZ⟩
     have g4':(gi mt (gn mt k)!=(k:Int))=false:=by rw[RK];exact g4
     have G1:=Rb g1;have G2:=Rb g2';have G3:=Rb g3;have G4:=Rb g4;have hgn:gi mt k=((gn mt k:Nat):Int):=by unfold gn;omega
     have VS:gn mt k<4*sg.length:=oZ;have HGN:=Rb hgn;clear hc HML' g3 g4 k2 hgn;go_wp2_with fail;have hk4:k<4*sg.length:=by have:=Zb.out;omega
     have HBd:Hid (Below (w.heap.size+1) (w.alloc (.cells #[.slice A1 sg.length c1,.slice (some ⟨b,off,none⟩) mt.length c2,.int .i64 L] 24)) wr.drew):=HB.out.drew;obtain⟨x,hx⟩:∃x,ai sg k=x:=⟨_,rfl⟩
     obtain⟨y,hy⟩:∃y,ai sg (gn mt k)=y:=⟨_,rfl⟩
     have HXB:=Rb hx;have HYB:=Rb hy;clear k1 k2' m0 m1 m2 hx hy
     go_region_held3 (fun w'=>Hid (Below (w.heap.size+1) (w.alloc (.cells #[.slice A1 sg.length c1,.slice (some ⟨b,off,none⟩) mt.length c2,.int .i64 L] 24)) w')/\
       w'.cell? ⟨w.heap.size,0,none⟩=some (.slice A1 sg.length c1)/\w'.cell? ⟨w.heap.size,1,none⟩=some (.slice (some ⟨b,off,none⟩) mt.length c2)/\w'.cell? ⟨w.heap.size,2,none⟩=some (.int .i64 L))
      (first|exact K6 HBd.out|exact J5 (by first|assumption|exact Vc (by assumption)) hb9)
      (first
       |(go_at_call 25;((with_reducible refine(Hj (a:=(k:Int)) (h:=k) HX (by first|assumption|exact Vc (by assumption)) VO rfl hk4 HXB).mono ?_);rintro e9 w9 ⟨rfl,hb9⟩))
       |(go_at_call 25;((with_reducible refine(Hj (a:=gi mt k) (h:=gn mt k) HX (by first|assumption|exact Vc (by assumption)) VO HGN.out VS HYB).mono ?_);rintro e9 w9 ⟨rfl,hb9⟩)))
     have ZX:Hid (Below (w.heap.size+1) (w.alloc (.cells #[.slice A1 sg.length c1,.slice (some ⟨b,off,none⟩) mt.length c2,.int .i64 L] 24)) w9):=by first|assumption|exact Vc (by assumption)
     clear hb9;by_cases g5:x=y
     ·have H:=Rb (oG (sg:=sg) (L:=L) Vg (.inr (.inr (.inr (.inr (by rw[HXB.out,HYB.out];exact g5))))))
      have WZ:=Rb (bX ZX.out);subst g5;clear HYB
      cases x
      all_goals
       go_wp2_with fail;go_ret;exact⟨aF H.out.symm,WZ.out⟩
     ·have HI':=Rb (Eu HI.out G1.out G2.out G3.out G4.out (by rw[HXB.out,HYB.out];exact g5))
      obtain rfl:y= !x:=by cases x<;>cases y<;>simp_all
      clear g5
      cases x
      all_goals
       simp only[Bool.not_true,Bool.not_false];go_wp2_with fail;go_roundw
       case rel=>exact⟨k+1,oZ,by go_num,ZX,HI'⟩
       case measure=>simp[intOf];omega
    ·obtain rfl:mt.length=k:=oZ
     obtain⟨hI,hO⟩:=GX HI.out;have HI2:=Rb hI;have Za:=Rb hO;clear hI hO HI;go_wp2_with fail;refine(uC A1 A2 c1 c2 sg.length mt L wr (·<w.heap.size+1) (HY.out.below HB.out) (fun b hb=>by have:=pt HB;omega) Zb.out HI2.out oZ).mono ?_;rintro e w5 ⟨rfl,WI⟩;have WZ:=Rb ((bX HB.out).trans (WI.mono oZ));have hd:decide (I_ mt sg.length)=decide (cJ sg mt L):=by rw[R_,RE,RE];exact⟨fun h=>⟨VO,Zb.out,oZ,oZ,Xy.out,HI2.out,Za.out,h⟩,fun h=>h.2.2.2.2.2.2.2⟩
     have H:=Rb hd;clear hd;go_wp2_with fail;go_ret;exact⟨aF H.out,WZ.out⟩
def aC(mt:List Int):List (List Nat):=bR (au mt) mt.length ir mt.length
def iN(sg mt:List Int):List (List Nat):=bR (MV mt) mt.length (ai sg) mt.length
theorem Ee{sg:List Int}(hs:EN sg){g:Nat}(hg:g<4*sg.length):ai sg (ae g 2)= !ai sg g:=by have h1:=hs (g/4) oZ;have h2:=af g 2;have h3:=fH g 2;unfold ai;rw[h2,h3];have hc:g%4=0\/g%4=1\/g%4=2\/g%4=3:=oZ;rcases hc with e|e|e|e<;>rcases h1 with e1|e1<;>rw[e,e1]<;>decide
theorem Kd{sg mt:List Int}{L:Int}(h:cJ sg mt L):∀g,g<mt.length->ai sg (MV mt g)=ai sg g:=by
 intro g hg;obtain⟨_,h2,_,_,h5,h6,h7,_⟩:=h;have h8:=h7 g hg;unfold MV;rw[Ee h5 (by have:=(h6.gn hg).2.1;omega)];revert h8
 cases ai sg g<;>cases ai sg (gn mt g)<;>simp
theorem eQ{A1 A2:Option Addr}{c1 c2:Nat}{sg mt:List Int}{L:Int}{w:World}(S:Nat->Prop)(r:Bool)(hx:RI w S A1 sg)(hy:RI w S A2 mt)(hS:∀b,S b->b<w.heap.size)(VL:sg.length<=maxLen)(Wb:mt.length<=maxLen)(hr:decide (cJ sg mt L)=r):
  Calls Tryz.prog 10 #[.agg #[.slice A1 sg.length c1,.slice A2 mt.length c2,.int .i64 L]] w fun e w'=>e= .returned (.bool r)/\Below w.heap.size w w':=by
 subst hr;exact gC A1 A2 c1 c2 sg mt L w S hx hy hS VL Wb
structure bI(w:World)(bd:Nat)(A1 A2:Option Addr)(c1 c2:Nat)(sg mt:List Int)(L:Int):Prop where
 c0:w.cell? ⟨bd,0,none⟩=some (.slice A1 sg.length c1)
 c1:w.cell? ⟨bd,1,none⟩=some (.slice A2 mt.length c2)
 c2:w.cell? ⟨bd,2,none⟩=some (.int .i64 L)
 lt:bd<w.heap.size
 rs:RI w (·<w.heap.size) A1 sg
 rm:RI w (·<w.heap.size) A2 mt
theorem bI.below{w w':World}{bd:Nat}{A1 A2:Option Addr}{c1 c2:Nat}{sg mt:List Int}{L:Int}(h:bI w bd A1 A2 c1 c2 sg mt L)(hb:Below w.heap.size w w'):bI w' bd A1 A2 c1 c2 sg mt L:=by
 have hs:=hb.size;exact⟨(hb.cell (p:=⟨bd,0,none⟩) h.lt).trans h.c0,(hb.cell (p:=⟨bd,1,none⟩) h.lt).trans h.c1,(hb.cell (p:=⟨bd,2,none⟩) h.lt).trans h.c2,RB h.lt hs,
  (h.rs.below hb).imp fun b hb=>by omega,(h.rm.below hb).imp fun b hb=>by omega⟩
theorem bI.start{w:World}{A1 A2:Option Addr}{c1 c2:Nat}{sg mt:List Int}{L:Int}(S:Nat->Prop)(hx:RI w S A1 sg)(hy:RI w S A2 mt)(hS:∀b,S b->b<w.heap.size):
  bI (w.alloc (.cells #[.slice A1 sg.length c1,.slice A2 mt.length c2,.int .i64 L] 24)) w.heap.size A1 A2 c1 c2 sg mt L:=by
 obtain⟨h0,h1,h2⟩:=iE (Rh (w.heap.size+1) (w.alloc (.cells #[.slice A1 sg.length c1,.slice A2 mt.length c2,.int .i64 L] 24)));exact⟨h0,h1,h2,oX,(hx.ak fun b hb=>Rx w _ b (hS b hb)).imp fun b hb=>by have:=hS b hb;simp;omega,
  (hy.ak fun b hb=>Rx w _ b (hS b hb)).imp fun b hb=>by have:=hS b hb;simp;omega⟩
theorem Eg{w:World}{bd:Nat}{A1 A2:Option Addr}{c1 c2:Nat}{sg mt:List Int}{L:Int}(h:bI w bd A1 A2 c1 c2 sg mt L)(hI:cN mt)(hl:mt.length<=400000):mW 30 bd mt.length (au mt) w:=by
 intro g W hg hW;have hd:=h.below hW;have k1:=hd.c1;obtain⟨Vs,Vv,-,-⟩:=hI.gn hg;obtain⟨b,off,rfl,-,hc⟩:=hd.rm.at_ hg;have k2:=hc g hg;rw[Vs]at k2;have HG:=Rb Vv;clear hc hd h hI hW Vs Vv;go_enter Tryz.func30,Tryz.ntmps30
 go_wp2_with fail;refine(nH (gn mt g) 3 _ rfl (by have:=HG.out;omega) oQ).mono ?_;rintro e w1 ⟨rfl,rfl⟩;go_wp2_with fail;go_ret;exact⟨rfl,rfl⟩
theorem yU{w:World}{bd:Nat}{A1 A2:Option Addr}{c1 c2:Nat}{sg mt:List Int}{L:Int}(h:bI w bd A1 A2 c1 c2 sg mt L)(hI:cN mt)(hl:mt.length<=400000):mW 60 bd mt.length (MV mt) w:=by
 intro g W hg hW;have hd:=h.below hW;have k1:=hd.c1;obtain⟨Vs,Vv,-,-⟩:=hI.gn hg;obtain⟨b,off,rfl,-,hc⟩:=hd.rm.at_ hg;have k2:=hc g hg;rw[Vs]at k2;have HG:=Rb Vv;clear hc hd h hI hW Vs Vv;go_enter Tryz.func60,Tryz.ntmps60
 go_wp2_with fail;refine(dE (gn mt g) _ rfl (by have:=HG.out;omega)).mono ?_;rintro e w1 ⟨rfl,rfl⟩;go_wp2_with fail;go_ret;exact⟨rfl,rfl⟩
theorem Ep(N:Nat)(w:World):BW 28 #[] N ir w:=by
 intro g W hg hW;show Calls _ _ #[.int .i64 g] _ _;go_enter Tryz.func28,Tryz.ntmps28
 go_wp2_with fail;go_ret;exact⟨rfl,Rh _ _⟩
theorem yF{w:World}{bd:Nat}{A1 A2:Option Addr}{c1 c2:Nat}{sg mt:List Int}{L:Int}(h:bI w bd A1 A2 c1 c2 sg mt L)(hn:mt.length=4*sg.length)(hl:sg.length<=64):BW 59 #[.pointer (some ⟨bd,0,none⟩)] mt.length (ai sg) w:=by
 intro g W hg hW;show Calls _ _ #[.int .i64 g,.pointer (some ⟨bd,0,none⟩)] _ _;have hd:=h.below hW;have k0:=hd.c0;have k1:=hd.c1;have k2:=hd.c2;have HR:=Rb hd.rs;have HG:=Rb hg;have HN:=Rb hn;clear hd h hW hg hn;go_enter Tryz.func59,Tryz.ntmps59
 go_wp2_with fail;refine(nO A1 A2 c1 c2 mt.length sg L _ g _ (·<W.heap.size) HR.out (fun _ h=>h) oZ rfl (by have:=HG.out;have:=HN.out;omega)).mono ?_;rintro e w1 ⟨rfl,Vi⟩;go_wp2_with fail;go_ret;exact⟨rfl,Vi⟩
theorem Q6:fM 30:=gA Tryz.func30 qk rfl
theorem QN:fM 28:=gA Tryz.func28 qk rfl
theorem Q4:fM 60:=gA Tryz.func60 qk rfl
theorem Qq:fM 59:=gA Tryz.func59 qk rfl
section
variable(A1 A2:Option Addr)(c1 c2:Nat)(sg mt:List Int)(L:Int)(w:World)(S:Nat->Prop)(hx:RI w S A1 sg)(hy:RI w S A2 mt)(hS:∀b,S b->b<w.heap.size)
include hx hy hS
theorem oB(hd:cJ sg mt L):
  Calls Tryz.prog 12 #[.agg #[.slice A1 sg.length c1,.slice A2 mt.length c2,.int .i64 L]] w fun e w'=>∃v,e= .returned v/\RR 22 w' w.heap.size (fun _=>False) v (rows (aC mt))/\Below w.heap.size w w':=by
 have HD:=Rb (bI.start (c1:=c1) (c2:=c2) (L:=L) S hx hy hS);have H:=Rb hd;obtain⟨h1,h2,-,-,-,h6,-,-⟩:=hd;have VL:sg.length<=maxLen:=by unfold maxLen;omega
 have Wb:mt.length<=maxLen:=by unfold maxLen;omega
 have VQ:mt.length<=400000:=oZ;have HI:=Rb h6;have HN:=Rb h2;clear hx hy hS h6 h2;go_enter Tryz.func12,Tryz.ntmps12
 go_wp2_with fail;refine(eQ _ true HD.out.rs HD.out.rm (fun _ h=>h) VL Wb (Rj H.out)).mono ?_;rintro e w1 ⟨rfl,Vi⟩;have Vp:=Rb (HD.out.below Vi);have k1:=Vp.out.c1;have Vr:=Rb (bX (o:= .cells #[.slice A1 sg.length c1,.slice A2 mt.length c2,.int .i64 L] 24) (by simpa using Vi));have VV:=Vr.out.size;clear Vi HD;go_wp2_with fail;refine(tP 30 28 w.heap.size mt.length #[] (au mt) ir w1 (aU HI.out HN.out) (fun _ _=>rfl) VQ Q6 QN (Eg Vp.out HI.out VQ) (Ep _ _)).mono ?_;rintro e w2 ⟨v,rfl,hr,Vj⟩;have HR:=Rb (hr.mono VV);have VD:=Rb (Vr.out.trans (Vj.mono VV));clear hr Vj k1;go_wp2_with fail;go_ret;exact⟨_,rfl,HR.out,VD.out⟩
theorem Be(hd:cJ sg mt L):
  Calls Tryz.prog 27 #[.agg #[.slice A1 sg.length c1,.slice A2 mt.length c2,.int .i64 L]] w fun e w'=>∃v,e= .returned v/\RR 22 w' w.heap.size (fun _=>False) v (rows (iN sg mt))/\Below w.heap.size w w':=by
 have HD:=Rb (bI.start (c1:=c1) (c2:=c2) (L:=L) S hx hy hS);have H:=Rb hd;obtain⟨h1,h2,-,-,-,h6,-,-⟩:=hd;have VL:sg.length<=maxLen:=by unfold maxLen;omega
 have Wb:mt.length<=maxLen:=by unfold maxLen;omega
 have VQ:mt.length<=400000:=oZ;have HI:=Rb h6;have HN:=Rb h2;clear hx hy hS h6 h2;go_enter Tryz.func27,Tryz.ntmps27
 go_wp2_with fail;refine(eQ _ true HD.out.rs HD.out.rm (fun _ h=>h) VL Wb (Rj H.out)).mono ?_;rintro e w1 ⟨rfl,Vi⟩;have Vp:=Rb (HD.out.below Vi);have k1:=Vp.out.c1;have Vr:=Rb (bX (o:= .cells #[.slice A1 sg.length c1,.slice A2 mt.length c2,.int .i64 L] 24) (by simpa using Vi));have VV:=Vr.out.size;clear Vi HD;go_wp2_with fail;refine(tP 60 59 w.heap.size mt.length #[.pointer (some ⟨w.heap.size,0,none⟩)] (MV mt) (ai sg) w1 (Gf HI.out HN.out) (Kd H.out) VQ Q4 Qq (yU Vp.out HI.out VQ) (yF Vp.out HN.out h1)).mono ?_;rintro e w2 ⟨v,rfl,hr,Vj⟩;have HR:=Rb (hr.mono VV);have VD:=Rb (Vr.out.trans (Vj.mono VV));clear hr Vj k1;go_wp2_with fail;go_ret;exact⟨_,rfl,HR.out,VD.out⟩
end
theorem KT{w:World}{bd:Nat}{A1 A2:Option Addr}{c1 c2:Nat}{sg mt:List Int}{L:Int}(h:bI w bd A1 A2 c1 c2 sg mt L):
  Hid (bI w bd A1 A2 c1 c2 sg mt L)/\w.cell? ⟨bd,0,none⟩=some (.slice A1 sg.length c1)/\w.cell? ⟨bd,1,none⟩=some (.slice A2 mt.length c2)/\w.cell? ⟨bd,2,none⟩=some (.int .i64 L):=⟨h,h.c0,h.c1,h.c2⟩
theorem bI.drew{w:World}{bd:Nat}{A1 A2:Option Addr}{c1 c2:Nat}{sg mt:List Int}{L:Int}(h:bI w bd A1 A2 c1 c2 sg mt L):bI w.drew bd A1 A2 c1 c2 sg mt L:=⟨h.c0,h.c1,h.c2,h.lt,h.rs,h.rm⟩
theorem zc(sg mt:List Int):(iN sg mt).length<=mt.length:=by have:=dO (MV mt) mt.length (ai sg) mt.length;rwa [aE]at this
theorem uD(A1 A2:Option Addr)(c1 c2:Nat)(sg mt:List Int)(L:Int)(w:World)(S:Nat->Prop)(hx:RI w S A1 sg)(hy:RI w S A2 mt)(hS:∀b,S b->b<w.heap.size)(hd:cJ sg mt L):
  Calls Tryz.prog 11 #[.agg #[.slice A1 sg.length c1,.slice A2 mt.length c2,.int .i64 L]] w fun e w'=>e= .returned (.int .i64 (((iN sg mt).length:Int)+L))/\Below w.heap.size w w':=by
 have HD:=Rb (bI.start (c1:=c1) (c2:=c2) (L:=L) S hx hy hS);have H:=Rb hd;obtain⟨h1,h2,h3,h4,-,h6,-,-⟩:=hd;have VL:sg.length<=maxLen:=by unfold maxLen;omega
 have Wb:mt.length<=maxLen:=by unfold maxLen;omega
 have hsl:=zc sg mt;have hsl2:(iN sg mt).length<=400:=oZ;clear hx hy hS h6 h2 hsl;go_enter Tryz.func11,Tryz.ntmps11
 go_wp2_with fail;refine(eQ _ true HD.out.rs HD.out.rm (fun _ h=>h) VL Wb (Rj H.out)).mono ?_;rintro e w1 ⟨rfl,Vi⟩;have Vp:=Rb (HD.out.below Vi);have k0:=Vp.out.c0;have k1:=Vp.out.c1;have k2:=Vp.out.c2;have Vr:=Rb (bX (o:= .cells #[.slice A1 sg.length c1,.slice A2 mt.length c2,.int .i64 L] 24) (by simpa using Vi));have VV:=Vr.out.size;clear Vi HD;go_wp2_with fail;have YQ:IntKind.i64.wrap (((iN sg mt).length:Int)+L)=((iN sg mt).length:Int)+L:=SF _ oZ;clear k0 k1 k2 VL Wb
 go_region_held3 (fun w'=>Hid (bI w' w.heap.size A1 A2 c1 c2 sg mt L)/\w'.cell? ⟨w.heap.size,0,none⟩=some (.slice A1 sg.length c1)/\w'.cell? ⟨w.heap.size,1,none⟩=some (.slice A2 mt.length c2)/\w'.cell? ⟨w.heap.size,2,none⟩=some (.int .i64 L))
  (first|exact KT Vp.out.drew|exact KT (Vp.out.drew.below hb9))
  (first
   |(go_at_call 27;((with_reducible refine(Be A1 A2 c1 c2 sg mt L w1.drew (·<w1.drew.heap.size) Vp.out.drew.rs Vp.out.drew.rm (fun _ h=>h) H.out).mono ?_);rintro e9 w9 ⟨v9,rfl,hr9,hb9⟩;obtain⟨A9,c9,rfl,-,-,-⟩:=hr9.shape;rw[aE])))
 have ZX:=Rb (Vr.out.trans (Td (Rh _ _)|>.trans (hb9.mono VV)));clear hb9 hr9 YQ;go_wp2_with fail;go_ret;exact⟨rfl,ZX.out⟩
def mG(mt:List Int)(n q k:Nat):List (List Int):=(List.range q).map fun p=>ints (gU mt n p k)
theorem qp(mt:List Int)(n q k:Nat):(mG mt n q k).length=q:=by simp[mG]
theorem pk{mt:List Int}{n q k p:Nat}(hp:p<q):(mG mt n q k).getD p []=ints (gU mt n p k):=by simp[mG,hp]
theorem Dx(mt:List Int)(n q:Nat):mG mt n q 0=List.replicate q []:=by apply TR;{simp[mG]};{intro i h1 h2;simp[mG,gU,ints]}
theorem EC{mt:List Int}{n q k:Nat}(hp:av mt n (aA mt n k)<q):
  (mG mt n q k).set (av mt n (aA mt n k)) ((mG mt n q k).getD (av mt n (aA mt n k)) []++[(k:Int)])=mG mt n q (k+1):=by
 rw[pk hp];apply TR;{simp[mG]};{intro i h1 h2;rw[qp]at h2;by_cases e:i=av mt n (aA mt n k);{subst e;rw[TC];simp only[mG,Uf,List.getElem_range];rw[tj,Re rfl,lG];rfl};{rw[Tv (fun e'=>e e'.symm)];simp only[mG,Uf,List.getElem_range];rw[tj,Rc (fun e'=>e e'.symm),S6]}}
theorem Gr{mt:List Int}(hI:cN mt){n:Nat}(hn:mt.length=4*n):mG mt n (av mt n n) n=rows (dq mt n):=by rw[<-i_ hI hn];unfold mG rows;rw[List.map_map];rfl
section
variable(A1 A2:Option Addr)(c1 c2:Nat)(sg mt:List Int)(L:Int)(w:World)(S:Nat->Prop)(hx:RI w S A1 sg)(hy:RI w S A2 mt)(hS:∀b,S b->b<w.heap.size)
include hx hy hS
theorem sD(hd:cJ sg mt L):
  Calls Tryz.prog 13 #[.agg #[.slice A1 sg.length c1,.slice A2 mt.length c2,.int .i64 L]] w fun e w'=>∃v,e= .returned v/\RR 22 w' w.heap.size (fun _=>False) v (rows (dq mt sg.length))/\Below w.heap.size w w':=by
 have HD:=Rb (bI.start (c1:=c1) (c2:=c2) (L:=L) S hx hy hS);have H:=Rb hd;obtain⟨h1,h2,-,-,-,h6,-,-⟩:=hd;have VL:sg.length<=maxLen:=by unfold maxLen;omega
 have Wb:mt.length<=maxLen:=by unfold maxLen;omega
 have HI:=Rb h6;have HN:=Rb h2;obtain⟨q,hq⟩:∃q,av mt sg.length sg.length=q:=⟨_,rfl⟩
 have hqn:q<=sg.length:=by rw[<-hq];exact ry _ _
 have HQ:=Rb hq;have WY:=Ef 39 Tryz.underlying39 q oZ;clear hx hy hS h6 h2 hq;go_enter Tryz.func13,Tryz.ntmps13
 go_wp2_with fail;refine(eQ _ true HD.out.rs HD.out.rm (fun _ h=>h) VL Wb (Rj H.out)).mono ?_;rintro e w1 ⟨rfl,Vi⟩;have Vp:=Rb (HD.out.below Vi);have k0:=Vp.out.c0;have k1:=Vp.out.c1;have k2:=Vp.out.c2;have Vr:=Rb (bX (o:= .cells #[.slice A1 sg.length c1,.slice A2 mt.length c2,.int .i64 L] 24) (by simpa using Vi));have VV:=Vr.out.size;clear Vi HD;go_wp2_with fail;refine(vY A1 A2 c1 c2 sg.length mt L w1 (·<w1.heap.size) Vp.out.rm (fun _ h=>h) HN.out HI.out oZ).mono ?_;rintro e w2 ⟨v,rfl,Zc,Vj⟩;rw[HQ.out];have VD:=Rb (Vr.out.trans (Vj.mono VV));have Xp:=VD.out.size;obtain⟨A3,c3,rfl,-,-,hr3⟩:=Zc.reads;rw[cX];have HR3:=Rb (hr3.imp (T:=(·<w2.heap.size)) fun b hb=>hb.2);have hg0:=qM.start w2 q (by unfold maxLen;omega);rw[<-Dx mt sg.length q]at hg0;have HG0:=Rb hg0;have hbn:=(Rh w2.heap.size w2).alloc (Rf _) (.cells (Array.replicate q (Value.slice none 0 0)) 22);have HBN:=Rb hbn;have VO:sg.length<=64:=h1;clear Zc Vj hr3 k0 k1 k2 hg0 hbn Vr Vp VL Wb;go_wp2_with fail;clear WY;go_loopw[20] (fun i wr=>∃(k:Nat) (vs:List Value),k<=sg.length/\i= .int .i64 k/\Hid (qM wr w2.heap.size w2.heap.size vs (mG mt sg.length q k))/\Hid (Below w2.heap.size w2 wr)) (fun i _=>sg.length-(intOf i).toNat)
 case atStart=>exact⟨0,_,Rv _,rfl,HG0,HBN⟩
 case round=>
  clear HG0 HBN;obtain⟨k,vs,hk,rfl,HG,HB⟩:=hrel;have Xr:vs.length=q:=by rw[HG.out.len,qp]
  have YO:=Rb Xr;clear Xr;by_cases Vg:k<sg.length
  ·have hp:=wV HI.out HN.out Vg
   rw[HQ.out]at hp;obtain⟨b,off,rfl,Yi,hc⟩:=(HR3.out.below HB.out).at_ (k:=k) (by rw[cX];exact Vg);have k1:=hc k (by rw[cX];exact Vg);rw[nD Vg]at k1;obtain⟨p,hpe⟩:∃p,av mt sg.length (aA mt sg.length k)=p:=⟨_,rfl⟩
   have HPE:=Rb hpe;rw[hpe]at hp k1;have hpv:p<vs.length:=by rw[YO.out];exact hp
   obtain⟨k2,k3,Xm⟩:=HG.out.at_ hpv;obtain⟨u,hu⟩:∃u,vs[p]=u:=⟨_,rfl⟩
   rw[hu]at k2;have HU:=Rb hu;have hou:OI wr w2.heap.size u (ints (gU mt sg.length p k)):=by have:=HG.out.row p hpv;rw[hu,pk hp]at this;exact this
   have HOU:=Rb hou;have Zw:(ints (gU mt sg.length p k)).length<1099511627776:=by
    have:(gU mt sg.length p k).length<=k:=by unfold gU;have:=Tg (fun b=>decide (av mt sg.length (aA mt sg.length b)=p)) (List.range k);simpa using this
    rw[aH];omega
   have HUL:=Rb Zw;have hfar:∀g,u.ownBlock=some g->g≠w2.heap.size:=fun g hg=>HG.out.L8 p hpv g (by rw[hu];exact hg)
   have HFAR:=Rb hfar;have VI:=HB.out.size;clear hc hpe hu hou Zw hfar;go_wp2_with(at_builtin;refine BE HOU.out HUL.out VI rfl rfl Tryz.underlying22 rfl rfl ?_;intro v' w' ho hg Vu;have V1:=fQ hg Xm (fun e=>HFAR.out _ e.symm rfl);have k4:=(Ri (a:=⟨w2.heap.size,p,none⟩) V1).trans k2;have k5:=(Ro (a:=⟨w2.heap.size,p,none⟩) V1).trans k3;obtain⟨A',c',rfl,_,_,_⟩:=ho.shape);have hpush:=qM.push (p:=p) (y:=(k:Int)) HG.out hpv Xm (by rw[pk hp];exact ho) (by rw[HU.out];exact hg) (by rw[HU.out];exact Vu);have YK:=EC (mt:=mt) (n:=sg.length) (q:=q) (k:=k) (by rw[HPE.out];exact hp);rw[HPE.out]at YK;rw[YK]at hpush;have HPUSH:=Rb hpush;have HBN:=Rb ((HOU.out.eH HB.out VI _ hg).setCell (p:=⟨w2.heap.size,p,none⟩) (Rf _) (.slice A' (ints (gU mt sg.length p k)++[(k:Int)]).length c'));rw[Rz,SY]at HPUSH HBN;clear hpush YK ho hg Vu V1 k4 k5;go_roundw
   case rel=>exact⟨k+1,_,oZ,by go_num,HPUSH,HBN⟩
   case measure=>simp[intOf];omega
  {obtain rfl:sg.length=k:=oZ;have hr:=HG.out.rr;rw[YO.out]at hr;have Yf:=Gr HI.out HN.out;rw[HQ.out]at Yf;rw[Yf]at hr;have HR:=Rb (hr.mono Xp);have HBF:=Rb (VD.out.trans (HB.out.mono Xp));clear hr Yf Vg;go_wp2_with fail;go_ret;exact⟨_,rfl,HR.out,HBF.out⟩}
end
theorem Cm{P Q:Nat->Bool}:∀m,(∀x,x<m->P x=true->Q x=true->False)->cV (fun x=>P x||Q x) m=cV P m+cV Q m
 |0,_=>rfl
 |m+1,h=>by
  rw[aT,aT,aT,Cm m (fun x hx=>h x oZ)];have:=h m oZ
  cases hp:P m<;>cases hq:Q m<;>simp[hp,hq]at* <;>omega
theorem nL(a:Nat):∀m,cV (fun x=>decide (x=a)) m=if a<m then 1 else 0
 |0=>rfl
 |m+1=>by rw[aT,nL a m];by_cases h1:a<m;{have:¬m=a:=oZ;simp[h1,this,show a<m+1 by omega]};{by_cases h2:m=a;{simp[h2]};{simp[h1,h2,show¬a<m+1 by omega]}}
theorem eK:∀m,cV (fun _=>false) m=0
 |0=>rfl
 |m+1=>by rw[aT,eK m];rfl
theorem rL{m:Nat}:∀l:List Nat,l.Nodup->(∀x,x∈l->x<m)->cV (fun x=>decide (x∈l)) m=l.length
 |[],_,_=>by rw[aQ (Q:=fun _=>false) (fun x _=>by simp)];exact eK m
 |a::l,hd,hl=>by rw[SC]at hd;rw[aQ (Q:=fun x=>decide (x=a)||decide (x∈l)) (fun x _=>by simp[Bool.decide_or]),Cm,nL,rL l hd.2 (fun x hx=>hl x (SE _ hx)),Re (hl a (SM ..)),SI,Uw];intro x _ h1 h2;rw[RE]at h1 h2;subst h1;exact hd.1 h2
def pn(mt:List Int)(n c:Nat):Nat:=av mt n (aA mt n c)
theorem vV{mt:List Int}(hI:cN mt){n:Nat}(hn:mt.length=4*n){k:Nat}(hk:k<(dq mt n).length):(dq mt n)[k]=gU mt n k n/\k<av mt n n:=by
 have e:=i_ hI hn;have hl:(dq mt n).length=av mt n n:=by rw[<-e];simp
 refine⟨?_,oZ⟩;simp only[<-e];simp
theorem IG{mt:List Int}{n k x:Nat}:x∈gU mt n k n↔x<n/\pn mt n x=k:=by unfold gU pn;simp
end Go.Proofs.YtdbhigmklejicaaGreat
