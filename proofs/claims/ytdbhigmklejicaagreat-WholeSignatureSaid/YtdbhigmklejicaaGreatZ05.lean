/- Lemmas, each under its own premises. -/
import Derived.Test.YtdbhigmklejicaaGreatZ04
namespace Go.Proofs.YtdbhigmklejicaaGreat
set_option maxHeartbeats 16000000
set_option maxRecDepth 100000
abbrev bB:=Nat->Int
def lc(s:Int)(v:bB)(t:Int)(w:bB):bB:=fun i=>s*v i+t*w i
structure Bf(B:bB->bB->Int):Prop where
 add:∀u v w,B (fun i=>u i+v i) w=B u w+B v w
 mul:∀(t:Int) v w,B (fun i=>t*v i) w=t*B v w
 com:∀v w,B v w=B w v
structure tJ(P:bB->Prop):Prop where
 add:∀{u v},P u->P v->P fun i=>u i+v i
 mul:∀(t:Int){v},P v->P fun i=>t*v i
theorem tJ.lc{P:bB->Prop}(h:tJ P){s t:Int}{v w:bB}(hv:P v)(hw:P w):P (lc s v t w):=h.add (h.mul s hv) (h.mul t hw)
section
variable{B:bB->bB->Int}(hB:Bf B)
include hB
theorem Bf.uC(s:Int)(v:bB)(t:Int)(w u:bB):B (lc s v t w) u=s*B v u+t*B w u:=by unfold lc;rw[hB.add,hB.mul,hB.mul]
theorem Bf.C8(s:Int)(v:bB)(t:Int)(w u:bB):B u (lc s v t w)=s*B u v+t*B u w:=by rw[hB.com,hB.uC,hB.com v,hB.com w]
theorem Bf.O'(n:Nat)(c:Nat->Int)(V:Nat->bB)(u:bB):B (fun i=>sI n fun x=>c x*V x i) u=sI n fun x=>c x*B (V x) u:=by
 induction n with
 |zero=>have:=hB.mul 0 (fun _=>0) u;simp only[Sc]at this;exact this
 |succ n ih=>show B (fun i=>(sI n fun x=>c x*V x i)+c n*V n i) u=_;rw[hB.add,hB.mul,ih];rfl
end
def kU(P:bB->Prop)(B:bB->bB->Int)(s:Int):Prop:=∃(k:Nat)(V:Nat->bB)(d:Nat->Int),(∀x,x<k->P (V x))/\
 (∀x y,x<k->y<k->B (V x) (V y)=if x=y then d x else 0)/\
 (∀v,P v->∃t:Int,t≠0/\∃c:Nat->Int,∀u,P u->t*B v u=sI k fun x=>c x*B (V x) u)/\
 (cB k (fun x=>decide (0<d x)):Int)-cB k (fun x=>decide (d x<0))=s
theorem Bg{n x:Nat}(hx:x<n)(f:Nat->Int):(sI n fun y=>if x=y then f y else 0)=f x:=by rw[cI (k:=x) _ hx fun j _ hj=>by rw[Rc (fun e=>hj e.symm)],Re rfl]
theorem Nw{B:bB->bB->Int}(hB:Bf B){k:Nat}{V:Nat->bB}{d:Nat->Int}(ho:∀x y,x<k->y<k->B (V x) (V y)=if x=y then d x else 0)(c:Nat->Int):
  B (fun i=>sI k fun x=>c x*V x i) (fun i=>sI k fun x=>c x*V x i)=sI k fun x=>c x*c x*d x:=by
 rw[hB.O'];refine aj fun x hx=>?_
 rw[hB.com,hB.O',aj (g:=fun y=>if x=y then c y*d y else 0) fun y hy=>by
  rw[ho y x hy hx];by_cases e:y=x;{subst e;rw[Re rfl,Re rfl]}
  ·rw[Rc e,Rc (fun h=>e h.symm),RF],Bg hx,RO]
theorem kU.H6{P:bB->Prop}{B:bB->bB->Int}(hP:tJ P)(hB:Bf B){k k':Nat}{V W:Nat->bB}{d d':Nat->Int}
  (hV:∀x,x<k->P (V x))(hVo:∀x y,x<k->y<k->B (V x) (V y)=if x=y then d x else 0)
  (hW:∀x,x<k'->P (W x))(hWo:∀x y,x<k'->y<k'->B (W x) (W y)=if x=y then d' x else 0)(hWs:∀v,P v->∃t:Int,t≠0/\∃c:Nat->Int,∀u,P u->t*B v u=sI k' fun x=>c x*B (W x) u):
  cB k (fun x=>decide (0<d x))<=cB k' (fun x=>decide (0<d' x)):=by
 refine Rq fun Vg=>?_
 have hk:0<k:=by
  rcases Se k with h|h
  {subst h;exact absurd (Rv _) Vg};{exact h}
 have hnot:=Ch k (fun x=>decide (0<d x));obtain⟨a,⟨x0,VK,ha⟩,Zx⟩:=kt _ (((List.range k).filter (fun x=> !decide (0<d x))).map (fun y x=>if x=y then 1 else 0)++((List.range k').filter (fun x=>decide (0<d' x))).map (fun y x=>B (V x) (W y))) k rfl (by
  rw[Rz,Sa,Sa,pf,pf];omega)
 have e2:∀y,y<k->¬0<d y->a y=0:=fun y hy hd=>by have:=Zx _ (List.mem_append_left _ (Sb (R3.2 ⟨Rm.2 hy,by simpa using hd⟩)));rw[cI (k:=y) _ hy fun j _ Vh=>by rw[Rc Vh,Sc],Re rfl]at this;omega
 have e3:∀y,y<k'->0<d' y->(sI k fun x=>a x*B (V x) (W y))=0:=fun y hy hd=>by have:=Zx _ (List.mem_append_right _ (Sb (R3.2 ⟨Rm.2 hy,by simpa using hd⟩)));rw[<-this];exact aj fun x _=>RW _ _
 obtain⟨v,hv⟩:∃v:bB,v=fun i=>sI k fun x=>a x*V x i:=⟨_,rfl⟩
 have hPs:∀n,n<=k->P fun i=>sI n fun x=>a x*V x i:=fun n=>by
  induction n with
  |zero=>intro _;have:=hP.mul 0 (hV 0 hk);simp only[Sc]at this;exact this
  |succ n ih=>exact fun h=>hP.add (ih oZ) (hP.mul (a n) (hV n oZ))
 have hPv:P v:=by rw[hv];exact hPs k (Rf _)
 have hvv:B v v=sI k fun x=>a x*a x*d x:=by rw[hv];exact Nw hB hVo a
 have nn:∀x,x<k->0<=a x*a x*d x:=fun x hx=>by by_cases hd:0<d x;{exact TW (rh _) oZ};{rw[e2 x hx hd];simp}
 obtain⟨t,ht,c,hc⟩:=hWs v hPv;have hvw:∀y,y<k'->t*B v (W y)=c y*d' y:=fun y hy=>by
  rw[hc _ (hW y hy),aj (g:=fun x=>if y=x then c x*d' x else 0) fun x hx=>by
   rw[hWo x y hx hy];by_cases e:x=y;{subst e;rw[Re rfl,Re rfl]}
   ·rw[Rc e,Rc (fun h=>e h.symm),RF],Bg hy]
 have hc0:∀y,y<k'->0<d' y->c y=0:=fun y hy hd=>by
  have h1:=hvw y hy;rw[hv,hB.O',e3 y hy hd,RF]at h1;rcases Su.1 h1.symm with h|h
  {exact h};{omega}
 have hle:t*t*B v v<=0:=by
  have h1:t*t*B v v=sI k' fun y=>c y*c y*d' y:=by
   rw[RO,hc v hPv,<-bj];refine aj fun y hy=>?_
   rw[hB.com,show t*(c y*B v (W y))=c y*(t*B v (W y)) by grind,hvw y hy,RO]
  have h2:0<=sI k' fun y=> -(c y*c y*d' y):=FN fun y hy=>by by_cases hd:0<d' y;{rw[hc0 y hy hd];simp};{have:=TW (rh (c y)) (show 0<=-d' y by omega);rw[SX]at this;exact this}
  rw[lP]at h2;omega
 have hvv0:B v v<=0:=by
  refine Rq fun h=>?_
  have tt:0<t*t:=by
   rcases Um ht with h|h
   {exact Ui h h};{exact TA h h}
  have:=TA tt (show 0<B v v by omega);omega
 have h0:=LF _ _ nn (by rw[<-hvv];exact hvv0);refine ha ?_;by_cases hd:0<d x0
 ·rcases Su.1 (h0 x0 VK)with h|h
  {exact(Su.1 h).elim id id};{omega}
 {exact e2 x0 VK hd}
theorem Bf.neg{B:bB->bB->Int}(h:Bf B):Bf fun v w=> -B v w:=
 ⟨fun u v w=>by rw[h.add];omega,fun t v w=>by rw[h.mul,SX],fun v w=>by rw[h.com]⟩
theorem kU.neg{P:bB->Prop}{B:bB->bB->Int}{s:Int}(h:kU P B s):kU P (fun v w=> -B v w) (-s):=by obtain⟨k,V,d,h1,h2,h3,h4⟩:=h;refine⟨k,V,fun x=> -d x,h1,fun x y hx hy=>?_,fun v hv=>?_,?_⟩;{show-B (V x) (V y)=if x=y then-d x else 0;rw[h2 x y hx hy];split<;>rfl};{obtain⟨t,ht,c,hc⟩:=h3 v hv;refine⟨t,ht,c,fun u hu=>?_⟩;rw[SX,hc u hu,<-lP];exact aj fun x _=>by rw[SX]};{rw[ct (f:=fun x=>decide (0< -d x)) (g:=fun x=>decide (d x<0)) fun x _=>Sj.2 oZ,ct (f:=fun x=>decide (-d x<0)) (g:=fun x=>decide (0<d x)) fun x _=>Sj.2 oZ];omega}
theorem kU.uniq{P:bB->Prop}{B:bB->bB->Int}(hP:tJ P)(hB:Bf B){s s':Int}(h:kU P B s)(h':kU P B s'):s=s':=by
 have key:∀{B:bB->bB->Int},Bf B->∀{k k':Nat}{V W:Nat->bB}{d d':Nat->Int},(∀x,x<k->P (V x))->(∀x y,x<k->y<k->B (V x) (V y)=if x=y then d x else 0)->(∀v,P v->∃t:Int,t≠0/\∃c:Nat->Int,∀u,P u->t*B v u=sI k fun x=>c x*B (V x) u)->
   (∀x,x<k'->P (W x))->(∀x y,x<k'->y<k'->B (W x) (W y)=if x=y then d' x else 0)->(∀v,P v->∃t:Int,t≠0/\∃c:Nat->Int,∀u,P u->t*B v u=sI k' fun x=>c x*B (W x) u)->
   cB k (fun x=>decide (0<d x))=cB k' (fun x=>decide (0<d' x)):=fun hB _ _ _ _ _ _ a1 a2 a3 b1 b2 b3=>
  T_ (kU.H6 hP hB a1 a2 b1 b2 b3) (kU.H6 hP hB b1 b2 a1 a2 a3)
 obtain⟨k,V,d,h1,h2,h3,rfl⟩:=h;obtain⟨k',V',d',h1',h2',h3',rfl⟩:=h';have e1:=key hB h1 h2 h3 h1' h2' h3';have e2:=key hB.neg (V:=V) (W:=V') (d:=fun x=> -d x) (d':=fun x=> -d' x) h1 (fun x y hx hy=>by show-B (V x) (V y)=if x=y then-d x else 0;rw[h2 x y hx hy];split<;>rfl) (fun v hv=>by
  obtain⟨t,ht,c,hc⟩:=h3 v hv;exact⟨t,ht,c,fun u hu=>by rw[SX,hc u hu,<-lP];exact aj fun x _=>by rw[SX]⟩) h1' (fun x y hx hy=>by show-B (V' x) (V' y)=if x=y then-d' x else 0;rw[h2' x y hx hy];split<;>rfl) (fun v hv=>by
  obtain⟨t,ht,c,hc⟩:=h3' v hv;exact⟨t,ht,c,fun u hu=>by rw[SX,hc u hu,<-lP];exact aj fun x _=>by rw[SX]⟩)
 rw[ct (f:=fun x=>decide (0< -d x)) (g:=fun x=>decide (d x<0)) fun x _=>Sj.2 oZ,ct (f:=fun x=>decide (0< -d' x)) (g:=fun x=>decide (d' x<0)) fun x _=>Sj.2 oZ]at e2;omega
def snoc{α:Type}(V:Nat->α)(k:Nat)(e:α):Nat->α:=fun x=>if x=k then e else V x
theorem ee{α:Type}{V:Nat->α}{k x:Nat}{e:α}(h:x<k):snoc V k e x=V x:=Rc oZ
theorem ei{α:Type}{V:Nat->α}{k:Nat}{e:α}:snoc V k e k=e:=Re rfl
theorem mh{B:bB->bB->Int}(hB:Bf B){k:Nat}{V:Nat->bB}{d:Nat->Int}{e:bB}(ho:∀x y,x<k->y<k->B (V x) (V y)=if x=y then d x else 0)(he:∀x,x<k->B (V x) e=0){ε:Int}(hε:B e e=ε):
  ∀x y,x<k+1->y<k+1->B (snoc V k e x) (snoc V k e y)=if x=y then snoc d k ε x else 0:=fun x y hx hy=>by
 by_cases h1:x=k;{subst h1;rw[ei,ei];by_cases h2:y=x;{subst h2;rw[ei,Re rfl,hε]};{rw[ee oZ,Rc (fun h=>h2 h.symm),hB.com,he y oZ]}};{rw[ee (show x<k by omega),ee (show x<k by omega)];by_cases h2:y=k;{subst h2;rw[ei,Rc h1,he x oZ]};{rw[ee oZ,ho x y oZ oZ]}}
theorem rY{k:Nat}{V:Nat->bB}{e:bB}{B:bB->bB->Int}(c:Nat->Int)(t:Int)(u:bB):(sI (k+1) fun x=>snoc c k t x*B (snoc V k e x) u)=(sI k fun x=>c x*B (V x) u)+t*B e u:=by show(sI k fun x=>snoc c k t x*B (snoc V k e x) u)+snoc c k t k*B (snoc V k e k) u=_;rw[ei,ei,aj fun x hx=>by rw[ee hx,ee hx]]
theorem gG{k:Nat}{d:Nat->Int}{ε:Int}(f:Int->Bool):cB (k+1) (fun x=>f (snoc d k ε x))=cB k (fun x=>f (d x))+if f ε then 1 else 0:=by show cB k _+(if f (snoc d k ε k)then 1 else 0)=_;rw[ei,ct fun x hx=>by rw[ee hx]]
theorem xz{P:bB->Prop}{B:bB->bB->Int}(hP:tJ P)(hB:Bf B){V:Nat->bB}{d:Nat->Int}:∀k,(∀x,x<k->P (V x))->(∀x y,x<k->y<k->B (V x) (V y)=if x=y then d x else 0)->(∀x,x<k->d x≠0)->∀v,P v->
  ∃t:Int,t≠0/\∃(c:Nat->Int)(r:bB),P r/\(∀x,x<k->B (V x) r=0)/\∀u,t*B v u=(sI k fun x=>c x*B (V x) u)+B r u
 |0,_,_,_,v,hv=>⟨1,oQ,fun _=>0,v,hv,fun x hx=>absurd hx (RG _),fun u=>by show _=0+_;omega⟩
 |k+1,h1,h2,h3,v,hv=>by
  obtain⟨t,ht,c,r,hr,ho,hs⟩:=xz hP hB k (fun x hx=>h1 x oZ) (fun x y hx hy=>h2 x y oZ oZ) (fun x hx=>h3 x oZ) v hv;have hd:=h3 k oZ;refine⟨d k*t,Uk hd ht,snoc (fun x=>d k*c x) k (B r (V k)),lc (d k) r (-B r (V k)) (V k),hP.lc hr (h1 k oZ),fun x hx=>?_,fun u=>?_⟩;{rw[hB.C8];by_cases e:x=k;{subst e;rw[h2 x x hx hx,Re rfl,hB.com];grind};{rw[ho x oZ,h2 x k hx oZ,Rc e];omega}}
  ·rw[hB.uC,show(sI (k+1) fun x=>snoc (fun x=>d k*c x) k (B r (V k)) x*B (V x) u)=(sI k fun x=>d k*c x*B (V x) u)+B r (V k)*B (V k) u by
    show(sI k fun x=>snoc (fun x=>d k*c x) k (B r (V k)) x*B (V x) u)+snoc (fun x=>d k*c x) k (B r (V k)) k*B (V k) u=_;rw[ei,aj fun x hx=>by rw[ee hx]],RO,hs u,aj (f:=fun x=>d k*c x*B (V x) u) fun x _=>RO (d k) (c x) _,bj]
   grind
theorem Jl{B:bB->bB->Int}(hB:Bf B){n:Nat}(hn:∀v w u,(∀i,i<n->v i=w i)->B v u=B w u){k:Nat}{V:Nat->bB}{d:Nat->Int}(ho:∀x y,x<k->y<k->B (V x) (V y)=if x=y then d x else 0)(hd:∀x,x<k->d x≠0):k<=n:=by
 refine Rq fun Vg=>?_
 obtain⟨a,⟨x0,VK,ha⟩,Zx⟩:=kt n ((List.range n).map fun i x=>V x i) k oX oZ;have h0:∀i,i<n->(fun i=>sI k fun x=>a x*V x i) i=(fun i=>0*V 0 i) i:=fun i hi=>by have:=Zx _ (Sb (Rm.2 hi));show(sI k fun x=>a x*V x i)=0*V 0 i;rw[Sc,<-this];exact aj fun x _=>RW _ _
 have h1:=hn _ _ (V x0) h0;rw[hB.mul,Sc,hB.O',aj (g:=fun x=>if x0=x then a x*d x else 0) fun x hx=>by
   rw[ho x x0 hx VK];by_cases e:x=x0;{subst e;rw[Re rfl,Re rfl]}
   ·rw[Rc e,Rc (fun h=>e h.symm),RF],Bg VK]at h1
 rcases Su.1 h1 with h|h
 {exact ha h};{exact hd x0 VK h}
theorem kU.ex{P:bB->Prop}{B:bB->bB->Int}(hP:tJ P)(hB:Bf B){n:Nat}(hn:∀v w u,(∀i,i<n->v i=w i)->B v u=B w u):∃s,kU P B s:=by
 refine Rq fun VT=>?_
 have grow:∀k,∃(V:Nat->bB)(d:Nat->Int),(∀x,x<k->P (V x))/\(∀x y,x<k->y<k->B (V x) (V y)=if x=y then d x else 0)/\∀x,x<k->d x≠0:=fun k=>by
  induction k with
  |zero=>exact⟨fun _ _=>0,fun _=>0,fun x hx=>absurd hx (RG _),fun x _ hx=>absurd hx (RG _),fun x hx=>absurd hx (RG _)⟩
  |succ k ih=>
   obtain⟨V,d,h1,h2,h3⟩:=ih;by_cases Vx:∀v,P v->(∀x,x<k->B (V x) v=0)->B v v=0
   ·refine absurd ⟨_,k,V,d,h1,h2,fun v hv=>?_,rfl⟩ VT
    obtain⟨t,ht,c,r,hr,ho,hs⟩:=xz hP hB k h1 h2 h3 v hv;refine⟨t,ht,c,fun u hu=>?_⟩;rw[hs u];obtain⟨t',ht',c',r',Wi,ho',hs'⟩:=xz hP hB k h1 h2 h3 u hu;have z1:B r r'=0:=by
     have a1:=Vx _ (hP.add hr Wi) fun x hx=>by rw[hB.com,hB.add,hB.com,ho x hx,hB.com,ho' x hx];rfl
     rw[hB.add,hB.com r,hB.com r',hB.add,hB.add,Vx r hr ho,Vx r' Wi ho',hB.com r' r]at a1;omega
    have z2:t'*B u r=0:=by rw[hs' r,hB.com r',z1,aX fun x hx=>by rw[ho x hx,RF]];rfl
    rw[hB.com r,(Su.1 z2).resolve_left ht',R6]
   {obtain⟨v,hv⟩:=UH.1 Vx;obtain⟨hPv,hv⟩:=Uu.1 hv;obtain⟨ho,hvv⟩:=Uu.1 hv;refine⟨snoc V k v,snoc d k (B v v),fun x hx=>?_,mh hB h2 ho rfl,fun x hx=>?_⟩;{by_cases e:x=k;{subst e;rw[ei];exact hPv};{rw[ee oZ];exact h1 x oZ}};{by_cases e:x=k;{subst e;rw[ei];exact hvv};{rw[ee oZ];exact h3 x oZ}}}
 obtain⟨V,d,-,h2,h3⟩:=grow (n+1);have:=Jl hB hn h2 h3;omega
theorem kU.map{P P':bB->Prop}{B B':bB->bB->Int}{s:Int}(h:kU P B s){φ:bB->bB}(hφ:∀v,P v->P' (φ v))(hq:∀v w,P v->P w->B' (φ v) (φ w)=B v w)
  (hs:∀v',P' v'->∃v,P v/\∀u',P' u'->B' v' u'=B' (φ v) u')(hB':Bf B'):kU P' B' s:=by
 obtain⟨k,V,d,h1,h2,h3,h4⟩:=h;refine⟨k,fun x=>φ (V x),d,fun x hx=>hφ _ (h1 x hx),fun x y hx hy=>by rw[hq _ _ (h1 x hx) (h1 y hy),h2 x y hx hy],fun v' hv'=>?_,h4⟩;obtain⟨v,hv,e⟩:=hs v' hv';obtain⟨t,ht,c,hc⟩:=h3 v hv;refine⟨t,ht,c,fun u' hu'=>?_⟩;obtain⟨u,hu,e2⟩:=hs u' hu';rw[e u' hu',hB'.com,e2 _ (hφ v hv),hB'.com,hq v u hv hu,hc u hu];refine aj fun x hx=>?_
 rw[hB'.com,e2 _ (hφ _ (h1 x hx)),hB'.com,hq _ u (h1 x hx) hu]
theorem Qu{a b:Int}(ha:0<a)(h:0<a*b):0<b:=by
 refine Rq fun hb=>?_
 have:=TW (show 0<=a by omega) (show 0<=-b by omega);rw[SX]at this;omega
def Df(x:Int):Int:=if 0<x then 1 else if x<0 then-1 else 0
theorem kU.cut{P:bB->Prop}{B:bB->bB->Int}(hP:tJ P)(hB:Bf B){e:bB}(he:P e){s:Int}(h:kU (fun v=>P v/\B v e=0) B s):kU P B (s+Df (B e e)):=by
 obtain⟨k,V,d,h1,h2,h3,rfl⟩:=h;obtain⟨ε,hε⟩:∃ε,B e e=ε:=⟨_,rfl⟩
 rw[hε];by_cases h0:ε=0
 ·subst h0
  have z:Df 0=0:=rfl;rw[z,R6];by_cases Vx:∀u,P u->B u e=0
  ·exact⟨k,V,d,fun x hx=>(h1 x hx).1,h2,fun v hv=>by
    obtain⟨t,ht,c,hc⟩:=h3 v ⟨hv,Vx v hv⟩;exact⟨t,ht,c,fun u hu=>hc u ⟨hu,Vx u hu⟩⟩,rfl⟩
  ·obtain⟨u1,hu⟩:=UH.1 Vx
   obtain⟨ZZ,hl⟩:=Uu.1 hu;obtain⟨l,YJ⟩:∃l,B u1 e=l:=⟨_,rfl⟩
   rw[YJ]at hl;obtain⟨μ,hμ⟩:∃μ,2*(l*l)=μ:=⟨_,rfl⟩
   have hμ0:0<μ:=by
    have:0<l*l:=by
     rcases Um hl with h|h
     {exact Ui h h};{exact TA h h}
    omega
   obtain⟨u0,hu0⟩:∃u0,lc (2*l) u1 (-B u1 u1) e=u0:=⟨_,rfl⟩
   have hPu0:P u0:=by rw[<-hu0];exact hP.lc ZZ he
   have b1:B u0 e=μ:=by rw[<-hu0,hB.uC,YJ,hε,<-hμ];grind
   have b2:B u0 u0=0:=by
    rw[<-hu0,hB.uC,hB.C8,hB.C8,hB.com e u1,YJ,hε]
    grind
   have b3:B e u0=μ:=by rw[hB.com,b1]
   let V':Nat->bB:=fun x=>lc μ (V x) (-B (V x) u0) e
   have v1:∀x,x<k->B (V' x) e=0:=fun x hx=>by show B (lc _ _ _ _) e=0;rw[hB.uC,(h1 x hx).2,hε];omega
   have v2:∀x,x<k->B (V' x) u0=0:=fun x hx=>by show B (lc _ _ _ _) u0=0;rw[hB.uC,b3];grind
   have v3:∀x y,x<k->y<k->B (V' x) (V' y)=if x=y then μ*μ*d x else 0:=fun x y hx hy=>by show B (V' x) (lc _ _ _ _)=_;rw[hB.C8,v1 x hx];show _*B (lc _ _ _ _) _+_=_;rw[hB.uC,hB.com e,(h1 y hy).2,h2 x y hx hy];split;{grind};{omega}
   obtain⟨fp,ZV⟩:∃f,lc 1 u0 1 e=f:=⟨_,rfl⟩
   obtain⟨fm,hfm⟩:∃f,lc 1 u0 (-1) e=f:=⟨_,rfl⟩
   have p1:B fp fp=2*μ:=by rw[<-ZV,hB.uC,hB.C8,hB.C8,b2,b1,b3,hε];omega
   have p2:B fm fm= -(2*μ):=by rw[<-hfm,hB.uC,hB.C8,hB.C8,b2,b1,b3,hε];omega
   have p3:B fp fm=0:=by rw[<-ZV,<-hfm,hB.uC,hB.C8,hB.C8,b2,b1,b3,hε];omega
   have p4:∀x,x<k->B (V' x) fp=0:=fun x hx=>by rw[<-ZV,hB.C8,v1 x hx,v2 x hx];rfl
   have p5:∀x,x<k->B (V' x) fm=0:=fun x hx=>by rw[<-hfm,hB.C8,v1 x hx,v2 x hx];rfl
   have o1:=mh hB v3 p4 p1;have o2:=mh hB o1 (e:=fm) (fun x hx=>by
    by_cases e1:x=k;{subst e1;rw[ei];exact p3}
    ·rw[ee oZ];exact p5 x oZ) p2
   refine⟨k+1+1,_,_,fun x hx=>?_,o2,fun v hv=>?_,?_⟩;{by_cases e1:x=k+1;{subst e1;rw[ei,<-hfm];exact hP.lc hPu0 he};{rw[ee oZ];by_cases e2:x=k;{subst e2;rw[ei,<-ZV];exact hP.lc hPu0 he};{rw[ee oZ];exact hP.lc (h1 x oZ).1 he}}}
   ·
    have split:∀v,P v->∃(r:bB)(a b:Int),(P r/\B r e=0)/\B r u0=0/\∀u,μ*B v u=B r u+a*B u0 u+b*B e u:=fun v hv=>by refine⟨lc 1 (lc μ v (-B v e) u0) (-B v u0) e,B v e,B v u0,⟨hP.lc (hP.lc hv hPu0) he,?_⟩,?_,fun u=>?_⟩;{rw[hB.uC,hB.uC,b1,hε];grind};{rw[hB.uC,hB.uC,b2,b3];grind};{rw[hB.uC,hB.uC];grind}
    obtain⟨r,a,b,hr,hru,hrs⟩:=split v hv;obtain⟨t,ht,c,hc⟩:=h3 r hr;refine⟨2*(μ*(t*μ)),Uk oQ (Uk oZ (Uk ht oZ)),snoc (snoc (fun x=>2*c x) k (t*μ*(a+b))) (k+1) (t*μ*(a-b)),fun u hu=>?_⟩;rw[rY,rY];obtain⟨r',a',b',Wi,hru',hrs'⟩:=split u hu;have c1:μ*B u r=B r' r:=by rw[hrs' r,hB.com u0,hru,hB.com e,hr.2];omega
    have c2:(sI k fun x=>c x*B (V x) r')=sI k fun x=>c x*B (V' x) u:=aj fun x hx=>by
     have a1:B (V' x) r'=μ*B (V x) r':=by show B (lc _ _ _ _) r'=_;rw[hB.uC,hB.com e,Wi.2];omega
     have a2:μ*B u (V' x)=B r' (V' x):=by rw[hrs' (V' x),hB.com u0,v2 x hx,hB.com e,v1 x hx];omega
     have a3:μ*B (V' x) u=μ*B (V x) r':=by rw[hB.com,a2,hB.com,a1]
     have a4:B (V' x) u=B (V x) r':=TG oZ a3;rw[a4]
    have c3:t*B r r'=sI k fun x=>c x*B (V' x) u:=by rw[hc r' Wi,c2]
    have c4:(sI k fun x=>2*c x*B (V' x) u)=2*sI k fun x=>c x*B (V' x) u:=by rw[<-bj];exact aj fun x _=>by grind
    rw[c4,<-c3,<-ZV,<-hfm,hB.uC,hB.uC,hB.com r r',<-c1,hB.com u r,show 2*(μ*(t*μ))*B v u=2*(t*μ)*(μ*B v u) by grind,hrs u]
    grind
   ·rw[gG (fun y=>decide (0<y)),gG (fun y=>decide (0<y)),gG (fun y=>decide (y<0)),gG (fun y=>decide (y<0)),
     ct (f:=fun x=>decide (0<μ*μ*d x)) (g:=fun x=>decide (0<d x)) fun x _=>Sj.2 ⟨fun h=>Qu (TA hμ0 hμ0) h,fun h=>TA (TA hμ0 hμ0) h⟩,
     ct (f:=fun x=>decide (μ*μ*d x<0)) (g:=fun x=>decide (d x<0)) fun x _=>Sj.2 ⟨fun h=>by
      have:0<μ*μ* -d x:=by rw[SX];omega
      have:=Qu (TA hμ0 hμ0) this;omega,fun h=>Int.mul_neg_of_pos_of_neg (TA hμ0 hμ0) h⟩,
     Re (show decide (0<2*μ)=true by simp;omega),Rc (show¬decide (0< -(2*μ))=true by simp;omega),Rc (show¬decide (2*μ<0)=true by simp;omega),Re (show decide (-(2*μ)<0)=true by simp;omega)]
    omega
 ·refine⟨k+1,snoc V k e,snoc d k ε,fun x hx=>?_,mh hB h2 (fun x hx=>(h1 x hx).2) hε,fun v hv=>?_,?_⟩
  {by_cases e1:x=k;{subst e1;rw[ei];exact he};{rw[ee oZ];exact(h1 x oZ).1}}
  ·have split:∀v,P v->(P (lc ε v (-B v e) e)/\B (lc ε v (-B v e) e) e=0):=fun v hv=>⟨hP.lc hv he,by rw[hB.uC,hε];grind⟩
   obtain⟨t,ht,c,hc⟩:=h3 _ (split v hv);refine⟨t*ε,Uk ht h0,snoc c k (t*B v e),fun u hu=>?_⟩;rw[rY];have a1:=hc _ (split u hu);rw[hB.C8,(split v hv).2,hB.uC]at a1;have a2:(sI k fun x=>c x*B (V x) (lc ε u (-B u e) e))=ε*sI k fun x=>c x*B (V x) u:=by
    rw[<-bj];refine aj fun x hx=>?_
    rw[hB.C8,(h1 x hx).2];grind
   rw[a2]at a1;have a3:t*(ε*B v u+ -B v e*B e u)=sI k fun x=>c x*B (V x) u:=TG h0 (by rw[<-a1];grind)
   rw[<-a3]
   grind
  {rw[gG (fun y=>decide (0<y)),gG (fun y=>decide (y<0))];unfold Df;by_cases hp:0<ε;{rw[Re (Rj hp),Re hp,Rc (show¬decide (ε<0)=true by simp;omega)];omega};{have hm:ε<0:=oZ;rw[Rc (show¬decide (0<ε)=true by simpa using hp),Rc hp,Re hm,Re (Rj hm)];omega}}
def lS:List Nat->(Nat->Int)->Int
 |[],_=>0
 |c::cs,f=>f c+lS cs f
theorem cH:∀{cs:List Nat}{f g:Nat->Int},(∀c∈cs,f c=g c)->lS cs f=lS cs g
 |[],_,_,_=>rfl
 |c::cs,f,g,h=>by show f c+lS cs f=g c+lS cs g;rw[h c oX,cH fun x hx=>h x (by simp[hx])]
theorem Gf:∀(cs:List Nat)(f g:Nat->Int),lS cs (fun c=>f c+g c)=lS cs f+lS cs g
 |[],_,_=>rfl
 |c::cs,f,g=>by show f c+g c+lS cs (fun c=>f c+g c)=f c+lS cs f+(g c+lS cs g);rw[Gf cs];omega
theorem xD(t:Int):∀(cs:List Nat)(f:Nat->Int),lS cs (fun c=>t*f c)=t*lS cs f
 |[],_=>(RF t).symm
 |c::cs,f=>by show t*f c+lS cs (fun c=>t*f c)=t*(f c+lS cs f);rw[xD t cs,Ty]
theorem rI:∀{cs:List Nat}{f:Nat->Int},(∀c∈cs,f c=0)->lS cs f=0
 |[],_,_=>rfl
 |c::cs,f,h=>by show f c+lS cs f=0;rw[h c oX,rI fun x hx=>h x (by simp[hx])];rfl
theorem rq{cs cs':List Nat}(h:cs.Perm cs')(f:Nat->Int):lS cs f=lS cs' f:=by
 induction h with
 |nil=>rfl
 |cons x _ ih=>show f x+_=f x+_;rw[ih]
 |swap x y l=>show f y+(f x+_)=f x+(f y+_);omega
 |trans _ _ h1 h2=>rw[h1,h2]
theorem bF(h k:Nat):ae h (k+4)=ae h k:=by unfold ae;omega
theorem aw{h o:Nat}(e:h/4=o/4):h=o\/h=ae o 1\/h=ae o 2\/h=ae o 3:=by unfold ae;omega
theorem aB{h i j:Nat}(hi:i<4)(hj:j<4)(hij:i≠j):ae h i≠ae h j:=by unfold ae;omega
theorem an{h j:Nat}(hj:j<4)(hj0:0<j):ae h j≠h:=by unfold ae;omega
theorem bQ(h k:Nat):ae h k%2=(h+k)%2:=by unfold ae;omega
def eta(h:Nat):Int:=if h%2=0 then 1 else-1
theorem CT(h:Nat):eta h=1\/eta h= -1:=by unfold eta;split;exact .inl rfl;exact .inr rfl
def gT(K:Nat->Bool)(x y:bB)(c:Nat):Int:=
 if K (4*c)then(x (4*c)-x (4*c+2))*(y (4*c)-y (4*c+2))else-((x (4*c+1)-x (4*c+3))*(y (4*c+1)-y (4*c+3)))
def BG(cs:List Nat)(K:Nat->Bool)(x y:bB):Int:=lS cs (gT K x y)
def PG(cs:List Nat)(K:Nat->Bool)(m:Nat->Nat)(x:bB):Prop:=∀h,h/4∈cs->K h=true->x h=x (ae (m h) 3)
def cT(K:Nat->Bool)(s:Nat->Int)(c:Nat):Int:=if s c=1 then(if K (4*c)then 1 else 0)else(if K (4*c)then 0 else-1)
def fH(cs:List Nat)(K:Nat->Bool)(m:Nat->Nat)(s:Nat->Int)(n:Int):Prop:=∃t,kU (PG cs K m) (BG cs K) t/\t-lS cs (cT K s)=n
structure DT(cs:List Nat)(K:Nat->Bool)(m:Nat->Nat):Prop where
 alt:∀h,h/4∈cs->K (ae h 1)= !K h
 cF:∀h,h/4∈cs->K (ae (m h) 3)=K h
theorem Nz(K:Nat->Bool)(u v w:bB)(c:Nat):gT K (fun i=>u i+v i) w c=gT K u w c+gT K v w c:=by unfold gT;split<;>grind
theorem MB(K:Nat->Bool)(t:Int)(v w:bB)(c:Nat):gT K (fun i=>t*v i) w c=t*gT K v w c:=by unfold gT;split<;>grind
theorem Ca(K:Nat->Bool)(v w:bB)(c:Nat):gT K v w c=gT K w v c:=by unfold gT;split<;>grind
theorem kR(cs:List Nat)(K:Nat->Bool):Bf (BG cs K):=
 ⟨fun u v w=>by unfold BG;rw[<-Gf];exact cH fun c _=>Nz K u v w c,fun t v w=>by unfold BG;rw[<-xD];exact cH fun c _=>MB K t v w c,fun v w=>by unfold BG;exact cH fun c _=>Ca K v w c⟩
theorem sK(cs:List Nat)(K:Nat->Bool)(m:Nat->Nat):tJ (PG cs K m):=
 ⟨fun hu hv h hc hk=>by show _+_=_+_;rw[hu h hc hk,hv h hc hk],fun t v hv h hc hk=>by show _*_=_*_;rw[hv h hc hk]⟩
theorem jX{K:Nat->Bool}{x x' y:bB}{c:Nat}(h:∀h,h/4=c->x h=x' h):gT K x y c=gT K x' y c:=by unfold gT;rw[h _ oZ,h (4*c+2) oZ,h (4*c+1) oZ,h (4*c+3) oZ]
theorem pG{K:Nat->Bool}{x x' y y':bB}{c:Nat}(h:∀h,h/4=c->x h=x' h)(h2:∀h,h/4=c->y h=y' h):gT K x y c=gT K x' y' c:=by rw[jX h,Ca,jX h2,Ca]
theorem fH.ex(cs:List Nat)(K:Nat->Bool)(m:Nat->Nat)(s:Nat->Int):∃n,fH cs K m s n:=by
 have hb:∃n,∀c∈cs,4*c+4<=n:=by
  induction cs with
  |nil=>exact⟨0,fun c hc=>by simp at hc⟩
  |cons c cs ih=>
   obtain⟨n,hn⟩:=ih;refine⟨n+(4*c+4),fun x hx=>?_⟩;rcases RV.1 hx with rfl|hx
   {omega};{have:=hn x hx;omega}
 obtain⟨n,hn⟩:=hb;obtain⟨t,ht⟩:=kU.ex (sK cs K m) (kR cs K) (n:=n) fun v w u hvw=>cH fun c hc=>jX fun h hh=>hvw h (by have:=hn c hc;omega)
 exact⟨_,t,ht,rfl⟩
theorem fH.uniq{cs:List Nat}{K:Nat->Bool}{m:Nat->Nat}{s:Nat->Int}{n n':Int}(h:fH cs K m s n)(h':fH cs K m s n'):n=n':=by obtain⟨t,ht,rfl⟩:=h;obtain⟨t',ht',rfl⟩:=h';rw[ht.uniq (sK cs K m) (kR cs K) ht']
theorem fH.back{cs cs':List Nat}{K K':Nat->Bool}{m m':Nat->Nat}{s s':Nat->Int}(h:∀n,fH cs' K' m' s' n->fH cs K m s n){n:Int}(hn:fH cs K m s n):fH cs' K' m' s' n:=by obtain⟨n',hn'⟩:=fH.ex cs' K' m' s';rw[hn.uniq (h n' hn')];exact hn'
theorem ik{K:Nat->Bool}{c h:Nat}(ha:∀h,h/4=c->K (ae h 1)= !K h)(hc:h/4=c)(hk:K h=true)(x y:bB):gT K x y c=eta h*((x h-x (ae h 2))*(y h-y (ae h 2))):=by
 have e0:K (4*c+1)= !K (4*c):=by have:=ha (4*c) oZ;rwa [show ae (4*c) 1=4*c+1 by unfold ae;omega]at this
 have e1:K (4*c+2)= !K (4*c+1):=by have:=ha (4*c+1) oZ;rwa [show ae (4*c+1) 1=4*c+2 by unfold ae;omega]at this
 have e2:K (4*c+3)= !K (4*c+2):=by have:=ha (4*c+2) oZ;rwa [show ae (4*c+2) 1=4*c+3 by unfold ae;omega]at this
 have h4:h=4*c\/h=4*c+1\/h=4*c+2\/h=4*c+3:=oZ;unfold gT eta;rcases h4 with rfl|rfl|rfl|rfl
 {rw[Re hk,Re oZ,show ae (4*c) 2=4*c+2 by unfold ae;omega,SH]};{rw[hk]at e0;rw[Rc (by cases hh:K (4*c)<;>simp_all),Rc oZ,show ae (4*c+1) 2=4*c+3 by unfold ae;omega];grind};{rw[hk]at e1;rw[Re (by cases hh:K (4*c)<;>simp_all),Re oZ,show ae (4*c+2) 2=4*c by unfold ae;omega];grind};{rw[hk]at e2;rw[Rc (by cases hh:K (4*c)<;>simp_all),Rc oZ,show ae (4*c+3) 2=4*c+1 by unfold ae;omega];grind}
theorem pj{K:Nat->Bool}{c h:Nat}(ha:∀h,h/4=c->K (ae h 1)= !K h)(hc:h/4=c):K (4*c)=if h%2=0 then K h else !K h:=by
 have e0:K (4*c+1)= !K (4*c):=by have:=ha (4*c) oZ;rwa [show ae (4*c) 1=4*c+1 by unfold ae;omega]at this
 have e1:K (4*c+2)= !K (4*c+1):=by have:=ha (4*c+1) oZ;rwa [show ae (4*c+1) 1=4*c+2 by unfold ae;omega]at this
 have e2:K (4*c+3)= !K (4*c+2):=by have:=ha (4*c+2) oZ;rwa [show ae (4*c+2) 1=4*c+3 by unfold ae;omega]at this
 have h4:h=4*c\/h=4*c+1\/h=4*c+2\/h=4*c+3:=oZ;rcases h4 with rfl|rfl|rfl|rfl
 {rw[Re oZ]};{rw[Rc oZ,e0,Sv]};{rw[Re oZ,e1,e0,Sv]};{rw[Rc oZ,e2,e1,e0,Sv,Sv]}
section
variable{cs:List Nat}{c o u v:Nat}{K:Nat->Bool}{m m':Nat->Nat}{s:Nat->Int}
def ind(o:Nat):bB:=fun h=>if h=o then 1 else 0
theorem CQ(hc:c∉cs)(hK:DT (c::cs) K m)(ho:o/4=c)(h1:m o=ae o 1)(h2:m (ae o 1)=o)(ha:m (ae o 2)=u)(hb:m (ae o 3)=v)(hu:u/4∈cs)(hv:v/4∈cs)
  (mu:m u=ae o 2)(mv:m v=ae o 3)(mu':m' u=v)(mv':m' v=u)(hm:∀h,h/4∈cs->h≠u->h≠v->m' h=m h/\m h/4≠c)(hs:s c=eta o){n:Int}(h:fH cs K m' s n):fH (c::cs) K m s n:=by
 obtain⟨t,ht,rfl⟩:=h;have alt:∀h,h/4=c->K (ae h 1)= !K h:=fun h hh=>hK.alt h (by rw[hh];simp)
 have huv:u≠v:=fun e=>aB (h:=o) (i:=2) (j:=3) oQ oQ oQ (by rw[<-mu,<-mv,e])
 have uc:u/4≠c:=fun e=>hc (by rw[<-e];exact hu)
 have vc:v/4≠c:=fun e=>hc (by rw[<-e];exact hv)
 let φ:bB->bB:=fun x h=>if h/4=c then(if h=o\/h=ae o 2 then x v else x u)else x h
 have fo:∀x h,h/4≠c->φ x h=x h:=fun x h hh=>Rc hh
 have f0:∀x,φ x o=x v:=fun x=>by show(if _ then(if _ then _ else _)else _)=_;rw[Re ho,Re (.inl rfl)]
 have f2:∀x,φ x (ae o 2)=x v:=fun x=>by show(if _ then(if _ then _ else _)else _)=_;rw[Re (by rw[af,ho]),Re (.inr rfl)]
 have f1:∀x,φ x (ae o 1)=x u:=fun x=>by show(if _ then(if _ then _ else _)else _)=_;rw[Re (by rw[af,ho]),Rc];rintro(e|e);{exact an oQ oQ e};{exact aB oQ oQ oQ e}
 have f3:∀x,φ x (ae o 3)=x u:=fun x=>by show(if _ then(if _ then _ else _)else _)=_;rw[Re (by rw[af,ho]),Rc];rintro(e|e);{exact an oQ oQ e};{exact aB oQ oQ oQ e}
 have t3:ae (ae o 2) 3=ae o 1:=by rw[ar];exact bF o 1
 have t4:ae (ae o 3) 3=ae o 2:=by rw[ar];exact bF o 2
 have t1:ae (ae o 1) 3=o:=by rw[ar];exact bC o
 have hφ:∀x,PG cs K m' x->PG (c::cs) K m (φ x):=fun x hx h hh hk=>by
  have hx1:K u=true->x u=x (ae v 3):=fun k=>by have:=hx u hu k;rwa [mu']at this
  have hx2:K v=true->x v=x (ae u 3):=fun k=>by have:=hx v hv k;rwa [mv']at this
  by_cases e:h/4=c
  ·rcases aw (h:=h) (o:=o) (by rw[e,ho])with rfl|rfl|rfl|rfl
   {rw[h1,t1]};{rw[h2,f1,f3]};{rw[ha,f2,fo _ _ (by rw[af];exact uc)];refine hx2 ?_;have:=hK.cF v (by simp[hv]);rw[mv,t4]at this;rw[<-this];exact hk};{rw[hb,f3,fo _ _ (by rw[af];exact vc)];refine hx1 ?_;have:=hK.cF u (by simp[hu]);rw[mu,t3]at this;have k2:=hK.cF (ae o 1) (by rw[af,ho];simp);rw[h2]at k2;rw[<-this,<-k2];exact hk}
  {have Vn:h/4∈cs:=(RV.1 hh).resolve_left e;rw[fo _ _ e];by_cases e1:h=u;{subst e1;rw[mu,t3,f1]};{by_cases e2:h=v;{subst e2;rw[mv,t4,f2]};{obtain⟨g1,g2⟩:=hm h Vn e1 e2;rw[fo _ _ (by rw[af];exact g2),<-g1];exact hx h Vn hk}}}
 have low:∀x,PG (c::cs) K m x->(K o=true->x o=x (ae o 2))->PG cs K m' x:=fun x hx _ h hh hk=>by
  have VK:=hx h (by simp[hh]) hk;by_cases e1:h=u
  ·subst e1
   rw[mu,t3]at VK;have k2:K (ae o 1)=true:=by have:=hK.cF h (by simp[hh]);rw[mu,t3]at this;rw[this];exact hk
   have a1:=hx (ae o 1) (by rw[af,ho];simp) k2;rw[h2]at a1;have k3:K (ae o 3)=true:=by have:=hK.cF (ae o 1) (by rw[af,ho];simp);rw[h2]at this;rw[this];exact k2
   have a2:=hx (ae o 3) (by rw[af,ho];simp) k3;rw[hb]at a2;rw[mu',VK,a1,a2]
  ·by_cases e2:h=v
   ·subst e2
    rw[mv,t4]at VK;have k2:K (ae o 2)=true:=by have:=hK.cF h (by simp[hh]);rw[mv,t4]at this;rw[this];exact hk
    have a1:=hx (ae o 2) (by rw[af,ho];simp) k2;rw[ha]at a1;rw[mv',VK,a1]
   {rw[(hm h hh e1 e2).1];exact VK}
 have VE:∀x y,BG cs K (φ x) (φ y)=BG cs K x y:=fun x y=>cH fun d hd=>pG (fun h hh=>fo _ _ (by rw[hh];exact fun e=>hc (e▸hd))) fun h hh=>fo _ _ (by rw[hh];exact fun e=>hc (e▸hd))
 have hcs1:∀x y,BG cs K (φ x) y=BG cs K x y:=fun x y=>cH fun d hd=>jX fun h hh=>fo _ _ (by rw[hh];exact fun e=>hc (e▸hd))
 have VC:∀x y,BG (c::cs) K x y=gT K x y c+BG cs K x y:=fun _ _=>rfl
 have kb:=pj alt ho;by_cases hw:K o=true
 ·have ge:=ik alt ho hw
  have Zx:∀x,BG cs K x (ind o)=0:=fun x=>rI fun d hd=>by
   have z:∀h,h/4=d->ind o h=0:=fun h hh=>Rc (fun e=>hc (by rw[<-ho,<-e,hh];exact hd))
   unfold gT;rw[z _ oZ,z (4*d+2) oZ,z (4*d+1) oZ,z (4*d+3) oZ];simp
  have i0:ind o o=1:=Re rfl;have i2:ind o (ae o 2)=0:=Rc (an oQ oQ);have YV:∀x,BG (c::cs) K x (ind o)=eta o*(x o-x (ae o 2)):=fun x=>by rw[VC,Zx,ge,i0,i2];grind
  have hPe:PG (c::cs) K m (ind o):=fun h hh hk=>by
   have:ae (m h) 3=o↔h=o:=by
    constructor
    ·intro e
     have hmo:m h=ae o 1:=dC (k:=3) (by rw[e,t1]);by_cases e4:h/4=c
     ·rcases aw (h:=h) (o:=o) (by rw[e4,ho])with rfl|rfl|rfl|rfl
      {rfl};{rw[h2]at hmo;exact absurd hmo.symm (an oQ oQ)};{rw[ha]at hmo;exact absurd (by rw[hmo,af,ho]) uc};{rw[hb]at hmo;exact absurd (by rw[hmo,af,ho]) vc}
     {have Vn:h/4∈cs:=(RV.1 hh).resolve_left e4;by_cases e1:h=u;{subst e1;rw[mu]at hmo;exact absurd hmo (aB oQ oQ oQ)};{by_cases e2:h=v;{subst e2;rw[mv]at hmo;exact absurd hmo (aB oQ oQ oQ)};{exact absurd (by rw[hmo,af,ho]) (hm h Vn e1 e2).2}}}
    {rintro rfl;rw[h1,t1]}
   show(if _ then _ else _)=if _ then _ else _;by_cases e:h=o;{rw[Re e,Re (this.2 e)]};{rw[Rc e,Rc fun e2=>e (this.1 e2)]}
  have hbee:BG (c::cs) K (ind o) (ind o)=eta o:=by rw[YV,i0,i2];omega
  have key:kU (fun x=>PG (c::cs) K m x/\BG (c::cs) K x (ind o)=0) (BG (c::cs) K) t:=by
   have eq0:∀x,BG (c::cs) K x (ind o)=0↔x o=x (ae o 2):=fun x=>by rw[YV];rcases CT o with e|e<;>rw[e]<;>omega
   refine ht.map (φ:=φ) (fun x hx=>⟨hφ x hx,(eq0 _).2 (by rw[f0,f2])⟩) (fun x y _ _=>by rw[VC,ge,f0,f2,VE];grind) (fun x hx=>?_) (kR _ _);have:=(eq0 x).1 hx.2;refine⟨x,low x hx.1 fun _=>this,fun y hy=>?_⟩;rw[VC,VC,hcs1,ge,ge,f0,f2,this]
   grind
  have:=key.cut (sK _ _ _) (kR _ _) hPe;rw[hbee]at this;refine⟨_,this,?_⟩;show _-(cT K s c+lS cs (cT K s))=_;have e:cT K s c=Df (eta o):=by unfold cT Df;rw[hs,kb,hw];unfold eta;by_cases h2:o%2=0;{rw[Re h2];simp[h2]};{rw[Rc h2];simp[h2]}
  rw[e];omega
 ·have Z':K (ae o 1)=true:=by rw[alt o ho];simpa using hw
  have ge:=ik alt (h:=ae o 1) (by rw[af,ho]) Z';have e13:ae (ae o 1) 2=ae o 3:=ar _ _ _;have z:∀x y,PG (c::cs) K m x->gT K x y c=0:=fun x y hx=>by
   have:=hx (ae o 1) (by rw[af,ho];simp) Z';rw[h2]at this;rw[ge,e13,this]
   grind
  refine⟨t,ht.map (φ:=φ) hφ (fun x y hx _=>by rw[VC,z _ _ (hφ x hx),VE];omega) (fun x hx=>⟨x,low x hx fun k=>absurd k hw,fun y hy=>?_⟩) (kR _ _),?_⟩;{rw[VC,VC,hcs1,z _ _ hx,z _ _ (hφ x (low x hx fun k=>absurd k hw))]}
  ·show _-(cT K s c+lS cs (cT K s))=_
   have e:cT K s c=0:=by
    have hwf:K o=false:=by simpa using hw
    unfold cT;rw[hs,kb,hwf];unfold eta;by_cases h2:o%2=0;{rw[Re h2];simp[h2]};{rw[Rc h2];simp[h2]}
   rw[e];omega
end

def vS(n:Nat)(c:Nat->Int)(V:Nat->Nat->Int):Nat->Int:=fun i=>sI n fun x=>c x*V x i
def QF(n:Nat)(q:(Nat->Int)->Int):Prop:=∀v w:Nat->Int,(∀i,i<n->v i=w i)->q v=q w
def NI(n:Nat)(q:(Nat->Int)->Int)(p m:Nat):Prop:=∃(V:Nat->Nat->Int)(d:Nat->Int),
 (∀c:Nat->Int,(∀i,i<n->vS n c V i=0)->∀x,x<n->c x=0)/\(∀c,q (vS n c V)=sI n fun x=>c x*c x*d x)/\cB n (fun x=>decide (0<d x))=p/\cB n (fun x=>decide (d x<0))=m
theorem BE{n:Nat}{A:Mx}{p m:Nat}(h:OA n A p m):NI n (fun v=>fL n A v v) p m:=by obtain⟨V,d,hV,h1,h2⟩:=h;exact⟨V,d,hV.ind,fun c=>hV.sq c,h1,h2⟩
theorem xr:∀m,cB m (fun _=>true)=m
 |0=>rfl
 |m+1=>by rw[cB,xr m,Re rfl]
theorem Dm:∀m,cB m (fun _=>false)=0
 |0=>rfl
 |m+1=>by rw[cB,Dm m,Rc oQ]
def Nm(φ:(Nat->Int)->Nat->Int):Prop:=(∀v w i,φ (fun j=>v j+w j) i=φ v i+φ w i)/\∀(t:Int) v i,φ (fun j=>t*v j) i=t*φ v i
theorem Nm.sum{φ:(Nat->Int)->Nat->Int}(h:Nm φ):∀(n:Nat)(c:Nat->Int)(V:Nat->Nat->Int)(i:Nat),φ (vS n c V) i=vS n c (fun x=>φ (V x)) i
 |0,c,V,i=>by have:=h.2 0 (vS 0 c V) i;rw[Sc]at this;rw[show vS 0 c V=fun j=>0*vS 0 c V j from funext fun j=>by rw[Sc];rfl];exact this
 |n+1,c,V,i=>by
  have e:vS (n+1) c V=fun j=>vS n c V j+(fun k=>c n*V n k) j:=rfl
  rw[e,h.1,h.sum n c V i,h.2];rfl
theorem NI.hyp{n m:Nat}{q q':(Nat->Int)->Int}{p r:Nat}(h:NI n q p r){φ:(Nat->Int)->Nat->Int}(hl:Nm φ)(hi:∀v:Nat->Int,(∀i,i<n+2*m->φ v i=0)->∀i,i<n+2*m->v i=0)
  (hq:QF n q)(hq':QF (n+2*m) q'){k:Int}(hk:0<k)(hv:∀v,q' (φ v)=q v+k*sI m fun g=>v (n+g)*v (n+m+g)):NI (n+2*m) q' (p+m) (r+m):=by
 obtain⟨V,d,vi,vs,rfl,rfl⟩:=h
 let U:Nat->Nat->Int:=fun x i=>if x<n then(if i<n then V x i else 0)else if x<n+m then(if i=x\/i=x+m then 1 else 0)else if i=x then-1 else if i+m=x then 1 else 0
 have hU:∀c,(∀i,i<n->vS (n+2*m) c U i=vS n c V i)/\(∀g,g<m->vS (n+2*m) c U (n+g)=c (n+g)+c (n+m+g))/\∀g,g<m->vS (n+2*m) c U (n+m+g)=c (n+g)-c (n+m+g):=fun c=>by
  have parts:∀i,vS (n+2*m) c U i=(sI n fun x=>c x*U x i)+(sI m fun g=>c (n+g)*U (n+g) i)+sI m fun g=>c (n+m+g)*U (n+m+g) i:=fun i=>by unfold vS;rw[show n+2*m=n+m+m by omega,mU,mU]
  have u1:∀x i,x<n->U x i=if i<n then V x i else 0:=fun x i hx=>Re hx
  have u2:∀g i,g<m->U (n+g) i=if i=n+g\/i=n+g+m then 1 else 0:=fun g i hg=>by show(if _ then _ else if _ then _ else _)=_;rw[Rc oZ,Re oZ]
  have u3:∀g i,U (n+m+g) i=if i=n+m+g then-1 else if i+m=n+m+g then 1 else 0:=fun g i=>by show(if _ then _ else if _ then _ else _)=_;rw[Rc oZ,Rc oZ]
  refine⟨fun i hi=>?_,fun g hg=>?_,fun g hg=>?_⟩;{rw[parts,aX (n:=m) (f:=fun g=>c (n+g)*U (n+g) i) fun g hg=>by rw[u2 g i hg,Rc oZ,RF],aX (n:=m) fun g hg=>by rw[u3,Rc oZ,Rc oZ,RF],R6,R6];exact aj fun x hx=>by rw[u1 x i hx,Re hi]}
  ·rw[parts,aX (n:=n) fun x hx=>by rw[u1 x _ hx,Rc oZ,RF],UO,cI (k:=g) (fun g'=>c (n+g')*U (n+g') (n+g)) hg fun j hj Vh=>by rw[u2 j _ hj,Rc oZ,RF],
    cI (k:=g) _ hg fun j hj Vh=>by rw[u3,Rc oZ,Rc oZ,RF],u2 g _ hg,Re (.inl rfl),u3,Rc oZ,Re oZ,Uo,Uo]
  ·rw[parts,aX (n:=n) fun x hx=>by rw[u1 x _ hx,Rc oZ,RF],UO,cI (k:=g) (fun g'=>c (n+g')*U (n+g') (n+m+g)) hg fun j hj Vh=>by rw[u2 j _ hj,Rc oZ,RF],
    cI (k:=g) _ hg fun j hj Vh=>by rw[u3,Rc oZ,Rc oZ,RF],u2 g _ hg,Re (.inr oZ),u3,Re rfl,Uo]
   omega
 let D:Nat->Int:=fun x=>if x<n then d x else if x<n+m then k else-k
 refine⟨fun x=>φ (U x),D,fun c hc=>?_,fun c=>?_,?_,?_⟩
 ·have hz:=hi (vS (n+2*m) c U) fun i hi'=>by rw[hl.sum];exact hc i hi'
  obtain⟨a1,a2,a3⟩:=hU c;have z1:=vi c fun i hi'=>by rw[<-a1 i hi'];exact hz i oZ
  intro x hx;by_cases h1:x<n;{exact z1 x h1};{by_cases h2:x<n+m;{have b2:=a2 (x-n) oZ;have b3:=a3 (x-n) oZ;rw[hz _ oZ,show n+(x-n)=x by omega]at b2;rw[hz _ oZ,show n+(x-n)=x by omega]at b3;omega};{have b2:=a2 (x-n-m) oZ;have b3:=a3 (x-n-m) oZ;rw[hz _ oZ,show n+m+(x-n-m)=x by omega]at b2;rw[hz _ oZ,show n+m+(x-n-m)=x by omega]at b3;omega}}
 ·rw[hq' (vS (n+2*m) c fun x=>φ (U x)) (φ (vS (n+2*m) c U)) fun i _=>(hl.sum _ c U i).symm,hv]
  obtain⟨a1,a2,a3⟩:=hU c;rw[hq _ _ a1,vs c,show n+2*m=n+m+m by omega,mU,mU,<-bj];have d1:(sI n fun x=>c x*c x*D x)=sI n fun x=>c x*c x*d x:=aj fun x hx=>by rw[show D x=d x from Re hx]
  rw[d1,Int.add_assoc,<-dX];congr 1;refine aj fun g hg=>?_
  rw[show D (n+g)=k by show(if _ then _ else if _ then _ else _)=_;rw[Rc oZ,Re oZ],show D (n+m+g)= -k by show(if _ then _ else if _ then _ else _)=_;rw[Rc oZ,Rc oZ]];have b2:=a2 g hg;have b3:=a3 g hg;rw[show n+2*m=n+m+m by omega]at b2 b3;rw[b2,b3]
  grind
 ·rw[show n+2*m=n+m+m by omega,ua,ua,ct (n:=n) (g:=fun x=>decide (0<d x)) fun x hx=>by rw[show D x=d x from Re hx],
   ct (n:=m) (f:=fun g=>decide (0<D (n+g))) (g:=fun _=>true) fun g hg=>by rw[show D (n+g)=k by show(if _ then _ else if _ then _ else _)=_;rw[Rc oZ,Re oZ]];exact Rj hk,
   ct (n:=m) (f:=fun g=>decide (0<D (n+m+g))) (g:=fun _=>false) fun g hg=>by rw[show D (n+m+g)= -k by show(if _ then _ else if _ then _ else _)=_;rw[Rc oZ,Rc oZ]];exact Rl oZ,xr,Dm]
  omega
 ·rw[show n+2*m=n+m+m by omega,ua,ua,ct (n:=n) (g:=fun x=>decide (d x<0)) fun x hx=>by rw[show D x=d x from Re hx],
   ct (n:=m) (f:=fun g=>decide (D (n+g)<0)) (g:=fun _=>false) fun g hg=>by rw[show D (n+g)=k by show(if _ then _ else if _ then _ else _)=_;rw[Rc oZ,Re oZ]];exact Rl oZ,
   ct (n:=m) (f:=fun g=>decide (D (n+m+g)<0)) (g:=fun _=>true) fun g hg=>by rw[show D (n+m+g)= -k by show(if _ then _ else if _ then _ else _)=_;rw[Rc oZ,Rc oZ]];exact Rj oZ,xr,Dm]
  omega
def yt(z:Int):Int:=if z<0 then-1 else 1
def BX(l:Nat->Int)(h:Nat)(c:Int):Nat->Int:=fun j=>if j=h then l j+c else l j
theorem Hm(l:Nat->Int)(h k:Nat)(c d:Int):BX (BX l h c) k d=BX (BX l k d) h c:=by funext j;unfold BX;by_cases h1:j=h<;>by_cases h2:j=k<;>simp only[h1,h2,if_true,UG]<;>(try split)<;>(try split)<;>omega
def qh:List Int->(Nat->Int)->(Nat->Int)->Int
 |[],_,_=>0
 |z::w,x,l=> -yt z*(x 0*x 0)+2*(x 0*l z.natAbs)+qh w (fun k=>x (k+1)) (BX l (z.natAbs+1) (x 0))
theorem ko(z:Int)(w:List Int)(x l:Nat->Int):qh (z::w) x l= -yt z*(x 0*x 0)+2*(x 0*l z.natAbs)+qh w (fun k=>x (k+1)) (BX l (z.natAbs+1) (x 0)):=rfl
def sS:List Int->(Nat->Int)->Nat->Int
 |[],_,_=>0
 |z::w,x,h=>(if z.natAbs=h then x 0 else 0)+sS w (fun k=>x (k+1)) h
theorem Ln:∀(w:List Int)(x l:Nat->Int)(h:Nat)(c:Int),qh w x (BX l h c)=qh w x l+2*(c*sS w x h)
 |[],x,l,h,c=>by show(0:Int)=0+2*(c*0);omega
 |z::w,x,l,h,c=>by
  rw[ko,ko,Hm,Ln w];show _=_+2*(c*((if z.natAbs=h then x 0 else 0)+sS w (fun k=>x (k+1)) h));have e:BX l h c z.natAbs=l z.natAbs+if z.natAbs=h then c else 0:=by unfold BX;split<;>omega
  rw[e];by_cases e:z.natAbs=h;{rw[Re e,Re e];grind};{rw[Rc e,Rc e];grind}
theorem zh:∀{w:List Int}{x x' l l':Nat->Int},(∀k,k<w.length->x k=x' k)->(∀z∈w,l z.natAbs=l' z.natAbs)->qh w x l=qh w x' l'
 |[],_,_,_,_,_,_=>rfl
 |z::w,x,x',l,l',hx,hl=>by
  have h0:=hx 0 oX;rw[ko,ko,h0,hl z oX,zh (w:=w) (x:=fun k=>x (k+1)) (x':=fun k=>x' (k+1)) (l:=BX l (z.natAbs+1) (x' 0)) (l':=BX l' (z.natAbs+1) (x' 0)) (fun k hk=>hx (k+1) qj) fun y hy=>by
   have:=hl y (by simp[hy]);unfold BX;split<;>omega]
theorem Da:∀{w:List Int}{x:Nat->Int}(h:Nat),(∀k,k<w.length->x k=0)->sS w x h=0
 |[],_,_,_=>rfl
 |z::w,x,h,hx=>by show(if _ then _ else _)+_=_;rw[hx 0 oX,Da (w:=w) (x:=fun k=>x (k+1)) h fun k hk=>hx (k+1) qj];split<;>rfl
theorem GW:∀(w:List Int)(x y:Nat->Int)(h:Nat),sS w (fun k=>x k+y k) h=sS w x h+sS w y h
 |[],_,_,_=>rfl
 |z::w,x,y,h=>by show(if z.natAbs=h then x 0+y 0 else 0)+sS w (fun k=>x (k+1)+y (k+1)) h=((if z.natAbs=h then x 0 else 0)+sS w (fun k=>x (k+1)) h)+((if z.natAbs=h then y 0 else 0)+sS w (fun k=>y (k+1)) h);rw[GW w (fun k=>x (k+1)) (fun k=>y (k+1)) h];split<;>omega
theorem GA:∀(w:List Int)(t:Int)(x:Nat->Int)(h:Nat),sS w (fun k=>t*x k) h=t*sS w x h
 |[],t,_,_=>(RF t).symm
 |z::w,t,x,h=>by show(if _ then _ else _)+sS w (fun k=>t*x (k+1)) h=t*((if _ then _ else _)+sS w (fun k=>x (k+1)) h);rw[GA w t (fun k=>x (k+1)) h,Ty];split;{rfl};{rw[RF]}
theorem Dj{z:Int}(hz:z≠0):∀(w:List Int)(x l:Nat->Int),qh (w++[z]) x l=qh w x l+(-yt z*(x w.length*x w.length)+2*(x w.length*(l z.natAbs+sS w x (z.natAbs-1))))
 |[],x,l=>by show-yt z*(x 0*x 0)+2*(x 0*l z.natAbs)+0=0+(-yt z*(x 0*x 0)+2*(x 0*(l z.natAbs+0)));rw[R6 (l z.natAbs)];omega
 |y::w,x,l=>by
  rw[List.cons_append,ko,ko,Dj hz w];show _=_+(-yt z*(x (w.length+1)*x (w.length+1))+2*(x (w.length+1)*(l z.natAbs+((if y.natAbs=z.natAbs-1 then x 0 else 0)+sS w (fun k=>x (k+1)) (z.natAbs-1)))));have e:BX l (y.natAbs+1) (x 0) z.natAbs=l z.natAbs+if y.natAbs=z.natAbs-1 then x 0 else 0:=by unfold BX;by_cases h:z.natAbs=y.natAbs+1;{rw[Re h,Re oZ]};{rw[Rc h,Rc oZ,R6]}
  rw[e]
  grind
def PN(n:Nat)(w:List Int):Prop:=∀z∈w,1<=z.natAbs/\z.natAbs<n
def lB(n N:Nat)(v:Nat->Int):Nat->Int:=fun h=>if 1<=h/\h<n then v (N+h-1)else 0
theorem Ld{n N h:Nat}(v:Nat->Int)(h1:1<=h)(h2:h<n):lB n N v h=v (N+h-1):=Re ⟨h1,h2⟩
def qB(n:Nat)(w:List Int)(v:Nat->Int):Int:=qh w v (lB n w.length v)
theorem NV(n:Nat)(w:List Int):QF (w.length+(n-1)) (qB n w):=fun v v' h=>by
 refine zh (fun k hk=>h k oZ) fun z _=>?_
 unfold lB;split;{exact h _ oZ};{rfl}
def KV(n:Nat)(w:List Int)(s:Int):Prop:=∃p r,NI (w.length+(n-1)) (qB n w) p r/\(p:Int)-r=s
theorem BL{n:Nat}{q:bB->Int}{B:bB->bB->Int}{p r:Nat}(hB:Bf B)(hn:∀v w u,(∀i,i<n->v i=w i)->B v u=B w u)(hq:∀v,q v=B v v)(h:NI n q p r):kU (fun _=>True) B ((p:Int)-r):=by
 obtain⟨V,d,vi,vs,rfl,rfl⟩:=h;have hsq:∀c,B (vS n c V) (vS n c V)=sI n fun x=>c x*c x*d x:=fun c=>by rw[<-hq,vs c]
 have one:∀x,x<n->∀t:Int,B (fun i=>t*V x i) (fun i=>t*V x i)=t*t*d x:=fun x hx t=>by
  have:=hsq fun y=>if y=x then t else 0
  rw[cI (k:=x) (fun y=>(if y=x then t else 0)*(if y=x then t else 0)*d y) hx fun j _ hj=>by rw[Rc hj];simp,Re rfl]at this;rw[<-this];have e:(fun i=>t*V x i)=vS n (fun y=>if y=x then t else 0) V:=funext fun i=>by unfold vS;dsimp only;rw[cI (k:=x) (fun j=>(if j=x then t else 0)*V j i) hx fun j _ hj=>by rw[Rc hj,Sc],Re rfl]
  rw[e]
 have diag:∀x,x<n->B (V x) (V x)=d x:=fun x hx=>by have:=one x hx 1;simp only[SH]at this;exact this
 have off:∀x y,x<n->y<n->x≠y->B (V x) (V y)=0:=fun x y hx hy Vh=>by
  have h1:=hsq fun z=>if z=x then 1 else if z=y then 1 else 0
  have e:vS n (fun z=>if z=x then 1 else if z=y then 1 else 0) V=fun i=>V x i+V y i:=funext fun i=>by unfold vS;dsimp only;rw[mO (p:=x) (q:=y) (fun j=>(if j=x then 1 else if j=y then 1 else 0)*V j i) hx hy Vh fun j _ h1 h2=>by rw[Rc h1,Rc h2,Sc],Re rfl,Rc (fun h=>Vh h.symm),Re rfl,SH,SH]
  rw[e,mO (p:=x) (q:=y) _ hx hy Vh fun j _ h1 h2=>by rw[Rc h1,Rc h2];simp,Re rfl,Rc (fun h=>Vh h.symm),Re rfl,hB.add,hB.com,hB.add,hB.com (V y) (fun i=>V x i+V y i),hB.add,diag x hx,diag y hy,hB.com (V y) (V x)]at h1;omega
 refine⟨n,V,d,fun _ _=>trivial,fun x y hx hy=>?_,fun v _=>?_,rfl⟩;{by_cases e:x=y;{subst e;rw[Re rfl,diag x hx]};{rw[Rc e,off x y hx hy e]}}
 ·obtain⟨c,⟨x0,VK,hc0⟩,Zx⟩:=kt n ((List.range n).map fun i x=>if x<n then V x i else v i) (n+1) oX oZ
  have hs:∀i,i<n->(sI n fun x=>c x*V x i)+c n*v i=0:=fun i hi=>by have:=Zx _ (Sb (Rm.2 hi));rw[show(sI (n+1) fun x=>(if x<n then V x i else v i)*c x)=(sI n fun x=>(if x<n then V x i else v i)*c x)+(if n<n then V n i else v i)*c n from rfl,Rc (Sq n),aj (g:=fun x=>c x*V x i) fun x hx=>by rw[Re hx,RW]]at this;rw[RW (c n)];exact this
  have ht:c n≠0:=fun h0=>by
   have z:=vi c fun i hi=>by have:=hs i hi;rw[h0,Sc,R6]at this;exact this
   by_cases e:x0=n;{exact hc0 (e▸h0)};{exact hc0 (z x0 oZ)}
  refine⟨c n,ht,fun x=> -c x,fun u _=>?_⟩;rw[<-hB.mul,hn (fun i=>c n*v i) (fun i=>sI n fun x=> -c x*V x i) u fun i hi=>?_,hB.O'];have:=hs i hi;rw[aj (g:=fun x=> -(c x*V x i)) fun x _=>SG _ _,lP];omega
theorem kU.NT{P:bB->Prop}{B:bB->bB->Int}(hP:tJ P)(hB:Bf B){U:Nat->Bool}{E:Nat->bB}:∀(r:Nat),(∀i,i<r->U i=true->P (E i))->(∀i j,i<r->j<r->i≠j->U i=true->U j=true->B (E i) (E j)=0)->∀{s:Int},
  kU (fun v=>P v/\∀i,i<r->U i=true->B v (E i)=0) B s->kU P B (s+sI r fun i=>if U i=true then Df (B (E i) (E i))else 0)
 |0,_,_,s,h=>by
  have:(fun v=>P v/\∀i,i<0->U i=true->B v (E i)=0)=P:=funext fun v=>propext ⟨fun h=>h.1,fun h=>⟨h,fun i hi=>absurd hi (RG i)⟩⟩
  rw[this]at h;show kU P B (s+0);rwa [R6]
 |r+1,h1,h2,s,h=>by
  have hPr:tJ fun v=>P v/\∀i,i<r->U i=true->B v (E i)=0:=
   ⟨fun hu hv=>⟨hP.add hu.1 hv.1,fun i hi hU=>by rw[hB.add,hu.2 i hi hU,hv.2 i hi hU];rfl⟩,fun t v hv=>⟨hP.mul t hv.1,fun i hi hU=>by rw[hB.mul,hv.2 i hi hU,RF]⟩⟩
  have ih:=fun{s:Int}=>kU.NT hP hB r (U:=U) (E:=E) (fun i hi=>h1 i oZ) (fun i j hi hj=>h2 i j oZ oZ) (s:=s)
  show kU P B (s+((sI r fun i=>if U i=true then Df (B (E i) (E i))else 0)+if U r=true then Df (B (E r) (E r))else 0));by_cases hU:U r=true
  ·rw[Re hU]
   have:=kU.cut hPr hB (e:=E r) ⟨h1 r oZ hU,fun i hi hUi=>h2 r i oZ oZ oZ hU hUi⟩ (s:=s) (by
    refine cast (congrArg (fun P=>kU P B s) (funext fun v=>propext ⟨fun h=>⟨⟨h.1,fun i hi=>h.2 i oZ⟩,h.2 r oZ hU⟩,fun h=>⟨h.1.1,fun i hi hUi=>?_⟩⟩)) h;by_cases e:i=r;{subst e;exact h.2}
    ·exact h.1.2 i oZ hUi)
   have:=ih this;rw[show s+((sI r fun i=>if U i=true then Df (B (E i) (E i))else 0)+Df (B (E r) (E r)))=s+Df (B (E r) (E r))+sI r fun i=>if U i=true then Df (B (E i) (E i))else 0 by omega];exact this
  {rw[Rc hU,R6];refine ih (cast (congrArg (fun P=>kU P B s) (funext fun v=>propext ⟨fun h=>⟨h.1,fun i hi=>h.2 i oZ⟩,fun h=>⟨h.1,fun i hi hUi=>?_⟩⟩)) h);by_cases e:i=r;{subst e;exact absurd hUi hU};{exact h.2 i oZ hUi}}
section
variable(N S:Nat)(h:Nat->Nat)(σ:Nat->Int)
def Lk(v:bB)(k:Nat):Int:=v (N+h k-1)+sI k fun j=>if h j+1=h k then v j else 0
def Rk(v:bB)(k:Nat):Int:=sI N fun j=>if k<j/\h j=h k+1 then v j else 0
def cS(v:bB)(g:Nat):Int:=sI N fun k=>if h k=g then v k else 0
def QB(v w:bB):Int:=sI N fun k=> -σ k*(v k*w k)+(v k*Lk N h w k+w k*Lk N h v k)
theorem MN(u v:bB)(k:Nat):Lk N h (fun i=>u i+v i) k=Lk N h u k+Lk N h v k:=by unfold Lk;rw[aj (f:=fun j=>if h j+1=h k then(fun i=>u i+v i) j else 0) (g:=fun j=>(if h j+1=h k then u j else 0)+if h j+1=h k then v j else 0) fun j _=>by dsimp only;split<;>omega,dX];dsimp only;omega
theorem LR(t:Int)(v:bB)(k:Nat):Lk N h (fun i=>t*v i) k=t*Lk N h v k:=by unfold Lk;rw[aj (f:=fun j=>if h j+1=h k then(fun i=>t*v i) j else 0) (g:=fun j=>t*if h j+1=h k then v j else 0) fun j _=>by dsimp only;split<;>simp,bj,Ty]
theorem vG:Bf (QB N h σ):=by refine⟨fun u v w=>?_,fun t v w=>?_,fun v w=>?_⟩;{unfold QB;rw[<-dX];exact aj fun k _=>by rw[MN];grind};{unfold QB;rw[<-bj];exact aj fun k _=>by rw[LR];grind};{exact aj fun k _=>by grind}
variable{N S h σ}
theorem FX(hS:∀k,k<N->1<=h k/\h k<S)(v w u:bB)(e:∀i,i<N+(S-1)->v i=w i):QB N h σ v u=QB N h σ w u:=by
 unfold QB;refine aj fun k hk=>?_
 obtain⟨h1,h2⟩:=hS k hk;have e1:Lk N h v k=Lk N h w k:=by unfold Lk;rw[e (N+h k-1) oZ,aj fun j hj=>by rw[e j oZ]]
 rw[e k oZ,e1]
theorem Il(z:Nat->Int)(x:bB)(g:Nat):∀k,sS ((List.range k).map z) x g=sI k fun j=>if(z j).natAbs=g then x j else 0
 |0=>rfl
 |k+1=>by
  rw[Sk,SB];have key:∀(w:List Int)(y:Int)(x:bB),sS (w++[y]) x g=sS w x g+if y.natAbs=g then x w.length else 0:=by
   intro w
   induction w with
   |nil=>intro y x;show(if y.natAbs=g then x 0 else 0)+0=0+(if y.natAbs=g then x 0 else 0);omega
   |cons a w ih=>intro y x;show(if a.natAbs=g then x 0 else 0)+sS (w++[y]) (fun k=>x (k+1)) g=(if a.natAbs=g then x 0 else 0)+sS w (fun k=>x (k+1)) g+(if y.natAbs=g then x (w.length+1)else 0);rw[ih];omega
  rw[UY,key,Il z x g k,Sa,SW];rfl
theorem GX(z:Nat->Int)(x l:bB):∀k,(∀j,j<k->z j≠0)->qh ((List.range k).map z) x l=sI k fun j=> -yt (z j)*(x j*x j)+2*(x j*(l (z j).natAbs+sI j fun i=>if(z i).natAbs=(z j).natAbs-1 then x i else 0))
 |0,_=>rfl
 |k+1,hz=>by rw[Sk,SB,UY,Dj (hz k oZ),GX z x l k fun j hj=>hz j oZ,Sa,SW,Il];rfl
theorem NN{z:Nat->Int}(hz:∀k,k<N->(z k).natAbs=h k/\yt (z k)=σ k)(hS:∀k,k<N->1<=h k/\h k<S)(v:bB):qB S ((List.range N).map z) v=QB N h σ v v:=by
 unfold qB QB;rw[GX z v _ N fun j hj e=>by have:=(hz j hj).1;have:=(hS j hj).1;rw[e]at*;simp at*;omega,Sa,SW];refine aj fun k hk=>?_
 obtain⟨z1,z2⟩:=hz k hk;obtain⟨h1,h2⟩:=hS k hk;have e1:lB S N v (z k).natAbs=v (N+h k-1):=by rw[z1,Ld v h1 h2]
 have e2:(sI k fun i=>if(z i).natAbs=(z k).natAbs-1 then v i else 0)=sI k fun j=>if h j+1=h k then v j else 0:=aj fun i hi=>by obtain⟨y1,-⟩:=hz i oZ;rw[y1,z1];by_cases e:h i+1=h k;{rw[Re e,Re oZ]};{rw[Rc e,Rc oZ]}
 rw[e1,e2,z2];unfold Lk
 grind
theorem xc(i:Nat):ind i i=1:=Re rfl
theorem eZ{i j:Nat}(h:j≠i):ind i j=0:=Rc h
theorem iB(hS:∀k,k<N->1<=h k/\h k<S)(v:bB){k:Nat}(hk:k<N):QB N h σ v (ind k)= -σ k*v k+Lk N h v k+Rk N h v k:=by
 have e:∀j,j<N->Lk N h (ind k) j=if k<j/\h j=h k+1 then 1 else 0:=fun j hj=>by unfold Lk;rw[eZ (show N+h j-1≠k by have:=(hS j hj).1;omega)];by_cases e1:k<j;{rw[cI (k:=k) _ e1 fun i _ hi=>by rw[eZ hi];split<;>rfl,xc];by_cases e2:h k+1=h j;{rw[Re e2,Re ⟨e1,e2.symm⟩];rfl};{rw[Rc e2,Rc (fun h=>e2 h.2.symm)];rfl}};{rw[aX fun i hi=>by rw[eZ oZ];split<;>rfl,Rc (fun h=>e1 h.1)];rfl}
 unfold QB Rk;rw[aj (g:=fun j=>(if j=k then-σ k*v k+Lk N h v k else 0)+if k<j/\h j=h k+1 then v j else 0) fun j hj=>by
  rw[e j hj];by_cases e1:j=k;{subst e1;rw[Re rfl,xc,Rc (fun h=>Sq _ h.1),Rc (fun h=>Sq _ h.1)];grind}
  ·rw[Rc e1,eZ e1];split<;>simp,dX,cI (k:=k) _ hk fun j _ hj=>Rc hj,Re rfl]
theorem pe(hS:∀k,k<N->1<=h k/\h k<S)(v:bB){g:Nat}(hg:1<=g):QB N h σ v (ind (N+g-1))=cS N h v g:=by
 unfold QB cS;refine aj fun k hk=>?_
 have e:Lk N h (ind (N+g-1)) k=if h k=g then 1 else 0:=by unfold Lk;rw[aX fun i hi=>by rw[eZ oZ];split<;>rfl];have:=(hS k hk).1;by_cases e1:h k=g;{rw[e1,xc,Re rfl];rfl};{rw[eZ oZ,Rc e1];rfl}
 rw[e,eZ oZ];split<;>simp
theorem yT(f:Nat->Int){k:Nat}:∀{N:Nat},k<N->(sI N fun j=>if k<j then f j else 0)=sI N f-sI (k+1) f
 |N+1,hk=>by show(sI N fun j=>if k<j then f j else 0)+(if k<N then f N else 0)=sI N f+f N-_;by_cases e:k=N;{subst e;rw[Rc (Sq _),aX fun j hj=>Rc oZ];show 0+0=sI k f+f k-(sI k f+f k);omega};{rw[Re oZ,yT f oZ];omega}
theorem Kt(v:bB){k:Nat}(hk:k<N):Rk N h v k=cS N h v (h k+1)-sI k fun j=>if h j=h k+1 then v j else 0:=by
 unfold Rk cS;rw[aj (g:=fun j=>if k<j then(if h j=h k+1 then v j else 0)else 0) fun j _=>by
  by_cases e1:k<j;{by_cases e2:h j=h k+1;{rw[Re ⟨e1,e2⟩,Re e1,Re e2]};{rw[Rc (fun h=>e2 h.2),Re e1,Rc e2]}}
  ·rw[Rc (fun h=>e1 h.1),Rc e1],yT _ hk]
 show _-((sI k fun j=>if h j=h k+1 then v j else 0)+if h k=h k+1 then v k else 0)=_;rw[Rc oZ];omega
def P2(N S:Nat)(h:Nat->Nat)(σ:Nat->Int)(W:Nat->Bool)(v:bB):Prop:=(∀k,k<N->W (h k)=false->-σ k*v k+Lk N h v k+Rk N h v k=0)/\∀g,1<=g->g<S->W g=true->cS N h v g=0
theorem Al{W:Nat->Bool}(hW:∀g,W (g+1)= !W g)(hσ:∀k,k<N->σ k=1\/σ k= -1)(hS:∀k,k<N->1<=h k/\h k<S){z:Nat->Int}(hz:∀k,k<N->(z k).natAbs=h k/\yt (z k)=σ k){s:Int}(hs:KV S ((List.range N).map z) s):
    kU (P2 N S h σ W) (QB N h σ) (s+sI N fun k=>if W (h k)=true then 0 else σ k):=by
  obtain⟨p,r,hF,rfl⟩:=hs;rw[Sa,SW]at hF;have Vx:=BL (vG N h σ) (FX hS) (fun v=>NN hz hS v) hF
  let U:Nat->Bool:=fun i=>if i<N then !W (h i)else W (i-N+1)
  have hU1:∀i,i<N->U i= !W (h i):=fun i hi=>Re hi
  have hU2:∀i,¬i<N->U i=W (i-N+1):=fun i hi=>Rc hi
  have adj:∀g g',W g=W g'->g'≠g+1:=fun g g' e h1=>by
    subst h1;rw[hW]at e;cases hh:W g<;>rw[hh]at e<;>cases e
  have sub:tJ (P2 N S h σ W):=by
    have e:P2 N S h σ W=fun v=>(∀k,k<N->W (h k)=false->QB N h σ v (ind k)=0)/\∀g,1<=g->g<S->W g=true->QB N h σ v (ind (N+g-1))=0:=funext fun v=>propext
      ⟨fun hv=>⟨fun k hk hw=>by rw[iB hS v hk];exact hv.1 k hk hw,fun g h1 h2 hw=>by rw[pe hS v h1];exact hv.2 g h1 h2 hw⟩,
       fun hv=>⟨fun k hk hw=>by rw[<-iB (σ:=σ) hS v hk];exact hv.1 k hk hw,fun g h1 h2 hw=>by rw[<-pe (σ:=σ) hS v h1];exact hv.2 g h1 h2 hw⟩⟩
    have hB:=vG N h σ;rw[e];exact⟨fun hu hv=>⟨fun k hk hw=>by rw[hB.add,hu.1 k hk hw,hv.1 k hk hw];rfl,fun g h1 h2 hw=>by rw[hB.add,hu.2 g h1 h2 hw,hv.2 g h1 h2 hw];rfl⟩,
      fun t v hv=>⟨fun k hk hw=>by rw[hB.mul,hv.1 k hk hw,RF],fun g h1 h2 hw=>by rw[hB.mul,hv.2 g h1 h2 hw,RF]⟩⟩
  obtain⟨s2,h2⟩:=kU.ex sub (vG N h σ) (FX hS);have lp:∀k,k<N->∀j,j<N->W (h k)=false->W (h j)=false->j≠k->QB N h σ (ind j) (ind k)=0:=fun k hk j hj wk wj Vh=>by
    rw[iB hS _ hk,eZ (fun h=>Vh h.symm)];have e1:Lk N h (ind j) k=0:=by
      unfold Lk;rw[eZ (by have:=(hS k hk).1;omega),aX fun i hi=>by
        by_cases e:i=j
        · subst e
          rw[Rc];intro h1;exact adj (h i) (h k) (by rw[wk,wj]) h1.symm
        · rw[eZ e];split<;>rfl]
      rfl
    have e2:Rk N h (ind j) k=0:=aX fun i hi=>by
      by_cases e:i=j
      · subst e
        rw[Rc];intro h1;exact adj (h k) (h i) (by rw[wk,wj]) h1.2
      · rw[eZ e];split<;>rfl
    rw[e1,e2];omega
  have lg:∀g,1<=g->W g=true->∀j,j<N->W (h j)=false->QB N h σ (ind j) (ind (N+g-1))=0:=fun g hg wg j hj wj=>by
    rw[pe hS _ hg];exact aX fun i hi=>by
      by_cases e:i=j
      · subst e
        rw[Rc];intro h1;rw[h1,wg]at wj
        cases wj
      · rw[eZ e];split<;>rfl
  have gg:∀g,1<=g->∀g',1<=g'->QB N h σ (ind (N+g'-1)) (ind (N+g-1))=0:=fun g hg g' X6=>by
    rw[pe hS _ hg];exact aX fun i hi=>by rw[eZ oZ];split<;>rfl
  have hcuts:=kU.NT (P:=fun _=>True) (B:=QB N h σ) ⟨fun _ _=>trivial,fun _ _ _=>trivial⟩ (vG N h σ) (U:=U) (E:=ind) (N+(S-1)) (fun _ _ _=>trivial) (fun i j hi hj Vh ui uj=>by
    by_cases ci:i<N
    · rw[hU1 i ci]at ui
      have wi:W (h i)=false:=by cases hh:W (h i)<;>rw[hh]at ui<;>first|rfl|cases ui
      by_cases cj:j<N
      · rw[hU1 j cj]at uj
        have wj:W (h j)=false:=by cases hh:W (h j)<;>rw[hh]at uj<;>first|rfl|cases uj
        exact lp j cj i ci wj wi Vh
      · rw[hU2 j cj]at uj
        have:=lg (j-N+1) oZ uj i ci wi;rwa [show N+(j-N+1)-1=j by omega]at this
    · by_cases cj:j<N
      · rw[hU1 j cj]at uj
        have wj:W (h j)=false:=by cases hh:W (h j)<;>rw[hh]at uj<;>first|rfl|cases uj
        rw[hU2 i ci]at ui;have:=lg (i-N+1) oZ ui j cj wj;rw[show N+(i-N+1)-1=i by omega]at this;rw[(vG N h σ).com];exact this
      · have:=gg (j-N+1) oZ (i-N+1) oZ
        rwa [show N+(i-N+1)-1=i by omega,show N+(j-N+1)-1=j by omega]at this) (s:=s2) (by
      refine cast (congrArg (fun P=>kU P (QB N h σ) s2) (funext fun v=>propext ⟨fun hv=>⟨trivial,fun i hi hu=>?_⟩,fun hv=>⟨fun k hk wk=>?_,fun g h1 h3 wg=>?_⟩⟩)) h2
      · by_cases ci:i<N
        · rw[hU1 i ci]at hu
          have wi:W (h i)=false:=by cases hh:W (h i)<;>rw[hh]at hu<;>first|rfl|cases hu
          rw[iB hS v ci];exact hv.1 i ci wi
        · rw[hU2 i ci]at hu
          have:=pe (σ:=σ) hS v (g:=i-N+1) oZ;rw[show N+(i-N+1)-1=i by omega]at this;rw[this];exact hv.2 _ oZ oZ hu
      · rw[<-iB (σ:=σ) hS v hk];exact hv.2 k oZ (by rw[hU1 k hk,wk];rfl)
      · rw[<-pe (σ:=σ) hS v h1];exact hv.2 _ oZ (by rw[hU2 _ oZ,show N+g-1-N+1=g by omega];exact wg))
  have heq:=Vx.uniq (P:=fun _=>True) ⟨fun _ _=>trivial,fun _ _ _=>trivial⟩ (vG N h σ) hcuts;have YQ:(sI (N+(S-1)) fun i=>if U i=true then Df (QB N h σ (ind i) (ind i))else 0)= -sI N fun k=>if W (h k)=true then 0 else σ k:=by
    rw[mU,aX (n:=S-1) fun i hi=>by
      have:=gg (i+1) oZ (i+1) oZ;rw[show N+(i+1)-1=N+i by omega]at this;rw[this];split<;>rfl,R6,<-lP]
    refine aj fun k hk=>?_
    rw[hU1 k hk]
    cases hh:W (h k)
    · have e1:QB N h σ (ind k) (ind k)= -σ k:=by
        rw[iB hS _ hk,xc];have e1:Lk N h (ind k) k=0:=by
          unfold Lk;rw[eZ (by have:=(hS k hk).1;omega),aX fun i hi=>by rw[eZ oZ];split<;>rfl];rfl
        have e2:Rk N h (ind k) k=0:=aX fun i hi=>by
          by_cases e:i=k
          · subst e;rw[Rc (fun h=>Sq _ h.1)]
          · rw[eZ e];split<;>rfl
        rw[e1,e2];omega
      rw[e1,Re (show(!false)=true from rfl),Rc oQ];rcases hσ k hk with e|e<;>rw[e]<;>rfl
    · rw[Rc oQ,Re rfl];rfl
  rw[YQ]at heq;rw[heq,show s2+ -(sI N fun k=>if W (h k)=true then 0 else σ k)+(sI N fun k=>if W (h k)=true then 0 else σ k)=s2 by omega];exact h2
end
def aZ(a b c u:Nat):Nat:=if u=ae a 2 then ae b 1 else if u=ae b 2 then ae c 1 else if u=ae c 2 then ae a 1 else if u=ae a 3 then c else if u=ae b 3 then a else if u=ae c 3 then b else u
theorem vF(z:Nat):eta (ae z 1)= -eta z:=by unfold eta;rw[bQ];by_cases e:z%2=0;{rw[Re e,Rc oZ]};{rw[Rc e,Re oZ];rfl}
structure nB(cs:List Nat)(K K':Nat->Bool)(m m':Nat->Nat)(a b c:Nat):Prop where
 ha:a/4∉cs
 hb:b/4∉cs
 hc:c/4∉cs
 hab:a/4≠b/4
 hbc:b/4≠c/4
 hca:c/4≠a/4
 jq:DT (a/4::b/4::c/4::cs) K m
 i1:m a=ae b 1
 i2:m b=ae c 1
 i3:m c=ae a 1
 j1:m (ae b 1)=a
 j2:m (ae c 1)=b
 j3:m (ae a 1)=c
 inv:∀h,h/4∈a/4::b/4::c/4::cs->m (m h)=h/\m h/4∈a/4::b/4::c/4::cs
 fl:∀h,K' h=if h/4=a/4\/h/4=b/4\/h/4=c/4 then !K h else K h
 o1:m' (ae a 2)=ae b 3
 o2:m' (ae b 2)=ae c 3
 o3:m' (ae c 2)=ae a 3
 p1:m' (ae b 3)=ae a 2
 p2:m' (ae c 3)=ae b 2
 p3:m' (ae a 3)=ae c 2
 g1:m' (ae b 1)=aZ a b c (m (ae a 2))
 g2:m' (ae c 1)=aZ a b c (m (ae b 2))
 g3:m' (ae a 1)=aZ a b c (m (ae c 2))
 h1:m' a=aZ a b c (m (ae b 3))
 h2:m' b=aZ a b c (m (ae c 3))
 h3:m' c=aZ a b c (m (ae a 3))
 off:∀h,h/4∈cs->m' h=aZ a b c (m h)
 par:¬(a%2=b%2/\b%2=c%2)
theorem gY{a b c u:Nat}(h1:u/4≠a/4)(h2:u/4≠b/4)(h3:u/4≠c/4):aZ a b c u=u:=by have a2:=af a 2;have a3:=af a 3;have b2:=af b 2;have b3:=af b 3;have c2:=af c 2;have c3:=af c 3;unfold aZ;rw[Rc (by intro e;subst e;omega),Rc (by intro e;subst e;omega),Rc (by intro e;subst e;omega),Rc (by intro e;subst e;omega),Rc (by intro e;subst e;omega),Rc (by intro e;subst e;omega)]
section
variable{cs:List Nat}{K K':Nat->Bool}{m m':Nat->Nat}{s:Nat->Int}{a b c:Nat}(h:nB cs K K' m m' a b c)
include h
theorem nB.mem{x:Nat}(hx:x/4∈a/4::b/4::c/4::cs):x/4=a/4\/x/4=b/4\/x/4=c/4\/(x/4∈cs/\x/4≠a/4/\x/4≠b/4/\x/4≠c/4):=by
 rcases RV.1 hx with e|e
 {exact .inl e}
 ·rcases RV.1 e with e|e
  {exact .inr (.inl e)}
  ·rcases RV.1 e with e|e
   {exact .inr (.inr (.inl e))};{exact .inr (.inr (.inr ⟨e,fun i=>h.ha (i▸e),fun i=>h.hb (i▸e),fun i=>h.hc (i▸e)⟩))}
theorem nB.tG:aZ a b c (ae a 3)=c/\aZ a b c (ae b 3)=a/\aZ a b c (ae c 3)=b/\aZ a b c (ae a 2)=ae b 1/\aZ a b c (ae b 2)=ae c 1/\aZ a b c (ae c 2)=ae a 1:=by have hab:=h.hab;have hbc:=h.hbc;have hca:=h.hca;have a2:=af a 2;have a3:=af a 3;have b2:=af b 2;have b3:=af b 3;have c2:=af c 2;have c3:=af c 3;have na:=aB (h:=a) (i:=3) (j:=2) oQ oQ oQ;have nb:=aB (h:=b) (i:=3) (j:=2) oQ oQ oQ;have nc:=aB (h:=c) (i:=3) (j:=2) oQ oQ oQ;unfold aZ;refine⟨?_,?_,?_,?_,?_,?_⟩;{rw[Rc na,Rc oZ,Rc oZ,Re rfl]};{rw[Rc oZ,Rc nb,Rc oZ,Rc oZ,Re rfl]};{rw[Rc oZ,Rc oZ,Rc nc,Rc oZ,Rc oZ,Re rfl]};{rw[Re rfl]};{rw[Rc oZ,Re rfl]};{rw[Rc oZ,Rc oZ,Re rfl]}
theorem nB.alt{x:Nat}(hx:x/4=a/4\/x/4=b/4\/x/4=c/4):K (ae x 1)= !K x:=h.jq.alt x (by rcases hx with e|e|e<;>rw[e]<;>simp)
theorem nB.kb:K b=K a:=by have:=h.jq.cF a oX;rwa [h.i1,ar,show ae b (1+3)=b from bC b]at this
theorem nB.kc:K c=K a:=by have:=h.jq.cF b oX;rw[h.i2,ar,show ae c (1+3)=c from bC c]at this;rw[this,h.kb]
omit h in
theorem iq{K:Nat->Bool}{c:Nat}(ha:∀x,x/4=c->K (ae x 1)= !K x){x:Nat}(hx:x/4=c):K (ae x 1)=(!K x)/\K (ae x 2)=K x/\K (ae x 3)=(!K x):=by have a1:=ha x hx;have a2:=ha (ae x 1) (by rw[af,hx]);have a3:=ha (ae x 2) (by rw[af,hx]);rw[ar]at a2 a3;rw[a1]at a2;rw[a2]at a3;exact⟨a1,by rw[a2,Sv],by rw[a3,Sv]⟩
theorem nB.ff{x:Nat}(hx:x/4=a/4\/x/4=b/4\/x/4=c/4):K' x= !K x:=by rw[h.fl,Re hx]
theorem nB.pF{x:Nat}(h1:x/4≠a/4)(h2:x/4≠b/4)(h3:x/4≠c/4):K' x=K x:=by rw[h.fl,Rc];rintro(e|e|e);{exact h1 e};{exact h2 e};{exact h3 e}
theorem nB.ends(hw:K a=true){w:Nat}(hx:w/4=a/4\/w/4=b/4\/w/4=c/4)(hk:K (ae w 3)=true):(w=ae a 3\/w=ae b 3\/w=ae c 3)\/(w=ae a 1\/w=ae b 1\/w=ae c 1):=by
 have key:∀z,(z/4=a/4\/z/4=b/4\/z/4=c/4)->K z=true->w/4=z/4->w=ae z 3\/w=ae z 1:=fun z hz ZJ e=>by
  obtain⟨k1,k2,k3⟩:=iq (c:=z/4) (fun x hx=>h.alt (by rw[hx];exact hz)) (x:=z) rfl;rcases aw e with rfl|rfl|rfl|rfl
  {rw[k3,ZJ]at hk;cases hk};{exact .inr rfl};{rw[ar,show ae z (2+3)=ae z 1 from bF z 1,k1,ZJ]at hk;cases hk};{exact .inl rfl}
 rcases hx with e|e|e
 ·rcases key a (.inl rfl) hw e with e|e
  {exact .inl (.inl e)};{exact .inr (.inl e)}
 ·rcases key b (.inr (.inl rfl)) (by rw[h.kb,hw]) e with e|e
  {exact .inl (.inr (.inl e))};{exact .inr (.inr (.inl e))}
 ·rcases key c (.inr (.inr rfl)) (by rw[h.kc,hw]) e with e|e
  {exact .inl (.inr (.inr e))};{exact .inr (.inr (.inr e))}
def uH(a b c:Nat)(t qa qb qc:Int)(x:bB):bB:=fun h=>
 if h=a\/h=b\/h=c then t else if h=ae a 2 then qa else if h=ae b 2 then qb else if h=ae c 2 then qc else x h
def uK(a b c:Nat)(qa qb qc:Int)(x:bB):bB:=fun h=>
 if h=ae b 1\/h=ae c 3 then qa else if h=ae c 1\/h=ae a 3 then qb else if h=ae a 1\/h=ae b 3 then qc else x h
omit h in
theorem Gz{t qa qb qc:Int}{x:bB}{y:Nat}(h1:y/4≠a/4)(h2:y/4≠b/4)(h3:y/4≠c/4):uH a b c t qa qb qc x y=x y:=by have a2:=af a 2;have b2:=af b 2;have c2:=af c 2;unfold uH;rw[Rc (by rintro(e|e|e)<;>subst e<;>omega),Rc (by intro e;subst e;omega),Rc (by intro e;subst e;omega),Rc (by intro e;subst e;omega)]
omit h in
theorem Hw{qa qb qc:Int}{x:bB}{y:Nat}(h1:y/4≠a/4)(h2:y/4≠b/4)(h3:y/4≠c/4):uK a b c qa qb qc x y=x y:=by have a1:=af a 1;have b1:=af b 1;have c1:=af c 1;have a3:=af a 3;have b3:=af b 3;have c3:=af c 3;unfold uK;rw[Rc (by rintro(e|e)<;>subst e<;>omega),Rc (by rintro(e|e)<;>subst e<;>omega),Rc (by rintro(e|e)<;>subst e<;>omega)]
theorem nB.D9(t qa qb qc:Int)(x:bB):uH a b c t qa qb qc x a=t/\uH a b c t qa qb qc x b=t/\uH a b c t qa qb qc x c=t/\uH a b c t qa qb qc x (ae a 2)=qa/\uH a b c t qa qb qc x (ae b 2)=qb/\uH a b c t qa qb qc x (ae c 2)=qc:=by have hab:=h.hab;have hbc:=h.hbc;have hca:=h.hca;have a2:=af a 2;have b2:=af b 2;have c2:=af c 2;have na:=an (h:=a) (j:=2) oQ oQ;have nb:=an (h:=b) (j:=2) oQ oQ;have nc:=an (h:=c) (j:=2) oQ oQ;unfold uH;refine⟨Re (.inl rfl),Re (.inr (.inl rfl)),Re (.inr (.inr rfl)),?_,?_,?_⟩;{rw[Rc (by rintro(e|e|e)<;>omega),Re rfl]};{rw[Rc (by rintro(e|e|e)<;>omega),Rc oZ,Re rfl]};{rw[Rc (by rintro(e|e|e)<;>omega),Rc oZ,Rc oZ,Re rfl]}
theorem nB.LU(qa qb qc:Int)(x:bB):uK a b c qa qb qc x (ae b 1)=qa/\uK a b c qa qb qc x (ae c 3)=qa/\uK a b c qa qb qc x (ae c 1)=qb/\uK a b c qa qb qc x (ae a 3)=qb/\uK a b c qa qb qc x (ae a 1)=qc/\uK a b c qa qb qc x (ae b 3)=qc:=by have hab:=h.hab;have hbc:=h.hbc;have hca:=h.hca;have a1:=af a 1;have b1:=af b 1;have c1:=af c 1;have a3:=af a 3;have b3:=af b 3;have c3:=af c 3;have na:=aB (h:=a) (i:=3) (j:=1) oQ oQ oQ;have nb:=aB (h:=b) (i:=3) (j:=1) oQ oQ oQ;have nc:=aB (h:=c) (i:=3) (j:=1) oQ oQ oQ;unfold uK;refine⟨Re (.inl rfl),Re (.inr rfl),?_,?_,?_,?_⟩;{rw[Rc (by rintro(e|e)<;>omega),Re (.inl rfl)]};{rw[Rc (by rintro(e|e)<;>omega),Re (.inr rfl)]};{rw[Rc (by rintro(e|e)<;>omega),Rc (by rintro(e|e)<;>omega),Re (.inl rfl)]};{rw[Rc (by rintro(e|e)<;>omega),Rc (by rintro(e|e)<;>omega),Re (.inr rfl)]}
theorem nB.M':(eta a=1/\eta b=1/\eta c= -1)\/(eta a=1/\eta b= -1/\eta c=1)\/(eta a= -1/\eta b=1/\eta c=1)\/(eta a= -1/\eta b= -1/\eta c=1)\/(eta a= -1/\eta b=1/\eta c= -1)\/(eta a=1/\eta b= -1/\eta c= -1):=by have hp:=h.par;unfold eta;by_cases e1:a%2=0<;>by_cases e2:b%2=0<;>by_cases e3:c%2=0<;>simp only[e1,e2,e3,if_true,UG]<;>(first|(exfalso;omega)|simp)
omit h in
theorem xt{K K':Nat->Bool}{s:Nat->Int}{c x:Nat}(ha:∀x,x/4=c->K (ae x 1)= !K x)(hx:x/4=c)(hk:K x=true)(hf:K' (4*c)= !K (4*c)):cT K s c=cT K' s c+eta x:=by have kb:=pj ha hx;unfold cT eta;rw[hf,kb,hk];by_cases h1:x%2=0;{rw[Re h1];by_cases h2:s c=1<;>simp[h1,h2]};{rw[Rc h1];by_cases h2:s c=1<;>simp[h1,h2]}
theorem nB.KQ(hw:K a=true){n:Int}(hn:fH (a/4::b/4::c/4::cs) K' m' s n):fH (a/4::b/4::c/4::cs) K m s n:=by
 obtain⟨t,ht,rfl⟩:=hn;have kb:K b=true:=by rw[h.kb,hw]
 have kc:K c=true:=by rw[h.kc,hw]
 have altA:∀x,x/4=a/4->K (ae x 1)= !K x:=fun x hx=>h.alt (.inl hx)
 have altB:∀x,x/4=b/4->K (ae x 1)= !K x:=fun x hx=>h.alt (.inr (.inl hx))
 have altC:∀x,x/4=c/4->K (ae x 1)= !K x:=fun x hx=>h.alt (.inr (.inr hx))
 have inA:∀i,ae a i/4=a/4\/ae a i/4=b/4\/ae a i/4=c/4:=fun i=> .inl (af a i)
 have inB:∀i,ae b i/4=a/4\/ae b i/4=b/4\/ae b i/4=c/4:=fun i=> .inr (.inl (af b i))
 have inC:∀i,ae c i/4=a/4\/ae c i/4=b/4\/ae c i/4=c/4:=fun i=> .inr (.inr (af c i))
 have alt':∀z,(z=a/4\/z=b/4\/z=c/4)->∀x,x/4=z->K' (ae x 1)= !K' x:=fun z hz x hx=>by rw[h.ff (x:=ae x 1) (by rw[af,hx];exact hz),h.ff (x:=x) (by rw[hx];exact hz),h.alt (by rw[hx];exact hz)]
 have wA:=iq altA (x:=a) rfl;have wB:=iq altB (x:=b) rfl;have wC:=iq altC (x:=c) rfl;have k1:K' (ae a 1)=true:=by rw[h.ff (inA 1),wA.1,hw];rfl
 have k2:K' (ae b 1)=true:=by rw[h.ff (inB 1),wB.1,kb];rfl
 have k3:K' (ae c 1)=true:=by rw[h.ff (inC 1),wC.1,kc];rfl
 have k4:K' (ae a 3)=true:=by rw[h.ff (inA 3),wA.2.2,hw];rfl
 have k5:K' (ae b 3)=true:=by rw[h.ff (inB 3),wB.2.2,kb];rfl
 have k6:K' (ae c 3)=true:=by rw[h.ff (inC 3),wC.2.2,kc];rfl
 have memA:∀i,ae a i/4∈a/4::b/4::c/4::cs:=fun i=>by rw[af];simp
 have memB:∀i,ae b i/4∈a/4::b/4::c/4::cs:=fun i=>by rw[af];simp
 have memC:∀i,ae c i/4∈a/4::b/4::c/4::cs:=fun i=>by rw[af];simp
 have t23:∀z,ae (ae z 2) 3=ae z 1:=fun z=>by rw[ar];exact bF z 1
 have t33:∀z,ae (ae z 3) 3=ae z 2:=fun z=>by rw[ar];exact bF z 2
 have t13:∀z,ae (ae z 1) 3=z:=fun z=>by rw[ar];exact bC z
 have t12:∀z,ae (ae z 1) 2=ae z 3:=fun z=>ar z 1 2
 obtain⟨tG1,tG2,tG3,-,-,-⟩:=h.tG;have E:∀x,PG (a/4::b/4::c/4::cs) K' m' x->x (ae c 3)=x (ae b 1)/\x (ae a 3)=x (ae c 1)/\x (ae b 3)=x (ae a 1):=fun x hx=>by have a1:=hx _ (memC 3) k6;rw[h.p2,t23]at a1;have a2:=hx _ (memA 3) k4;rw[h.p3,t23]at a2;have a3:=hx _ (memB 3) k5;rw[h.p1,t23]at a3;exact⟨a1,a2,a3⟩
 have T:∀x,PG (a/4::b/4::c/4::cs) K m x->x a=x b/\x b=x c:=fun x hx=>by have a1:=hx a oX hw;rw[h.i1,t13]at a1;have a2:=hx b oX kb;rw[h.i2,t13]at a2;exact⟨a1,a2⟩
 have ga:=ik altA rfl hw;have gb:=ik altB rfl kb;have gc:=ik altC rfl kc;have ga':=ik (alt' _ (.inl rfl)) (af a 1) k1;have gb':=ik (alt' _ (.inr (.inl rfl))) (af b 1) k2;have gc':=ik (alt' _ (.inr (.inr rfl))) (af c 1) k3;have ef:∀z,eta (ae z 1)= -eta z:=fun z=>vF z
 rw[ef,t12]at ga' gb' gc';have VC:∀K x y,BG (a/4::b/4::c/4::cs) K x y=gT K x y (a/4)+(gT K x y (b/4)+(gT K x y (c/4)+BG cs K x y)):=fun _ _ _=>rfl
 have csne:∀d,d∈cs->d≠a/4/\d≠b/4/\d≠c/4:=fun d hd=>⟨fun e=>h.ha (e▸hd),fun e=>h.hb (e▸hd),fun e=>h.hc (e▸hd)⟩
 have BGK:∀x y,BG cs K' x y=BG cs K x y:=fun x y=>cH fun d hd=>by obtain⟨n1,n2,n3⟩:=csne d hd;unfold gT;rw[h.pF (x:=4*d) oZ oZ oZ]
 obtain⟨σ,hσ⟩:∃σ,eta a+eta b+eta c=σ:=⟨_,rfl⟩
 let T0:bB->Int:=fun x=>σ*(eta a*x (ae b 1)+eta b*x (ae c 1)+eta c*x (ae a 1))
 let φ:bB->bB:=fun x=>uH a b c (T0 x) (x (ae b 1)) (x (ae c 1)) (x (ae a 1)) x
 have φo:∀x y,y/4≠a/4->y/4≠b/4->y/4≠c/4->φ x y=x y:=fun x y e1 e2 e3=>Gz e1 e2 e3
 have star:∀x,PG (a/4::b/4::c/4::cs) K' m' x->∀w,w/4∈a/4::b/4::c/4::cs->K (ae w 3)=true->w≠ae a 1->w≠ae b 1->w≠ae c 1->φ x (ae w 3)=x (ae (aZ a b c w) 3):=fun x hx w hwm hk n1 n2 n3=>by
  obtain⟨E1,E2,E3⟩:=E x hx;obtain⟨-,-,-,pa,pb,pc⟩:=h.D9 (T0 x) (x (ae b 1)) (x (ae c 1)) (x (ae a 1)) x;have inside:(w/4=a/4\/w/4=b/4\/w/4=c/4)->φ x (ae w 3)=x (ae (aZ a b c w) 3):=fun hi=>by
   rcases h.ends hw hi hk with(rfl|rfl|rfl)|(e|e|e)
   {rw[tG1,t33,<-E1.symm];exact pa};{rw[tG2,t33];exact pb.trans E2.symm};{rw[tG3,t33];exact pc.trans E3.symm};{exact absurd e n1};{exact absurd e n2};{exact absurd e n3}
  rcases h.mem hwm with e|e|e|⟨-,e1,e2,e3⟩
  {exact inside (.inl e)};{exact inside (.inr (.inl e))};{exact inside (.inr (.inr e))};{rw[gY e1 e2 e3];exact φo x _ (by rw[af];exact e1) (by rw[af];exact e2) (by rw[af];exact e3)}
 have notg:∀z,z/4∈a/4::b/4::c/4::cs->z≠a->z≠b->z≠c->m z≠ae a 1/\m z≠ae b 1/\m z≠ae c 1:=fun z hz n1 n2 n3=>by have hi:=(h.inv z hz).1;refine⟨fun e=>n3 ?_,fun e=>n1 ?_,fun e=>n2 ?_⟩;{rw[e,h.j3]at hi;exact hi.symm};{rw[e,h.j1]at hi;exact hi.symm};{rw[e,h.j2]at hi;exact hi.symm}
 have Yt:∀x,PG (a/4::b/4::c/4::cs) K' m' x->∀z,z/4∈a/4::b/4::c/4::cs->K z=true->z≠a->z≠b->z≠c->φ x (ae (m z) 3)=x (ae (aZ a b c (m z)) 3):=fun x hx z hz hk n1 n2 n3=>by obtain⟨q1,q2,q3⟩:=notg z hz n1 n2 n3;exact star x hx (m z) (h.inv z hz).2 (by rw[h.jq.cF z hz];exact hk) q1 q2 q3
 have hφ:∀x,PG (a/4::b/4::c/4::cs) K' m' x->PG (a/4::b/4::c/4::cs) K m (φ x):=fun x hx z hz hk=>by
  obtain⟨p1,p2,p3,pa,pb,pc⟩:=h.D9 (T0 x) (x (ae b 1)) (x (ae c 1)) (x (ae a 1)) x;have na:=an (h:=a) (j:=2) oQ oQ;have nb:=an (h:=b) (j:=2) oQ oQ;have nc:=an (h:=c) (j:=2) oQ oQ;have hab:=h.hab;have hbc:=h.hbc;have hca:=h.hca;have a2:=af a 2;have b2:=af b 2;have c2:=af c 2;rcases h.mem hz with e|e|e|⟨VE,e1,e2,e3⟩
  ·rcases aw e with rfl|rfl|rfl|rfl
   {rw[h.i1,t13];exact p1.trans p2.symm};{rw[wA.1,hw]at hk;cases hk};{rw[Yt x hx _ hz hk na oZ oZ,<-h.g1];exact pa.trans (hx _ (memB 1) k2)};{rw[wA.2.2,hw]at hk;cases hk}
  ·rcases aw e with rfl|rfl|rfl|rfl
   {rw[h.i2,t13];exact p2.trans p3.symm};{rw[wB.1,kb]at hk;cases hk};{rw[Yt x hx _ hz hk oZ nb oZ,<-h.g2];exact pb.trans (hx _ (memC 1) k3)};{rw[wB.2.2,kb]at hk;cases hk}
  ·rcases aw e with rfl|rfl|rfl|rfl
   {rw[h.i3,t13];exact p3.trans p1.symm};{rw[wC.1,kc]at hk;cases hk};{rw[Yt x hx _ hz hk oZ oZ nc,<-h.g3];exact pc.trans (hx _ (memA 1) k1)};{rw[wC.2.2,kc]at hk;cases hk}
  {rw[Yt x hx z hz hk oZ oZ oZ,φo x z e1 e2 e3,<-h.off z VE];exact hx z hz (by rw[h.pF e1 e2 e3];exact hk)}
 let ψ:bB->bB:=fun x=>uK a b c (x (ae a 2)) (x (ae b 2)) (x (ae c 2)) x
 have ψo:∀x y,y/4≠a/4->y/4≠b/4->y/4≠c/4->ψ x y=x y:=fun x y e1 e2 e3=>Hw e1 e2 e3
 have star':∀x,∀w,w/4∈a/4::b/4::c/4::cs->K (ae w 3)=true->w≠ae a 1->w≠ae b 1->w≠ae c 1->ψ x (ae (aZ a b c w) 3)=x (ae w 3):=fun x w hwm hk n1 n2 n3=>by
  obtain⟨q1,q2,q3,q4,q5,q6⟩:=h.LU (x (ae a 2)) (x (ae b 2)) (x (ae c 2)) x;have inside:(w/4=a/4\/w/4=b/4\/w/4=c/4)->ψ x (ae (aZ a b c w) 3)=x (ae w 3):=fun hi=>by
   rcases h.ends hw hi hk with(rfl|rfl|rfl)|(e|e|e)
   {rw[tG1,t33];exact q2};{rw[tG2,t33];exact q4};{rw[tG3,t33];exact q6};{exact absurd e n1};{exact absurd e n2};{exact absurd e n3}
  rcases h.mem hwm with e|e|e|⟨-,e1,e2,e3⟩
  {exact inside (.inl e)};{exact inside (.inr (.inl e))};{exact inside (.inr (.inr e))};{rw[gY e1 e2 e3];exact ψo x _ (by rw[af];exact e1) (by rw[af];exact e2) (by rw[af];exact e3)}
 have Xt:∀x,PG (a/4::b/4::c/4::cs) K m x->∀z,z/4∈a/4::b/4::c/4::cs->K z=true->z≠a->z≠b->z≠c->x z=ψ x (ae (aZ a b c (m z)) 3):=fun x hx z hz hk n1 n2 n3=>by obtain⟨q1,q2,q3⟩:=notg z hz n1 n2 n3;rw[star' x (m z) (h.inv z hz).2 (by rw[h.jq.cF z hz];exact hk) q1 q2 q3];exact hx z hz hk
 have hψ:∀x,PG (a/4::b/4::c/4::cs) K m x->PG (a/4::b/4::c/4::cs) K' m' (ψ x):=fun x hx z hz hk=>by
  obtain⟨q1,q2,q3,q4,q5,q6⟩:=h.LU (x (ae a 2)) (x (ae b 2)) (x (ae c 2)) x;have na:=an (h:=a) (j:=2) oQ oQ;have nb:=an (h:=b) (j:=2) oQ oQ;have nc:=an (h:=c) (j:=2) oQ oQ;have hab:=h.hab;have hbc:=h.hbc;have hca:=h.hca;have a2:=af a 2;have b2:=af b 2;have c2:=af c 2;rcases h.mem hz with e|e|e|⟨VE,e1,e2,e3⟩
  ·rcases aw e with rfl|rfl|rfl|rfl
   {rw[h.ff (.inl rfl),hw]at hk;cases hk};{rw[h.g3,<-Xt x hx (ae c 2) (memC 2) (by rw[wC.2.1,kc]) oZ oZ nc];exact q5};{rw[h.ff (inA 2),wA.2.1,hw]at hk;cases hk};{rw[h.p3,t23];exact q4.trans q3.symm}
  ·rcases aw e with rfl|rfl|rfl|rfl
   {rw[h.ff (.inr (.inl rfl)),kb]at hk;cases hk};{rw[h.g1,<-Xt x hx (ae a 2) (memA 2) (by rw[wA.2.1,hw]) na oZ oZ];exact q1};{rw[h.ff (inB 2),wB.2.1,kb]at hk;cases hk};{rw[h.p1,t23];exact q6.trans q5.symm}
  ·rcases aw e with rfl|rfl|rfl|rfl
   {rw[h.ff (.inr (.inr rfl)),kc]at hk;cases hk};{rw[h.g2,<-Xt x hx (ae b 2) (memB 2) (by rw[wB.2.1,kb]) oZ nb oZ];exact q3};{rw[h.ff (inC 2),wC.2.1,kc]at hk;cases hk};{rw[h.p2,t23];exact q2.trans q1.symm}
  {rw[ψo x z e1 e2 e3,h.off z VE,<-Xt x hx z hz (by rw[<-h.pF e1 e2 e3];exact hk) oZ oZ oZ]}
 obtain⟨e,he⟩:∃e:bB,e=fun x=>if x=a\/x=b\/x=c then 1 else 0:=⟨_,rfl⟩
 have ea:e a=1:=by rw[he];exact Re (.inl rfl)
 have eb:e b=1:=by rw[he];exact Re (.inr (.inl rfl))
 have ec:e c=1:=by rw[he];exact Re (.inr (.inr rfl))
 have hab:=h.hab;have hbc:=h.hbc;have hca:=h.hca;have na:=an (h:=a) (j:=2) oQ oQ;have nb:=an (h:=b) (j:=2) oQ oQ;have nc:=an (h:=c) (j:=2) oQ oQ;have a2:=af a 2;have b2:=af b 2;have c2:=af c 2;have ea2:e (ae a 2)=0:=by rw[he];exact Rc (by rintro(g|g|g)<;>omega)
 have eb2:e (ae b 2)=0:=by rw[he];exact Rc (by rintro(g|g|g)<;>omega)
 have ec2:e (ae c 2)=0:=by rw[he];exact Rc (by rintro(g|g|g)<;>omega)
 have ez:∀x,BG cs K x e=0:=fun x=>rI fun d hd=>by
  obtain⟨n1,n2,n3⟩:=csne d hd;have z:∀g,g/4=d->e g=0:=fun g hg=>by rw[he];exact Rc (by rintro(i|i|i)<;>subst i<;>omega)
  unfold gT;rw[z _ oZ,z (4*d+2) oZ,z (4*d+1) oZ,z (4*d+3) oZ];simp
 have hPe:PG (a/4::b/4::c/4::cs) K m e:=fun g hg hk=>by
  have key:(ae (m g) 3=a\/ae (m g) 3=b\/ae (m g) 3=c)↔(g=a\/g=b\/g=c):=by have hi:=(h.inv g hg).1;constructor;{rintro(i|i|i);{have hm:m g=ae a 1:=dC (k:=3) (by rw[i,t13]);rw[hm,h.j3]at hi;exact .inr (.inr hi.symm)};{have hm:m g=ae b 1:=dC (k:=3) (by rw[i,t13]);rw[hm,h.j1]at hi;exact .inl hi.symm};{have hm:m g=ae c 1:=dC (k:=3) (by rw[i,t13]);rw[hm,h.j2]at hi;exact .inr (.inl hi.symm)}};{rintro(rfl|rfl|rfl);{exact .inr (.inl (by rw[h.i1,t13]))};{exact .inr (.inr (by rw[h.i2,t13]))};{exact .inl (by rw[h.i3,t13])}}
  rw[he];show(if _ then _ else _)=if _ then _ else _;by_cases i:g=a\/g=b\/g=c;{rw[Re i,Re (key.2 i)]};{rw[Rc i,Rc fun i2=>i (key.1 i2)]}
 have YV:∀x,PG (a/4::b/4::c/4::cs) K m x->BG (a/4::b/4::c/4::cs) K x e=σ*x a-(eta a*x (ae a 2)+eta b*x (ae b 2)+eta c*x (ae c 2)):=fun x hx=>by
  obtain⟨T1,T2⟩:=T x hx;rw[VC,ez,ga,gb,gc,ea,eb,ec,ea2,eb2,ec2,<-T2,<-T1,<-hσ]
  grind
 have hbee:BG (a/4::b/4::c/4::cs) K e e=σ:=by rw[YV e hPe,ea,ea2,eb2,ec2];omega
 have hσ2:σ*σ=1:=by rw[<-hσ];rcases h.M' with⟨e1,e2,e3⟩|⟨e1,e2,e3⟩|⟨e1,e2,e3⟩|⟨e1,e2,e3⟩|⟨e1,e2,e3⟩|⟨e1,e2,e3⟩<;>rw[e1,e2,e3]<;>rfl
 have Xz:Df σ=σ:=by rw[<-hσ];rcases h.M' with⟨e1,e2,e3⟩|⟨e1,e2,e3⟩|⟨e1,e2,e3⟩|⟨e1,e2,e3⟩|⟨e1,e2,e3⟩|⟨e1,e2,e3⟩<;>rw[e1,e2,e3]<;>rfl
 have key:kU (fun x=>PG (a/4::b/4::c/4::cs) K m x/\BG (a/4::b/4::c/4::cs) K x e=0) (BG (a/4::b/4::c/4::cs) K) t:=by
  refine ht.map (φ:=φ) (fun x hx=>⟨hφ x hx,?_⟩) (fun x y hx hy=>?_) (fun x hx=>⟨ψ x,hψ x hx.1,fun y _=>?_⟩) (kR _ _);{obtain⟨p1,p2,p3,pa,pb,pc⟩:=h.D9 (T0 x) (x (ae b 1)) (x (ae c 1)) (x (ae a 1)) x;rw[YV _ (hφ x hx),show φ x a=_ from p1,show φ x (ae a 2)=_ from pa,show φ x (ae b 2)=_ from pb,show φ x (ae c 2)=_ from pc];show σ*(σ*_)-_=0;rw[<-RO,hσ2];omega}
  ·obtain⟨E1,E2,E3⟩:=E x hx
   obtain⟨F1,F2,F3⟩:=E y hy;obtain⟨p1,p2,p3,pa,pb,pc⟩:=h.D9 (T0 x) (x (ae b 1)) (x (ae c 1)) (x (ae a 1)) x;obtain⟨r1,r2,r3,ra,rb,rc⟩:=h.D9 (T0 y) (y (ae b 1)) (y (ae c 1)) (y (ae a 1)) y;have VE:BG cs K (φ x) (φ y)=BG cs K x y:=cH fun d hd=>by obtain⟨n1,n2,n3⟩:=csne d hd;exact pG (fun g hg=>φo x g oZ oZ oZ) fun g hg=>φo y g oZ oZ oZ
   rw[VC,VC,BGK,VE,ga,gb,gc,ga',gb',gc',E1,E2,E3,F1,F2,F3,show φ x a=_ from p1,show φ x b=_ from p2,show φ x c=_ from p3,show φ x (ae a 2)=_ from pa,show φ x (ae b 2)=_ from pb,show φ x (ae c 2)=_ from pc,
    show φ y a=_ from r1,show φ y b=_ from r2,show φ y c=_ from r3,show φ y (ae a 2)=_ from ra,show φ y (ae b 2)=_ from rb,show φ y (ae c 2)=_ from rc]
   show eta a*((σ*_-_)*(σ*_-_))+_=_;rw[<-hσ];rcases h.M' with⟨e1,e2,e3⟩|⟨e1,e2,e3⟩|⟨e1,e2,e3⟩|⟨e1,e2,e3⟩|⟨e1,e2,e3⟩|⟨e1,e2,e3⟩<;>simp only[T0,<-hσ,e1,e2,e3]<;>grind
  ·have h0:=hx.2
   rw[YV x hx.1]at h0;obtain⟨T1,T2⟩:=T x hx.1;obtain⟨q1,q2,q3,q4,q5,q6⟩:=h.LU (x (ae a 2)) (x (ae b 2)) (x (ae c 2)) x;obtain⟨p1,p2,p3,pa,pb,pc⟩:=h.D9 (T0 (ψ x)) (ψ x (ae b 1)) (ψ x (ae c 1)) (ψ x (ae a 1)) (ψ x);have ht0:T0 (ψ x)=x a:=by show σ*(eta a*ψ x (ae b 1)+eta b*ψ x (ae c 1)+eta c*ψ x (ae a 1))=_;rw[show ψ x (ae b 1)=_ from q1,show ψ x (ae c 1)=_ from q3,show ψ x (ae a 1)=_ from q5];have:eta a*x (ae a 2)+eta b*x (ae b 2)+eta c*x (ae c 2)=σ*x a:=oZ;rw[this,<-RO,hσ2,SH]
   have VE:BG cs K (φ (ψ x)) y=BG cs K x y:=cH fun d hd=>by obtain⟨n1,n2,n3⟩:=csne d hd;exact jX (fun g hg=>(φo _ g oZ oZ oZ).trans (ψo x g oZ oZ oZ))
   rw[VC,VC,VE,ga,gb,gc,ga,gb,gc,show φ (ψ x) a=_ from p1,show φ (ψ x) b=_ from p2,show φ (ψ x) c=_ from p3,show φ (ψ x) (ae a 2)=_ from pa,show φ (ψ x) (ae b 2)=_ from pb,show φ (ψ x) (ae c 2)=_ from pc,ht0,
    show ψ x (ae b 1)=_ from q1,show ψ x (ae c 1)=_ from q3,show ψ x (ae a 1)=_ from q5,<-T2,<-T1]
 have hcut:=key.cut (sK _ _ _) (kR _ _) hPe;rw[hbee,Xz]at hcut;refine⟨_,hcut,?_⟩;show _-(cT K s (a/4)+(cT K s (b/4)+(cT K s (c/4)+lS cs (cT K s))))=_-(cT K' s (a/4)+(cT K' s (b/4)+(cT K' s (c/4)+lS cs (cT K' s))));have fA:=xt (s:=s) altA rfl hw (h.ff (x:=4*(a/4)) (.inl oZ));have fB:=xt (s:=s) altB rfl kb (h.ff (x:=4*(b/4)) (.inr (.inl oZ)));have fC:=xt (s:=s) altC rfl kc (h.ff (x:=4*(c/4)) (.inr (.inr oZ)));have fS:lS cs (cT K s)=lS cs (cT K' s):=cH fun d hd=>by obtain⟨n1,n2,n3⟩:=csne d hd;unfold cT;rw[h.pF (x:=4*d) oZ oZ oZ]
 rw[fA,fB,fC,fS,<-hσ];omega
end
theorem Fc(N S:Nat)(h:Nat->Nat)(hS:∀k,k<N->h k<S)(a u:Nat->Int):(sI N fun k=>a k*u (h k))=sI S fun g=>u g*sI N fun k=>if h k=g then a k else 0:=by
 rw[aj (n:=S) (g:=fun g=>sI N fun k=>u g*if h k=g then a k else 0) fun g _=>(bj N (u g) _).symm,ft];refine aj fun k hk=>?_
 rw[cI (k:=h k) _ (hS k hk) fun g _ hg=>by rw[Rc (fun e=>hg e.symm),RF],Re rfl,RW]
section
variable{N S:Nat}{h:Nat->Nat}{σ:Nat->Int}{W:Nat->Bool}
theorem vR(hW:∀g,W (g+1)= !W g)(hS:∀k,k<N->1<=h k/\h k<S){v w:bB}(hv:∀g,1<=g->g<S->W g=true->cS N h v g=0):
  (sI N fun k=>if W (h k)=true then v k*Lk N h w k else 0)=sI N fun j=>if W (h j)=true then 0 else w j*Rk N h v j:=by
 have e1:(sI N fun k=>if W (h k)=true then v k*Lk N h w k else 0)=(sI N fun k=>v k*(if W (h k)=true then w (N+h k-1)else 0))+sI N fun k=>sI N fun j=>if j<k/\h j+1=h k/\W (h k)=true then v k*w j else 0:=by
  rw[<-dX];refine aj fun k hk=>?_
  have e2:(sI N fun j=>if j<k/\h j+1=h k/\W (h k)=true then v k*w j else 0)=sI k fun j=>if h j+1=h k/\W (h k)=true then v k*w j else 0:=by
   rw[show N=k+(N-k) by omega,mU,aX (n:=N-k) fun i _=>Rc (fun h=>by have:=h.1;omega),R6];refine aj fun j hj=>?_
   by_cases e:h j+1=h k/\W (h k)=true;{rw[Re ⟨hj,e⟩,Re e]};{rw[Rc (fun h=>e h.2),Rc e]}
  rw[e2];unfold Lk;by_cases hw:W (h k)=true
  ·rw[Re hw,Re hw,Ty,<-bj]
   congr 1;refine aj fun j _=>?_
   by_cases e:h j+1=h k;{rw[Re e,Re ⟨e,hw⟩]};{rw[Rc e,Rc (fun h=>e h.1),RF]}
  {rw[Rc hw,Rc hw,aX fun j _=>Rc (fun h=>hw h.2),RF];rfl}
 have e3:(sI N fun k=>v k*(if W (h k)=true then w (N+h k-1)else 0))=0:=by
  have:=Fc N S h (fun k hk=>(hS k hk).2) v fun g=>if W g=true then w (N+g-1)else 0
  rw[this];refine aX fun g hg=>?_
  by_cases hw:W g=true
  ·rcases Se g with h0|h0
   {subst h0;rw[aX fun k hk=>Rc (by have:=(hS k hk).1;omega),RF]};{have:=hv g h0 hg hw;unfold cS at this;rw[this,RF]}
  {rw[Rc hw,Sc]}
 rw[e1,e3,UO,ft];refine aj fun j hj=>?_
 by_cases hw:W (h j)=true
 ·rw[Re hw]
  refine aX fun k _=>Rc fun h1=>?_
  rw[<-h1.2.1,hW,hw]at h1;exact absurd h1.2.2 oQ
 ·rw[Rc hw]
  unfold Rk;rw[<-bj];refine aj fun k _=>?_
  by_cases e:j<k/\h k=h j+1;{rw[Re ⟨e.1,e.2.symm,by rw[e.2,hW];simpa using hw⟩,Re e,RW]};{rw[Rc (fun h=>e ⟨h.1,h.2.1.symm⟩),Rc e,RF]}
theorem N_(hW:∀g,W (g+1)= !W g)(hS:∀k,k<N->1<=h k/\h k<S){v w:bB}(hv:P2 N S h σ W v)(hw:P2 N S h σ W w):
  QB N h σ v w=sI N fun k=>if W (h k)=true then-σ k*(v k*w k)else σ k*(v k*w k):=by
 have c1:=vR hW hS (w:=w) hv.2;have c2:=vR hW hS (w:=v) hw.2
 have key:QB N h σ v w=(sI N fun k=>if W (h k)=true then-σ k*(v k*w k)else σ k*(v k*w k))+(((sI N fun k=>if W (h k)=true then v k*Lk N h w k else 0)-sI N fun j=>if W (h j)=true then 0 else w j*Rk N h v j)+
   ((sI N fun k=>if W (h k)=true then w k*Lk N h v k else 0)-sI N fun j=>if W (h j)=true then 0 else v j*Rk N h w j)):=by
  rw[<-nr,<-nr,<-dX,<-dX];refine aj fun k hk=>?_
  by_cases e:W (h k)=true;{simp only[Re e];omega}
  ·have h1:=hv.1 k hk (by simpa using e)
   have h2:=hw.1 k hk (by simpa using e);simp only[Rc e];have h3:Lk N h v k=σ k*v k-Rk N h v k:=by rw[SG]at h1;omega
   have h4:Lk N h w k=σ k*w k-Rk N h w k:=by rw[SG]at h2;omega
   rw[h3,h4]
   grind
 rw[key,c1,c2];omega
end
def oR(s:Nat->Int)(c:Nat):Nat:=if s c=1 then 4*c+1 else 4*c+2
theorem dA(s:Nat->Int)(c:Nat):oR s c/4=c:=by unfold oR;split<;>omega
structure Rd(cs:List Nat)(K:Nat->Bool)(m:Nat->Nat)(s:Nat->Int)(S N:Nat)(c h:Nat->Nat)(cur:Nat->Nat->Nat):Prop where
 perm:cs.Perm ((List.range N).map c)
 inj:∀k l,k<N->l<N->c k=c l->k=l
 jq:DT cs K m
 inv:∀z,z/4∈cs->m (m z)=z/\m z/4∈cs
 sg:∀k,k<N->s (c k)=1\/s (c k)= -1
 hS:∀k,k<N->1<=h k/\h k<S
 inL:∀k,k<N->m (cur k (h k-1))=ae (oR s (c k)) 2
 inR:∀k,k<N->m (cur k (h k))=ae (oR s (c k)) 3
 outL:∀k,k<N->cur (k+1) (h k-1)=ae (oR s (c k)) 1
 outR:∀k,k<N->cur (k+1) (h k)=oR s (c k)
 same:∀k,k<N->∀j,j≠h k-1->j≠h k->cur (k+1) j=cur k j
 close:∀j,j<S->cur N j=cur 0 j
 visit:∀j,j<S->∃k,k<N/\(j=h k-1\/j=h k)
 incs:∀j,j<S->cur 0 j/4∈cs
 cF:∀j,1<=j->j<S->∀x,PG cs K m x->K (cur 0 j)=true->x (cur 0 j)=x (ae (cur 0 (j-1)) 3)
 kface:∀j,1<=j->j<S->K (cur 0 j)=K (ae (cur 0 (j-1)) 3)
theorem ym(r:Nat->Nat)(f:Nat->Int):∀cs:List Nat,lS (cs.map r) f=lS cs fun c=>f (r c)
 |[]=>rfl
 |c::cs=>by show f (r c)+lS (cs.map r) f=f (r c)+_;rw[ym r f cs]
theorem vN(f:Nat->Int):∀(a b:List Nat),lS (a++b) f=lS a f+lS b f
 |[],b=>by show lS b f=0+lS b f;omega
 |x::a,b=>by show f x+lS (a++b) f=f x+lS a f+lS b f;rw[vN f a b];omega
theorem sG(f:Nat->Int):∀N,lS (List.range N) f=sI N f
 |0=>rfl
 |N+1=>by rw[Sk,vN,sG f N];show _+(f N+0)=_+f N;omega
def Ph(N:Nat)(v:bB):Nat->Int
 |0=>0
 |1=>0
 |g+2=>Ph N v g-v (N+g)
def mK(N:Nat)(h:Nat->Nat)(v:bB)(k g:Nat):Int:=Ph N v g+sI k fun j=>if h j=g then v j else 0
section
variable{cs:List Nat}{K:Nat->Bool}{m:Nat->Nat}{s:Nat->Int}{S N:Nat}{c h:Nat->Nat}{cur:Nat->Nat->Nat}(H:Rd cs K m s S N c h cur)
include H
theorem Rd.mem{k:Nat}(hk:k<N):c k∈cs:=H.perm.mem_iff.2 (Sb (Rm.2 hk))
theorem Rd.LK{k:Nat}(hk:k<N)(i:Nat):ae (oR s (c k)) i/4∈cs:=by rw[af,dA];exact H.mem hk
theorem Rd.rV{k:Nat}(hk:k<=N){j:Nat}(hj:j<S):cur k j/4∈cs:=by
 induction k with
 |zero=>exact H.incs j hj
 |succ k ih=>have VH:k<N:=oZ;by_cases e1:j=h k-1;{subst e1;rw[H.outL k VH];exact H.LK VH 1};{by_cases e2:j=h k;{subst e2;rw[H.outR k VH,dA];exact H.mem VH};{rw[H.same k VH j e1 e2];exact ih oZ}}
def Rd.W(_:Rd cs K m s S N c h cur)(g:Nat):Bool:=if g%2=0 then K (cur 0 0)else !K (cur 0 0)
theorem Rd.jB(g:Nat):H.W (g+1)= !H.W g:=by unfold Rd.W;by_cases e:g%2=0;{rw[Re e,Rc oZ]};{rw[Rc e,Re oZ,Sv]}
omit H in
theorem tt(o:Nat):ae (ae o 1) 3=o/\ae (ae o 2) 3=ae o 1/\ae (ae o 3) 3=ae o 2/\ae (ae o 1) 2=ae o 3:=
 ⟨by rw[ar];exact bC o,by rw[ar];exact bF o 1,by rw[ar];exact bF o 2,ar o 1 2⟩
theorem Rd.alts{k:Nat}(hk:k<N):K (ae (oR s (c k)) 1)=(!K (oR s (c k)))/\K (ae (oR s (c k)) 2)=K (oR s (c k))/\K (ae (oR s (c k)) 3)=(!K (oR s (c k))):=
 iq (c:=c k) (fun x hx=>H.jq.alt x (by rw[hx];exact H.mem hk)) (dA s (c k))
theorem Rd.Mv:∀k,k<=N->∀j,j<S->K (cur k j)=H.W j:=fun k=>by
 induction k with
 |zero=>
  intro _ j
  induction j with
  |zero=>intro _;unfold Rd.W;rw[Re rfl]
  |succ j ih=>intro hj;rw[H.kface (j+1) oZ hj,H.jB,<-ih oZ,Tj];exact(iq (c:=cur 0 j/4) (fun x hx=>H.jq.alt x (by rw[hx];exact H.incs j oZ)) rfl).2.2
 |succ k ih=>intro hk j hj;have VH:k<N:=oZ;obtain⟨h1,h2⟩:=H.hS k VH;obtain⟨t1,t2,t3,-⟩:=tt (oR s (c k));by_cases e1:j=h k-1;{subst e1;have a1:=ih oZ (h k-1) hj;have a2:=H.jq.cF _ (H.rV (oZ:k<=N) hj);rw[H.inL k VH,t2]at a2;rw[H.outL k VH,a2,a1]};{by_cases e2:j=h k;{subst e2;have a1:=ih oZ (h k) hj;have a2:=H.jq.cF _ (H.rV (oZ:k<=N) hj);rw[H.inR k VH,t3,(H.alts VH).2.1]at a2;rw[H.outR k VH,a2,a1]};{rw[H.same k VH j e1 e2];exact ih oZ j hj}}
theorem Rd.kc{k:Nat}(hk:k<N):K (oR s (c k))=H.W (h k)/\K (ae (oR s (c k)) 1)=H.W (h k-1)/\K (ae (oR s (c k)) 2)=H.W (h k)/\K (ae (oR s (c k)) 3)=H.W (h k+1):=by obtain⟨h1,h2⟩:=H.hS k hk;have a1:=H.Mv (k+1) oZ (h k) h2;rw[H.outR k hk]at a1;obtain⟨b1,b2,b3⟩:=H.alts hk;refine⟨a1,?_,by rw[b2,a1],by rw[b3,a1,H.jB]⟩;have:=H.jB (h k-1);rw[show h k-1+1=h k by omega]at this;rw[b1,a1,this,Sv]
theorem Rd.LG{k:Nat}(hk:k<N):eta (oR s (c k))= -s (c k):=by
 unfold eta oR;rcases H.sg k hk with e|e<;>rw[e]
 {rw[Re rfl,Rc oZ]};{rw[Rc (show¬(-1:Int)=1 by decide),Re oZ];rfl}
theorem Rd.take:lS cs (cT K s)=sI N fun k=>if H.W (h k)=true then 0 else s (c k):=by
 rw[rq H.perm,ym,sG];refine aj fun k hk=>?_
 have kb:=pj (c:=c k) (fun x hx=>H.jq.alt x (by rw[hx];exact H.mem hk)) (dA s (c k));rw[(H.kc hk).1]at kb;unfold cT;rcases H.sg k hk with e|e
 {rw[show oR s (c k)=4*c k+1 from Re e,Rc oZ]at kb;rw[e,Re rfl,kb];cases H.W (h k)<;>rfl};{rw[show oR s (c k)=4*c k+2 from Rc (by rw[e];decide),Re oZ]at kb;rw[e,Rc oQ,kb]}
theorem Rd.gW{k:Nat}(hk:k<N)(hw:H.W (h k)=true)(x y:bB):gT K x y (c k)= -s (c k)*((x (oR s (c k))-x (ae (oR s (c k)) 2))*(y (oR s (c k))-y (ae (oR s (c k)) 2))):=by rw[ik (fun z hz=>H.jq.alt z (by rw[hz];exact H.mem hk)) (dA s (c k)) (by rw[(H.kc hk).1,hw]),H.LG hk]
theorem Rd.gB{k:Nat}(hk:k<N)(hw:¬H.W (h k)=true)(x y:bB):gT K x y (c k)=s (c k)*((x (ae (oR s (c k)) 1)-x (ae (oR s (c k)) 3))*(y (ae (oR s (c k)) 1)-y (ae (oR s (c k)) 3))):=by
 have k1:K (ae (oR s (c k)) 1)=true:=by rw[(H.alts hk).1,(H.kc hk).1];simpa using hw
 rw[ik (fun z hz=>H.jq.alt z (by rw[hz];exact H.mem hk)) (h:=ae (oR s (c k)) 1) (by rw[af,dA]) k1,(tt _).2.2.2,vF,H.LG hk,Ue]
theorem Rd.bg(x y:bB):BG cs K x y=sI N fun k=>gT K x y (c k):=by unfold BG;rw[rq H.perm,ym,sG]
end
end Go.Proofs.YtdbhigmklejicaaGreat
