/- Lemmas, each under its own premises. -/
import Derived.Test.YtdbhigmklejicaaGreatZ13
namespace Go.Proofs.YtdbhigmklejicaaGreat
set_option maxHeartbeats 16000000
set_option maxRecDepth 100000
open Go.RowKit
def QL(sg mt:List Int)(w:World)(e:Ending)(w':World):Prop:=
 ∃(er:Int)(A1 A2 Am:Option Addr)(n1 k1 n2 k2 nm km:Nat)(L:Int),e= .returned (.tuple #[.agg #[.slice A1 n1 k1,.slice A2 n2 k2,.int .i64 L],.slice Am nm km,.int .i64 er])/\(er=0\/er=5)/\Below w.heap.size w w'/\
  (er=0->∃sg' mt',L=0/\n1=sg'.length/\n2=mt'.length/\RI w' (·<w'.heap.size) A1 sg'/\RI w' (·<w'.heap.size) A2 mt'/\Bd sg' mt' 0/\iZ sg' mt' mt'.length=[]/\Bb sg mt sg' mt')
theorem wQ{A1 A2:Option Addr}{c1 c2:Nat}{sg mt:List Int}(w:World)(S:Nat->Prop)(hx:RI w S A1 sg)(hy:RI w S A2 mt)(hS:∀b,S b->b<w.heap.size)(V:I2 sg mt):
  Calls Tryz.prog 33 #[.agg #[.slice A1 sg.length c1,.slice A2 mt.length c2,.int .i64 0]] w (QL sg mt w):=by
 have HD:=Rb ((bI.start (c1:=c1) (c2:=c2) (L:=0) S hx hy hS).below ((Rh _ _).alloc (Rf _) (.cells #[.slice none 0 0,.slice none 0 0,.int .i64 0] 24)));have T0:=Rb (Kg.new (w:=w) #[.slice A1 sg.length c1,.slice A2 mt.length c2,.int .i64 0] rfl);have HV:=Rb V;have VL:sg.length<1099511627776:=by have:=V.d.1;omega
 have Wb:mt.length<1099511627776:=by have:=V.d.1;have:=V.d.2.1;omega
 clear hx hy hS V;go_enter Tryz.func33,Tryz.ntmps33
 go_wp2_with fail;obtain⟨W,hW⟩:∃W,(w.alloc (.cells #[.slice A1 sg.length c1,.slice A2 mt.length c2,.int .i64 0] 24)).alloc (.cells #[.slice none 0 0,.slice none 0 0,.int .i64 0] 24)=W:=⟨_,rfl⟩
 rw[hW]at HD T0⊢;clear hW;refine(sB A1 A2 c1 c2 sg mt W (·<W.heap.size) HD.out.rs HD.out.rm (fun _ h=>h) HV.out.d HV.out.one).mono ?_;rintro e w1 ⟨rfl,hb⟩;have Vp:=Rb (HD.out.below hb);have T1:=Rb (T0.out.call hb);clear T0 HD hb;have k0:=Vp.out.c0;have k1:=Vp.out.c1;have k2:=Vp.out.c2;go_wp2_with fail;refine(sm A1 A2 c1 c2 sg mt 0 w1 (·<w1.heap.size) Vp.out.rs Vp.out.rm (fun _ h=>h) VL Wb).mono ?_;rintro e w2 ⟨v1,v2,rfl,WU,hb⟩;have T2:=Rb (T1.out.call hb);have V5:=T1.out.lt;obtain⟨B1,d1,rfl,-,-,-⟩:=WU.os.shape;obtain⟨B2,d2,rfl,-,-,-⟩:=WU.om.shape;have T3:=Rb (T2.out.put (WU.mono V5) (fun g h=>by cases h));have Ws:=Rb (Vp.out.below hb);clear T1 Vp hb k0 k1 k2 WU;have k0:=Ws.out.c0;have k1:=Ws.out.c1;have k2:=Ws.out.c2;have g0:=T2.out.g0;have g1:=T2.out.g1;have g2:=T2.out.g2;go_wp2_with fail;clear k0 k1 k2 g0 g1 g2 T2 Ws;have hn64:=HV.out.d.1;go_loopg[6] (64-sg.length) (fun g v wx=>∃(A1 A2:Option Addr)(c1 c2:Nat)(sg' mt':List Int)(ms:List (Int×Int)),sg'.length+g=64/\ms.length<=64/\ms.length<=sg'.length/\Hid (I0 w wx A1 A2 c1 c2 sg' mt' v ms)/\Hid (I2 sg' mt')/\Hid (Bb sg mt sg' mt'))
 case atStart=>exact⟨B1,B2,d1,d2,sg,mt,[],oZ,Rv _,Rv _,T3,HV,Rb (Bb.refl _ _)⟩
 case round=>
  clear T3;obtain⟨A3,A4,c3,c4,sg',mt',ms,hg,hms,hms2,T,HV',HT⟩:=hrel;obtain⟨r1,r2⟩:=T.out.fr.reads;obtain⟨Am,dm,hvm⟩:=T.out.mo.shape;obtain⟨nm,hnm⟩:∃n,ms.length=n:=⟨_,rfl⟩
  rw[hnm]at hvm;subst hvm;have R1:=Rb r1;have R2:=Rb r2;clear r1 r2;have k0:=T.out.k0;have k1:=T.out.k1;have k2:=T.out.k2;by_cases ZQ:iZ sg' mt' mt'.length=[]
  ·go_wp2_with fail
   refine(Hl A3 A4 c3 c4 sg' mt' wr (·<wr.heap.size) R1.out R2.out (fun _ h=>h) HV'.out.d ZQ).mono ?_;rintro e w4 ⟨rfl,hb⟩;have Wx:Below wr.heap.size wr (w4.alloc (.cells #[.int .i64 0,.int .i64 0,.int .i64 0,.int .i64 0,.bool false] 26)):=hb.alloc hb.size _;have T4:=Rb (T.out.call Wx);clear T k0 k1 k2 hb Wx;have k0:=T4.out.k0;have k1:=T4.out.k1;have k2:=T4.out.k2;obtain⟨z0,z1,z2,q0,q1,q2,-⟩:=T4.out.zb;go_wp2_with fail;refine RC (v:= .tuple #[.agg #[.slice A3 sg'.length c3,.slice A4 mt'.length c4,.int .i64 0],.slice Am nm dm,.int .i64 0]) (by simp[results,Tryz.results33,go_sem,z0,z1,z2]) rfl ?_;obtain⟨r1,r2⟩:=T4.out.fr.Ni;refine⟨0,A3,A4,Am,_,c3,_,c4,nm,dm,0,rfl,.inl rfl,?_,fun _=>⟨sg',mt',rfl,rfl,rfl,?_,?_,⟨HV'.out.d,IU HV'.out.d ZQ,HV'.out.one,HV'.out.pos⟩,ZQ,HT.out⟩⟩
   ·iterate 3 refine RM ?_ oJ _
    exact T4.out.bl
   {exact C4 r1};{exact C4 r2}
  ·go_wp2_with fail
   refine(DN A3 A4 c3 c4 sg' mt' wr (·<wr.heap.size) R1.out R2.out (fun _ h=>h) HV'.out.d ZQ).mono ?_;rintro e w4 ⟨x,y,V7,VJ,hib,rfl,hb⟩;have Wx:Below wr.heap.size wr (w4.alloc (.cells #[.int .i64 3,.int .i64 (x:Int),.int .i64 (y:Int),.int .i64 0,.bool true] 26)):=hb.alloc hb.size _;have T4:=Rb (T.out.call Wx);have hlw4:w.heap.size+2<=w4.heap.size:=RQ T.out.lt hb.size;clear T k0 k1 k2 hb Wx;have k0:=T4.out.k0;have k1:=T4.out.k1;have k2:=T4.out.k2;have m0:=Ru w4 (.cells #[.int .i64 3,.int .i64 (x:Int),.int .i64 (y:Int),.int .i64 0,.bool true] 26);go_wp2_with fail;obtain⟨W4,hW4⟩:∃X,w4.alloc (.cells #[.int .i64 3,.int .i64 (x:Int),.int .i64 (y:Int),.int .i64 0,.bool true] 26)=X:=⟨_,rfl⟩
   have hs4:w4.heap.size+1<=W4.heap.size:=by rw[<-hW4];simp
   rw[hW4]at T4 m0⊢;obtain⟨b7,hb7⟩:∃b,w4.heap.size=b:=⟨_,rfl⟩
   rw[hb7]at m0 hs4⊢;clear hW4 k0 k1 k2 R1 R2;obtain⟨r1,r2⟩:=T4.out.fr.reads;refine(JY (c1:=c3) (c2:=c4) W4 (·<W4.heap.size) r1 r2 (fun _ h=>h) HV'.out V7 VJ hib).mono ?_;rintro e w5 ⟨er,A5,A6,n5,k5,n6,k6,L,a,b,c,d,o,rfl,her,WI,h0⟩;have Wx:Below W4.heap.size W4 ((w5.alloc (.cells #[.slice A5 n5 k5,.slice A6 n6 k6,.int .i64 L] 24)).alloc (.cells #[.int .i64 a,.int .i64 b,.int .i64 c,.int .i64 d,.bool o] 26)):=(WI.alloc WI.size _).alloc (by have:=WI.size;simp;omega) _;have T5:=Rb (T4.out.call Wx);have H0:=Rb h0;obtain⟨z0,z1,z2,q0,q1,q2,-⟩:=T5.out.zb;clear r1 r2 h0;rcases her with rfl|rfl
   ·obtain⟨sg2,mt2,rfl,rfl,rfl,WU,hV2,hl2,ht2⟩:=H0.out rfl
    have hlw:=T4.out.lt;have T6:=Rb (T5.out.b.put ((WU.mono hlw).below ((Rh w5.heap.size w5).alloc (Rf _) _|>.alloc oX _) (Rf _)) (fun g hg=>⟨fun e=>by have h1:=(T4.out.mo.lt g hg).2;have h2:=(WU.os.lt g e).1;omega,fun e=>by have h1:=(T4.out.mo.lt g hg).2;have h2:=(WU.om.lt g e).1;omega⟩));have m5:=(Wx.block b7 oZ).trans m0;have Yb:¬b7=w.heap.size:=by have:=hlw4;omega
    have VL:¬w.heap.size=b7:=fun e=>Yb e.symm
    have Zi:=Rb hV2;have HT2:=Rb (HT.out.trans ht2);have k0:=T5.out.k0;have k1:=T5.out.k1;have k2:=T5.out.k2;have g0:=T5.out.g0;have g1:=T5.out.g1;have g2:=T5.out.g2;obtain⟨p0,p1,p2,p3,p4⟩:=yW m5;have HL2:=Rb hl2;clear z0 z1 z2 q0 q1 q2 H0 WU hV2 ht2 hl2;have VZ:Hid ((((((w5.alloc (.cells #[.slice A5 sg2.length k5,.slice A6 mt2.length k6,.int .i64 0] 24)).alloc (.cells #[.int .i64 a,.int .i64 b,.int .i64 c,.int .i64 d,.bool o] 26)).setCell ⟨w.heap.size,0,none⟩ (.slice A5 sg2.length k5)).setCell ⟨w.heap.size,1,none⟩ (.slice A6 mt2.length k6)).setCell ⟨w.heap.size,2,none⟩ (.int .i64 0)).heap.size=w5.heap.size+2):=Rb oX;go_wp2_with(at_builtin;refine Mr T6.out.mo oZ (by have:=T6.out.lt;exact this) rfl rfl Tryz.underlying43 rfl (by rw[VZ.out];rfl) ?_;intro v' w' ho Z_ Vu);have T7:=Rb (T6.out.push ho Z_ Vu);have hl2:=HL2.out;have VO:=Zi.out.d.1;clear ho Z_ Vu;go_roundg (gk-2)
    case rel=>exact⟨A5,A6,k5,k6,sg2,mt2,ms++[((x:Int),(y:Int))],oZ,by rw[Rz,SY];omega,by rw[Rz,SY];omega,T7,Zi,HT2⟩
    case measure=>omega
   {go_wp2_with fail;refine RC (v:= .tuple #[.agg #[.slice none 0 0,.slice none 0 0,.int .i64 0],.slice none 0 0,.int .i64 5]) (by simp[results,Tryz.results33,go_sem,z0,z1,z2]) rfl ?_;refine⟨5,none,none,none,0,0,0,0,0,0,0,rfl,.inr rfl,?_,fun h=>absurd h oQ⟩;(iterate 3 refine RM ?_ oJ _);exact T5.out.bl}

def uI(xss:List (List Int)):Nat:=if AH xss/\JF xss then if EI xss then 0 else 9 else 1
def I7(xss:List (List Int))(p q:Nat)(z:Int):Prop:=
 if uI xss=0 then p+q<=xss.length/\z=(xss.length:Int)-p-q/\OA xss.length (eI xss) p q/\Pg xss.length xss.length (eI xss) (p+q)/\(p+q=xss.length->bS xss.length (eI xss)≠0/\(0<bS xss.length (eI xss)↔q%2=0))else p=0/\q=0/\z=0
structure IC(w4 wr:World)(xss:List (List Int))(n i:Nat)(bs cp:Nat->Nat):Prop where
 ca:wr.cell? ⟨w4.heap.size+1,0,none⟩=some (.slice (some ⟨w4.heap.size,0,none⟩) n n)
 h0:∀x,i<=x->x<n->wr.cell? ⟨w4.heap.size,x,none⟩=some (.slice none 0 0)
 hd:∀x,x<i->wr.cell? ⟨w4.heap.size,x,none⟩=some (.slice (some ⟨bs x,0,none⟩) n (cp x))
 fz:∀x,x<n->wr.frozen? ⟨w4.heap.size,x,none⟩=false
 en:∀x y,x<i->y<n->wr.cell? ⟨bs x,y,none⟩=some (.int .i64 (eI xss x y))
 fr:∀x y,x<i->y<n->wr.frozen? ⟨bs x,y,none⟩=false
 os:∀x,x<i->w4.heap.size+1<bs x/\bs x<wr.heap.size
 oi:∀x y,x<y->y<i->bs x<bs y
 sz:w4.heap.size+2<=wr.heap.size
 bel:Below w4.heap.size w4 wr
theorem IC.step{w4 wr w':World}{xss:List (List Int)}{n i:Nat}{bs cp:Nat->Nat}(h:IC w4 wr xss n i bs cp)(hi:i<n){v:Value}(ho:OI w' wr.heap.size v (xss.getD i []))(hl:bP xss i=n)(hg:wr.grownBy w' none):
  ∃g c,v= .slice (some ⟨g,0,none⟩) n c/\IC w4 (w'.setCell ⟨w4.heap.size,i,none⟩ v) xss n (i+1) (EO bs i g) (EO cp i c):=by
 unfold bP at hl;obtain⟨g,c,rfl,h1,h2,-,-,h3,h4⟩:=OR.ints ho oZ;rw[hl]at h3⊢;refine⟨g,c,rfl,?_⟩;have hk:∀b,b<wr.heap.size->w'.heap[b]?=wr.heap[b]?:=fun b hb=>hg.block b hb oX
 have hc:∀b o,b<wr.heap.size->w'.cell? ⟨b,o,none⟩=wr.cell? ⟨b,o,none⟩:=fun b o hb=>Ri (a:=⟨b,o,none⟩) (hk b hb)
 have hf:∀b o,b<wr.heap.size->w'.frozen? ⟨b,o,none⟩=wr.frozen? ⟨b,o,none⟩:=fun b o hb=>Ro (a:=⟨b,o,none⟩) (hk b hb)
 have VI:=h.sz;have hs:=hg.size;have hb:Below wr.heap.size wr w':=⟨hg.os,hg.tape,hg.output,hs,fun b hb=>hk b hb⟩;refine⟨?_,fun x hx XI=>?_,fun x hx=>?_,fun x hx=>?_,fun x y hx hy=>?_,fun x y hx hy=>?_,fun x hx=>?_,fun x y Vw hy=>?_,by rw[RS];omega,(h.bel.trans (hb.mono oZ)).setCell (p:=⟨w4.heap.size,i,none⟩) (Rf _) _⟩;{rw[aJ oZ,hc _ _ oZ];exact h.ca};{rw[iP oZ,hc _ _ oZ];exact h.h0 x oZ XI};{by_cases e:x=i;{subst e;rw[cm,cm];exact bV (by rw[hc _ _ oZ];exact h.h0 x (Rf _) hi)};{rw[dK _ _ oZ,dK _ _ oZ,iP (TM e),hc _ _ oZ];exact h.hd x oZ}};{rw[Rp,hf _ _ oZ];exact h.fz x hx};{by_cases e:x=i;{subst e;rw[cm,aJ oZ];exact h3 y oZ};{have ho:=h.os x oZ;rw[dK _ _ oZ,aJ oZ,hc _ _ oZ];exact h.en x y oZ hy}};{by_cases e:x=i;{subst e;rw[cm,Rp];exact h4 y};{have ho:=h.os x oZ;rw[dK _ _ oZ,Rp,hf _ _ oZ];exact h.fr x y oZ hy}};{rw[RS];by_cases e:x=i;{subst e;rw[cm];omega};{have ho:=h.os x oZ;rw[dK _ _ oZ];omega}};{by_cases e:y=i;{subst e;have ho:=h.os x oZ;rw[cm,dK _ _ oZ];omega};{rw[dK _ _ (show x<i by omega),dK _ _ (show y<i by omega)];exact h.oi x y Vw oZ}}
section
variable{w4 wr w':World}{xss:List (List Int)}{n i:Nat}{bs cp:Nat->Nat}{b o:Nat}{u v:Value}
theorem IC.ak(h:IC w4 wr xss n i bs cp)(hg:wr.grownBy w' none)(hb:b<w4.heap.size)(h1:wr.cell? ⟨w4.heap.size+1,0,none⟩=some u)(h2:wr.cell? ⟨b,o,none⟩=some v):w'.cell? ⟨w4.heap.size+1,0,none⟩=some u/\w'.cell? ⟨b,o,none⟩=some v:=by have VI:=h.sz;exact⟨(Ri (a:=⟨w4.heap.size+1,0,none⟩) (hg.block _ (by show _<_;(try dsimp only);omega) oX)).trans h1,(Ri (a:=⟨b,o,none⟩) (hg.block _ (by show _<_;(try dsimp only);omega) oX)).trans h2⟩
theorem IC.Ij(h:IC w4 wr xss n i bs cp)(hg:wr.grownBy w' none)(h1:wr.frozen? ⟨w4.heap.size,i,none⟩=false):w'.frozen? ⟨w4.heap.size,i,none⟩=false:=by have VI:=h.sz;exact(Ro (a:=⟨w4.heap.size,i,none⟩) (hg.block _ (by show _<_;(try dsimp only);omega) oX)).trans h1
theorem IC.NY(h:IC w4 wr xss n i bs cp)(hg:wr.grownBy w' none)(h1:wr.cell? ⟨w4.heap.size,i,none⟩=some u):w'.cell? ⟨w4.heap.size,i,none⟩=some u:=by have VI:=h.sz;exact(Ri (a:=⟨w4.heap.size,i,none⟩) (hg.block _ (by show _<_;(try dsimp only);omega) oX)).trans h1
end
theorem xH{w w':World}(h:w.drew.grownBy w' (Value.slice none 0 0).ownBlock):w.grownBy w' none:=⟨h.os,h.tape,h.output,h.size,h.block⟩
theorem IC.heap{w4 wr w':World}{xss:List (List Int)}{n i:Nat}{bs cp:Nat->Nat}(h:IC w4 wr xss n i bs cp)(e:w'.heap=wr.heap)(e1:w'.os=wr.os)(e2:w'.tape=wr.tape)(e3:w'.output=wr.output):IC w4 w' xss n i bs cp:=by
 have c:∀x,w'.cell? x=wr.cell? x:=fun x=>Ri (by rw[e])
 have f:∀x,w'.frozen? x=wr.frozen? x:=fun x=>Ro (by rw[e])
 exact⟨by rw[c];exact h.ca,fun x hx XI=>by rw[c];exact h.h0 x hx XI,fun x hx=>by rw[c];exact h.hd x hx,fun x hx=>by rw[f];exact h.fz x hx,fun x y hx hy=>by rw[c];exact h.en x y hx hy,fun x y hx hy=>by rw[f];exact h.fr x y hx hy,
  fun x hx=>by rw[e];exact h.os x hx,h.oi,by rw[e];exact h.sz,⟨e1.trans h.bel.os,e2.trans h.bel.tape,e3.trans h.bel.output,by rw[e];exact h.bel.size,fun b hb=>by rw[e];exact h.bel.block b hb⟩⟩
theorem IC.start{w4:World}(xss:List (List Int))(n:Nat)(t t':TypeId):IC w4 ((w4.alloc (.cells (Array.replicate n (Value.slice none 0 0)) t)).alloc (.cells #[.slice (some ⟨w4.heap.size,0,none⟩) n n] t')) xss n 0 (fun _=>0) (fun _=>0):=by have VI:(w4.alloc (.cells (Array.replicate n (Value.slice none 0 0)) t)).heap.size=w4.heap.size+1:=oX;refine⟨?_,fun x hx XI=>?_,fun x hx=>absurd hx (RG _),fun x hx=>?_,fun x y hx=>absurd hx (RG _),fun x y hx=>absurd hx (RG _),fun x hx=>absurd hx (RG _),fun x y _ hy=>absurd hy (RG _),oX,?_⟩;{rw[<-VI,RT];rfl};{rw[Sm _ _ ⟨w4.heap.size,x,none⟩ (by rw[VI];exact R9 _)];exact(cN (t:=t) XI).1};{rw[Tb _ _ ⟨w4.heap.size,x,none⟩ (by rw[VI];exact Nat.ne_of_lt (R9 _))];exact(cN (t:=t) hx).2};{exact((Rh _ w4).alloc (Rf _) _).alloc (by rw[VI];omega) _}
def PB(b4 b3 w0:Nat)(bs cp:Nat->Nat):Ly:=⟨b4+1,b3+1,b3+1+1,w0,w0+1,b4,b3,bs,cp,some ⟨b4,0,none⟩,some ⟨b3,0,none⟩⟩
theorem EW.start{w4 wr:World}{xss:List (List Int)}{n w0:Nat}{bs cp:Nat->Nat}(h:IC w4 wr xss n n bs cp)(hw:w0+2<=w4.heap.size)(d1:w4.cell? ⟨w0,0,none⟩=some (.int .i64 0))(d2:w4.cell? ⟨w0+1,0,none⟩=some (.int .i64 0))
  (g1:w4.frozen? ⟨w0,0,none⟩=false)(g2:w4.frozen? ⟨w0+1,0,none⟩=false)(t t' t'':TypeId):
  EW (((wr.alloc (.cells (Array.replicate n (Value.bool false)) t)).alloc (.cells #[.slice (some ⟨wr.heap.size,0,none⟩) n n] t')).alloc (.cells #[.int .i64 1] t'')) (PB w4.heap.size wr.heap.size w0 bs cp) n (eI xss) (fun _=>false) 1 0 0:=by
 obtain⟨w5,h5⟩:∃x,wr.alloc (.cells (Array.replicate n (Value.bool false)) t)=x:=⟨_,rfl⟩
 obtain⟨w6,h6⟩:∃x,w5.alloc (.cells #[.slice (some ⟨wr.heap.size,0,none⟩) n n] t')=x:=⟨_,rfl⟩
 obtain⟨w7,h7⟩:∃x,w6.alloc (.cells #[.int .i64 1] t'')=x:=⟨_,rfl⟩
 rw[h5,h6,h7];have s5:w5.heap.size=wr.heap.size+1:=by rw[<-h5];simp
 have s6:w6.heap.size=wr.heap.size+1+1:=by rw[<-h6];simp[s5]
 have s7:w7.heap.size=wr.heap.size+1+1+1:=by rw[<-h7];simp[s6]
 have VI:=h.sz;have b5:Below wr.heap.size wr w5:=by rw[<-h5];exact(Rh _ wr).alloc (Rf _) _
 have b6:Below w5.heap.size w5 w6:=by rw[<-h6];exact(Rh _ w5).alloc (Rf _) _
 have b7:Below w6.heap.size w6 w7:=by rw[<-h7];exact(Rh _ w6).alloc (Rf _) _
 have k7:∀x o,x<w6.heap.size->w7.cell? ⟨x,o,none⟩=w6.cell? ⟨x,o,none⟩/\w7.frozen? ⟨x,o,none⟩=w6.frozen? ⟨x,o,none⟩:=fun x o hx=>⟨Ri (a:=⟨x,o,none⟩) (b7.block x hx),Ro (a:=⟨x,o,none⟩) (b7.block x hx)⟩
 have k6:∀x o,x<w5.heap.size->w7.cell? ⟨x,o,none⟩=w5.cell? ⟨x,o,none⟩/\w7.frozen? ⟨x,o,none⟩=w5.frozen? ⟨x,o,none⟩:=fun x o hx=>by obtain⟨e1,e2⟩:=k7 x o oZ;exact⟨e1.trans (Ri (a:=⟨x,o,none⟩) (b6.block x hx)),e2.trans (Ro (a:=⟨x,o,none⟩) (b6.block x hx))⟩
 have k5:∀x o,x<wr.heap.size->w7.cell? ⟨x,o,none⟩=wr.cell? ⟨x,o,none⟩/\w7.frozen? ⟨x,o,none⟩=wr.frozen? ⟨x,o,none⟩:=fun x o hx=>by obtain⟨e1,e2⟩:=k6 x o oZ;exact⟨e1.trans (Ri (a:=⟨x,o,none⟩) (b5.block x hx)),e2.trans (Ro (a:=⟨x,o,none⟩) (b5.block x hx))⟩
 have k4:∀x o,x<w4.heap.size->w7.cell? ⟨x,o,none⟩=w4.cell? ⟨x,o,none⟩/\w7.frozen? ⟨x,o,none⟩=w4.frozen? ⟨x,o,none⟩:=fun x o hx=>by obtain⟨e1,e2⟩:=k5 x o oZ;exact⟨e1.trans (Ri (a:=⟨x,o,none⟩) (h.bel.block x hx)),e2.trans (Ro (a:=⟨x,o,none⟩) (h.bel.block x hx))⟩
 have cd:w6.cell? ⟨wr.heap.size+1,0,none⟩=some (.slice (some ⟨wr.heap.size,0,none⟩) n n):=by rw[<-h6,<-s5,RT];rfl
 have cb:w7.cell? ⟨wr.heap.size+1+1,0,none⟩=some (.int .i64 1):=by rw[<-h7,<-s6,RT];rfl
 have fb:w7.frozen? ⟨wr.heap.size+1+1,0,none⟩=false:=by rw[<-h7,<-s6];exact Ts ..
 have dc:∀i,i<n->w5.cell? ⟨wr.heap.size,i,none⟩=some (.bool false)/\w5.frozen? ⟨wr.heap.size,i,none⟩=false:=fun i hi=>by rw[<-h5];exact cN (t:=t) hi
 refine⟨(k5 _ _ (by show w4.heap.size+1<_;omega)).1.trans h.ca,(k7 _ _ (by show wr.heap.size+1<_;omega)).1.trans cd,cb,(k4 _ _ (by show w0<_;omega)).1.trans d1,(k4 _ _ (by show w0+1<_;omega)).1.trans d2,fb,(k4 _ _ (by show w0<_;omega)).2.trans g1,
  (k4 _ _ (by show w0+1<_;omega)).2.trans g2,fun _=>⟨rfl,rfl⟩,fun i hi=>(k5 _ _ (by show w4.heap.size<_;omega)).1.trans (h.hd i hi),fun i j hi hj=>?_,fun i j hi hj=>?_,fun i hi=>(k6 _ _ (by show wr.heap.size<_;omega)).1.trans (dc i hi).1,
  fun i hi=>(k6 _ _ (by show wr.heap.size<_;omega)).2.trans (dc i hi).2,?_,fun i hi=>h.os i hi,h.oi⟩
 {have:=h.os i hi;exact(k5 _ _ (by show bs i<_;omega)).1.trans (h.en i j hi hj)};{have:=h.os i hi;exact(k5 _ _ (by show bs i<_;omega)).2.trans (h.fr i j hi hj)};{show w0<w0+1/\w0+1<w4.heap.size/\w4.heap.size<w4.heap.size+1/\w4.heap.size+1<wr.heap.size/\wr.heap.size<wr.heap.size+1/\wr.heap.size+1<wr.heap.size+1+1/\wr.heap.size+1+1<w7.heap.size;omega}
theorem Fx{w:World}{b:Nat}{u0 v0 u v:Value}(d1:w.cell? ⟨b,0,none⟩=some u0)(d2:w.cell? ⟨b+1,0,none⟩=some v0):
  ((w.setCell ⟨b,0,none⟩ u).setCell ⟨b+1,0,none⟩ v).cell? ⟨b,0,none⟩=some u/\((w.setCell ⟨b,0,none⟩ u).setCell ⟨b+1,0,none⟩ v).cell? ⟨b+1,0,none⟩=some v:=
 ⟨by rw[aJ oZ];exact bV d1,bV (by rw[aJ oZ];exact d2)⟩
theorem yH{w:World}{A:Option Addr}{n cap:Nat}{xss:List (List Int)}(h:AM w A n xss):
  Calls Tryz.prog 74 #[.slice A n cap] w fun e w'=>∃(p q:Nat)(z:Int),e= .returned (.tuple #[.int .i64 p,.int .i64 q,.int .i64 z,.int .i64 (uI xss:Nat)])/\I7 xss p q z/\Below w.heap.size w w':=by
 have HX:=Rb h;clear h;obtain⟨W,hW⟩:∃W,(w.alloc (.cells #[.int .i64 0] 3)).alloc (.cells #[.int .i64 0] 3)=W:=⟨_,rfl⟩
 have Xx:Below w.heap.size w W:=by rw[<-hW];exact((Rh _ w).alloc (Rf _) _).alloc oX _
 have VI:W.heap.size=w.heap.size+2:=by rw[<-hW];simp
 have c1:W.cell? ⟨w.heap.size,0,none⟩=some (.int .i64 0):=by rw[<-hW,Sm _ _ ⟨w.heap.size,0,none⟩ oX,RT];rfl
 have c2:W.cell? ⟨w.heap.size+1,0,none⟩=some (.int .i64 0):=by rw[<-hW,show w.heap.size+1=(w.alloc (.cells #[.int .i64 0] 3)).heap.size by simp,RT];rfl
 have f1:W.frozen? ⟨w.heap.size,0,none⟩=false:=by rw[<-hW,Tb _ _ ⟨w.heap.size,0,none⟩ oX];exact Ts ..
 have f2:W.frozen? ⟨w.heap.size+1,0,none⟩=false:=by rw[<-hW,show w.heap.size+1=(w.alloc (.cells #[.int .i64 0] 3)).heap.size by simp];exact Ts ..
 have HB:=Rb Xx;have VZ:=Rb VI;have HWE:=Rb hW;have HR:=Rb (Ga (cap:=cap) (HX.out.call Xx));clear Xx VI hW;go_enter Tryz.func74,Tryz.ntmps74
 go_wp2_with fail;rw[HWE.out];refine HR.out.mono ?_;rintro e w3 ⟨r,rfl,Ys,Vt⟩;have d1:=(Ri (a:=⟨w.heap.size,0,none⟩) (Vt.block w.heap.size (by rw[VZ.out];omega))).trans c1;have d2:=(Ri (a:=⟨w.heap.size+1,0,none⟩) (Vt.block (w.heap.size+1) (by rw[VZ.out];omega))).trans c2;have g1:=(Ro (a:=⟨w.heap.size,0,none⟩) (Vt.block w.heap.size (by rw[VZ.out];omega))).trans f1;have g2:=(Ro (a:=⟨w.heap.size+1,0,none⟩) (Vt.block (w.heap.size+1) (by rw[VZ.out];omega))).trans f2;have XY:=Rb Vt;have HRK:=Rb Ys;have HS3:Hid (w.heap.size+2<=w3.heap.size):=Rb (by rw[<-VZ.out];exact Vt.size);have VW:Hid (Below w.heap.size w w3):=Rb (HB.out.trans (Vt.mono HB.out.size));have HX3:Hid (AM w3 A n xss):=Rb (HX.out.call VW.out);clear c1 c2 f1 f2 Vt Ys HR XY;have WJ:Hid (∀(c:Nat),(uI xss≠0)->I7 xss 0 0 0/\Below w.heap.size w ((w3.setCell ⟨w.heap.size,0,none⟩ (.int .i64 0)).setCell ⟨w.heap.size+1,0,none⟩ (.int .i64 0))):=Rb fun _ hI=>by refine⟨?_,(VW.out.setCell (p:=⟨w.heap.size,0,none⟩) (Rf _) _).setCell (p:=⟨w.heap.size+1,0,none⟩) (U0 _) _⟩;unfold I7;rw[Rc hI];exact⟨rfl,rfl,rfl⟩
 by_cases hm:AH xss
 ·by_cases hs:JF xss
  ·have HDS:=Rb (Rj hs)
   by_cases hl:EI xss
   ·have hE:yD xss=0:=by unfold yD;rw[Re hm,Re hl]
    have HI:Hid (uI xss=0):=Rb (by unfold uI;rw[Re ⟨hm,hs⟩,Re hl]);rw[hE];have ZR:=hm.2.1;rw[HX.out.ln]at ZR;have HM:=Rb hm;have HSY:=Rb hs;have HSM:=Rb hl;clear hm hs hl hE;go_wp2_with fail;refine(gP A cap xss n w3 HX3.out).mono ?_;rintro e w4 ⟨rfl,nz,hw4⟩;rw[HDS.out];rw[show w3.cell? ⟨w.heap.size,0,none⟩=w4.cell? ⟨w.heap.size,0,none⟩ by rw[hw4];rfl]at d1;rw[show w3.cell? ⟨w.heap.size+1,0,none⟩=w4.cell? ⟨w.heap.size+1,0,none⟩ by rw[hw4];rfl]at d2;rw[show w3.frozen? ⟨w.heap.size,0,none⟩=w4.frozen? ⟨w.heap.size,0,none⟩ by rw[hw4];rfl]at g1;rw[show w3.frozen? ⟨w.heap.size+1,0,none⟩=w4.frozen? ⟨w.heap.size+1,0,none⟩ by rw[hw4];rfl]at g2;have HB4:Hid (Below w.heap.size w w4):=Rb (by rw[hw4];exact VW.out.trans ⟨rfl,rfl,rfl,Rf _,fun _ _=>rfl⟩);have HX4:Hid (AM w4 A n xss):=Rb (HX.out.call HB4.out);have ZH:Hid (w.heap.size+2<=w4.heap.size):=Rb (by rw[hw4];exact HS3.out);have D1:=Rb d1;have D2:=Rb d2;have G1:=Rb g1;have G2:=Rb g2;clear hw4 WJ HB VZ HWE HRK HS3 VW HX3 HDS d1 d2 g1 g2;have WY:=k_ n oZ;go_wp2_with fail;clear WY;go_loopw[37] (fun i' wr=>∃(i:Nat)(bs cp:Nat->Nat),i<=n/\i'= .int .i64 i/\Hid (IC w4 wr xss n i bs cp)) (fun i _=>n-(intOf i).toNat)
    case atStart=>exact⟨0,_,_,Rv _,rfl,Rb (IC.start xss n _ _)⟩
    case round=>
     obtain⟨i,bs,cp,Vn,rfl,HC⟩:=hrel;by_cases Vg:i<n
     ·have hx:=(HX4.out.rd.below HC.out.bel).imp fun _ h=>h
      obtain⟨b,off,rfl,VF,VE⟩:=hx.at_ (k:=i) (by rw[HX4.out.ln];exact Vg);obtain⟨Ak,ck,c1,hri,-⟩:=VE i (by rw[HX4.out.ln];exact Vg);have WD:bP xss i=n:=by have:=HSY.out.1 i (by rw[HX.out.ln];exact Vg);rw[HX.out.ln]at this;exact this
      have W7:(xss.getD i []).length<1099511627776:=by unfold bP at WD;omega
      obtain⟨row,VB⟩:∃row,xss.getD i []=row:=⟨_,rfl⟩
      rw[VB]at hri c1 W7;have Y4:=Rb WD;have HRI:=Rb hri;have WR:=Rb W7;have HRW:=Rb VB;have hca:=HC.out.ca;have hh0:=HC.out.h0 i (Rf _) Vg;have Xn:=HC.out.fz i Vg;have VI:=HC.out.sz;clear hx VE hri WD W7 VB;have YC:=Rb (show b<w4.heap.size from VF);go_wp2_with fail
      go_region_law((refine Ee (w:=wr.drew) (xs:=[]) (ys:=row) (B:=wr.heap.size) (OR.nil _ _) HRI.out (by show 0+_<_;rw[Sr];exact WR.out) (Rf _) rfl rfl Tryz.underlying22 rfl rfl ?_;intro v' w' ho X6 Vu;have hg:=xH X6;obtain⟨g,c,rfl,XD⟩:=HC.out.step Vg (by rw[HRW.out];exact ho) Y4.out hg;have hkeep:=(HC.out.ak hg YC.out hca c1).1;have hfz2:=HC.out.Ij hg Xn;have hh2:=HC.out.NY hg hh0))
      all_goals
       have HST:=Rb XD;clear XD ho Vu hg X6 hkeep hfz2 hh2;go_wp2_with fail;go_roundw
       case rel=>exact⟨i+1,_,_,oZ,by go_num,Rb (HST.out.heap rfl rfl rfl rfl)⟩
       case measure=>simp[intOf];omega
     ·obtain rfl:i=n:=oZ
      have hca:=HC.out.ca;have VI:=HC.out.sz;have WY:=gH 94 Tryz.underlying94 i oZ;go_wp2_with fail;clear WY;obtain⟨W0,hW0⟩:∃x,((wr.alloc (.cells (Array.replicate i (Value.bool false)) 4)).alloc (.cells #[.slice (some ⟨wr.heap.size,0,none⟩) i i] 94)).alloc (.cells #[.int .i64 1] 3)=x:=⟨_,rfl⟩
      have Xq:Hid (EW W0 (PB w4.heap.size wr.heap.size w.heap.size bs cp) i (eI xss) (fun _=>false) 1 0 0):=Rb (by rw[<-hW0];exact EW.start HC.out ZH.out D1.out D2.out G1.out G2.out _ _ _);have HBL:Hid (Below w.heap.size w W0):=Rb (by
       rw[<-hW0];have k0:=ZH.out;have k1:=HC.out.sz;exact(((HB4.out.trans (HC.out.bel.mono oZ)).alloc oZ _).alloc qj _).alloc qj _)
      have HSYM:Hid (Sym i (eI xss)):=Rb fun x y hx hy=>by
       have hs:=HSY.out.2;rw[HX.out.ln]at hs;rcases SK x y with e|e|e
       {exact(hs y hy x e).symm};{rw[e]};{exact hs x hx y e}
      have HRC:Hid (bP xss 0=i\/i=0):=Rb (by
       rcases Se i with e|e
       {exact Or.inr e}
       ·have:=HSY.out.1 0 (by rw[HX.out.ln];exact e)
        rw[HX.out.ln]at this;exact Or.inl this)
      have HBN:Hid (gS i i (eI xss)<=1125899906842624):=Rb (by
       have hl:=HSM.out;unfold EI at hl;rw[HX.out.ln]at hl;rcases HRC.out with e|e
       {rw[e]at hl;exact hl}
       ·subst e
        show 1<=_;decide)
      have HPS0:Hid (PS i (eI xss) (fun _=>0) 0 1 (eI xss) (fun _=>false) 0 0):=Rb (PS.start i (eI xss));rw[hW0];generalize hLY:PB w4.heap.size wr.heap.size w.heap.size bs cp=L at Xq;have l1:L.ba=w4.heap.size+1:=by rw[<-hLY];rfl
      have l2:L.bd=wr.heap.size+1:=by rw[<-hLY];rfl
      have l3:L.bb=wr.heap.size+1+1:=by rw[<-hLY];rfl
      have l4:L.bp=w.heap.size:=by rw[<-hLY];rfl
      have l5:L.bq=w.heap.size+1:=by rw[<-hLY];rfl
      have l6:L.P=some ⟨w4.heap.size,0,none⟩:=by rw[<-hLY];rfl
      have l7:L.Q=some ⟨wr.heap.size,0,none⟩:=by rw[<-hLY];rfl
      generalize w4.heap.size=b4 at l1 l6⊢;generalize wr.heap.size=b3 at l2 l3 l7⊢;have WR:=Rb (And.intro l1 (And.intro l2 (And.intro l3 (And.intro l4 (And.intro l5 (And.intro l6 l7))))));clear hLY l1 l2 l3 l4 l5 l6 l7 hca VI hW0 HC Vg Vn HX4 HB4 ZH D1 D2 G1 G2;go_loopg[] (i+1) (fun f wq=>∃(D:Nat->Nat)(k:Nat)(b:Int)(a:Mx)(dn:Nat->Bool)(p q:Nat),i<f+k/\k<=i/\Hid (EW wq L i a dn b p q)/\Hid (PS i (eI xss) D k b a dn p q)/\Hid (Below w.heap.size w wq))
      case atStart=>exact⟨_,0,1,_,_,0,0,oZ,Rv _,Xq,HPS0,HBL⟩
      case round=>
       clear Xq HPS0 HBL;obtain⟨D,k,b,a,dn,p,q,hfk,hki,HE,Zn,HBL⟩:=hrel;obtain⟨l1,l2,l3,l4,l5,l6,l7⟩:=WR.out;have hca:=HE.out.ca;have YR:=HE.out.cd;rw[l1,l6]at hca;rw[l2,l7]at YR;have hdg:=x_ HE.out ZR;have hpr:=Ff HE.out ZR;rw[l6,l7]at hdg hpr;have HDG:=Rb hdg;have HPR:=Rb hpr;have hpq:=Zn.out.bst.pq;clear l1 l2 l3 l4 l5 l6 l7 hdg hpr;go_wp2_with fail;refine HDG.out.mono ?_;rintro e w1 ⟨rfl,(⟨x,hx,dx,VK,rfl⟩|⟨hz,rfl⟩)⟩
       ·obtain⟨WG,hpv,Yi,Yq⟩:=Zn.out.one HSYM.out HBN.out hx dx VK
        have Zl:=Yq.bst.kn;have Xi:=sP HE.out ZR oZ oZ hx Yi Zn.out.bst.b0 hpv WG;obtain⟨l1,l2,l3,l4,l5,-,-⟩:=WR.out;rw[l1,l2,l3,l4,l5]at Xi;have HEL:=Rb Xi;have HPN:=Rb Yq;clear l1 l2 l3 l4 l5 Xi Yq WG hpv Yi;go_wp2_with fail;refine HEL.out.mono ?_;rintro e w2 ⟨rfl,Yd,Vj⟩;have WL:=Rb Yd;have VD:=Rb (HBL.out.trans Vj);clear Yd Vj;go_wp2_with fail;go_roundg (i-k)
        case measure=>omega
        case rel=>exact⟨_,k+1,_,_,_,_,_,oZ,Zl,WL,HPN,VD⟩
       ·have HZ:=Rb hz
        clear hz;go_wp2_with fail;refine HPR.out.mono ?_;rintro e w1 ⟨rfl,(⟨x,y,hx,hy,dx,dy,Vw,rfl⟩|⟨VN,rfl⟩)⟩
        ·obtain⟨c,t,a1,a2,a3,r1,r2,e1,e2,hc0,Yi,hcb,htb,hQ1,ea2,et,hQ2,ea3,Yq,V3,WG⟩:=Zn.out.two HSYM.out HBN.out hx hy dx dy (HZ.out x hx dx) (HZ.out y hy dy) Vw
         have Zl:=Yq.bst.kn;have hadd:=Jc HE.out ZR hx hy;rw[<-e1]at hadd;have HEL1:=Rb (fun wz (hz:EW wz L i a1 dn b p q)=>sP hz ZR oZ oZ hx Yi Zn.out.bst.b0 (by rw[e2];exact hcb) hQ1);have Xl:(p+if(0<c↔0<b)then 1 else 0)<=64:=by split<;>omega
         have hQ':(q+if(0<c↔0<b)then 0 else 1)<=64:=by split<;>omega
         have HEL2:=Rb (fun wz (hz:EW wz L i a2 (mB x dn) c (p+if(0<c↔0<b)then 1 else 0) (q+if(0<c↔0<b)then 0 else 1))=>sP hz ZR Xl hQ' hy hcb hc0 (by rw[et];exact htb) hQ2);obtain⟨l1,l2,l3,l4,l5,-,-⟩:=WR.out;rw[e2,<-ea2,l1,l2,l3,l4,l5]at HEL1;rw[et,<-ea3,V3,WG,l1,l2,l3,l4,l5]at HEL2;rw[l1,l4]at hadd;have HADD:=Rb hadd;have HPN:=Rb Yq;clear l1 l2 l3 l4 l5 hadd Yq e1 e2 hc0 Yi hcb htb hQ1 ea2 et hQ2 ea3 V3 WG Xl hQ' HZ;go_wp2_with fail;refine HADD.out.mono ?_;rintro e w2 ⟨rfl,Yd,Vj⟩;have Wu:=Rb (HEL1.out w2 Yd);have VD:=Rb (HBL.out.trans Vj);clear Yd Vj;go_wp2_with fail;refine Wu.out.mono ?_;rintro e w3' ⟨rfl,he3,Vt⟩;have HC2:=Rb (HEL2.out w3' he3);have XY:=Rb (VD.out.trans Vt);clear he3 Vt;go_wp2_with fail;refine HC2.out.mono ?_;rintro e w4' ⟨rfl,he4,Wp⟩;have HE4:=Rb he4;have HB4':=Rb (XY.out.trans Wp);clear he4 Wp;go_wp2_with fail;go_roundg (i-k)
         case measure=>omega
         case rel=>exact⟨_,k+2,_,_,_,_,_,oZ,Zl,HE4,HPN,HB4'⟩
        ·have hzero:∀u v,u<i->v<i->¬Dn D k u->¬Dn D k v->bm (eI xss) D k u v=0:=fun u v hu hv du dv=>by
          have e1:dn u=false:=by cases h:dn u;rfl;exact absurd ((Zn.out.dd u hu).1 h) du
          have e2:dn v=false:=by cases h:dn v;rfl;exact absurd ((Zn.out.dd v hv).1 h) dv
          rw[<-Zn.out.en u v hu hv e1 e2];exact VN u v hu hv e1 e2
         have hinr:=Zn.out.bst.inr HSYM.out dn Zn.out.dd hzero;have Ys:=Zn.out.bst.rk hzero;have HANS:Hid (I7 xss p q ((i:Int)-p-q)):=Rb (by
          unfold I7;rw[Re HI.out,HX.out.ln];exact⟨oZ,rfl,hinr,by rw[hpq];exact Ys,fun h=>⟨Zn.out.bst.Ql oZ,Zn.out.bst.P8 oZ⟩⟩)
         obtain⟨-,-,-,l4,l5,-,-⟩:=WR.out;obtain⟨-,-,-,c1,c2,-,f1,f2,-,-,-,-,-,-,-,-,-⟩:=HE.out;rw[l4]at c1 f1;rw[l5]at c2 f2;have hp64:p<=64:=oZ;have hq64:q<=64:=oZ;have hod:=HE.out.od;obtain⟨m1,-⟩:=WR.out;rw[l4,l5,m1]at hod;have hlt4:w.heap.size+1<b4+1:=oZ;have k1:∀v:Value,(wr.setCell ⟨w.heap.size,0,none⟩ v).cell? ⟨b4+1,0,none⟩=some (.slice (some ⟨b4,0,none⟩) i i):=fun v=>(aJ oZ).trans hca
         have k2:∀v u:Value,((wr.setCell ⟨w.heap.size,0,none⟩ v).setCell ⟨w.heap.size+1,0,none⟩ u).cell? ⟨b4+1,0,none⟩=some (.slice (some ⟨b4,0,none⟩) i i):=fun v u=>(aJ oZ).trans (k1 v)
         clear VN hzero hinr Ys l4 l5 hod m1;go_wp2_with fail;go_region;(all_goals go_wp2_with fail)
         all_goals
          obtain⟨y0,y1⟩:=Fx (w:=wr) (u:= .int .i64 p) (v:= .int .i64 q) c1 c2;refine RC (v:= .tuple #[.int .i64 p,.int .i64 q,.int .i64 ((i:Int)-p-q),.int .i64 0]) (by simp[results,Tryz.results74,go_sem,y0,y1]) rfl ?_;exact⟨p,q,_,by rw[HI.out];rfl,HANS.out,((HBL.out.setCell (p:=⟨w.heap.size,0,none⟩) (Rf _) _).setCell (p:=⟨w.heap.size+1,0,none⟩) (U0 _) _).trans ⟨rfl,rfl,rfl,Rf _,fun _ _=>rfl⟩⟩
   ·skip
    have hE:yD xss=9:=by unfold yD;rw[Re hm,Rc hl]
    have HI:Hid (uI xss=9):=Rb (by unfold uI;rw[Re ⟨hm,hs⟩,Rc hl]);rw[hE];go_wp2_with fail;refine(gP A cap xss n w3 HX3.out).mono ?_;rintro e w4 ⟨rfl,nz,rfl⟩;rw[HDS.out];go_wp2_with fail;obtain⟨y0,y1⟩:=Fx (w:=w3.drewN nz) (u:= .int .i64 0) (v:= .int .i64 0) d1 d2;refine RC (v:= .tuple #[.int .i64 0,.int .i64 0,.int .i64 0,.int .i64 9]) (by simp[results,Tryz.results74,go_sem,y0,y1]) rfl ?_;obtain⟨k1,k2⟩:=WJ.out 0 (by rw[HI.out];decide);exact⟨0,0,0,by rw[HI.out];rfl,k1,k2.trans ⟨rfl,rfl,rfl,Rf _,fun _ _=>rfl⟩⟩
  ·have HDS:=Rb (Rl hs)
   by_cases hl:EI xss
   ·skip
    have hE:yD xss=0:=by unfold yD;rw[Re hm,Re hl]
    have HI:Hid (uI xss=1):=Rb (by unfold uI;rw[Rc fun h=>hs h.2]);rw[hE];go_wp2_with fail;refine(gP A cap xss n w3 HX3.out).mono ?_;rintro e w4 ⟨rfl,nz,rfl⟩;rw[HDS.out];go_wp2_with fail;obtain⟨y0,y1⟩:=Fx (w:=w3.drewN nz) (u:= .int .i64 0) (v:= .int .i64 0) d1 d2;refine RC (v:= .tuple #[.int .i64 0,.int .i64 0,.int .i64 0,.int .i64 1]) (by simp[results,Tryz.results74,go_sem,y0,y1]) rfl ?_;obtain⟨k1,k2⟩:=WJ.out 0 (by rw[HI.out];decide);exact⟨0,0,0,by rw[HI.out];rfl,k1,k2.trans ⟨rfl,rfl,rfl,Rf _,fun _ _=>rfl⟩⟩
   ·skip
    have hE:yD xss=9:=by unfold yD;rw[Re hm,Rc hl]
    have HI:Hid (uI xss=1):=Rb (by unfold uI;rw[Rc fun h=>hs h.2]);rw[hE];go_wp2_with fail;refine(gP A cap xss n w3 HX3.out).mono ?_;rintro e w4 ⟨rfl,nz,rfl⟩;rw[HDS.out];go_wp2_with fail;obtain⟨y0,y1⟩:=Fx (w:=w3.drewN nz) (u:= .int .i64 0) (v:= .int .i64 0) d1 d2;refine RC (v:= .tuple #[.int .i64 0,.int .i64 0,.int .i64 0,.int .i64 1]) (by simp[results,Tryz.results74,go_sem,y0,y1]) rfl ?_;obtain⟨k1,k2⟩:=WJ.out 0 (by rw[HI.out];decide);exact⟨0,0,0,by rw[HI.out];rfl,k1,k2.trans ⟨rfl,rfl,rfl,Rf _,fun _ _=>rfl⟩⟩
 ·have hE:yD xss=1:=by unfold yD;rw[Rc hm]
  have HI:Hid (uI xss=1):=Rb (by unfold uI;rw[Rc fun h=>hm h.1]);rw[hE];go_wp2_with fail;obtain⟨y0,y1⟩:=Fx (w:=w3) (u:= .int .i64 0) (v:= .int .i64 0) d1 d2;refine RC (v:= .tuple #[.int .i64 0,.int .i64 0,.int .i64 0,.int .i64 1]) (by simp[results,Tryz.results74,go_sem,y0,y1]) rfl ?_;obtain⟨k1,k2⟩:=WJ.out 0 (by rw[HI.out];decide);exact⟨0,0,0,by rw[HI.out];rfl,k1,k2⟩
theorem I7.le{xss:List (List Int)}{p q:Nat}{z:Int}(h:I7 xss p q z):p+q<=xss.length:=by unfold I7 at h;by_cases e:uI xss=0;{rw[Re e]at h;exact h.1};{rw[Rc e]at h;omega}
theorem uG{w:World}{A:Option Addr}{n cap:Nat}{xss:List (List Int)}(h:AM w A n xss):
  Calls Tryz.prog 37 #[.slice A n cap] w fun e w'=>∃(p q:Nat)(z:Int),e= .returned (.tuple #[.int .i64 ((p:Int)-q),.int .i64 (uI xss:Nat)])/\I7 xss p q z/\Below w.heap.size w w':=by
 have HX:=Rb h;clear h;go_enter Tryz.func37,Tryz.ntmps37
 go_wp2_with fail;refine(yH HX.out).mono ?_;rintro e w' ⟨p,q,z,rfl,hA,hb⟩;have hle:=hA.le;have Y0:=HX.out.nl;have hln:=HX.out.ln;unfold maxLen at Y0;have HA:=Rb hA;have HB:=Rb hb;have hw:IntKind.i64.wrap ((p:Int)-(q:Int))=(p:Int)-q:=by rw[Sg];omega
 clear hA hb hle Y0 hln;go_wp2_with fail;go_ret2;exact⟨p,q,z,rfl,HA.out,HB.out⟩
def AF(S:Int)(ws:List Int):Nat:=if vY S ws=0 then if vM (jb S ws)=0 then uI (BQ (jb S ws))else vM (jb S ws)else vY S ws
def KH(S:Int)(ws:List Int)(p q:Nat):Prop:=if AF S ws=0 then OA (BQ (jb S ws)).length (eI (BQ (jb S ws))) p q else p=0/\q=0
theorem Ml(S:Int)(ws:List Int):(jb S ws).length<=64:=by unfold jb;split;{rename_i h;rw[dQ];unfold vY at h;split at h;{split at h;{omega};{omega}};{rename_i h2;exact absurd h h2}};{exact Rv _}
theorem Mb{w:World}{A:Option Addr}{c:Nat}{S:Int}{ws:List Int}{T:Nat->Prop}(hr:RI w T A ws)(hT:∀b,T b->b<w.heap.size)(hl:ws.length<=maxLen)(h1: -9223372036854775808<=S)(h2:S<=9223372036854775807):
  Calls Tryz.prog 15 #[.agg #[.int .i64 S,.slice A ws.length c]] w fun e w'=>∃p q:Nat,e= .returned (.tuple #[.int .i64 ((p:Int)-q),.int .i64 (AF S ws:Nat)])/\KH S ws p q/\Below w.heap.size w w':=by
 have hb:Below w.heap.size w (w.alloc (.cells #[.int .i64 S,.slice A ws.length c] 42)):=(Rh _ w).alloc (Rf _) _;have HM:=Rb (Bt (c:=c) (hr.ak (w':=w.alloc (.cells #[.int .i64 S,.slice A ws.length c] 42)) fun b Vz=>hb.block b (hT b Vz)) (fun b Vz=>RB (hT b Vz) hb.size) hl h1 h2);obtain⟨c0,c1⟩:=ry w S A ws.length c 42;have HB:=Rb hb;clear hr hT hb;obtain⟨W,hW⟩:∃W,w.alloc (.cells #[.int .i64 S,.slice A ws.length c] 42)=W:=⟨_,rfl⟩
 rw[hW]at c0 c1 HB HM;have HW:=Rb hW;clear hW;go_enter Tryz.func15,Tryz.ntmps15
 go_wp2_with fail
 first
  |rw[HW.out]
  |skip
 refine HM.out.mono ?_;rintro e w2 ⟨A2,n2,c2,rfl,Vj,ham⟩;have VD:=Rb (HB.out.trans (Vj.mono HB.out.size));have HAM:=Rb ham;have Yk:n2<=64:=by rw[<-ham.ln];exact Ml S ws
 clear Vj ham HB HM HW c0 c1;by_cases hm:vY S ws=0
 ·have HE:Hid (AF S ws=if vM (jb S ws)=0 then uI (BQ (jb S ws))else vM (jb S ws)):=Rb (by unfold AF;rw[Re hm])
  have HSY:=Rb (qJ (cap:=c2) HAM.out oZ);rw[hm];clear hm;go_wp2_with fail;refine HSY.out.mono ?_;rintro e w3 ⟨A3,n3,c3,rfl,ham3,Vt⟩;have XY:=Rb (VD.out.trans (Vt.mono VD.out.size));have Xy:=Rb (uG (cap:=c3) ham3);clear Vt ham3 HSY;by_cases hs:vM (jb S ws)=0
  ·have WL:Hid (AF S ws=uI (BQ (jb S ws))):=Rb (by rw[HE.out,Re hs])
   rw[hs];clear hs;go_wp2_with fail;refine Xy.out.mono ?_;rintro e w4 ⟨p,q,z,rfl,hA,Wp⟩;have HB4:=Rb (XY.out.trans (Wp.mono XY.out.size));have HO:Hid (KH S ws p q):=Rb (by
    unfold KH;rw[WL.out];unfold I7 at hA;by_cases e:uI (BQ (jb S ws))=0;{rw[Re e]at hA⊢;exact hA.2.2.1}
    ·rw[Rc e]at hA⊢;exact⟨hA.1,hA.2.1⟩)
   rw[<-WL.out];clear hA Wp;go_wp2_with fail;go_ret2;exact⟨p,q,rfl,HO.out,HB4.out⟩
  ·obtain⟨e,he⟩:∃e,vM (jb S ws)=e:=⟨_,rfl⟩
   rw[he]at hs⊢;have WL:Hid (AF S ws=e):=Rb (by rw[HE.out,he,Rc hs]);have z1:((e:Int)!=0)=true:=by rw[RZ];omega
   clear HE;go_wp2_with fail;go_ret2;exact⟨0,0,by rw[WL.out];rfl,by unfold KH;rw[Rc (by rw[WL.out];exact hs)];exact⟨rfl,rfl⟩,XY.out⟩
 ·obtain⟨e,he⟩:∃e,vY S ws=e:=⟨_,rfl⟩
  rw[he]at hm⊢;have WL:Hid (AF S ws=e):=Rb (by unfold AF;rw[he,Rc hm]);have z1:((e:Int)!=0)=true:=by rw[RZ];omega
  go_wp2_with fail;go_ret2;exact⟨0,0,by rw[WL.out];rfl,by unfold KH;rw[Rc (by rw[WL.out];exact hm)];exact⟨rfl,rfl⟩,VD.out⟩
def eW(ws:List Int)(k:Nat):Nat:=(gi ws k).natAbs
def Bm(ws:List Int)(k l:Nat):Int:=if k=l then-yt (gi ws k)else if(k<l/\eW ws l=eW ws k+1)\/(l<k/\eW ws k=eW ws l+1)then 1 else 0
theorem mf(ws:List Int)(k l:Nat):Bm ws k l=Bm ws l k:=by unfold Bm;by_cases e:k=l;{subst e;rfl};{rw[Rc e,Rc (TM e)];by_cases h:(k<l/\eW ws l=eW ws k+1)\/(l<k/\eW ws k=eW ws l+1);{rw[Re h,Re oZ]};{rw[Rc h,Rc oZ]}}
theorem mY:∀(w:List Int)(x:Nat->Int)(h:Nat),sS w x h=sI w.length fun k=>if eW w k=h then x k else 0
 |[],_,_=>rfl
 |z::w,x,h=>by rw[SI,eF];show(if z.natAbs=h then x 0 else 0)+sS w (fun k=>x (k+1)) h=_;rw[mY w (fun k=>x (k+1)) h];rfl
theorem E_:∀(w:List Int)(x l:Nat->Int),qh w x l=fL w.length (Bm w) x x+2*sI w.length fun k=>x k*l (eW w k)
 |[],_,_=>rfl
 |z::w,x,l=>by
  rw[ko,Ln,E_ w,mY,SI,eF];have e0:Bm (z::w) 0 0= -yt z:=Re rfl;have e1:∀k,Bm (z::w) 0 (k+1)=if eW w k=z.natAbs+1 then 1 else 0:=fun k=>by have g0:eW (z::w) 0=z.natAbs:=rfl;have g1:eW (z::w) (k+1)=eW w k:=rfl;unfold Bm;rw[Rc oZ,g0,g1];by_cases h:eW w k=z.natAbs+1;{rw[Re h,Re (Or.inl ⟨oZ,h⟩)]};{rw[Rc h,Rc];rintro(⟨-,h'⟩|⟨h',-⟩);{exact h h'};{omega}}
  have e2:∀k j,Bm (z::w) (k+1) (j+1)=Bm w k j:=fun k j=>by unfold Bm;by_cases h:k=j;{subst h;rw[Re rfl,Re rfl];rfl};{rw[Rc h,Rc oZ];have g1:eW (z::w) (j+1)=eW w j:=rfl;have g2:eW (z::w) (k+1)=eW w k:=rfl;rw[g1,g2];by_cases h2:(k<j/\eW w j=eW w k+1)\/(j<k/\eW w k=eW w j+1);{rw[Re h2,Re oZ]};{rw[Rc h2,Rc oZ]}}
  have b:fL (w.length+1) (Bm (z::w)) x x= -yt z*(x 0*x 0)+2*(x 0*sI w.length fun k=>if eW w k=z.natAbs+1 then x (k+1)else 0)+fL w.length (Bm w) (fun k=>x (k+1)) fun k=>x (k+1):=by
   unfold fL;rw[eF,eF,e0];have s1:(sI w.length fun k=>Bm (z::w) 0 (k+1)*x (k+1))=sI w.length fun k=>if eW w k=z.natAbs+1 then x (k+1)else 0:=aj fun k _=>by rw[e1];split;{rw[SH]};{rw[Sc]}
   have s2:(sI w.length fun k=>x (k+1)*sI (w.length+1) fun j=>Bm (z::w) (k+1) j*x j)=x 0*(sI w.length fun k=>if eW w k=z.natAbs+1 then x (k+1)else 0)+sI w.length fun k=>x (k+1)*sI w.length fun j=>Bm w k j*x (j+1):=by
    rw[<-bj,<-dX];refine aj fun k _=>?_
    rw[eF,mf,e1,aj (g:=fun j=>Bm w k j*x (j+1)) fun j _=>by rw[e2]];split<;>grind
   rw[s1,s2]
   grind
  rw[b];have g0:eW (z::w) 0=z.natAbs:=rfl;have g1:(sI w.length fun k=>x (k+1)*l (eW (z::w) (k+1)))=sI w.length fun k=>x (k+1)*l (eW w k):=rfl
  rw[g0,g1]
  grind
theorem xv(ws:List Int)(g:Nat):∀{k j:Nat},j<k->pE ws g j->(j:Int)<=kQ ws g k
 |k+1,j,hj,hG=>by rw[kQ];split;{omega};{rename_i h;by_cases e:j=k;{subst e;exact absurd hG h};{exact xv ws g oZ hG}}
theorem zV(ws:List Int)(g:Nat):∀k,∀d∈oV ws g k,0<=kQ ws g d.q/\(d.p:Int)=kQ ws g d.q
 |0=>fun d hd=>by simp[oV]at hd
 |k+1=>fun d hd=>by
  have ih:=zV ws g k d;rw[oV]at hd;split at hd
  ·split at hd
   ·rename_i h0
    rcases SS.1 hd with h|h
    {exact ih h};{rw[Ti]at h;subst h;exact⟨h0,by show(((kQ ws g k).toNat:Nat):Int)=kQ ws g k;omega⟩}
   {exact ih hd}
  {exact ih hd}
theorem tE(ws:List Int):∀n,∀d∈iA ws n,0<=kQ ws d.g d.q/\(d.p:Int)=kQ ws d.g d.q
 |0=>fun d hd=>by simp[iA]at hd
 |n+1=>fun d hd=>by
  rw[iA]at hd;rcases SS.1 hd with h|h
  {exact tE ws n d h};{obtain⟨a,-⟩:=oc ws (n+1) ws.length d h;rw[a];exact zV ws (n+1) ws.length d h}
theorem fQ{ws:List Int}{g k:Nat}(h:pE ws g k):eW ws k=g:=by unfold eW;rcases h with h|h<;>rw[h]<;>omega
theorem xk{ws:List Int}{n:Nat}{x y:Lp}(hx:x∈iA ws n)(hy:y∈iA ws n)(hg:x.g=y.g)(h:x.p=y.p\/x.q=y.q):x=y:=by
 obtain⟨-,-,x1,x2,x3,x4⟩:=d_ ws n x hx;obtain⟨-,-,y1,y2,y3,y4⟩:=d_ ws n y hy;obtain⟨x5,x6⟩:=tE ws n x hx;obtain⟨y5,y6⟩:=tE ws n y hy;rw[<-hg]at y3 y4 y5 y6;have hq:x.q=y.q:=by
  rcases h with h|h
  ·rcases SK x.q y.q with e|e|e
   {have:=xv ws x.g e x4;omega};{exact e};{have:=xv ws x.g e y4;omega}
  {exact h}
 have hp:x.p=y.p:=by rw[hq]at x6;omega
 cases x;cases y
 simp_all
theorem vO(ws:List Int)(g:Nat):∀k,(oV ws g k).Nodup
 |0=>by simp[oV]
 |k+1=>by have ih:=vO ws g k;rw[oV];split;{split;{refine U6.2 ⟨ih,oX,fun a ha b hb e=>?_⟩;rw[Ti]at hb;have:=(oc ws g k a ha).2.2.1;rw[e,hb]at this;exact absurd this (Sq k)};{exact ih}};{exact ih}
theorem vP(ws:List Int):∀n,(iA ws n).Nodup
 |0=>by simp[iA]
 |n+1=>by rw[iA];refine U6.2 ⟨vP ws n,vO ws _ _,fun a ha b hb e=>?_⟩;have h1:=(d_ ws n a ha).2.1;have h2:=(oc ws (n+1) ws.length b hb).1;rw[e]at h1;omega
theorem vk(ws:List Int)(g:Nat):∀k,(oV ws g k).length+(if 0<=kQ ws g k then 1 else 0)=cB k fun j=>decide (pE ws g j)
 |0=>rfl
 |k+1=>by have ih:=vk ws g k;rw[oV,kQ,cB];by_cases h:pE ws g k;{rw[Re h,Re h,Re (show(0:Int)<=(k:Int) by omega),Re (Rj h)];by_cases h0:0<=kQ ws g k;{rw[Re h0]at ih⊢;rw[Rz,SY];omega};{rw[Rc h0]at ih⊢;omega}};{rw[Rc h,Rc h,Rc (show¬decide (pE ws g k)=true by simpa using h),Tx];exact ih}
theorem uR(ws:List Int):∀m,EA ws m->(iA ws m).length+m=cB ws.length fun j=>decide (1<=eW ws j/\eW ws j<=m)
 |0,_=>by rw[ct (g:=fun _=>false) fun j _=>Rl oZ,Dm];rfl
 |m+1,h=>by
  have ih:=uR ws m fun g h1 h2=>h g h1 oZ
  have hc:=vk ws (m+1) ws.length;rw[Re (h (m+1) oZ (Rf _))]at hc;have key:∀N,(cB N fun j=>decide (1<=eW ws j/\eW ws j<=m))+(cB N fun j=>decide (pE ws (m+1) j))=cB N fun j=>decide (1<=eW ws j/\eW ws j<=m+1):=fun N=>by
   induction N with
   |zero=>rfl
   |succ N ihN=>rw[cB,cB,cB,<-ihN];have e:pE ws (m+1) N↔eW ws N=m+1:=⟨fQ,fun h=>by unfold eW at h;unfold pE;omega⟩;by_cases h1:1<=eW ws N/\eW ws N<=m;{rw[Re (Rj h1),Rc (by rw[Un,e];omega),Re (Rj oZ)];omega};{by_cases h2:eW ws N=m+1;{rw[Rc (by simpa using h1),Re (Rj (e.2 h2)),Re (Rj oZ)];omega};{rw[Rc (by simpa using h1),Rc (by rw[Un,e];exact h2),Rc (by rw[Un];omega)];omega}}
  rw[iA,Rz,<-key,<-ih,<-hc];omega
def H_(ws:List Int)(x y:Lp):Int:=Bm ws x.p y.p-Bm ws x.p y.q-Bm ws x.q y.p+Bm ws x.q y.q
theorem jj{ws:List Int}{k l:Nat}(h:eW ws k=eW ws l)(Vh:k≠l):Bm ws k l=0:=by unfold Bm;rw[Rc Vh,Rc oZ]
theorem rz{ws:List Int}{k l:Nat}(h:eW ws l=eW ws k+1):Bm ws k l=if k<l then 1 else 0:=by unfold Bm;rw[Rc (by intro e;subst e;omega)];by_cases h1:k<l;{rw[Re h1,Re (.inl ⟨h1,h⟩)]};{rw[Rc h1,Rc oZ]}
theorem wJ{ws:List Int}{k l:Nat}(h1:eW ws l≠eW ws k)(h2:eW ws l≠eW ws k+1)(h3:eW ws k≠eW ws l+1):Bm ws k l=0:=by unfold Bm;rw[Rc (by intro e;subst e;exact h1 rfl),Rc oZ]
theorem FZ(ws:List Int)(x y:Lp):H_ ws x y=H_ ws y x:=by unfold H_;rw[mf ws x.p y.p,mf ws x.p y.q,mf ws x.q y.p,mf ws x.q y.q];omega
theorem Cx{ws:List Int}{n:Nat}{x y:Lp}(hx:x∈iA ws n)(hy:y∈iA ws n)(hg:y.g=x.g+1):H_ ws x y=jF ws x y+jF ws y x:=by
 obtain⟨-,-,x1,x2,x3,x4⟩:=d_ ws n x hx;obtain⟨-,-,y1,y2,y3,y4⟩:=d_ ws n y hy;have a1:=fQ x3;have a2:=fQ x4;have a3:=fQ y3;have a4:=fQ y4;have d1:x.p≠y.p:=fun e=>by rw[e,a3]at a1;omega
 have d2:x.p≠y.q:=fun e=>by rw[e,a4]at a1;omega
 have d3:x.q≠y.p:=fun e=>by rw[e,a3]at a2;omega
 have d4:x.q≠y.q:=fun e=>by rw[e,a4]at a2;omega
 have Vw:¬x=y:=fun e=>by rw[e]at hg;omega
 unfold H_;rw[rz oZ,rz oZ,rz oZ,rz oZ];have e1:jF ws y x=0:=by unfold jF;rw[Rc (TM Vw),Rc oZ,Rc oZ,Rc oZ,Rc oZ]
 have e2:jF ws x y=if x.p<y.p/\y.p<x.q/\x.q<y.q then 1 else if y.p<x.p/\x.p<y.q/\y.q<x.q then-1 else 0:=by unfold jF;rw[Rc Vw,Rc oZ,Rc oZ];by_cases h1:x.p<y.p/\y.p<x.q/\x.q<y.q;{rw[Re ⟨hg,h1⟩,Re h1]};{rw[Rc fun h=>h1 h.2,Rc h1];by_cases h2:y.p<x.p/\x.p<y.q/\y.q<x.q;{rw[Re ⟨hg,h2⟩,Re h2]};{rw[Rc fun h=>h2 h.2,Rc h2]}}
 rw[e1,e2]
 (repeat' split)<;>omega
theorem OM{ws:List Int}{n:Nat}{x y:Lp}(hx:x∈iA ws n)(hy:y∈iA ws n):H_ ws x y=jF ws x y+jF ws y x:=by
 obtain⟨x0,-,x1,x2,x3,x4⟩:=d_ ws n x hx;obtain⟨y0,-,y1,y2,y3,y4⟩:=d_ ws n y hy;have a1:=fQ x3;have a2:=fQ x4;have a3:=fQ y3;have a4:=fQ y4;by_cases Vw:x=y
 ·subst Vw
  have n1:gi ws x.p≠0:=by intro e;unfold eW at a1;rw[e]at a1;simp at a1;omega
  have n2:gi ws x.q≠0:=by intro e;unfold eW at a2;rw[e]at a2;simp at a2;omega
  unfold H_;rw[jj (k:=x.p) (l:=x.q) oZ oZ,jj (k:=x.q) (l:=x.p) oZ oZ];have e1:∀k,Bm ws k k= -yt (gi ws k):=fun k=>Re rfl
  rw[e1,e1];unfold jF yt;rw[Re rfl]
  (repeat' split)<;>omega
 ·by_cases hg:x.g=y.g
  ·have p1:x.p≠y.p:=fun e=>Vw (xk hx hy hg (.inl e))
   have p2:x.q≠y.q:=fun e=>Vw (xk hx hy hg (.inr e))
   unfold H_;rw[jj (k:=x.p) (l:=y.p) oZ p1,jj (k:=x.q) (l:=y.q) oZ p2];have n1:gi ws x.p≠0:=by intro e;unfold eW at a1;rw[e]at a1;simp at a1;omega
   have n2:gi ws x.q≠0:=by intro e;unfold eW at a2;rw[e]at a2;simp at a2;omega
   have e1:∀k,Bm ws k k= -yt (gi ws k):=fun k=>Re rfl
   by_cases h1:x.q=y.p
   ·have f1:jF ws x y=if gi ws x.q<0 then-1 else 0:=by
     unfold jF;rw[Rc Vw,Re (And.intro hg h1)]
    have f2:jF ws y x=if 0<gi ws x.q then 1 else 0:=by unfold jF;rw[Rc (TM Vw),Rc (fun h:y.g=x.g/\y.q=x.p=>by omega),Re (And.intro hg.symm h1.symm),h1]
    rw[jj (k:=x.p) (l:=y.q) oZ oZ,<-h1,e1,f1,f2];unfold yt
    (repeat' split)<;>omega
   ·by_cases h2:x.p=y.q
    ·have f1:jF ws x y=if 0<gi ws x.p then 1 else 0:=by
      unfold jF;rw[Rc Vw,Rc (fun h:x.g=y.g/\x.q=y.p=>h1 h.2),Re (And.intro hg h2)]
     have f2:jF ws y x=if gi ws x.p<0 then-1 else 0:=by unfold jF;rw[Rc (TM Vw),Re (And.intro hg.symm h2.symm),h2]
     rw[jj (k:=x.q) (l:=y.p) oZ oZ,<-h2,e1,f1,f2];unfold yt
     (repeat' split)<;>omega
    {rw[jj (k:=x.p) (l:=y.q) oZ h2,jj (k:=x.q) (l:=y.p) oZ h1];unfold jF;rw[Rc Vw,Rc fun h=>h1 h.2,Rc fun h=>h2 h.2,Rc oZ,Rc oZ,Rc (TM Vw),Rc fun h=>h2 h.2.symm,Rc fun h=>h1 h.2.symm,Rc oZ,Rc oZ];rfl}
  {by_cases h1:y.g=x.g+1;{exact Cx hx hy h1};{by_cases h2:x.g=y.g+1;{rw[FZ,Cx hy hx h2,Int.add_comm]};{unfold H_;rw[wJ oZ oZ oZ,wJ oZ oZ oZ,wJ oZ oZ oZ,wJ oZ oZ oZ];unfold jF;rw[Rc Vw,Rc fun h=>hg h.1,Rc fun h=>hg h.1,Rc fun h=>h1 h.1,Rc fun h=>h1 h.1,Rc (TM Vw),Rc fun h=>hg h.1.symm,Rc fun h=>hg h.1.symm,Rc fun h=>h2 h.1,Rc fun h=>h2 h.1];rfl}}}
theorem Dt(ws:List Int)(g:Nat):∀j,0<=kQ ws g j->pE ws g (kQ ws g j).toNat
 |0=>fun h=>absurd h (by show¬(0:Int)<=-1;omega)
 |j+1=>by rw[kQ];split;{rename_i hj;intro _;simpa using hj};{exact Dt ws g j}
theorem FK{ds:List Lp}(h:ds.Nodup){i j:Nat}(hi:i<ds.length)(hj:j<ds.length)(e:gL ds i=gL ds j):i=j:=by
 have e1:∀k (hk:k<ds.length),gL ds k=ds[k]:=fun k hk=>by unfold gL;simp[hk]
 rw[e1 i hi,e1 j hj]at e;rcases SK i j with h1|h1|h1
 {exact absurd e (TF.1 h i j hi hj h1)};{exact h1};{exact absurd e.symm (TF.1 h j i hj hi h1)}
def Oe(ws:List Int)(g:Nat):Nat:=(kQ ws g ws.length).toNat
def AW(d:Lp):Nat->Int:=fun k=>(if k=d.p then 1 else 0)-(if k=d.q then 1 else 0)
def Pw(ws:List Int)(g:Nat):Nat->Int:=fun k=>if k=Oe ws g then 1 else 0
theorem rf(n:Nat)(σ:Nat->Nat)(c:Nat->Int)(v v':Nat->Int):(sI n fun i=>(v (σ i)+v' (σ i))*c i)=(sI n fun i=>v (σ i)*c i)+sI n fun i=>v' (σ i)*c i:=by rw[<-dX];exact aj fun i _=>Int.add_mul _ _ _
theorem qY(n:Nat)(σ:Nat->Nat)(c:Nat->Int)(t:Int)(v:Nat->Int):(sI n fun i=>(t*v (σ i))*c i)=t*sI n fun i=>v (σ i)*c i:=by rw[<-bj];exact aj fun i _=>RO _ _ _
theorem F4(ws:List Int)(L:Nat)(c:Nat->Int)(V:Nat->Nat->Int)(h:Nat):sS ws (fun k=>sI L fun i=>c i*V i k) h=sI L fun i=>c i*sS ws (V i) h:=by
 rw[mY,aj (g:=fun k=>sI L fun i=>if eW ws k=h then c i*V i k else 0) fun k _=>by
  split;{rfl}
  ·rw[q_],ft]
 refine aj fun i _=>?_
 rw[mY,<-bj];exact aj fun k _=>by split;{rfl};{rw[RF]}
section
variable{ws:List Int}{m:Nat}(hO:EA ws m)(hW:PN (m+1) ws)
include hO in
theorem NZ{g:Nat}(h1:1<=g)(h2:g<=m):Oe ws g<ws.length/\eW ws (Oe ws g)=g:=by have h:=hO g h1 h2;have hl:=wG ws g ws.length;refine⟨by unfold Oe;omega,fQ (Dt ws g ws.length h)⟩
theorem Kr(hW:PN (m+1) ws){k:Nat}(hk:k<ws.length):1<=eW ws k/\eW ws k<=m:=by have:=hW ws[k] (R7 hk);unfold eW;rw[fP hk];omega
include hO hW in
theorem Ig:(iA ws m).length+m=ws.length:=by rw[uR ws m hO,ct (g:=fun _=>true) fun k hk=>Rj (Kr hW hk),xr]
theorem OJ{d:Lp}(hd:d∈iA ws m)(h:Nat):sS ws (AW d) h=0:=by
 obtain⟨-,-,x1,x2,x3,x4⟩:=d_ ws m d hd;have a1:=fQ x3;have a2:=fQ x4;rw[mY,mO (p:=d.p) (q:=d.q) _ oZ x2 oZ fun j _ h1 h2=>by
  unfold AW;rw[Rc h1,Rc h2];split<;>rfl]
 unfold AW;rw[a1,a2,Re rfl,Re rfl,Rc (show¬d.p=d.q by omega),Rc (show¬d.q=d.p by omega)];split<;>omega
include hO in
theorem K5{g:Nat}(h1:1<=g)(h2:g<=m)(h:Nat):sS ws (Pw ws g) h=if g=h then 1 else 0:=by
 obtain⟨l1,l2⟩:=NZ hO h1 h2;rw[mY,cI (k:=Oe ws g) _ l1 fun j _ hj=>by
  unfold Pw;rw[Rc hj];split<;>rfl,l2]
 unfold Pw;rw[Re rfl]
theorem My{x y:Lp}(hx:x∈iA ws m)(hy:y∈iA ws m):fL ws.length (Bm ws) (AW x) (AW y)=H_ ws x y:=by
 obtain⟨-,-,x1,x2,-⟩:=d_ ws m x hx;obtain⟨-,-,y1,y2,-⟩:=d_ ws m y hy;have e:∀k,(sI ws.length fun l=>Bm ws k l*AW y l)=Bm ws k y.p-Bm ws k y.q:=fun k=>by rw[mO (p:=y.p) (q:=y.q) _ oZ y2 oZ fun j _ h1 h2=>by unfold AW;rw[Rc h1,Rc h2];simp];unfold AW;rw[Re rfl,Re rfl,Rc (show¬y.p=y.q by omega),Rc (show¬y.q=y.p by omega)];omega
 unfold fL;rw[mO (p:=x.p) (q:=x.q) _ oZ x2 oZ fun j _ h1 h2=>by unfold AW;rw[Rc h1,Rc h2];simp,e,e];unfold AW H_;rw[Re rfl,Re rfl,Rc (show¬x.p=x.q by omega),Rc (show¬x.q=x.p by omega)];omega
theorem Mc(ws:List Int):Sym ws.length (Bm ws):=fun i j _ _=>mf ws i j
include hO hW in
theorem AU{A:Mx}{p q:Nat}(hA:∀i j,i<(iA ws m).length->j<(iA ws m).length->A i j=jF ws (gL (iA ws m) i) (gL (iA ws m) j)+jF ws (gL (iA ws m) j) (gL (iA ws m) i))(h:OA (iA ws m).length A p q):KV (m+1) ws ((p:Int)-q):=by
 have hcount:=Ig hO hW;obtain⟨ds,hds⟩:∃ds,iA ws m=ds:=⟨_,rfl⟩
 have Vm:∀i,i<ds.length->gL ds i∈iA ws m:=fun i hi=>by rw[hds];exact It hi
 rw[hds]at hcount hA h;obtain⟨N,hN⟩:∃N,ws.length=N:=⟨_,rfl⟩
 obtain⟨L,hL⟩:∃L,ds.length=L:=⟨_,rfl⟩
 rw[hN,hL]at hcount;rw[hL]at hA h Vm
 let lv:Nat->Nat->Int:=fun i=>AW (gL ds i)
 let le:Nat->Nat->Int:=fun g=>Pw ws (g+1)
 let c1:Nat->Nat->Int:=fun g i=>fL N (Bm ws) (lv i) (le g)
 let c2:Nat->Nat->Int:=fun g i=>fL N (Bm ws) (le i) (le g)
 let xV:(Nat->Int)->Nat->Int:=fun v k=>(sI L fun i=>v i*lv i k)+2*sI m fun g=>v (L+g)*le g k
 let lam:(Nat->Int)->Nat->Int:=fun v g=>v (L+m+g)-(sI L fun i=>v i*c1 g i)-sI m fun i=>v (L+i)*c2 g i
 let φ:(Nat->Int)->Nat->Int:=fun v i=>if i<N then xV v i else lam v (i-N)
 have f1:∀v i,i<N->φ v i=xV v i:=fun v i hi=>Re hi
 have f2:∀v g,φ v (N+g)=lam v g:=fun v g=>by show(if _ then _ else _)=_;rw[Rc oZ,Nat.add_sub_cancel_left]
 have YQ:∀v g,g<m->sS ws (xV v) (g+1)=2*v (L+g):=fun v g hg=>by
  show sS ws (fun k=>(sI L fun i=>v i*lv i k)+2*sI m fun g=>v (L+g)*le g k) (g+1)=_;rw[GW ws (fun k=>sI L fun i=>v i*lv i k) (fun k=>2*sI m fun g=>v (L+g)*le g k),F4 ws L v lv,GA ws 2 (fun k=>sI m fun g=>v (L+g)*le g k),F4 ws m (fun g=>v (L+g)) le,
   aX (n:=L) fun i hi=>by rw[OJ (Vm i hi),RF],cI (k:=g) _ hg fun j hj Vh=>by rw[K5 hO oZ oZ,Rc oZ,RF],K5 hO oZ oZ,Re rfl,Uo,UO]
 have WG:QF L fun v=>fL L A v v:=fun v v' hv=>vZ (fun _ _ _ _=>rfl) hv hv
 have YB:=NV (m+1) ws;rw[hN,Tj,show N+m=L+2*m by omega]at YB;refine⟨p+m,q+m,?_,oZ⟩;rw[hN,Tj,show N+m=L+2*m by omega];refine(BE h).hyp (φ:=φ) (k:=4) ⟨fun v v' i=>?_,fun t v i=>?_⟩ (fun v hv i hi=>?_) WG YB oQ fun v=>?_
 ·show(if i<N then(sI L fun j=>(v j+v' j)*lv j i)+2*(sI m fun g=>(v (L+g)+v' (L+g))*le g i)else v (L+m+(i-N))+v' (L+m+(i-N))-(sI L fun j=>(v j+v' j)*c1 (i-N) j)-sI m fun j=>(v (L+j)+v' (L+j))*c2 (i-N) j)=
   (if i<N then xV v i else lam v (i-N))+(if i<N then xV v' i else lam v' (i-N))
  rw[rf L (fun j=>j) (fun j=>lv j i),rf m (fun g=>L+g) (fun g=>le g i),rf L (fun j=>j) (c1 (i-N)),rf m (fun j=>L+j) (c2 (i-N))];split;{show _=((sI L fun j=>v j*lv j i)+2*sI m fun g=>v (L+g)*le g i)+((sI L fun j=>v' j*lv j i)+2*sI m fun g=>v' (L+g)*le g i);omega};{show _=(v (L+m+(i-N))-(sI L fun j=>v j*c1 (i-N) j)-sI m fun j=>v (L+j)*c2 (i-N) j)+(v' (L+m+(i-N))-(sI L fun j=>v' j*c1 (i-N) j)-sI m fun j=>v' (L+j)*c2 (i-N) j);omega}
 ·show(if i<N then(sI L fun j=>(t*v j)*lv j i)+2*(sI m fun g=>(t*v (L+g))*le g i)else t*v (L+m+(i-N))-(sI L fun j=>(t*v j)*c1 (i-N) j)-sI m fun j=>(t*v (L+j))*c2 (i-N) j)=
   t*(if i<N then xV v i else lam v (i-N))
  rw[qY L (fun j=>j) (fun j=>lv j i),qY m (fun g=>L+g) (fun g=>le g i),qY L (fun j=>j) (c1 (i-N)),qY m (fun j=>L+j) (c2 (i-N))];split;{show _=t*((sI L fun j=>v j*lv j i)+2*sI m fun g=>v (L+g)*le g i);grind};{show _=t*(v (L+m+(i-N))-(sI L fun j=>v j*c1 (i-N) j)-sI m fun j=>v (L+j)*c2 (i-N) j);grind}
 ·have hx:∀k,k<N->xV v k=0:=fun k hk=>by rw[<-f1 v k hk];exact hv k oZ
  have h2:∀g,g<m->v (L+g)=0:=fun g hg=>by have e:=YQ v g hg;rw[Da (g+1) fun k hk=>hx k oZ]at e;omega
  have h3:∀k,k<N->(sI L fun i=>v i*lv i k)=0:=fun k hk=>by have e:(sI L fun i=>v i*lv i k)+2*(sI m fun g=>v (L+g)*le g k)=0:=hx k hk;rw[aX (n:=m) fun g hg=>by rw[h2 g hg,Sc]]at e;omega
  have h1:∀P i,i<L->(gL ds i).p<P->v i=0:=fun P=>by
   induction P with
   |zero=>intro i _ hp;omega
   |succ P ih=>
    intro i hi hp;by_cases Vg:(gL ds i).p<P;{exact ih i hi Vg}
    ·obtain⟨-,-,b1,b2,b3,-⟩:=d_ ws m _ (Vm i hi)
     have e:=h3 (gL ds i).p oZ;rw[cI (k:=i) _ hi fun j hj Vh=>?_]at e
     ·have e2:lv i (gL ds i).p=1:=by show AW (gL ds i) (gL ds i).p=1;unfold AW;rw[Re rfl,Rc oZ];rfl
      rw[e2,Uo]at e;exact e
     ·obtain⟨-,-,d1,d2,d3,d4⟩:=d_ ws m _ (Vm j hj)
      by_cases k1:(gL ds i).p=(gL ds j).p
      ·have hgg:(gL ds i).g=(gL ds j).g:=by
        have:=fQ b3;have t2:=fQ d3;rw[k1]at this;omega
       have:=xk (Vm i hi) (Vm j hj) hgg (.inl k1);exact absurd (FK (hds▸vP ws m) oZ oZ this).symm Vh
      ·by_cases k2:(gL ds i).p=(gL ds j).q
       {rw[ih j hj oZ,Sc]}
       ·have:lv j (gL ds i).p=0:=by show AW (gL ds j) (gL ds i).p=0;unfold AW;rw[Rc k1,Rc k2];rfl
        rw[this,RF]
  have h4:∀i,i<L->v i=0:=fun i hi=>h1 _ i hi (R9 _)
  by_cases e1:i<L;{exact h4 i e1}
  ·by_cases e2:i<L+m
   {have:=h2 (i-L) oZ;rwa [show L+(i-L)=i by omega]at this}
   ·obtain⟨g,rfl⟩:∃g,i=L+m+g:=⟨i-(L+m),oZ⟩
    have e3:lam v g=0:=by rw[<-f2];exact hv (N+g) oZ
    have e4:v (L+m+g)-(sI L fun i=>v i*c1 g i)-(sI m fun i=>v (L+i)*c2 g i)=0:=e3;rw[aX (n:=L) fun i hi=>by rw[h4 i hi,Sc],aX (n:=m) fun i hi=>by rw[h2 i hi,Sc]]at e4;omega
 ·show qh ws (φ v) (lB (m+1) ws.length (φ v))=_
  rw[E_,hN]
  let a:Nat->Int:=fun k=>sI L fun i=>v i*lv i k
  let b:Nat->Int:=fun k=>sI m fun g=>v (L+g)*le g k
  have hS:Sym N (Bm ws):=hN▸Mc ws;have b1:fL N (Bm ws) (φ v) (φ v)=fL N (Bm ws) a a+4*fL N (Bm ws) a b+4*fL N (Bm ws) b b:=by rw[vZ (v':=fun k=>a k+2*b k) (w':=fun k=>a k+2*b k) (fun _ _ _ _=>rfl) (fun k hk=>f1 v k hk) (fun k hk=>f1 v k hk),jT,eR hS,eR hS,gV hS b a];omega
  have b2:fL N (Bm ws) a a=fL L A v v:=by
   show fL N (Bm ws) (fun k=>sI L fun i=>v i*lv i k) a=_;rw[Cv];show _=sI L fun i=>v i*sI L fun j=>A i j*v j
   refine aj fun i hi=>?_
   show v i*fL N (Bm ws) (lv i) (fun k=>sI L fun j=>v j*lv j k)=_;rw[CK];congr 1;refine aj fun j hj=>?_
   rw[<-hN,My (Vm i hi) (Vm j hj),OM (Vm i hi) (Vm j hj),hA i j hi hj,RW]
  have b3:fL N (Bm ws) a b=sI m fun g=>v (L+g)*sI L fun i=>v i*c1 g i:=by
   show fL N (Bm ws) a (fun k=>sI m fun g=>v (L+g)*le g k)=_;rw[CK (fun g=>v (L+g)) le];refine aj fun g _=>?_
   show v (L+g)*fL N (Bm ws) (fun k=>sI L fun i=>v i*lv i k) (le g)=_;rw[Cv]
  have b4:fL N (Bm ws) b b=sI m fun g=>v (L+g)*sI m fun i=>v (L+i)*c2 g i:=by
   show fL N (Bm ws) b (fun k=>sI m fun g=>v (L+g)*le g k)=_;rw[CK (fun g=>v (L+g)) le];refine aj fun g _=>?_
   show v (L+g)*fL N (Bm ws) (fun k=>sI m fun i=>v (L+i)*le i k) (le g)=_;rw[Cv (fun i=>v (L+i)) le]
  have b5:(sI N fun k=>φ v k*lB (m+1) N (φ v) (eW ws k))=sI m fun g=>lam v g*(2*v (L+g)):=by
   have e1:∀k,k<N->φ v k*lB (m+1) N (φ v) (eW ws k)=sI m fun g=>lam v g*(if eW ws k=g+1 then xV v k else 0):=fun k hk=>by obtain⟨k1,k2⟩:=Kr hW (k:=k) oZ;rw[cI (k:=eW ws k-1) _ oZ fun j _ hj=>by rw[Rc oZ,RF],Re oZ,Ld _ k1 oZ,f1 v k hk,show N+eW ws k-1=N+(eW ws k-1) by omega,f2,RW]
   rw[aj e1,ft];refine aj fun g hg=>?_
   rw[bj,<-YQ v g hg,mY,hN]
  rw[b1,b2,b3,b4,b5];have b6:(sI m fun g=>lam v g*(2*v (L+g)))=(2*sI m fun g=>v (L+g)*v (L+m+g))-(2*sI m fun g=>v (L+g)*sI L fun i=>v i*c1 g i)-2*sI m fun g=>v (L+g)*sI m fun i=>v (L+i)*c2 g i:=by
   rw[<-bj,<-bj,<-bj,<-nr,<-nr];refine aj fun g _=>?_
   show(v (L+m+g)-(sI L fun i=>v i*c1 g i)-(sI m fun i=>v (L+i)*c2 g i))*(2*v (L+g))=_
   grind
  rw[b6];omega
end
theorem Ns{S:Int}{ws:List Int}(h:At S ws):∃m:Nat,S=m+1/\S.toNat-1=m/\PN (m+1) ws:=by obtain⟨h1,h2,h3,h4⟩:=h;refine⟨S.toNat-1,oZ,rfl,fun z hz=>?_⟩;obtain⟨k,hk,rfl⟩:=Te hz;have:=h4 k hk;rw[fP hk]at this;omega
theorem FO{S:Int}{ws:List Int}(h:AF S ws=0):At S ws/\EA ws (S.toNat-1)/\vY S ws=0/\vM (jb S ws)=0/\uI (BQ (jb S ws))=0/\kC S ws=iA ws (S.toNat-1):=by unfold AF at h;split at h;{rename_i h1;split at h;{rename_i h2;have h3:=h1;unfold vY at h3;split at h3;{rename_i h4;have h5:=h4;unfold Bh at h5;split at h5;{rename_i h6;split at h5;{rename_i h7;exact⟨h6,h7,h1,h2,h,by unfold kC;rw[Re h4]⟩};{cases h5}};{cases h5}};{rename_i h4;exact absurd h3 h4}};{rename_i h2;exact absurd h h2}};{rename_i h1;exact absurd h h1}
theorem ON{S:Int}{ws:List Int}{p q:Nat}(h:AF S ws=0)(hA:KH S ws p q):KV S.toNat ws ((p:Int)-q):=by
 obtain⟨h1,h2,h3,h4,h5,h6⟩:=FO h;obtain⟨m,rfl,hm,hW⟩:=Ns h1;unfold KH at hA;rw[Re h]at hA;have e1:BQ (jb ((m:Int)+1) ws)=EP (jb ((m:Int)+1) ws):=by unfold BQ;rw[Re h4]
 have e2:jb ((m:Int)+1) ws=zL (iA ws m).length (iA ws m).length fun i j=>jF ws (gL (iA ws m) i) (gL (iA ws m) j):=by unfold jb;rw[Re h3,h6,hm]
 have e3:(jb ((m:Int)+1) ws).length=(iA ws m).length:=by rw[e2,dQ]
 rw[e1]at hA;unfold EP at hA;rw[dQ,e3]at hA;rw[hm]at h2;rw[show((m:Int)+1).toNat=m+1 by omega];refine AU h2 hW (fun i j hi hj=>?_) hA;rw[iJ hi hj,e2,iJ hi hj,iJ hj hi]
theorem Jb{S:Int}{ws:List Int}(h:vY S ws=0):vM (jb S ws)=0:=by
 have e:jb S ws=zL (kC S ws).length (kC S ws).length fun i j=>jF ws (gL (kC S ws) i) (gL (kC S ws) j):=by unfold jb;rw[Re h]
 have hl:(jb S ws).length=(kC S ws).length:=by rw[e,dQ]
 have h1:KT (jb S ws):=fun i hi=>by rw[hl]at hi⊢;rw[e];exact gX hi
 have h2:EY (jb S ws):=fun i hi j hj=>by rw[h1 i hi,hl]at hj;rw[hl]at hi;rw[e,iJ hi hj];have:=yj ws (gL (kC S ws) i) (gL (kC S ws) j);omega
 have h3:EY (EP (jb S ws)):=fun i hi j hj=>by unfold EP at hi hj⊢;rw[dQ]at hi;rw[gX hi]at hj;rw[iJ hi hj];rw[hl]at hi hj;rw[e,iJ hi hj,iJ hj hi];have:=yj ws (gL (kC S ws) i) (gL (kC S ws) j);have:=yj ws (gL (kC S ws) j) (gL (kC S ws) i);omega
 unfold vM;rw[Re h1,Re h2,Re h3]
theorem Mm{S:Int}{ws:List Int}(h1:At S ws)(h2:EA ws (S.toNat-1)):AF S ws=0\/AF S ws=5\/AF S ws=9:=by
 have hl:Bh S ws=0:=by unfold Bh;rw[Re h1,Re h2]
 unfold AF;by_cases hm:vY S ws=0
 ·rw[Re hm]
  have h4:=Jb hm;rw[Re h4];have e2:jb S ws=zL (kC S ws).length (kC S ws).length fun i j=>jF ws (gL (kC S ws) i) (gL (kC S ws) j):=by unfold jb;rw[Re hm]
  have e1:BQ (jb S ws)=EP (jb S ws):=by unfold BQ;rw[Re h4]
  have hL64:(kC S ws).length<=64:=by have:=hm;unfold vY at this;rw[Re hl]at this;split at this;{cases this};{omega}
  have hlen:(jb S ws).length=(kC S ws).length:=by rw[e2,dQ]
  rw[e1];unfold EP;rw[hlen];obtain⟨L,hL⟩:∃L,(kC S ws).length=L:=⟨_,rfl⟩
  rw[hL]at hL64⊢;have hsy:∀i j,eI (jb S ws) i j+eI (jb S ws) j i=eI (jb S ws) j i+eI (jb S ws) i j:=fun i j=>Int.add_comm _ _
  have hM:AH (zL L L fun i j=>eI (jb S ws) i j+eI (jb S ws) j i)/\JF (zL L L fun i j=>eI (jb S ws) i j+eI (jb S ws) j i):=by refine⟨J7 hL64 hL64,fun i hi=>?_,fun i hi j hj=>?_⟩;{rw[dQ]at hi⊢;exact gX hi};{rw[dQ]at hi;rw[iJ hi oZ,iJ oZ hi];omega}
  unfold uI;rw[Re hM];split;{exact .inl rfl};{exact .inr (.inr rfl)}
 {rw[Rc hm];unfold vY at hm⊢;rw[Re hl]at hm⊢;split at hm;{rename_i h;rw[Re h];exact .inr (.inl rfl)};{exact absurd rfl hm}}
theorem Lo{sg:List Int}{l:List (Nat×Nat)}{k:Nat}(hk:k<l.length):gi (b_ sg l) k=((l[k]).2:Int)*gi sg (l[k]).1:=by unfold b_ gi;rw[Rw,List.getElem?_map,RH hk];rfl
section
variable{sg mt:List Int}{L:Int}(H:Bd sg mt L){p:Nat->Int}{x0:Nat}(V:BS sg mt p x0){st:Nat->Nat}(C:Cut sg mt p x0 (aD sg mt).length st){l:List (Nat×Nat)}(G:Rg sg mt (aD sg mt).length st l)(hl:l.length=sg.length)(h10:(aD sg mt).length<=10)
include H G hl h10
include V
theorem Rg.QP:At ((aD sg mt).length:Nat) (b_ sg l):=by
 have hS:=H.fw V.lt V.o;have hlen:(b_ sg l).length=l.length:=by unfold b_;simp
 have VO:=H.d.1;refine⟨oZ,oZ,oZ,fun k hk=>?_⟩;rw[hlen]at hk;rw[Lo hk];obtain⟨v1,v2,v3⟩:=G.val _ (R7 hk);rcases H.d.2.2.2.2.1 _ v1 with e|e<;>(rw[e];omega)
include C
omit h10 in
theorem Rg.PO:EA (b_ sg l) (((aD sg mt).length:Int).toNat-1):=by
 intro g h1 h2;rw[Si]at h2;have hlen:(b_ sg l).length=l.length:=by unfold b_;simp
 obtain⟨e,he,heg⟩:=Rg.QY H V C G hl rfl h1 oZ;obtain⟨k,hk,rfl⟩:=Te he;have hG:pE (b_ sg l) g k:=by unfold pE;rw[Lo hk,heg];obtain⟨v1,-,-⟩:=G.val _ (R7 hk);rcases H.d.2.2.2.2.1 _ v1 with e|e<;>(rw[e];omega)
 have:=xv (b_ sg l) g (k:=(b_ sg l).length) oZ hG;omega
end
def QR(sg mt:List Int)(w:World)(e:Ending)(w':World):Prop:=
 ∃(er S:Int)(Ab Am:Option Addr)(nb kb nm km:Nat),e= .returned (.tuple #[.agg #[.int .i64 S,.slice Ab nb kb],.slice Am nm km,.int .i64 er])/\(er=0\/er=5)/\Below w.heap.size w w'/\
  (er=0->∃ws:List Int,nb=ws.length/\RI w' (·<w'.heap.size) Ab ws/\At S ws/\EA ws (S.toNat-1)/\∀K,cA sg mt K->∀n,KV S.toNat ws n->jE sg mt K n)
theorem JC{sg mt sg' mt':List Int}(hT:Bb sg mt sg' mt'){n:Int}(h:∀K',cA sg' mt' K'->jE sg' mt' K' n){K:Nat->Bool}(hK:cA sg mt K):jE sg mt K n:=by obtain⟨K',h1,h2⟩:=hT K hK;obtain⟨m,hm⟩:=fH.ex (List.range sg.length) K (gn mt) (gi sg);have e:=(h2 m hm).uniq (h K' h1);rw[<-e];exact hm
theorem Me{sg mt sg' mt':List Int}(H:Bd sg' mt' 0)(hT:Bb sg mt sg' mt')(h10:(aD sg' mt').length<=10){p:Nat->Int}{x0:Nat}{st:Nat->Nat}{l:List (Nat×Nat)}(V:BS sg' mt' p x0)(C:Cut sg' mt' p x0 (aD sg' mt').length st)(G:Rg sg' mt' (aD sg' mt').length st l)(hl:l.length=sg'.length):
  At ((aD sg' mt').length:Nat) (b_ sg' l)/\EA (b_ sg' l) (((aD sg' mt').length:Int).toNat-1)/\∀K,cA sg mt K->∀n,KV ((aD sg' mt').length:Int).toNat (b_ sg' l) n->jE sg mt K n:=by
 refine⟨Rg.QP H V G hl h10,Rg.PO H V C G hl,fun K hK n hn=>JC hT (fun K' hK'=>Rg.sig H C G hl hK' ?_) hK⟩;rw[Si]at hn;exact hn
theorem Bn{A1 A2:Option Addr}{c1 c2:Nat}{sg mt:List Int}(w:World)(S:Nat->Prop)(hx:RI w S A1 sg)(hy:RI w S A2 mt)(hS:∀b,S b->b<w.heap.size)(V:I2 sg mt):
  Calls Tryz.prog 14 #[.agg #[.slice A1 sg.length c1,.slice A2 mt.length c2,.int .i64 0]] w (QR sg mt w):=by
 have T0:=Rb (CF.new (c1:=c1) (c2:=c2) hx hy hS);have HV:=Rb V;clear hx hy hS V;go_enter Tryz.func14,Tryz.ntmps14
 go_wp2_with fail;obtain⟨W,hW⟩:∃W,(w.alloc (.cells #[.slice A1 sg.length c1,.slice A2 mt.length c2,.int .i64 0] 24)).alloc (.cells #[.int .i64 0,.slice none 0 0] 42)=W:=⟨_,rfl⟩
 rw[hW]at T0⊢;clear hW;refine(wQ (c1:=c1) (c2:=c2) W (·<W.heap.size) T0.out.d.rs T0.out.d.rm (fun _ h=>h) HV.out).mono ?_;rintro e w1 ⟨er,A3,A4,Am,n1,k1,n2,k2,nm,km,L,rfl,her,hb,h0⟩;have Vj:Below W.heap.size W (w1.alloc (.cells #[.slice A3 n1 k1,.slice A4 n2 k2,.int .i64 L] 24)):=hb.alloc hb.size _;have T1:=Rb (T0.out.call Vj);have H0:=Rb h0;have z0:=T1.out.z0;have z1:=T1.out.z1;have q0:=T1.out.f0;have q1:=T1.out.f1;clear hb T0 h0;rcases her with rfl|rfl
 ·obtain⟨sg',mt',rfl,rfl,rfl,r1,r2,hB,ZQ,hT⟩:=H0.out rfl
  have ZY:=(Rh w1.heap.size w1).alloc (Rf _) (.cells #[.slice A3 sg'.length k1,.slice A4 mt'.length k2,.int .i64 0] 24);have R1:=Rb (r1.below ZY);have R2:=Rb (r2.below ZY);have HB:=Rb hB;have HI:=Rb ZQ;have HT:=Rb hT;clear r1 r2 hB ZQ hT H0 ZY z0 z1 q0 q1;go_wp2_with fail;obtain⟨W1,hW1⟩:∃X,w1.alloc (.cells #[.slice A3 sg'.length k1,.slice A4 mt'.length k2,.int .i64 0] 24)=X:=⟨_,rfl⟩
  have VV:w1.heap.size<=W1.heap.size:=by rw[<-hW1];simp
  rw[hW1]at T1 R1 R2⊢;clear hW1 Vj;refine(Dz (c1:=k1) (c2:=k2) W1 (·<w1.heap.size) R1.out R2.out (fun b hb=>by omega) HB.out HI.out).mono ?_;rintro e w2 ⟨Vt,⟨h10,rfl⟩|⟨h10,p,x0,st,l,v,hV,hC,hG,hl,rfl,ho⟩⟩;{have T2:=Rb (T1.out.call (Vt.alloc Vt.size (.cells #[.int .i64 0,.slice none 0 0] 42)));clear T1 Vt;have z0:=T2.out.z0;have z1:=T2.out.z1;have q0:=T2.out.f0;have q1:=T2.out.f1;go_wp2_with fail;refine RC (v:= .tuple #[.agg #[.int .i64 0,.slice none 0 0],.slice none 0 0,.int .i64 5]) (by simp[results,Tryz.results14,go_sem,z0,z1]) rfl ?_;refine⟨5,0,none,none,0,0,0,0,rfl,.inr rfl,?_,fun h=>absurd h oQ⟩;(iterate 2 refine RM ?_ oJ _);exact T2.out.bl}
  ·obtain⟨Av,cv,hv,-,-,Vh,hrv⟩:∃A c,v= .slice A (b_ sg' l).length c/\True/\True/\True/\RI w2 (fun b=>W1.heap.size<=b/\b<w2.heap.size) A (b_ sg' l):=by
    obtain⟨A,c,e,-,-,hr⟩:=ho.reads;exact⟨A,c,e,trivial,trivial,trivial,hr⟩
   subst hv;obtain⟨Sn,Xu⟩:∃n:Nat,(aD sg' mt').length=n:=⟨_,rfl⟩
   have HE:=Rb (Me HB.out HT.out h10 hV hC hG hl);rw[Xu]at HE⊢;have V5:=T1.out.lt;have T2:=Rb (T1.out.call (Vt.alloc Vt.size (.cells #[.int .i64 (Sn:Int),.slice Av (b_ sg' l).length cv] 42)));have HRV:=Rb hrv;clear T1 Vt hrv ho hV hC hG hl h10 Xu;obtain⟨ws,hws⟩:∃x,b_ sg' l=x:=⟨_,rfl⟩
   rw[hws]at T2 HRV HE⊢;clear hws;have z0:=T2.out.z0;have z1:=T2.out.z1;have q0:=T2.out.f0;have q1:=T2.out.f1;go_wp2_with fail;refine RC (v:= .tuple #[.agg #[.int .i64 Sn,.slice Av ws.length cv],.slice Am nm km,.int .i64 0]) (by simp[results,Tryz.results14,go_sem,z0,z1]) rfl ?_;refine⟨0,Sn,Av,Am,_,cv,nm,km,rfl,.inl rfl,?_,fun _=>⟨ws,rfl,?_,HE.out.1,HE.out.2.1,HE.out.2.2⟩⟩
   ·iterate 2 refine RM ?_ oJ _
    exact T2.out.bl
   ·refine(HRV.out.ak fun b hb=>?_).imp fun b hb=>?_
    {exact((Rn _ _ _ b oJ).trans (Rn _ _ _ b oJ)).trans (Rx _ _ b hb.2)};{simp;omega}
 {go_wp2_with fail;refine RC (v:= .tuple #[.agg #[.int .i64 0,.slice none 0 0],.slice none 0 0,.int .i64 5]) (by simp[results,Tryz.results14,go_sem,z0,z1]) rfl ?_;refine⟨5,0,none,none,0,0,0,0,rfl,.inr rfl,?_,fun h=>absurd h oQ⟩;(iterate 2 refine RM ?_ oJ _);exact T1.out.bl}
def Qi(sg mt:List Int)(w:World)(e:Ending)(w':World):Prop:=
 ∃n er:Int,e= .returned (.tuple #[.int .i64 n,.int .i64 er])/\(er=0\/er=5\/er=9)/\Below w.heap.size w w'/\(-100000<=n/\n<=100000)/\(er=0->∀K,cA sg mt K->jE sg mt K n)
theorem L8{n:Nat}{w:List Int}{s:Int}(h:KV n w s): -((w.length+n:Nat):Int)<=s/\s<=((w.length+n:Nat):Int):=by
 obtain⟨p,r,⟨V,d,-,-,rfl,rfl⟩,rfl⟩:=h;have h1:=Ft (w.length+(n-1)) fun x=>decide (0<d x)
 have h2:=Ft (w.length+(n-1)) fun x=>decide (d x<0)
 omega
theorem mL{A1 A2:Option Addr}{c1 c2:Nat}{sg mt:List Int}(w:World)(S:Nat->Prop)(hx:RI w S A1 sg)(hy:RI w S A2 mt)(hS:∀b,S b->b<w.heap.size)(V:I2 sg mt):
  Calls Tryz.prog 6 #[.agg #[.slice A1 sg.length c1,.slice A2 mt.length c2,.int .i64 0]] w (Qi sg mt w):=by
 have HD:=Rb (bI.start (c1:=c1) (c2:=c2) (L:=0) S hx hy hS);have VW:Hid (Below w.heap.size w (w.alloc (.cells #[.slice A1 sg.length c1,.slice A2 mt.length c2,.int .i64 0] 24))):=Rb ((Rh _ _).alloc (Rf _) _);have HV:=Rb V;clear hx hy hS V;go_enter Tryz.func6,Tryz.ntmps6
 go_wp2_with fail;obtain⟨W,hW⟩:∃W,w.alloc (.cells #[.slice A1 sg.length c1,.slice A2 mt.length c2,.int .i64 0] 24)=W:=⟨_,rfl⟩
 rw[hW]at HD VW⊢;clear hW;refine(Bn (c1:=c1) (c2:=c2) W (·<W.heap.size) HD.out.rs HD.out.rm (fun _ h=>h) HV.out).mono ?_;rintro e w1 ⟨er,Sn,Ab,Am,nb,kb,nm,km,rfl,her,hb,h0⟩;have Vr:=Rb (VW.out.trans (hb.mono VW.out.size));have H0:=Rb h0;clear hb h0 VW HD;rcases her with rfl|rfl
 ·obtain⟨ws,rfl,hr,hbv,hoc,hK⟩:=H0.out rfl
  have ZY:=(Rh w1.heap.size w1).alloc (Rf _) (.cells #[.int .i64 Sn,.slice Ab ws.length kb] 42);have HR:=Rb (hr.below ZY);have VD:=Rb (Vr.out.trans (ZY.mono Vr.out.size));have HBV:=Rb hbv;have HOC:=Rb hoc;have HK:=Rb hK;clear hr hbv hoc hK ZY H0;go_wp2_with fail;refine(Mb (c:=kb) HR.out (fun b hb=>by simp;omega) (by have:=HBV.out.2.2.1;unfold maxLen;omega) (by have:=HBV.out.1;omega) (by have:=HBV.out.2.1;omega)).mono ?_;rintro e w2 ⟨p,q,rfl,hA,hb⟩;have XY:=Rb (VD.out.trans (hb.mono VD.out.size));have HA:=Rb hA;have Vn:=Mm HBV.out HOC.out;have Yl:=Rb Vn;obtain⟨er,her⟩:∃e,AF Sn ws=e:=⟨_,rfl⟩
  have Y5:=Rb her;rw[her];clear hb hA Vn her;go_wp2_with fail;go_ret2;by_cases e0:er=0;{have hz:=Y5.out.trans e0;have hs:=ON hz HA.out;have YN:=L8 hs;have h1:=HBV.out.1;have h2:=HBV.out.2.1;have h3:=HBV.out.2.2.1;refine⟨(p:Int)-q,er,rfl,by have:=Yl.out;rw[Y5.out]at this;omega,XY.out,oZ,fun _ K hK=>HK.out K hK _ hs⟩};{have hA:=HA.out;unfold KH at hA;rw[Rc (by rw[Y5.out];exact e0)]at hA;obtain⟨rfl,rfl⟩:=hA;exact⟨_,er,rfl,by have:=Yl.out;rw[Y5.out]at this;omega,XY.out,oZ,fun h=>absurd h oZ⟩}
 {go_wp2_with fail;go_ret2;exact⟨0,5,rfl,.inr (.inl rfl),Vr.out.alloc Vr.out.size _,oZ,fun h=>absurd h oQ⟩}
theorem Jr{sg mt q r:List Int}{L:Int}(hd:cJ sg mt L)(h:BN sg mt (zc sg) I5 q r):M4 sg q mt r (qC (zc sg)):=by have hM:=Dc hd h;refine⟨h.ql,h.rl,fun a _=>hM.ud a,fun a k _=>?_,fun a ha=>th hM ha,fun a _=>?_,fun c hc=>?_⟩;{rw[qF,qF,af,ar,ar,Uw]};{rw[qF];have h1:=bQ a 1;have h3:=bQ a 3;split<;>omega};{rw[h.qe c hc];unfold I5;omega}
theorem Fl{sg mt q r:List Int}{L:Int}(hd:cJ sg mt L)(h:BN sg mt (zc sg) I5 q r)(h1:av mt sg.length sg.length=1)(hn:0<sg.length):cJ q r L/\av r q.length q.length=1/\0<q.length:=by
 have hM:=Dc hd h;have Xe:cJ q r L:=Nd hd hM;refine⟨Xe,?_,by rw[h.ql];exact hn⟩;refine vU Xe.2.2.2.2.2.1 Xe.2.1 (by rw[h.ql];exact hn) fun c hc=>?_
 rw[h.ql]at hc;exact F7 hM hd.2.1 (w_ hd.2.2.2.2.2.1 hd.2.1 h1 0 c hn hc)
open Go.ChangeShapes Go.WideShapes Go.Joins
structure DArg(w:World)(A1 A2:Option Addr)(sg mt:List Int)(L:Int):Prop where
 rs:RI w (·<w.heap.size) A1 sg
 rm:RI w (·<w.heap.size) A2 mt
 ls:sg.length<=maxLen
 lm:mt.length<=maxLen
 bs:∀k,-9223372036854775808<=gi sg k/\gi sg k<=9223372036854775807
 bm:∀k,-9223372036854775808<=gi mt k/\gi mt k<=9223372036854775807
 bl: -9223372036854775808<=L/\L<=9223372036854775807
theorem NC{n:Int}(h:(Lit.int .i64 n).wf=true): -9223372036854775808<=n/\n<=9223372036854775807:=by have Zr:IntKind.i64.min= -9223372036854775808:=rfl;have hmax:IntKind.i64.max=9223372036854775807:=rfl;simp only[Lit.wf,RA,RE]at h;omega
theorem tV{H:Type}{enc:TypeId×Value->H}{W:World}{base n:Nat}{held:Bool}{x:Value}{y:DataW H×List MemPlace}
  (g:DataW.trod enc Tryz.prog W base (fun _=>true) held n 22 [x]=some y):∃A l c zs,x= .slice A l c/\((A=none/\l=0/\c=0/\zs=[])\/∃a,A=some a/\l<=c/\c<=maxLen/\zs.length=c/\(∀i,i<zs.length->W.cell? (a.add i)=some (.int .i64 (zs.getD i 0)))/\∀n∈zs,(Lit.int .i64 n).wf=true):=by
 rcases open_ints Tryz.underlying22 Tryz.underlying3 qk g with⟨VE,_⟩|⟨a,l,c,zs,VE,_,hl,hm,hz,_,Vk,hwz⟩
 ·injection VE with VE
  exact⟨none,0,0,[],VE,.inl ⟨rfl,rfl,rfl,rfl⟩⟩
 ·injection VE with VE
  exact⟨some a,l,c,zs,VE,.inr ⟨a,rfl,hl,hm,by simpa using hz,Vk,hwz⟩⟩
theorem darg_open{H:Type}{enc:TypeId×Value->H}{W:World}{base b0:Nat}{held:Bool}{r:Reach}{v:Value}{d:DataW H}{p:List MemPlace}(hv:Value.okWide Tryz.prog W r b0 24 v)
  (h:DataW.Trod enc Tryz.prog W base (fun _=>true) held 24 v d p):∃A1 A2 c1 c2 sg mt L,v= .agg #[.slice A1 sg.length c1,.slice A2 mt.length c2,.int .i64 L]/\DArg W A1 A2 sg mt L:=by
 obtain⟨x0,x1,x2,y0,y1,y2,n0,rfl,-,-,g0,g1,g2⟩:=open_agg3 Tryz.underlying24 qk qk hv h;obtain⟨A1,l1,c1,z1,rfl,w1⟩:=tV g0;obtain⟨A2,l2,c2,z2,rfl,w2⟩:=tV g1;obtain⟨L,hL,-,wL⟩:=UA Tryz.underlying3 g2;injection hL with hL
 subst hL;obtain⟨sg,rfl,r1,m1,b1⟩:=FT w1;obtain⟨mt,rfl,r2,m2,b2⟩:=FT w2;exact⟨A1,A2,c1,c2,sg,mt,L,rfl,r1,r2,m1,m2,b1,b2,NC wL⟩
theorem Qd{α:Type}{cs:Array α}(h:cs.size=5):∃a b c d e,cs=#[a,b,c,d,e]:=by
 obtain⟨l⟩:=cs
 match l,h with
 |[a,b,c,d,e],_=>exact⟨a,b,c,d,e,rfl⟩
theorem DC{H:Type}{enc:TypeId×Value->H}{P:Program}{w:World}{base b0:Nat}{held:Bool}{r:Reach}{t:TypeId}{f0 f1 f2 f3 f4:Field}{v:Value}{d:DataW H}{p:List MemPlace}(hs:P.underlying t=some (.struct #[f0,f1,f2,f3,f4]))(V_:Go.Deep.oneCellFields P #[f0,f1,f2,f3,f4]=true)(hC:P.cellsOf t=5)
  (hv:Value.okWide P w r b0 t v)(h:DataW.Trod enc P w base (fun _=>true) held t v d p):
  ∃(v0 v1 v2 v3 v4:Value)(y0 y1 y2 y3 y4:DataW H×List MemPlace)(n:Nat),v= .agg #[v0,v1,v2,v3,v4]/\
   DataW.trod enc P w base (fun _=>true) held n f0.type [v0]=some y0/\DataW.trod enc P w base (fun _=>true) held n f1.type [v1]=some y1/\DataW.trod enc P w base (fun _=>true) held n f2.type [v2]=some y2/\DataW.trod enc P w base (fun _=>true) held n f3.type [v3]=some y3/\DataW.trod enc P w base (fun _=>true) held n f4.type [v4]=some y4:=by
 obtain⟨cs,rfl,VI⟩:=okWide_struct hs hv;obtain⟨c0,c1,c2,c3,c4,rfl⟩:=Qd (VI.trans hC);obtain⟨fuel,hf⟩:=h;obtain⟨xs,n,_,-,-,hlen,hf⟩:=DataW.trod_struct hs hf;obtain⟨o0,k0⟩:=Go.Deep.hone_of V_ 0 f0 rfl;obtain⟨o1,k1⟩:=Go.Deep.hone_of V_ 1 f1 rfl;obtain⟨o2,k2⟩:=Go.Deep.hone_of V_ 2 f2 rfl;obtain⟨o3,k3⟩:=Go.Deep.hone_of V_ 3 f3 rfl;obtain⟨o4,k4⟩:=Go.Deep.hone_of V_ 4 f4 rfl
 match xs,hlen with
 |[y0,y1,y2,y3,y4],_=>exact⟨c0,c1,c2,c3,c4,y0,y1,y2,y3,y4,n,rfl,by simpa[Value.cells,o0,k0]using hf 0 f0 rfl,by simpa[Value.cells,o1,k1]using hf 1 f1 rfl,by simpa[Value.cells,o2,k2]using hf 2 f2 rfl,by simpa[Value.cells,o3,k3]using hf 3 f3 rfl,by simpa[Value.cells,o4,k4]using hf 4 f4 rfl⟩
theorem mvarg_open{H:Type}{enc:TypeId×Value->H}{W:World}{base b0:Nat}{held:Bool}{r:Reach}{v:Value}{d:DataW H}{p:List MemPlace}(hv:Value.okWide Tryz.prog W r b0 26 v)
  (h:DataW.Trod enc Tryz.prog W base (fun _=>true) held 26 v d p):∃(k x y s:Int)(o:Bool),v= .agg #[.int .i64 k,.int .i64 x,.int .i64 y,.int .i64 s,.bool o]:=by
 obtain⟨x0,x1,x2,x3,x4,y0,y1,y2,y3,y4,n0,rfl,g0,g1,g2,g3,g4⟩:=DC Tryz.underlying26 qk qk hv h;obtain⟨L0,e0,-,-⟩:=UA Tryz.underlying3 g0;obtain⟨L1,e1,-,-⟩:=UA Tryz.underlying3 g1;obtain⟨L2,e2,-,-⟩:=UA Tryz.underlying3 g2;obtain⟨L3,e3,-,-⟩:=UA Tryz.underlying3 g3;obtain⟨L4,e4,-⟩:=DataW.trod_bool Tryz.underlying4 g4;injection e0 with e0
 injection e1 with e1
 injection e2 with e2
 injection e3 with e3
 injection e4 with e4
 subst e0 e1 e2 e3 e4;exact⟨L0,L1,L2,L3,L4,rfl⟩
theorem JZ{sg mt q r:List Int}(hd:cJ sg mt 0)(h:BN sg mt (zc sg) I5 q r){n k:Int}(hn:∀K,cA sg mt K->jE sg mt K n)(hk:∀K,cA q r K->jE q r K k):k= -n:=by obtain⟨K,hK⟩:=xQ hd;obtain⟨K',h1,h2⟩:=(Jr hd h).num hd hK;exact(hk K' h1).uniq (h2 n (hn K hK))
theorem Hr{sg mt sg' mt':List Int}(hd:cJ sg mt 0)(h:Bb sg mt sg' mt'){n k:Int}(hn:∀K,cA sg mt K->jE sg mt K n)(hk:∀K,cA sg' mt' K->jE sg' mt' K k):k=n:=by obtain⟨K,hK⟩:=xQ hd;obtain⟨K',h1,h2⟩:=h K hK;exact(hk K' h1).uniq (h2 n (hn K hK))
structure LI(w wr:World)(A1 A2:Option Addr)(c1 c2:Nat)(sg mt:List Int)(L kd X Y s:Int)(ov:Bool):Prop where
 d:bI wr w.heap.size A1 A2 c1 c2 sg mt L
 m0:wr.cell? ⟨w.heap.size+1,0,none⟩=some (.int .i64 kd)
 m1:wr.cell? ⟨w.heap.size+1,1,none⟩=some (.int .i64 X)
 m2:wr.cell? ⟨w.heap.size+1,2,none⟩=some (.int .i64 Y)
 m3:wr.cell? ⟨w.heap.size+1,3,none⟩=some (.int .i64 s)
 m4:wr.cell? ⟨w.heap.size+1,4,none⟩=some (.bool ov)
 lt:w.heap.size+2<=wr.heap.size
 bl:Below w.heap.size w wr
section
variable{w wr w':World}{A1 A2:Option Addr}{c1 c2:Nat}{sg mt:List Int}{L kd X Y s:Int}{ov:Bool}
theorem LI.call(h:LI w wr A1 A2 c1 c2 sg mt L kd X Y s ov)(hb:Below wr.heap.size wr w'):LI w w' A1 A2 c1 c2 sg mt L kd X Y s ov:=by
 have hl:=h.lt;have o1:∀i,w'.cell? ⟨w.heap.size+1,i,none⟩=wr.cell? ⟨w.heap.size+1,i,none⟩:=fun i=>hb.cell (p:=⟨w.heap.size+1,i,none⟩) oJ
 exact⟨h.d.below hb,(o1 _).trans h.m0,(o1 _).trans h.m1,(o1 _).trans h.m2,(o1 _).trans h.m3,(o1 _).trans h.m4,RQ hl hb.size,h.bl.trans (hb.mono oZ)⟩
theorem LI.new{S:Nat->Prop}(hx:RI w S A1 sg)(hy:RI w S A2 mt)(hS:∀b,S b->b<w.heap.size):LI w ((w.alloc (.cells #[.slice A1 sg.length c1,.slice A2 mt.length c2,.int .i64 L] 24)).alloc (.cells #[.int .i64 kd,.int .i64 X,.int .i64 Y,.int .i64 s,.bool ov] 26)) A1 A2 c1 c2 sg mt L kd X Y s ov:=by have k:=Ru (w.alloc (.cells #[.slice A1 sg.length c1,.slice A2 mt.length c2,.int .i64 L] 24)) (.cells #[.int .i64 kd,.int .i64 X,.int .i64 Y,.int .i64 s,.bool ov] 26);rw[show(w.alloc (.cells #[.slice A1 sg.length c1,.slice A2 mt.length c2,.int .i64 L] 24)).heap.size=w.heap.size+1 by simp]at k;obtain⟨a,b,c,d,e⟩:=yW k;exact⟨(bI.start (c1:=c1) (c2:=c2) (L:=L) S hx hy hS).below ((Rh _ _).alloc (Rf _) _),a,b,c,d,e,oX,((Rh _ _).alloc (Rf _) _).alloc oX _⟩
end
section
variable(A1 A2:Option Addr)(c1 c2:Nat)(sg mt:List Int)(L kd X Y s:Int)(ov:Bool)(w:World)(hd:DArg w A1 A2 sg mt L)
include hd
theorem Lm(h:7<sg.length\/qP sg mt L=false):Calls Tryz.prog 3 #[.agg #[.slice A1 sg.length c1,.slice A2 mt.length c2,.int .i64 L],.agg #[.int .i64 kd,.int .i64 X,.int .i64 Y,.int .i64 s,.bool ov]] w fun e w'=>e= .returned (.bool true)/\Below w.heap.size w w':=by
 have T0:=Rb (LI.new (c1:=c1) (c2:=c2) (L:=L) (kd:=kd) (X:=X) (Y:=Y) (s:=s) (ov:=ov) hd.rs hd.rm (fun _ h=>h));have hls:=hd.ls;have HLM:=Rb hd.lm;have HLS:=Rb hls;unfold maxLen at hls;clear hd;go_enter Tryz.func3,Tryz.ntmps3
 go_wp2_with fail;obtain⟨W,hW⟩:∃W,(w.alloc (.cells #[.slice A1 sg.length c1,.slice A2 mt.length c2,.int .i64 L] 24)).alloc (.cells #[.int .i64 kd,.int .i64 X,.int .i64 Y,.int .i64 s,.bool ov] 26)=W:=⟨_,rfl⟩
 rw[hW]at T0⊢;clear hW;refine(GO W).mono ?_;rintro e w1 ⟨rfl,hb⟩;have T1:=Rb (T0.out.call hb);clear T0 hb;obtain⟨k0,k1,k2,-,-,-⟩:=T1.out.d;by_cases h7:7<sg.length;{clear h;go_wp2_with fail;go_ret;exact⟨rfl,T1.out.bl⟩};{have hc:qP sg mt L=false:=h.resolve_left h7;have HC:=Rb hc;clear h hc;go_wp2_with fail;refine(rU (c1:=c1) (c2:=c2) (L:=L) w1 (·<w1.heap.size) T1.out.d.rs T1.out.d.rm (fun _ h=>h) HLS.out HLM.out).mono ?_;rintro e w2 ⟨rfl,hb⟩;rw[HC.out];have T2:=Rb (T1.out.call hb);clear T1 hb k0 k1 k2;go_wp2_with fail;go_ret;exact⟨rfl,T2.out.bl⟩}
theorem Nj(h7:¬7<sg.length)(hc:qP sg mt L=true):Calls Tryz.prog 3 #[.agg #[.slice A1 sg.length c1,.slice A2 mt.length c2,.int .i64 L],.agg #[.int .i64 kd,.int .i64 X,.int .i64 Y,.int .i64 s,.bool ov]] w fun e w'=>e= .returned (.bool true)/\Below w.heap.size w w':=by
 obtain⟨rfl,V⟩:=yJ hc;have T0:=Rb (LI.new (c1:=c1) (c2:=c2) (L:=0) (kd:=kd) (X:=X) (Y:=Y) (s:=s) (ov:=ov) hd.rs hd.rm (fun _ h=>h));have HLM:=Rb hd.lm;have HLS:=Rb hd.ls;have HC:=Rb hc;have HV:=Rb V;clear hd hc V;go_enter Tryz.func3,Tryz.ntmps3
 go_wp2_with fail;obtain⟨W,hW⟩:∃W,(w.alloc (.cells #[.slice A1 sg.length c1,.slice A2 mt.length c2,.int .i64 0] 24)).alloc (.cells #[.int .i64 kd,.int .i64 X,.int .i64 Y,.int .i64 s,.bool ov] 26)=W:=⟨_,rfl⟩
 rw[hW]at T0⊢;clear hW;refine(GO W).mono ?_;rintro e w1 ⟨rfl,hb⟩;have T1:=Rb (T0.out.call hb);clear T0 hb;obtain⟨k0,k1,k2,-,-,-⟩:=T1.out.d;go_wp2_with fail;refine(rU (c1:=c1) (c2:=c2) (L:=0) w1 (·<w1.heap.size) T1.out.d.rs T1.out.d.rm (fun _ h=>h) HLS.out HLM.out).mono ?_;rintro e w2 ⟨rfl,hb⟩;rw[HC.out];have T2:=Rb (T1.out.call hb);clear T1 hb k0 k1 k2;obtain⟨k0,k1,k2,-,-,-⟩:=T2.out.d;go_wp2_with fail;refine(mL (c1:=c1) (c2:=c2) w2 (·<w2.heap.size) T2.out.d.rs T2.out.d.rm (fun _ h=>h) HV.out).mono ?_;rintro e w3 ⟨n,er,rfl,her,hb,hn,Xz⟩;have T3:=Rb (T2.out.call hb);have Xy:=Rb Xz;have Y5:=Rb her;clear T2 hb Xz her k0 k1 k2;obtain⟨k0,k1,k2,-,-,-⟩:=T3.out.d;go_wp2_with fail;refine(DR A1 A2 c1 c2 sg mt 0 w3 (·<w3.heap.size) T3.out.d.rs T3.out.d.rm (fun _ h=>h) HV.out.d).mono ?_;rintro e w4 ⟨v1,v2,q,r,rfl,hmv,WU,hb⟩;obtain⟨B1,d1,Yx,-,-,ZB⟩:=WU.os.reads;obtain⟨B2,d2,WA,-,-,Xs⟩:=WU.om.reads;subst Yx WA;have Wx:=(Rh w4.heap.size w4).alloc (Rf _) (.cells #[.slice B1 q.length d1,.slice B2 r.length d2,.int .i64 0] 24);have T4:=Rb (T3.out.call (hb.trans (Wx.mono hb.size)));have R1:=Rb ((ZB.imp fun b hb=>hb.2).below Wx);have R2:=Rb ((Xs.imp fun b hb=>hb.2).below Wx);have HMV:=Rb hmv;obtain⟨m1,m2,m3⟩:=Fl HV.out.d hmv HV.out.one HV.out.pos;have HVM:Hid (I2 q r):=Rb ⟨m1,m2,m3⟩;clear T3 hb Wx hmv WU ZB Xs m1 m2 m3 k0 k1 k2;go_wp2_with fail
 obtain⟨W4,hW4⟩:∃X,w4.alloc (.cells #[.slice B1 q.length d1,.slice B2 r.length d2,.int .i64 0] 24)=X:=⟨_,rfl⟩
 have hs4:w4.heap.size<=W4.heap.size:=by rw[<-hW4];simp
 rw[hW4]at T4 R1 R2⊢;clear hW4;refine(mL (c1:=d1) (c2:=d2) W4 (·<w4.heap.size) R1.out R2.out (fun b hb=>by omega) HVM.out).mono ?_;rintro e w5 ⟨k,gr,rfl,Z_,hb,hk,Zh⟩;have T5:=Rb (T4.out.call hb);clear T4 hb R1 R2;by_cases e0:er=0
 ·subst e0
  have YA:=Xy.out rfl;by_cases g0:gr=0
  ·subst g0
   have Zl:=JZ HV.out.d HMV.out YA (Zh rfl);subst Zl;have HN1:=Rb YA;have hwn:IntKind.i64.wrap (-n)= -n:=SF _ oZ;have Yo:(-n != -n)=false:=oX;clear YA Zh Z_ Y5 Xy HMV HVM;go_wp2_with fail;refine(gM 0 w5).mono ?_;rintro e w6 ⟨rfl,rfl⟩;rw[show decide ((0:Int)=5\/(0:Int)=9)=false from by decide];go_wp2_with fail;refine(gM 0 w6).mono ?_;rintro e w7 ⟨rfl,rfl⟩;rw[show decide ((0:Int)=5\/(0:Int)=9)=false from by decide];obtain⟨k0,k1,k2,-,-,-⟩:=T5.out.d;have m0:=T5.out.m0;have m1:=T5.out.m1;have m2:=T5.out.m2;have m3:=T5.out.m3;have m4:=T5.out.m4;go_wp2_with fail;refine(EG (c1:=c1) (c2:=c2) kd X Y s ov w7 (·<w7.heap.size) T5.out.d.rs T5.out.d.rm (fun _ h=>h) HV.out).mono ?_;rintro e w8 ⟨ea,A5,A6,n5,k5,n6,k6,L',a,b,c,d,o,rfl,hb,h0⟩;have Wx:=((Rh w8.heap.size w8).alloc (Rf _) (.cells #[.slice A5 n5 k5,.slice A6 n6 k6,.int .i64 L'] 24)).alloc oX (.cells #[.int .i64 a,.int .i64 b,.int .i64 c,.int .i64 d,.bool o] 26);have T8:=Rb (T5.out.call (hb.trans (Wx.mono hb.size)));clear T5 k0 k1 k2 m0 m1 m2 m3 m4 hb hwn Yo hk;by_cases hea:ea=0
   ·subst hea
    obtain⟨sg',mt',rfl,rfl,r1,r2,Xw,hl2,hct⟩:=h0 rfl;have HCT:=Rb hct;have ZL:=Rb (((bI.start (c1:=k5) (c2:=k6) (L:=L') (·<w8.heap.size) r1 r2 (fun _ h=>h))).below ((Rh _ _).alloc (Rf _) (.cells #[.int .i64 a,.int .i64 b,.int .i64 c,.int .i64 d,.bool o] 26)));clear h0 hct r1 r2 Wx;have HL1:=Rb Xw;have HL2:=Rb hl2;clear Xw hl2;go_wp2_with fail;obtain⟨W8,hW8⟩:∃X,(w8.alloc (.cells #[.slice A5 sg'.length k5,.slice A6 mt'.length k6,.int .i64 L'] 24)).alloc (.cells #[.int .i64 a,.int .i64 b,.int .i64 c,.int .i64 d,.bool o] 26)=X:=⟨_,rfl⟩
    rw[hW8]at T8 ZL⊢;clear hW8;obtain⟨b11,hb11⟩:∃x,w8.heap.size=x:=⟨_,rfl⟩
    rw[hb11]at ZL⊢;clear hb11;refine(rU (c1:=k5) (c2:=k6) (L:=L') W8 (·<W8.heap.size) ZL.out.rs ZL.out.rm (fun _ h=>h) HL1.out HL2.out).mono ?_;rintro e w9 ⟨rfl,hb⟩;have T9:=Rb (T8.out.call hb);have HD9:=Rb (ZL.out.below hb);clear T8 ZL hb;have k0:=HD9.out.c0;have k1:=HD9.out.c1;have k2:=HD9.out.c2
    cases hcb:qP sg' mt' L' with
    |false=>clear hcb;go_wp2_with fail;go_ret;exact⟨rfl,T9.out.bl⟩
    |true=>obtain⟨rfl,WA⟩:=yJ hcb;have Zi:=Rb WA;have hts:=HCT.out WA.d WA.one rfl;have HTS:=Rb hts;clear hcb WA hts HCT;go_wp2_with fail;refine(mL (c1:=k5) (c2:=k6) w9 (·<w9.heap.size) HD9.out.rs HD9.out.rm (fun _ h=>h) Zi.out).mono ?_;rintro e w10 ⟨rn,ie,rfl,hie,hb,hrn,hsr⟩;have V9:=Rb (T9.out.call hb);clear T9 HD9 hb k0 k1 k2;by_cases i0:ie=0;{subst i0;obtain rfl:=Hr HV.out.d HTS.out HN1.out (hsr rfl);clear hsr hie;go_wp2_with fail;refine(gM 0 w10).mono ?_;rintro e w11 ⟨rfl,rfl⟩;rw[show decide ((0:Int)=5\/(0:Int)=9)=false from by decide];go_wp2_with fail;go_ret;exact⟨rfl,V9.out.bl⟩};{have Yd:decide (ie=5\/ie=9)=true:=Rj oZ;have WL:=Rb Yd;clear hsr hie Yd;go_wp2_with fail;refine(gM ie w10).mono ?_;rintro e w11 ⟨rfl,rfl⟩;rw[WL.out];go_wp2_with fail;go_ret;exact⟨rfl,V9.out.bl⟩}
   ·have q:(ea !=0)=true:=by rw[RZ];exact hea
    clear h0 Wx;go_wp2_with fail;go_ret;exact⟨rfl,T8.out.bl⟩
  {have Vv:decide (gr=5\/gr=9)=true:=Rj oZ;have HG2:=Rb Vv;clear YA Zh Z_ Y5 Xy HMV HVM Vv;go_wp2_with fail;refine(gM 0 w5).mono ?_;rintro e w6 ⟨rfl,rfl⟩;rw[show decide ((0:Int)=5\/(0:Int)=9)=false from by decide];go_wp2_with fail;refine(gM gr w6).mono ?_;rintro e w7 ⟨rfl,rfl⟩;rw[HG2.out];go_wp2_with fail;go_ret;exact⟨rfl,T5.out.bl⟩}
 {have Yd:decide (er=5\/er=9)=true:=Rj (by have:=Y5.out;omega);have WL:=Rb Yd;clear Zh Z_ Y5 Xy HMV HVM Yd;go_wp2_with fail;refine(gM er w5).mono ?_;rintro e w6 ⟨rfl,rfl⟩;rw[WL.out];go_wp2_with fail;go_ret;exact⟨rfl,T5.out.bl⟩}
end
theorem wholeSignature_walk(A1 A2:Option Addr)(c1 c2:Nat)(sg mt:List Int)(L kd X Y s:Int)(ov:Bool)(w:World)(hd:DArg w A1 A2 sg mt L):
  Calls Tryz.prog 3 #[.agg #[.slice A1 sg.length c1,.slice A2 mt.length c2,.int .i64 L],.agg #[.int .i64 kd,.int .i64 X,.int .i64 Y,.int .i64 s,.bool ov]] w fun e w'=>e= .returned (.bool true)/\Below w.heap.size w w':=by
 by_cases h7:7<sg.length;{exact Lm A1 A2 c1 c2 sg mt L kd X Y s ov w hd (.inl h7)}
 ·cases hc:qP sg mt L with
  |false=>exact Lm A1 A2 c1 c2 sg mt L kd X Y s ov w hd (.inr hc)
  |true=>exact Nj A1 A2 c1 c2 sg mt L kd X Y s ov w hd h7 hc
end Go.Proofs.YtdbhigmklejicaaGreat
