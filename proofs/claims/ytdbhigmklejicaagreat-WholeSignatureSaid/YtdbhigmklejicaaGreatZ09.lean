/- Lemmas, each under its own premises. -/
import Derived.Test.YtdbhigmklejicaaGreatZ08
namespace Go.Proofs.YtdbhigmklejicaaGreat
set_option maxHeartbeats 16000000
set_option maxRecDepth 100000
open Go.RowKit
def I'(fY:Bool):Nat:=if fY then 0 else 2
def Pm(fX:Bool):Nat:=if fX then 3 else 1
def Pj(fX:Bool):Nat:=if fX then 1 else 3
def kW(fX fY ov:Bool):Nat:=if ov then I' fY else Pm fX
def kV(fX fY ov:Bool):Nat:=if ov then I' fY else Pj fX
def vV(fX fY ov:Bool):Nat:=if ov then Pm fX else I' fY
def vW(fX fY ov:Bool):Nat:=if ov then Pj fX else I' fY
def cM(f o:Nat):Int:=if ao 0 f o=3 then 1 else-1
theorem qw(a b c:Bool):kW a b c<=3/\kV a b c<=3/\vV a b c<=3/\vW a b c<=3:=by cases a<;>cases b<;>cases c<;>decide
def fK(w:World)(b:Nat)(x y:Int):Prop:=w.heap[b]?=some (.cells #[.int .i64 x,.int .i64 y] 78 (0,0))
section
variable{w w':World}{b:Nat}{x y:Int}
theorem fK.c0(h:fK w b x y):w.cell? ⟨b,0,none⟩=some (.int .i64 x):=by unfold fK at h;rw[Rt _ _ _ _ _ _ h];rfl
theorem fK.c1(h:fK w b x y):w.cell? ⟨b,1,none⟩=some (.int .i64 y):=by unfold fK at h;rw[Rt _ _ _ _ _ _ h];rfl
theorem fK.fz(h:fK w b x y)(k:Nat):w.frozen? ⟨b,k,none⟩=false:=RD _ _ _ _ _ h
theorem fK.lt(h:fK w b x y):b<w.heap.size:=SL h
theorem fK.call(h:fK w b x y)(hb:Below w.heap.size w w'):fK w' b x y:=(hb.block b h.lt).trans h
theorem fK.new(w:World)(x y:Int):fK (w.alloc (.cells #[.int .i64 x,.int .i64 y] 78)) w.heap.size x y:=Ru w _
theorem fK.Nk(w:World)(o:Obj)(x y:Int):fK ((w.alloc o).alloc (.cells #[.int .i64 x,.int .i64 y] 78)) (w.heap.size+1) x y:=by have h:=fK.new (w.alloc o) x y;rwa [show(w.alloc o).heap.size=w.heap.size+1 by simp]at h
theorem fK.drew(h:fK w b x y):fK w.drew b x y:=h
theorem fK.drewN(h:fK w b x y)(n:Nat):fK (w.drewN n) b x y:=h
theorem fK.other(h:fK w b x y){a:Addr}(ha:b≠a.block)(v:Value):fK (w.setCell a v) b x y:=(Rn _ _ _ _ ha).trans h
theorem fK.alloc(h:fK w b x y)(o:Obj):fK (w.alloc o) b x y:=(Rx w o b h.lt).trans h
theorem fK.rW(h:fK w b x y)(z:Int):fK (w.setCell ⟨b,0,none⟩ (.int .i64 z)) b z y:=by
 have h':w.heap[b]'h.lt= .cells #[.int .i64 x,.int .i64 y] 78 (0,0):=by have:=h;unfold fK at this;simpa[R8 h.lt]using this
 show(w.heap.modify b _)[b]?=_;rw[R8 (by simpa using h.lt),SU,h'];rfl
theorem fK.gR(h:fK w b x y)(z:Int):fK (w.setCell ⟨b,1,none⟩ (.int .i64 z)) b x z:=by
 have h':w.heap[b]'h.lt= .cells #[.int .i64 x,.int .i64 y] 78 (0,0):=by have:=h;unfold fK at this;simpa[R8 h.lt]using this
 show(w.heap.modify b _)[b]?=_;rw[R8 (by simpa using h.lt),SU,h'];rfl
end
structure qN(w wr:World)(A1 A2:Option Addr)(c1 c2:Nat)(sg mt:List Int)(L X Y:Int)(ov:Bool):Prop where
 db:bI wr w.heap.size A1 A2 c1 c2 sg mt L
 m1:wr.cell? ⟨w.heap.size+1,1,none⟩=some (.int .i64 X)
 m2:wr.cell? ⟨w.heap.size+1,2,none⟩=some (.int .i64 Y)
 m4:wr.cell? ⟨w.heap.size+1,4,none⟩=some (.bool ov)
 zb:fD wr (w.heap.size+2)
 zt:fK wr (w.heap.size+3) 0 0
 bel:Below w.heap.size w wr
section
variable{w wr w':World}{A1 A2:Option Addr}{c1 c2:Nat}{sg mt:List Int}{L X Y:Int}{ov:Bool}
theorem qN.lt(h:qN w wr A1 A2 c1 c2 sg mt L X Y ov):w.heap.size+4<=wr.heap.size:=h.zt.lt
theorem qN.call(h:qN w wr A1 A2 c1 c2 sg mt L X Y ov)(hb:Below wr.heap.size wr w'):qN w w' A1 A2 c1 c2 sg mt L X Y ov:=by have hl:=h.lt;have e:w'.heap[w.heap.size+1]?=wr.heap[w.heap.size+1]?:=hb.block _ oZ;exact⟨h.db.below hb,(Ri (a:=⟨w.heap.size+1,1,none⟩) e).trans h.m1,(Ri (a:=⟨w.heap.size+1,2,none⟩) e).trans h.m2,(Ri (a:=⟨w.heap.size+1,4,none⟩) e).trans h.m4,h.zb.below hb,h.zt.call hb,h.bel.trans (hb.mono h.bel.size)⟩
theorem qN.alloc(h:qN w wr A1 A2 c1 c2 sg mt L X Y ov)(o:Obj):qN w (wr.alloc o) A1 A2 c1 c2 sg mt L X Y ov:=h.call ((Rh _ _).alloc (Rf _) _)
theorem qN.drew(h:qN w wr A1 A2 c1 c2 sg mt L X Y ov):qN w wr.drew A1 A2 c1 c2 sg mt L X Y ov:=h.call (Rh _ _).drew
theorem qN.drewN(h:qN w wr A1 A2 c1 c2 sg mt L X Y ov)(n:Nat):qN w (wr.drewN n) A1 A2 c1 c2 sg mt L X Y ov:=h.call (RJ (Rh _ _) n)
theorem qN.set(h:qN w wr A1 A2 c1 c2 sg mt L X Y ov)(hx:RI w (·<w.heap.size) A1 sg)(hy:RI w (·<w.heap.size) A2 mt){b k:Nat}(hb:w.heap.size+4<=b)(v:Value):qN w (wr.setCell ⟨b,k,none⟩ v) A1 A2 c1 c2 sg mt L X Y ov:=by
 have e:∀g,g<w.heap.size+4->(wr.setCell ⟨b,k,none⟩ v).heap[g]?=wr.heap[g]?:=fun g hg=>Rn _ _ _ _ oJ
 have Xx:=h.bel.setCell (p:=⟨b,k,none⟩) oJ v;exact⟨⟨(Ri (a:=⟨w.heap.size,0,none⟩) (e (w.heap.size) oZ)).trans h.db.c0,(Ri (a:=⟨w.heap.size,1,none⟩) (e (w.heap.size) oZ)).trans h.db.c1,(Ri (a:=⟨w.heap.size,2,none⟩) (e (w.heap.size) oZ)).trans h.db.c2,by rw[az];exact h.db.lt,
   (hx.ak fun g hg=>Xx.block g hg).imp fun g hg=>by rw[az];have:=h.lt;omega,(hy.ak fun g hg=>Xx.block g hg).imp fun g hg=>by rw[az];have:=h.lt;omega⟩,
  (Ri (a:=⟨w.heap.size+1,1,none⟩) (e (w.heap.size+1) oZ)).trans h.m1,(Ri (a:=⟨w.heap.size+1,2,none⟩) (e (w.heap.size+1) oZ)).trans h.m2,(Ri (a:=⟨w.heap.size+1,4,none⟩) (e (w.heap.size+1) oZ)).trans h.m4,
  h.zb.ak (e _ oZ) (by rw[az];exact Rf _),(e _ oZ).trans h.zt,Xx⟩
theorem qN.start{kd s:Int}{S:Nat->Prop}(hx:RI w S A1 sg)(hy:RI w S A2 mt)(hS:∀b,S b->b<w.heap.size):
  qN w ((((w.alloc (.cells #[.slice A1 sg.length c1,.slice A2 mt.length c2,.int .i64 L] 24)).alloc (.cells #[.int .i64 kd,.int .i64 X,.int .i64 Y,.int .i64 s,.bool ov] 26)).alloc (.cells #[.slice none 0 0,.slice none 0 0,.int .i64 0] 24)).alloc (.cells #[.int .i64 0,.int .i64 0] 78)) A1 A2 c1 c2 sg mt L X Y ov:=by
 have d1:=bI.start (c1:=c1) (c2:=c2) (L:=L) S hx hy hS;have Vi:Below w.heap.size w (w.alloc (.cells #[.slice A1 sg.length c1,.slice A2 mt.length c2,.int .i64 L] 24)):=(Rh _ _).alloc (Rf _) _;have s1:(w.alloc (.cells #[.slice A1 sg.length c1,.slice A2 mt.length c2,.int .i64 L] 24)).heap.size=w.heap.size+1:=oX;obtain⟨w1,h1⟩:∃x,w.alloc (.cells #[.slice A1 sg.length c1,.slice A2 mt.length c2,.int .i64 L] 24)=x:=⟨_,rfl⟩
 rw[h1]at Vi d1 s1⊢;have Vj:Below w1.heap.size w1 (w1.alloc (.cells #[.int .i64 kd,.int .i64 X,.int .i64 Y,.int .i64 s,.bool ov] 26)):=(Rh _ _).alloc (Rf _) _;have k2:=Ru w1 (.cells #[.int .i64 kd,.int .i64 X,.int .i64 Y,.int .i64 s,.bool ov] 26);have s2:(w1.alloc (.cells #[.int .i64 kd,.int .i64 X,.int .i64 Y,.int .i64 s,.bool ov] 26)).heap.size=w.heap.size+2:=by simp[s1]
 obtain⟨w2,h2⟩:∃x,w1.alloc (.cells #[.int .i64 kd,.int .i64 X,.int .i64 Y,.int .i64 s,.bool ov] 26)=x:=⟨_,rfl⟩
 rw[h2]at Vj k2 s2⊢;have Vt:Below w2.heap.size w2 (w2.alloc (.cells #[.slice none 0 0,.slice none 0 0,.int .i64 0] 24)):=(Rh _ _).alloc (Rf _) _;have k3:=Ru w2 (.cells #[.slice none 0 0,.slice none 0 0,.int .i64 0] 24);have s3:(w2.alloc (.cells #[.slice none 0 0,.slice none 0 0,.int .i64 0] 24)).heap.size=w.heap.size+3:=by simp[s2]
 obtain⟨w3,h3⟩:∃x,w2.alloc (.cells #[.slice none 0 0,.slice none 0 0,.int .i64 0] 24)=x:=⟨_,rfl⟩
 rw[h3]at Vt k3 s3⊢;have Wp:Below w3.heap.size w3 (w3.alloc (.cells #[.int .i64 0,.int .i64 0] 78)):=(Rh _ _).alloc (Rf _) _;have k4:=fK.new w3 0 0;rw[s1]at k2;rw[s2]at k3;rw[s3]at k4;have e2:(w3.alloc (.cells #[.int .i64 0,.int .i64 0] 78)).heap[w.heap.size+1]?=some (.cells #[.int .i64 kd,.int .i64 X,.int .i64 Y,.int .i64 s,.bool ov] 26 (0,0)):=by rw[Wp.block _ oZ,Vt.block _ oZ];exact k2
 have e3:(w3.alloc (.cells #[.int .i64 0,.int .i64 0] 78)).heap[w.heap.size+2]?=some (.cells #[.slice none 0 0,.slice none 0 0,.int .i64 0] 24 (0,0)):=by rw[Wp.block _ oZ];exact k3
 refine⟨((d1.below Vj).below Vt).below Wp,?_,?_,?_,fD.new e3 (by simp[s3]),k4,((Vi.trans (Vj.mono oZ)).trans (Vt.mono oZ)).trans (Wp.mono oZ)⟩;{rw[Rt _ _ _ _ _ _ e2];rfl};{rw[Rt _ _ _ _ _ _ e2];rfl};{rw[Rt _ _ _ _ _ _ e2];rfl}
end
structure Kp(N:Nat)(wr w':World):Prop where
 sz:wr.heap.size<=w'.heap.size
 eq:∀g,g<wr.heap.size->g≠N+2->g≠N+3->w'.heap[g]?=wr.heap[g]?
theorem Kp.refl(N:Nat)(w:World):Kp N w w:=⟨Rf _,fun _ _ _ _=>rfl⟩
theorem Kp.drew{N:Nat}{wr w':World}(h:Kp N wr w'):Kp N wr w'.drew:=⟨h.sz,h.eq⟩
theorem Kp.call{N:Nat}{wr X W:World}(h:Kp N wr X)(hb:Below X.heap.size X W):Kp N wr W:=⟨RQ h.sz hb.size,fun g h1 h2 h3=>(hb.block g (RB h1 h.sz)).trans (h.eq g h1 h2 h3)⟩
theorem Kp.alloc{N:Nat}{wr X:World}(h:Kp N wr X)(o:Obj):Kp N wr (X.alloc o):=h.call ((Rh _ _).alloc (Rf _) _)
theorem Kp.set{N b k:Nat}{wr X:World}(hb:b=N+2\/b=N+3)(h:Kp N wr X)(v:Value):Kp N wr (X.setCell ⟨b,k,none⟩ v):=
 ⟨by rw[az];exact h.sz,fun g h1 h2 h3=>(Rn _ _ _ _ oJ).trans (h.eq g h1 h2 h3)⟩
theorem Kp.cell{N b k:Nat}{wr X:World}{v:Value}(h:Kp N wr X)(h2:b≠N+2)(h3:b≠N+3)(hc:wr.cell? ⟨b,k,none⟩=some v):X.cell? ⟨b,k,none⟩=some v:=
 (Ri (a:=⟨b,k,none⟩) (h.eq b (RX _ _ hc) h2 h3)).trans hc
theorem NU{w wr w':World}{A1 A2:Option Addr}{c1 c2 n1 n2 b8 ba:Nat}{L x0 x1 f0 f1:Int}(h8:w.heap.size+4<=b8)(ha:w.heap.size+4<=ba)
  (d0:wr.cell? ⟨w.heap.size,0,none⟩=some (.slice A1 n1 c1))(d1:wr.cell? ⟨w.heap.size,1,none⟩=some (.slice A2 n2 c2))(d2:wr.cell? ⟨w.heap.size,2,none⟩=some (.int .i64 L))
  (r0:wr.cell? ⟨ba,0,none⟩=some (.int .i64 x0))(r1:wr.cell? ⟨ba,1,none⟩=some (.int .i64 x1))(p0:wr.cell? ⟨b8,0,none⟩=some (.int .i64 f0))(p1:wr.cell? ⟨b8,1,none⟩=some (.int .i64 f1))(h:Kp w.heap.size wr w'):
  w'.cell? ⟨w.heap.size,0,none⟩=some (.slice A1 n1 c1)/\w'.cell? ⟨w.heap.size,1,none⟩=some (.slice A2 n2 c2)/\w'.cell? ⟨w.heap.size,2,none⟩=some (.int .i64 L)/\
  w'.cell? ⟨ba,0,none⟩=some (.int .i64 x0)/\w'.cell? ⟨ba,1,none⟩=some (.int .i64 x1)/\w'.cell? ⟨b8,0,none⟩=some (.int .i64 f0)/\w'.cell? ⟨b8,1,none⟩=some (.int .i64 f1):=
 ⟨h.cell oZ oZ d0,h.cell oZ oZ d1,h.cell oZ oZ d2,h.cell oZ oZ r0,h.cell oZ oZ r1,h.cell oZ oZ p0,h.cell oZ oZ p1⟩
def QZ(w:World)(sg mt:List Int)(L s0 s1:Int)(f0 f1:Nat)(e:Ending)(w':World):Prop:=
 ∃v1 v2,e= .returned (.tuple #[.agg #[v1,v2,.int .i64 L],.agg #[.int .i64 (f0:Int),.int .i64 (f1:Int)]])/\dz w' w.heap.size v1 v2 (sg++[s0,s1]) (mt++List.replicate 8 0)/\Below w.heap.size w w'
theorem AS(A1 A2:Option Addr)(c1 c2:Nat)(sg mt:List Int)(L kd X Y s:Int)(x y:Nat)(ov:Bool)(w:World)(S:Nat->Prop)(hx:RI w S A1 sg)(hy:RI w S A2 mt)(hS:∀b,S b->b<w.heap.size)(VO:sg.length<=64)(h2:mt.length=4*sg.length)(hX:X=x)(hY:Y=y)(V7:x<4*sg.length)(VJ:y<4*sg.length)(fX fY:Bool)(hfx:ai sg x=fX)(hfy:ai sg y=fY):
  Calls Tryz.prog 49 #[.agg #[.slice A1 sg.length c1,.slice A2 mt.length c2,.int .i64 L],.agg #[.int .i64 kd,.int .i64 X,.int .i64 Y,.int .i64 s,.bool ov]] w
   (QZ w sg mt L (cM (kW fX fY ov) (vV fX fY ov)) (cM (kV fX fY ov) (vW fX fY ov)) (kW fX fY ov) (kV fX fY ov)):=by
 subst hX hY;have T0:=Rb (qN.start (c1:=c1) (c2:=c2) (L:=L) (kd:=kd) (X:=(x:Int)) (Y:=(y:Int)) (s:=s) (ov:=ov) hx hy hS);have HX:=Rb (hx.imp hS);have HY:=Rb (hy.imp hS);have HFX:=Rb hfx;have HFY:=Rb hfy;have H2:=Rb h2;clear hx hy hS hfx hfy h2;go_enter Tryz.func49,Tryz.ntmps49
 have hl0':w.heap.size<w.heap.size+4:=oZ;go_upto_region 1 with(fail)
 generalize hW:(((w.alloc (.cells #[.slice A1 sg.length c1,.slice A2 mt.length c2,.int .i64 L] 24)).alloc (.cells #[.int .i64 kd,.int .i64 (x:Int),.int .i64 (y:Int),.int .i64 s,.bool ov] 26)).alloc (.cells #[.slice none 0 0,.slice none 0 0,.int .i64 0] 24)).alloc (.cells #[.int .i64 0,.int .i64 0] 78)=wr at*;clear hW hl0';obtain⟨j0,j1,j2,-,-,-⟩:=T0.out.db;have j3:=T0.out.m2;have Vg:=T0.out.lt;have We:w.heap.size<wr.heap.size:=oZ;have Xw:w.heap.size+1<wr.heap.size:=oZ;have T1:=Rb (T0.out.alloc (.cells #[.int .i64 0,.int .i64 0] 78));have Vr:=Rb (fK.new wr 0 0);obtain⟨b6,hb6⟩:∃b,wr.heap.size=b:=⟨_,rfl⟩
 have hb64:w.heap.size+4<=b6:=oZ;rw[hb6]at Vr;have Z8:=Rb hb6;clear hb6
 go_upto_if 17 with(refine(qD A1 A2 c1 c2 mt.length sg L _ y _ _ T1.out.db.rs (fun _ h=>h) oZ rfl VJ).mono ?_;rintro e w1 ⟨rfl,Vi⟩;rw[HFY.out];have T2:=Rb (T1.out.call Vi);have VD:=Rb (Vr.out.call Vi);clear Vi j0 j1 j2 j3 T1 Vr)
 rw[Z8.out];clear Z8 Vg We Xw
 go_cut []from 18 to 18 (fun wx=>Hid (qN w wx A1 A2 c1 c2 sg mt L x y ov)/\Hid (fK wx b6 (I' fY) (I' fY)))
 case first=>
  cases fY with
  |true=>
   go_wp2_with fail
   go_meet
   case rel=>exact⟨T2,VD⟩
  |false=>
   have p0:=VD.out.c0;have p1:=VD.out.c1;have q0:=VD.out.fz 0;have q1:=VD.out.fz 1;go_wp2_with fail
   go_meet
   case rel=>exact⟨Rb ((T2.out.set HX.out HY.out hb64 _).set HX.out HY.out hb64 _),Rb ((VD.out.rW 2).gR 2)⟩
 case rest=>
  obtain⟨T3,XY⟩:=hcut;clear T0 T2 VD;obtain⟨j0,j1,j2,-,-,-⟩:=T3.out.db;have j3:=T3.out.m1;have Vg:=T3.out.lt;have We:w.heap.size<wc.heap.size:=oZ;have Xw:w.heap.size+1<wc.heap.size:=oZ;have T4:=Rb (T3.out.alloc (.cells #[.int .i64 3,.int .i64 1] 78));have HB4:=Rb (XY.out.alloc (.cells #[.int .i64 3,.int .i64 1] 78));have HD4:=Rb (fK.new wc 3 1);obtain⟨b7,hb7⟩:∃b,wc.heap.size=b:=⟨_,rfl⟩
  have hb74:w.heap.size+4<=b7:=oZ;have hb67:¬b6=b7:=by have:=XY.out.lt;omega
  rw[hb7]at HD4;have HB7:=Rb hb7;clear hb7
  go_upto_if 24 with(refine(qD A1 A2 c1 c2 mt.length sg L _ x _ _ T4.out.db.rs (fun _ h=>h) oZ rfl V7).mono ?_;rintro e w5 ⟨rfl,WI⟩;rw[HFX.out];have T5:=Rb (T4.out.call WI);have HB5:=Rb (HB4.out.call WI);have HD5:=Rb (HD4.out.call WI);clear WI j0 j1 j2 j3 T4 HB4 HD4)
  rw[HB7.out];clear HB7 Vg We Xw
  go_cut []from 25 to 25 (fun wx=>Hid (qN w wx A1 A2 c1 c2 sg mt L x y ov)/\Hid (fK wx b6 (I' fY) (I' fY))/\Hid (fK wx b7 (Pm fX) (Pj fX)))
  case first=>
   cases fX with
   |true=>
    go_wp2_with fail
    go_meet
    case rel=>exact⟨T5,HB5,HD5⟩
   |false=>
    have p0:=HD5.out.c0;have p1:=HD5.out.c1;have q0:=HD5.out.fz 0;have q1:=HD5.out.fz 1;go_wp2_with fail
    go_meet
    case rel=>exact⟨Rb ((T5.out.set HX.out HY.out hb74 _).set HX.out HY.out hb74 _),Rb ((HB5.out.other oJ _).other oJ _),Rb ((HD5.out.rW 1).gR 3)⟩
  case rest=>
   obtain⟨T6,Z8,HD6⟩:=hcut;clear T3 T5 XY HB5 HD5;have p0:=Z8.out.c0;have p1:=Z8.out.c1;have q0:=HD6.out.c0;have q1:=HD6.out.c1;have l6:=Z8.out.lt;have l7:=HD6.out.lt;obtain⟨ln,hln⟩:∃n,I' fY=n:=⟨_,rfl⟩
   obtain⟨t0,ht0⟩:∃n,Pm fX=n:=⟨_,rfl⟩
   obtain⟨t1,ht1⟩:∃n,Pj fX=n:=⟨_,rfl⟩
   rw[hln]at p0 p1 Z8;rw[ht0]at q0 HD6;rw[ht1]at q1 HD6;have XK:=Rb hln;have HT0:=Rb ht0;have HT1:=Rb ht1;clear hln ht0 ht1;go_upto_region 7 with(fail)
   go_cut [8,9]from 26 to 27 (fun v8 v9 wx=>∃b8 b9:Nat,v8= .pointer (some ⟨b8,0,none⟩)/\v9= .pointer (some ⟨b9,0,none⟩)/\Hid (qN w wx A1 A2 c1 c2 sg mt L x y ov)/\Hid (fK wx b6 ln ln)/\Hid (fK wx b7 t0 t1)/\Hid (fK wx b8 t0 t1)/\Hid (fK wx b9 ln ln)/\w.heap.size+4<=b8/\w.heap.size+4<=b9/\b8≠b9/\b6≠b8/\b6≠b9/\b7≠b8/\b7≠b9)
   case first=>
    go_region
    all_goals
     go_wp2_with fail
     go_meet
     case rel=>
      have Vg:=T6.out.lt
      first
       |exact⟨_,_,rfl,rfl,Rb ((T6.out.alloc _).alloc _).drew,Rb ((Z8.out.alloc _).alloc _).drew,Rb ((HD6.out.alloc _).alloc _).drew,Rb ((fK.new wc _ _).alloc _).drew,Rb (fK.Nk wc _ _ _).drew,oZ,oZ,oZ,oZ,oZ,oZ,oZ⟩
       |exact⟨_,_,rfl,rfl,Rb ((T6.out.alloc _).alloc _).drew,Rb ((Z8.out.alloc _).alloc _).drew,Rb ((HD6.out.alloc _).alloc _).drew,Rb (fK.Nk wc _ _ _).drew,Rb ((fK.new wc _ _).alloc _).drew,oZ,oZ,oZ,oZ,oZ,oZ,oZ⟩
   case rest=>
    obtain⟨b8,b9,rfl,rfl,T7,HB7,HD7,HE7,HF7,hb84,hb94,n1,n2,n3,n4,n5⟩:=hcut;clear T6 Z8 HD6 p0 p1 q0 q1 l6 l7;have hm4:=T7.out.m4;obtain⟨f0,hf0⟩:∃n,kW fX fY ov=n:=⟨_,rfl⟩
    obtain⟨f1,hf1⟩:∃n,kV fX fY ov=n:=⟨_,rfl⟩
    obtain⟨o0,ho0⟩:∃n,vV fX fY ov=n:=⟨_,rfl⟩
    obtain⟨o1,YS⟩:∃n,vW fX fY ov=n:=⟨_,rfl⟩
    have hle:=qw fX fY ov;rw[hf0,hf1,ho0,YS]at hle;have HF0:=Rb hf0;have Zt:=Rb hf1;have HO0:=Rb ho0;have HO1:=Rb YS;clear hf0 hf1 ho0 YS
    go_upto_if 29 with(fail)
    clear hm4
    go_cut []from 30 to 31 (fun wx=>Hid (qN w wx A1 A2 c1 c2 sg mt L x y ov)/\Hid (fK wx b8 f0 f1)/\Hid (fK wx b9 o0 o1))
    case first=>
     have p0:=HB7.out.c0;have p1:=HB7.out.c1;have q0:=HD7.out.c0;have q1:=HD7.out.c1;have r0:=HE7.out.c0;have r1:=HE7.out.c1;have r2:=HE7.out.fz 0;have r3:=HE7.out.fz 1;have s0:=HF7.out.c0;have s1:=HF7.out.c1;have s2:=HF7.out.fz 0;have s3:=HF7.out.fz 1;have m1:¬b6=b8:=n2;have m2:¬b6=b9:=n3;have m3:¬b7=b8:=n4;have m4:¬b7=b9:=n5;have m5:¬b8=b6:=fun h=>n2 h.symm
     have m6:¬b9=b6:=fun h=>n3 h.symm
     have m7:¬b8=b7:=fun h=>n4 h.symm
     have m8:¬b9=b7:=fun h=>n5 h.symm
     have m9:¬b8=b9:=n1;have m10:¬b9=b8:=fun h=>n1 h.symm
     clear n1 n2 n3 n4 n5
     cases ov with
     |false=>
      have e0:f0=t0:=by rw[<-HF0.out,<-HT0.out];rfl
      have e1:f1=t1:=by rw[<-Zt.out,<-HT1.out];rfl
      have e2:o0=ln:=by rw[<-HO0.out,<-XK.out];rfl
      have e3:o1=ln:=by rw[<-HO1.out,<-XK.out];rfl
      subst e0 e1 e2 e3;go_wp2_with fail
      go_meet
      case rel=>exact⟨T7,HE7,HF7⟩
     |true=>
      have e0:f0=ln:=by rw[<-HF0.out,<-XK.out];rfl
      have e1:f1=ln:=by rw[<-Zt.out,<-XK.out];rfl
      have e2:o0=t0:=by rw[<-HO0.out,<-HT0.out];rfl
      have e3:o1=t1:=by rw[<-HO1.out,<-HT1.out];rfl
      subst e0 e1 e2 e3;go_wp2_with fail;go_region
      all_goals
       go_wp2_with fail
       go_meet
       case rel=>
        first
         |exact⟨Rb ((((T7.out.set HX.out HY.out hb84 _).set HX.out HY.out hb84 _).set HX.out HY.out hb94 _).set HX.out HY.out hb94 _).drew,Rb ((((HE7.out.rW _).gR _).other (by exact m9) _).other (by exact m9) _).drew,Rb ((((HF7.out.other (by exact m10) _).other (by exact m10) _).rW _).gR _).drew⟩
         |exact⟨Rb ((((T7.out.set HX.out HY.out hb94 _).set HX.out HY.out hb94 _).set HX.out HY.out hb84 _).set HX.out HY.out hb84 _).drew,Rb ((((HE7.out.other (by exact m9) _).other (by exact m9) _).rW _).gR _).drew,Rb ((((HF7.out.rW _).gR _).other (by exact m10) _).other (by exact m10) _).drew⟩
    case rest=>
     obtain⟨T8,HE8,HF8⟩:=hcut;clear T7 HB7 HD7 HE7 HF7;have T9:=Rb (T8.out.alloc (.cells #[.int .i64 0,.int .i64 0] 78));have HE9:=Rb (HE8.out.alloc (.cells #[.int .i64 0,.int .i64 0] 78));have HF9:=Rb (HF8.out.alloc (.cells #[.int .i64 0,.int .i64 0] 78));have HG9:=Rb (fK.new wc 0 0);have YX:w.heap.size+4<=wc.heap.size:=T8.out.lt;have k8:b8<wc.heap.size:=HE8.out.lt;have k9:b9<wc.heap.size:=HF8.out.lt;go_upto_region 11 with(fail)
     generalize hWa:wc.alloc (.cells #[.int .i64 0,.int .i64 0] 78)=wa at*;obtain⟨ba,hba⟩:∃b,wc.heap.size=b:=⟨_,rfl⟩
     rw[hba]at HG9 YX k8 k9⊢;clear hWa hba T8 HE8 HF8;go_wp2_with fail;go_loopw[32] (fun i wr=>∃(k:Nat)(x0 x1:Int),k<=2/\i= .int .i64 k/\(1<=k->x0=cM f0 o0)/\(2<=k->x1=cM f1 o1)/\Hid (qN w wr A1 A2 c1 c2 sg mt L x y ov)/\Hid (fK wr b8 f0 f1)/\Hid (fK wr b9 o0 o1)/\Hid (fK wr ba x0 x1)) (fun i _=>2-(intOf i).toNat)
     case atStart=>exact⟨0,0,0,oZ,rfl,fun h=>by omega,fun h=>by omega,T9,HE9,HF9,HG9⟩
     case round=>
      clear T9 HE9 HF9 HG9;obtain⟨k,x0,x1,hk,rfl,h1,h2',T,HE,HF,HG⟩:=hrel;have nba8:¬b8=ba:=oZ;have nba9:¬b9=ba:=oZ;have nab8:¬ba=b8:=oZ;have nab9:¬ba=b9:=oZ;have p0:=HE.out.c0;have p1:=HE.out.c1;have q0:=HF.out.c0;have q1:=HF.out.c1;have r0:=HG.out.c0;have r1:=HG.out.c1;have r2:=HG.out.fz 0;have r3:=HG.out.fz 1;rcases(oZ:k=0\/k=1\/k=2)with rfl|rfl|rfl
      ·rw[show((0:Nat):Int)=0 from rfl]
       by_cases hp:ao 0 f0 o0=3
       ·have Yn:(((ao 0 f0 o0:Nat):Int)==3)=true:=by rw[SA];omega
        have Xz:cM f0 o0=1:=by unfold cM;rw[Re hp]
        have Xy:=Rb Xz;have H1:=Rb h1;clear hp Xz h1 h2';go_wp2_with fail
        go_quiet((go_at_call 51;exact RP ((iC 0 _ _ 0 f0 o0 _ rfl rfl rfl oQ hle.1 hle.2.2.1).mono (fun _ _ h=>⟨h.1,h.2.symm⟩))))
        go_wp2_with fail;go_roundw
        case rel=>exact⟨1,_,_,oZ,rfl,fun _=>Xy.out.symm,fun h=>by omega,Rb (((T.out.set HX.out HY.out YX _).drewN _).set HX.out HY.out YX _),Rb (((HE.out.other (by exact nba8) _).drewN _).other (by exact nba8) _),Rb (((HF.out.other (by exact nba9) _).drewN _).other (by exact nba9) _),Rb (((HG.out.rW _).drewN _).rW _)⟩
        case measure=>simp[intOf]
       ·have Yn:(((ao 0 f0 o0:Nat):Int)==3)=false:=by rw[Rs];omega
        have Xz:cM f0 o0= -1:=by unfold cM;rw[Rc hp]
        have Xy:=Rb Xz;have H1:=Rb h1;clear hp Xz h1 h2';go_wp2_with fail
        go_quiet((go_at_call 51;exact RP ((iC 0 _ _ 0 f0 o0 _ rfl rfl rfl oQ hle.1 hle.2.2.1).mono (fun _ _ h=>⟨h.1,h.2.symm⟩))))
        go_wp2_with fail;go_roundw
        case rel=>exact⟨1,_,_,oZ,rfl,fun _=>Xy.out.symm,fun h=>by omega,Rb ((T.out.set HX.out HY.out YX _).drewN _),Rb ((HE.out.other (by exact nba8) _).drewN _),Rb ((HF.out.other (by exact nba9) _).drewN _),Rb ((HG.out.rW _).drewN _)⟩
        case measure=>simp[intOf]
      ·rw[show((1:Nat):Int)=1 from rfl]
       by_cases hp:ao 0 f1 o1=3
       ·have Yn:(((ao 0 f1 o1:Nat):Int)==3)=true:=by rw[SA];omega
        have Xz:cM f1 o1=1:=by unfold cM;rw[Re hp]
        have Xy:=Rb Xz;have H1:=Rb h1;clear hp Xz h1 h2';go_wp2_with fail
        go_quiet((go_at_call 51;exact RP ((iC 0 _ _ 0 f1 o1 _ rfl rfl rfl oQ hle.2.1 hle.2.2.2).mono (fun _ _ h=>⟨h.1,h.2.symm⟩))))
        go_wp2_with fail;go_roundw
        case rel=>exact⟨2,_,_,oZ,rfl,fun _=>H1.out oZ,fun _=>Xy.out.symm,Rb (((T.out.set HX.out HY.out YX _).drewN _).set HX.out HY.out YX _),Rb (((HE.out.other (by exact nba8) _).drewN _).other (by exact nba8) _),Rb (((HF.out.other (by exact nba9) _).drewN _).other (by exact nba9) _),Rb (((HG.out.gR _).drewN _).gR _)⟩
        case measure=>simp[intOf]
       ·have Yn:(((ao 0 f1 o1:Nat):Int)==3)=false:=by rw[Rs];omega
        have Xz:cM f1 o1= -1:=by unfold cM;rw[Rc hp]
        have Xy:=Rb Xz;have H1:=Rb h1;clear hp Xz h1 h2';go_wp2_with fail
        go_quiet((go_at_call 51;exact RP ((iC 0 _ _ 0 f1 o1 _ rfl rfl rfl oQ hle.2.1 hle.2.2.2).mono (fun _ _ h=>⟨h.1,h.2.symm⟩))))
        go_wp2_with fail;go_roundw
        case rel=>exact⟨2,_,_,oZ,rfl,fun _=>H1.out oZ,fun _=>Xy.out.symm,Rb ((T.out.set HX.out HY.out YX _).drewN _),Rb ((HE.out.other (by exact nba8) _).drewN _),Rb ((HF.out.other (by exact nba9) _).drewN _),Rb ((HG.out.gR _).drewN _)⟩
        case measure=>simp[intOf]
      ·obtain rfl:x0=cM f0 o0:=h1 oZ
       obtain rfl:x1=cM f1 o1:=h2' oZ;obtain⟨s0,WO⟩:∃z,cM f0 o0=z:=⟨_,rfl⟩
       obtain⟨s1,VV⟩:∃z,cM f1 o1=z:=⟨_,rfl⟩
       rw[WO]at HG r0;rw[VV]at HG r1;have HS0:=Rb WO;have Wg:=Rb VV;clear h1 h2' WO VV q0 q1 r2 r3;obtain⟨d0,d1,d2,-,-,-⟩:=T.out.db;have Vg:=T.out.lt;have z0:w.heap.size<wr.heap.size:=oZ;have z8:b8<wr.heap.size:=HE.out.lt;have za:ba<wr.heap.size:=HG.out.lt;have n82:¬b8=w.heap.size+1+1:=oZ;have n83:¬w.heap.size+1+1=b8:=oZ;have n84:¬b8=w.heap.size+2:=oZ;have n85:¬w.heap.size+2=b8:=oZ;have hR:RI (wr.alloc (.cells #[.int .i64 s0,.int .i64 s1] 3)) (·<wr.heap.size+1) (some ⟨wr.heap.size,0,none⟩) [s0,s1]:=fun _=>⟨wr.heap.size,0,rfl,R9 _,fun k hk=>by
        have VH:k=0\/k=1:=by simp at hk;omega
        rcases VH with rfl|rfl<;>(rw[Rt _ _ _ _ _ _ (Ru wr (.cells #[.int .i64 s0,.int .i64 s1] 3))];rfl)⟩
       have Z_:=vA A1 A2 (some ⟨wr.heap.size,0,none⟩) c1 c2 2 sg mt [s0,s1] L (wr.alloc (.cells #[.int .i64 s0,.int .i64 s1] 3)).drew (·<wr.heap.size+1)
        (by exact(T.out.db.rs.ak fun b hb=>Rx _ _ b hb).imp fun b hb=>Nat.lt_succ_of_lt hb) (by exact(T.out.db.rm.ak fun b hb=>Rx _ _ b hb).imp fun b hb=>Nat.lt_succ_of_lt hb) (by exact hR)
        (fun b hb=>by
                have:(wr.alloc (.cells #[.int .i64 s0,.int .i64 s1] 3)).drew.heap.size=wr.heap.size+1:=oX;omega) oZ (by have:=H2.out;omega) oX
       have HGR:=Rb Z_;clear hR Z_;go_wp2_with fail;have HD0:=Rb d0;have Vp:=Rb d1;have Ws:=Rb d2;have HR0:=Rb r0;have HR1:=Rb r1;have HP0:=Rb p0;have HP1:=Rb p1
       go_region_held3 (fun w'=>w'.cell? ⟨w.heap.size,0,none⟩=some (.slice A1 sg.length c1)/\w'.cell? ⟨w.heap.size,1,none⟩=some (.slice A2 mt.length c2)/\w'.cell? ⟨w.heap.size,2,none⟩=some (.int .i64 L)/\w'.cell? ⟨ba,0,none⟩=some (.int .i64 s0)/\w'.cell? ⟨ba,1,none⟩=some (.int .i64 s1)/\w'.cell? ⟨b8,0,none⟩=some (.int .i64 (f0:Int))/\w'.cell? ⟨b8,1,none⟩=some (.int .i64 (f1:Int)))
        (((with_reducible refine NU hb84 YX HD0.out Vp.out Ws.out HR0.out HR1.out HP0.out HP1.out ?_);(repeat (first|with_reducible exact HK9.out|with_reducible exact Kp.refl _ _|with_reducible refine Kp.drew ?_|((with_reducible refine Kp.set ?_ ?_ _);(focus (first|exact Or.inl rfl|exact Or.inr rfl)))|with_reducible refine Kp.alloc ?_ _))))
        (first|(go_at_call 42;refine HGR.out.mono ?_;rintro e w9 ⟨v1,v2,rfl,hf,hb9⟩;obtain⟨A5,k5,WK,-,-,-⟩:=hf.os.shape;obtain⟨A6,k6,Wq,-,-,-⟩:=hf.om.shape;(generalize List.length _=n5 at WK);(generalize List.length _=n6 at Wq);have XA:Below wr.heap.size wr (wr.alloc (.cells #[.int .i64 s0,.int .i64 s1] 3)).drew:=((Rh _ _).alloc (Rf _) _).drew;have Wz:=XA.trans (hb9.mono XA.size);have T9:=Rb (T.out.call Wz);have HK9:=Rb ((Kp.refl w.heap.size wr).call Wz);have HFR:=Rb hf;subst WK;subst Wq;have y0:=T9.out.zb.z0;have y1:=T9.out.zb.z1;have y2:=T9.out.zb.z2;have g0:=T9.out.zb.f0;have g1:=T9.out.zb.f1;have g2:=T9.out.zb.f2;have i0:=T9.out.zt.c0;have i1:=T9.out.zt.c1;have i2:=T9.out.zt.fz 0;have i3:=T9.out.zt.fz 1;clear hf hb9 XA Wz))
       all_goals
        go_wp2_with fail;refine RC (v:= .tuple #[.agg #[.slice A5 n5 k5,.slice A6 n6 k6,.int .i64 L],.agg #[.int .i64 (f0:Int),.int .i64 (f1:Int)]]) (by simp[results,Tryz.results49,go_sem,y0,y1,y2,i0,i1]) rfl ?_;refine⟨_,_,by rw[HF0.out,Zt.out],?_,?_⟩;{rw[HF0.out,Zt.out,HO0.out,HO1.out,HS0.out,Wg.out];refine td (w:=w) HFR.out qj ?_;intro k hk;(iterate 5 rw[Rn _ _ _ k oJ])}
        ·iterate 5 refine RM ?_ oJ _
         exact T9.out.bel
def Cy(w:World)(b a0 a1 a2 a3 b0 b1 b2 b3:Nat):Prop:=w.heap[b]?=some (.cells #[.int .i64 (a0:Int),.int .i64 (a1:Int),.int .i64 (a2:Int),.int .i64 (a3:Int),.int .i64 (b0:Int),.int .i64 (b1:Int),.int .i64 (b2:Int),.int .i64 (b3:Int)] 85 (0,0))
section
variable{w w':World}{b a0 a1 a2 a3 b0 b1 b2 b3 g:Nat}
theorem Cy.lt(h:Cy w b a0 a1 a2 a3 b0 b1 b2 b3):b<w.heap.size:=SL h
theorem Cy.at_(h:Cy w b a0 a1 a2 a3 b0 b1 b2 b3):w.cell? ⟨b,0,none⟩=some (.int .i64 (a0:Int))/\w.cell? ⟨b,1,none⟩=some (.int .i64 (a1:Int))/\w.cell? ⟨b,2,none⟩=some (.int .i64 (a2:Int))/\w.cell? ⟨b,3,none⟩=some (.int .i64 (a3:Int))/\w.cell? ⟨b,4,none⟩=some (.int .i64 (b0:Int))/\w.cell? ⟨b,5,none⟩=some (.int .i64 (b1:Int))/\w.cell? ⟨b,6,none⟩=some (.int .i64 (b2:Int))/\w.cell? ⟨b,7,none⟩=some (.int .i64 (b3:Int)):=by unfold Cy at h;refine⟨?_,?_,?_,?_,?_,?_,?_,?_⟩<;>(rw[Rt _ _ _ _ _ _ h];rfl)
theorem Cy.call(h:Cy w b a0 a1 a2 a3 b0 b1 b2 b3)(hb:Below w.heap.size w w'):Cy w' b a0 a1 a2 a3 b0 b1 b2 b3:=(hb.block b h.lt).trans h
theorem Cy.mod(h:Cy w b a0 a1 a2 a3 b0 b1 b2 b3)(hm:Mod g w w')(hg:b≠g):Cy w' b a0 a1 a2 a3 b0 b1 b2 b3:=(hm.ak b hg).trans h
end
theorem Mod.cell{g b k:Nat}{wr X:World}{v:Value}(h:Mod g wr X)(hb:b≠g)(hc:wr.cell? ⟨b,k,none⟩=some v):X.cell? ⟨b,k,none⟩=some v:=
 (Ri (a:=⟨b,k,none⟩) (h.ak b hb)).trans hc
theorem OK{N g bl:Nat}{wr w':World}{v1 v2 v3:Value}(hN:N≠g)(hb:bl≠g)(h1:wr.cell? ⟨N,2,none⟩=some v1)(h2:wr.cell? ⟨bl,2,none⟩=some v2)(h3:wr.cell? ⟨bl,4,none⟩=some v3)(h:Mod g wr w'):
  w'.cell? ⟨N,2,none⟩=some v1/\w'.cell? ⟨bl,2,none⟩=some v2/\w'.cell? ⟨bl,4,none⟩=some v3:=⟨h.cell hN h1,h.cell hb h2,h.cell hb h3⟩
theorem Hz{xs:List Int}(hn:∀k,k<xs.length->gi xs k=(gn xs k:Int)/\gn xs k<xs.length){a b:Nat}(ha:a<xs.length)(hb:b<xs.length):∀k,k<xs.length->gi (ic xs a b) k=(gn (ic xs a b) k:Int)/\gn (ic xs a b) k<xs.length:=by
 intro k hk;unfold ic;split;{exact hn k hk}
 ·have ga:=(hn a ha).2
  have gb:=(hn b hb).2;have e:=pP ga gb k;have key:∃z:Nat,gi (bH xs (gn xs a) (gn xs b)) k=(z:Int)/\z<xs.length:=by rw[e];split;{exact⟨_,rfl,ga⟩};{split;{exact⟨_,rfl,gb⟩};{exact⟨_,hn k hk⟩}}
  obtain⟨z,e1,e2⟩:=key;have:gn (bH xs (gn xs a) (gn xs b)) k=z:=by show(gi (bH xs (gn xs a) (gn xs b)) k).toNat=z;rw[e1];simp
  rw[this];exact⟨e1,e2⟩
theorem zu(g n c:Nat)(xs ys:List Int)(a' b' z:Int)(a b:Nat)(w:World)(B:Nat)(Vo:nE xs a b=z)(W':ic xs a b=ys)(ho:OI w B (.slice (some ⟨g,0,none⟩) n c) xs)(ha:a'=a)(hb:b'=b)(Wo:a<xs.length)(VF:b<xs.length)
  (hn:∀k,k<xs.length->gi xs k=(gn xs k:Int)/\gn xs k<xs.length):
  Calls Tryz.prog 45 #[.slice (some ⟨g,0,none⟩) n c,.int .i64 a',.int .i64 b'] w fun e w'=>e= .returned (.int .i64 z)/\OI w' B (.slice (some ⟨g,0,none⟩) n c) ys/\Mod g w w':=by
 subst Vo W';exact tR g n c xs a' b' a b w B ho ha hb Wo VF (hn a Wo) (hn b VF)
theorem FV(xs:List Int)(a b:Nat):0<=nE xs a b/\nE xs a b<=1:=by unfold nE;split<;>omega
theorem Ok{wr w':World}{N bl a0 a1 a2 a3 b0 b1 b2 b3:Nat}{v0 v1 v2:Value}{kd X Y s:Int}{ov:Bool}(hb:N+4<=bl)
  (d0:wr.cell? ⟨N,0,none⟩=some v0)(d1:wr.cell? ⟨N,1,none⟩=some v1)(d2:wr.cell? ⟨N,2,none⟩=some v2)
  (m0:wr.cell? ⟨N+1,0,none⟩=some (.int .i64 kd))(m1:wr.cell? ⟨N+1,1,none⟩=some (.int .i64 X))(m2:wr.cell? ⟨N+1,2,none⟩=some (.int .i64 Y))(m3:wr.cell? ⟨N+1,3,none⟩=some (.int .i64 s))(m4:wr.cell? ⟨N+1,4,none⟩=some (.bool ov))
  (hl:Cy wr bl a0 a1 a2 a3 b0 b1 b2 b3)(h:Kp N wr w'):
  (w'.cell? ⟨N,0,none⟩=some v0/\w'.cell? ⟨N,1,none⟩=some v1/\w'.cell? ⟨N,2,none⟩=some v2)/\
  (w'.cell? ⟨N+1,0,none⟩=some (.int .i64 kd)/\w'.cell? ⟨N+1,1,none⟩=some (.int .i64 X)/\w'.cell? ⟨N+1,2,none⟩=some (.int .i64 Y)/\w'.cell? ⟨N+1,3,none⟩=some (.int .i64 s)/\w'.cell? ⟨N+1,4,none⟩=some (.bool ov))/\
  (w'.cell? ⟨bl,0,none⟩=some (.int .i64 (a0:Int))/\w'.cell? ⟨bl,1,none⟩=some (.int .i64 (a1:Int))/\w'.cell? ⟨bl,2,none⟩=some (.int .i64 (a2:Int))/\w'.cell? ⟨bl,3,none⟩=some (.int .i64 (a3:Int))/\w'.cell? ⟨bl,4,none⟩=some (.int .i64 (b0:Int))/\w'.cell? ⟨bl,5,none⟩=some (.int .i64 (b1:Int))/\w'.cell? ⟨bl,6,none⟩=some (.int .i64 (b2:Int))/\w'.cell? ⟨bl,7,none⟩=some (.int .i64 (b3:Int))):=by
 have YJ:Cy w' bl a0 a1 a2 a3 b0 b1 b2 b3:=(h.eq bl hl.lt oZ oZ).trans hl;exact⟨⟨h.cell oZ oZ d0,h.cell oZ oZ d1,h.cell oZ oZ d2⟩,⟨h.cell oZ oZ m0,h.cell oZ oZ m1,h.cell oZ oZ m2,h.cell oZ oZ m3,h.cell oZ oZ m4⟩,YJ.at_⟩
theorem Cp(A1 A2:Option Addr)(c1 c2:Nat)(sg mt:List Int)(L kd X Y s:Int)(ov:Bool)(w:World)(S:Nat->Prop)(hx:RI w S A1 sg)(hy:RI w S A2 mt)(hS:∀b,S b->b<w.heap.size)(hd:cJ sg mt L)(hL:L=0)(hX:0<=X/\X<Y/\Y<sg.length):
    Calls Tryz.prog 23 #[.agg #[.slice A1 sg.length c1,.slice A2 mt.length c2,.int .i64 L],.agg #[.int .i64 kd,.int .i64 X,.int .i64 Y,.int .i64 s,.bool ov]] w
      (Mq w fun sg' mt' L'=>∃x y h o:Nat,X=x/\Y=y/\x<y/\y<sg.length/\((h/4=x/\o=y)\/(h/4=y/\o=x))/\By mt h o=true/\
        L'=nE mt (ae h 2) (ae (gn mt h) 2)+nE (ic mt (ae h 2) (ae (gn mt h) 2)) (ae (gn mt (au mt h)) 2) (ae (au mt h) 2)/\
        sg'=dV [(x:Int),(y:Int)] sg sg.length/\mt'=dT [(x:Int),(y:Int)] (ic (ic mt (ae h 2) (ae (gn mt h) 2)) (ae (gn mt (au mt h)) 2) (ae (au mt h) 2)) sg.length):=by
  subst hL;obtain⟨x,rfl⟩:∃c:Nat,X=c:=⟨X.toNat,oZ⟩
  obtain⟨y,rfl⟩:∃c:Nat,Y=c:=⟨Y.toNat,oZ⟩
  have Vw:x<y:=oZ;have VJ:y<sg.length:=oZ;have T0:=Rb (oF.start (c1:=c1) (c2:=c2) (L:=0) (kd:=kd) (X:=(x:Int)) (Y:=(y:Int)) (s:=s) (ov:=ov) hx hy hS);have HD:=Rb hd;have VO:sg.length<=64:=hd.1;have VQ:mt.length<=256:=by have:=hd.2.1;omega
  have k0:=T0.out.c0;have k1:=T0.out.c1;have k2:=T0.out.c2;have n1:=T0.out.m1;have n2:=T0.out.m2;clear hx hy hS hd hX;go_enter Tryz.func23,Tryz.ntmps23
  go_wp2_with fail;generalize hW:((((w.alloc (.cells #[.slice A1 sg.length c1,.slice A2 mt.length c2,.int .i64 0] 24)).alloc (.cells #[.int .i64 kd,.int .i64 (x:Int),.int .i64 (y:Int),.int .i64 s,.bool ov] 26)).alloc (.cells #[.slice none 0 0,.slice none 0 0,.int .i64 0] 24)).alloc (.cells #[.int .i64 0,.int .i64 0,.int .i64 0,.int .i64 0,.bool false] 26))=wr at*;clear hW;refine(Ip A1 A2 c1 c2 sg mt 0 (x:Int) (y:Int) x y wr (· <wr.heap.size) (T0.out.rs.imp fun b hb=>by have:=T0.out.lt;omega) (T0.out.rm.imp fun b hb=>by have:=T0.out.lt;omega) (fun _ h=>h) HD.out.2.2.2.2.2.1 HD.out.2.1 VO rfl rfl oZ VJ).mono ?_;rintro e w1 ⟨Vi,VE⟩;have T1:=Rb (T0.out.call Vi);clear k0 k1 k2 n1 n2 T0 Vi;have V5:=T1.out.lt;have h50:w.heap.size<w1.heap.size:=oZ;have h51:w.heap.size+1<w1.heap.size:=oZ;have h52:w.heap.size+1+1<w1.heap.size:=oZ;have h53:w.heap.size+1+1+1<w1.heap.size:=oZ;rcases VE with⟨i,hi,X_,rfl⟩|rfl
  case inr=>
    obtain⟨y0,y1,y2,g0,g1,g2,-⟩:=T1.out.zb;obtain⟨z0,z1,z2,z3,z4,q0,q1,q2,q3,q4⟩:=T1.out.zm;go_wp2_with fail;refine RC (v:= .tuple #[.agg #[.slice none 0 0,.slice none 0 0,.int .i64 0],.agg #[.int .i64 0,.int .i64 0,.int .i64 0,.int .i64 0,.bool false],.int .i64 6]) (by simp[results,Tryz.results23,go_sem,y0,y1,y2,z0,z1,z2,z3,z4,h52,h53]) rfl ?_;refine⟨_,_,6,rfl,⟨⟨_,_,_,_,_,_,_,rfl⟩,_,_,_,_,_,rfl⟩,?_,fun h=>absurd h oQ⟩;refine Below.alloc ?_ ?_ _
    · iterate 8 refine RM ?_ oJ _
      exact T1.out.bel
    · simp only[az];omega
  case inl=>
    obtain⟨h,hh⟩:∃h,yi x y i=h:=⟨_,rfl⟩
    obtain⟨o,ho⟩:∃o,DX x y i=o:=⟨_,rfl⟩
    have hho:(h/4=x/\o=y)\/(h/4=y/\o=x):=by
      rw[<-hh,<-ho];unfold yi DX;split<;>omega
    rw[hh,ho]at X_;rw[hh];have V4:h<mt.length:=by have:=E' (n:=sg.length) (x:=x) (y:=y) oZ VJ hi;rw[hh]at this;have:=HD.out.2.1;omega
    have HLB:=Rb X_;have HHO:=Rb hho;clear X_ hho hh ho hi;have hI:=HD.out.2.2.2.2.2.1;have hn:∀k,k<mt.length->gi mt k=(gn mt k:Int)/\gn mt k<mt.length:=fun k hk=>⟨(hI.gn hk).1,(hI.gn hk).2.1⟩
    have tl:∀k j,k<mt.length->ae k j<mt.length:=fun k j hk=>by have:=af k j;have:=HD.out.2.1;omega
    have VS:au mt h<mt.length:=tl _ 3 (hn h V4).2;obtain⟨a2,e2⟩:∃a,ae h 2=a:=⟨_,rfl⟩
    obtain⟨b0,e4⟩:∃a,ae (gn mt h) 2=a:=⟨_,rfl⟩
    obtain⟨a3,e3⟩:∃a,ae (gn mt (au mt h)) 2=a:=⟨_,rfl⟩
    obtain⟨b3,e7⟩:∃a,ae (au mt h) 2=a:=⟨_,rfl⟩
    have l2:a2<mt.length:=by rw[<-e2];exact tl _ _ V4
    have l4:b0<mt.length:=by rw[<-e4];exact tl _ _ (hn h V4).2
    have l3:a3<mt.length:=by rw[<-e3];exact tl _ _ (hn _ VS).2
    have l7:b3<mt.length:=by rw[<-e7];exact tl _ _ VS
    obtain⟨lz1,VU⟩:∃z,nE mt a2 b0=z:=⟨_,rfl⟩
    obtain⟨ys,W'⟩:∃z,ic mt a2 b0=z:=⟨_,rfl⟩
    obtain⟨lz2,VN⟩:∃z,nE ys a3 b3=z:=⟨_,rfl⟩
    obtain⟨zs,hzs⟩:∃z,ic ys a3 b3=z:=⟨_,rfl⟩
    have hyl':ys.length=mt.length:=by rw[<-W'];exact gm _ _ _
    have hzl':zs.length=mt.length:=by rw[<-hzs,gm,hyl']
    have hny:∀k,k<ys.length->gi ys k=(gn ys k:Int)/\gn ys k<ys.length:=by rw[hyl',<-W'];exact Hz hn l2 l4
    have hnz:∀k,k<zs.length->gi zs k=(gn zs k:Int)/\gn zs k<zs.length:=by rw[hzl',<-hyl',<-hzs];exact Hz hny oZ oZ
    have bz1:=FV mt a2 b0;have bz2:=FV ys a3 b3;rw[VU]at bz1;rw[VN]at bz2;obtain⟨bz1a,bz1b⟩:=bz1;obtain⟨bz2a,bz2b⟩:=bz2;unfold JS;dsimp only;rw[e2,e3,e4,e7];have HP:Hid (Calls Tryz.prog 54 #[] w fun _ _=>True)\/True:=Or.inr trivial;clear HP;obtain⟨b1,e5⟩:∃a,au mt h=a:=⟨_,rfl⟩
    obtain⟨b2,e6⟩:∃a,gn mt h=a:=⟨_,rfl⟩
    obtain⟨a1,e1⟩:∃a,gn mt b1=a:=⟨_,rfl⟩
    rw[e5,e1,e6];have HE:Hid (ae h 2=a2/\ae (gn mt h) 2=b0/\ae (gn mt (au mt h)) 2=a3/\ae (au mt h) 2=b3):=⟨e2,e4,e3,e7⟩;have YT:=Rb VU;have Zd:=Rb VN;have HYS:=Rb W';have HZS:=Rb hzs;have HYL:=Rb hyl';have HZL:=Rb hzl';have HN:=Rb hn;have HNY:=Rb hny;have HNZ:=Rb hnz;clear e1 e2 e3 e4 e5 e6 e7 VU VN W' hzs hyl' hzl' hn hny hnz tl hI VS;have k1:=T1.out.c1;go_upto_region 4 with fail
    obtain⟨W,hW⟩:∃W,w1.alloc (.cells #[.int .i64 (h:Int),.int .i64 (a1:Int),.int .i64 (a2:Int),.int .i64 (a3:Int),.int .i64 (b0:Int),.int .i64 (b1:Int),.int .i64 (b2:Int),.int .i64 (b3:Int)] 85)=W:=⟨_,rfl⟩
    have hLN:Cy W w1.heap.size h a1 a2 a3 b0 b1 b2 b3:=by rw[<-hW];exact Ru _ _
    have T2:=Rb (T1.out.call (by rw[<-hW];exact(Rh _ _).alloc (Rf _) _:Below w1.heap.size w1 W));rw[hW];obtain⟨bl,VF⟩:∃bl,w1.heap.size=bl:=⟨_,rfl⟩
    rw[VF]at hLN V5⊢;have XK:=Rb hLN;have HBL:Hid (w.heap.size+4<=bl):=Rb V5;clear hW VF hLN h50 h51 h52 h53 k1 T1 V5 w1;have k1:=T2.out.c1;have V5:=T2.out.lt;have HR1:=Rb T2.out.rm;have HL1:Hid (w.heap.size+4<=W.heap.size):=Rb V5;have Zb:Hid (([]:List Int).length+mt.length<1099511627776):=Rb qj;go_wp2_with(at_builtin;refine J_ (xs:=[]) (ys:=mt) (B:=W.heap.size) (OR.nil _ _) HR1.out Zb.out (Rf _) rfl rfl Tryz.underlying22 rfl rfl ?_;intro v4 w4 Z1 hg4 hob4;have hB4:=((Rh W.heap.size W).grown hg4 (Rf _) (fun k hk=>by simp[Value.ownBlock]at hk));have T4:=Rb (T2.out.call hB4);have HL4:=Rb (XK.out.call hB4);rw[List.nil_append]at Z1;obtain⟨g,cc,hv4,Vs,Vv,hcc1,hcc2,-,-⟩:=Z1.block oZ;have HNE:Hid (bl≠g):=Rb (by have:=XK.out.lt;omega);have HG1:Hid (w.heap.size+4<=g):=Rb (RQ HL1.out Vs);have HCP:Hid (mt.length<=cc/\cc<=maxLen):=⟨hcc1,hcc2⟩;have HO4:=Rb (Z1.mono HL1.out);clear Vs Vv hcc1 hcc2;clear Z1 hg4 hob4 hB4 k1 T2 HR1 HL1 Zb V5;subst hv4);have P1:=Rb T4.out.c2;have P2:=Rb HL4.out.at_.2.2.1;have P3:=Rb HL4.out.at_.2.2.2.2.1;have HN0:Hid (w.heap.size≠g):=Rb (by have:=HG1.out;omega);have Z':IntKind.i64.wrap lz1=lz1:=SF _ oZ
    go_region_held3 (fun w'=>w'.cell? ⟨w.heap.size,2,none⟩=some (.int .i64 0)/\w'.cell? ⟨bl,2,none⟩=some (.int .i64 (a2:Int))/\w'.cell? ⟨bl,4,none⟩=some (.int .i64 (b0:Int)))
      (((with_reducible refine OK HN0.out HNE.out P1.out P2.out P3.out ?_);(repeat (first|with_reducible exact HM5.out|with_reducible exact Mod.refl _ _|with_reducible refine Mod.drew ?_))))
      ((go_at_call 45;refine(zu g mt.length cc mt ys _ _ lz1 a2 b0 _ (w.heap.size+4) YT.out HYS.out (by exact HO4.out) rfl rfl l2 l4 HN.out).mono ?_;rintro e w5 ⟨rfl,ho5,Wd⟩;have HM5:Hid (Mod g w4 w5):=Rb ((Mod.refl g w4).drew.trans Wd);have HO5:=Rb ho5;clear ho5 Wd))
    have T5:=Rb (T4.out.mod HM5.out HG1.out);have HL5:=Rb (HL4.out.mod HM5.out HNE.out);clear Z' P1 P2 P3;obtain⟨-,-,-,p3,-,-,-,p7⟩:=HL5.out.at_;go_wp2_with fail;refine(zu g mt.length cc ys zs _ _ lz2 a3 b3 _ (w.heap.size+4) Zd.out HZS.out HO5.out rfl rfl (by rw[HYL.out];exact l3) (by rw[HYL.out];exact l7) HNY.out).mono ?_;rintro e w6 ⟨rfl,YD,hm6⟩;have T6:=Rb (T5.out.mod hm6 HG1.out);have HL6:=Rb (HL5.out.mod hm6 HNE.out);have HO6:=Rb YD;have VT:¬(64<lz1+lz2):=oZ;clear YD hm6 p3 p7 T4 T5 HL4 HL5 HM5 HO4 HO5 XK;go_wp2_with fail;have hlt6:=T6.out.lt
    have Zh:=mR A1 (some ⟨g,0,none⟩) (some ⟨w6.heap.size,0,none⟩) c1 cc 2 sg zs [(x:Int),(y:Int)] (lz1+lz2) (w6.alloc (.cells #[.int .i64 (x:Int),.int .i64 (y:Int)] 3)).drew (· <w6.heap.size+1)
      (by exact(T6.out.rs.ak fun b hb=>Rx _ _ b (RB hb T6.out.bel.size)).imp fun b hb=>U2 (RQ (Uv hb) T6.out.bel.size))
      (by
        have ho:OI w6 (w.heap.size+4) (.slice (some ⟨g,0,none⟩) zs.length cc) zs:=by rw[HZL.out];exact HO6.out
        obtain⟨A',c',e',-,-,Wi⟩:=ho.reads;injection e' with e1 e2 e3
        subst e1;exact(Wi.ak fun b hb=>Rx _ _ b hb.2).imp fun b hb=>by omega)
      (by exact GY w6 (x:Int) (y:Int)) (fun b hb=>by
                                                               have:(w6.alloc (.cells #[.int .i64 (x:Int),.int .i64 (y:Int)] 3)).drew.heap.size=w6.heap.size+1:=oX;omega) (by rw[HZL.out];exact HD.out.2.1) VO (by rw[HZL.out];exact HCP.out) (fun k hk=>⟨(HNZ.out k hk).1,by have:=(HNZ.out k hk).2;have:=HZL.out;omega⟩) oX (GC oZ oZ)
    rw[HZL.out]at Zh;have HSK:=Rb Zh;clear Zh;have HPU:Hid (∀Wc,Kp w.heap.size w6 Wc->Calls Tryz.prog 55 #[.agg #[.slice A1 sg.length c1,.slice A2 mt.length c2,.int .i64 0],.agg #[.int .i64 (h:Int),.int .i64 (a1:Int),.int .i64 (a2:Int),.int .i64 (a3:Int),.int .i64 (b0:Int),.int .i64 (b1:Int),.int .i64 (b2:Int),.int .i64 (b3:Int)],.agg #[.int .i64 kd,.int .i64 (x:Int),.int .i64 (y:Int),.int .i64 s,.bool ov]] Wc (OW Wc)):=Rb fun Wc hk=>by
      have hs:=hk.sz;exact BO A1 A2 c1 c2 sg mt 0 kd (x:Int) (y:Int) s ov h a1 a2 a3 b0 b1 b2 b3 Wc (· <w.heap.size) (T6.out.rs.ak fun b hb=>hk.eq b oZ oZ oZ) (T6.out.rm.ak fun b hb=>hk.eq b oZ oZ oZ) (fun b hb=>by omega) HD.out.2.2.2.2.2.1 HD.out.2.1 VO oZ oZ l2 l3 l4 l7
    have HKU:=Rb fun(w':World) (hk:Kp w.heap.size w6 w')=>Ok HBL.out T6.out.c0 T6.out.c1 T6.out.c2 T6.out.m0 T6.out.m1 T6.out.m2 T6.out.m3 T6.out.m4 HL6.out hk
    clear hlt6
    go_region_held3 (fun w'=>(w'.cell? ⟨w.heap.size,0,none⟩=some (.slice A1 sg.length c1)/\w'.cell? ⟨w.heap.size,1,none⟩=some (.slice A2 mt.length c2)/\w'.cell? ⟨w.heap.size,2,none⟩=some (.int .i64 0))/\
        (w'.cell? ⟨w.heap.size+1,0,none⟩=some (.int .i64 kd)/\w'.cell? ⟨w.heap.size+1,1,none⟩=some (.int .i64 (x:Int))/\w'.cell? ⟨w.heap.size+1,2,none⟩=some (.int .i64 (y:Int))/\w'.cell? ⟨w.heap.size+1,3,none⟩=some (.int .i64 s)/\w'.cell? ⟨w.heap.size+1,4,none⟩=some (.bool ov))/\
        (w'.cell? ⟨bl,0,none⟩=some (.int .i64 (h:Int))/\w'.cell? ⟨bl,1,none⟩=some (.int .i64 (a1:Int))/\w'.cell? ⟨bl,2,none⟩=some (.int .i64 (a2:Int))/\w'.cell? ⟨bl,3,none⟩=some (.int .i64 (a3:Int))/\w'.cell? ⟨bl,4,none⟩=some (.int .i64 (b0:Int))/\w'.cell? ⟨bl,5,none⟩=some (.int .i64 (b1:Int))/\w'.cell? ⟨bl,6,none⟩=some (.int .i64 (b2:Int))/\w'.cell? ⟨bl,7,none⟩=some (.int .i64 (b3:Int))))
      (((with_reducible refine HKU.out _ ?_);(repeat (first|with_reducible exact HK10.out|with_reducible exact HK9.out|with_reducible exact Kp.refl _ _|with_reducible refine Kp.drew ?_|with_reducible refine Kp.alloc ?_ _|((with_reducible refine Kp.set ?_ ?_ _);(focus (first|exact Or.inl rfl|exact Or.inr rfl)))))))
      (first|(go_at_call 47;refine HSK.out.mono ?_;rintro e w9 ⟨v1,v2,rfl,hf,hb9⟩;obtain⟨A5,k5,WK,-,-,-⟩:=hf.os.shape;obtain⟨A6,k6,Wq,-,-,-⟩:=hf.om.shape;(generalize List.length _=n5 at WK);(generalize List.length _=n6 at Wq);have WC:Below w6.heap.size w6 (w6.alloc (.cells #[.int .i64 (x:Int),.int .i64 (y:Int)] 3)).drew:=((Rh _ _).alloc (Rf _) _).drew;have Wz:=WC.trans (hb9.mono WC.size);have HK9:=Rb ((Kp.refl w.heap.size w6).call Wz);have HFR:=Rb (hf.mono WC.size);have ZX:=Rb Wz;subst WK;subst Wq;clear hf hb9 WC Wz)|(go_at_call 55;refine(HPU.out _ (by(repeat (first|with_reducible exact HK10.out|with_reducible exact HK9.out|with_reducible exact Kp.refl _ _|with_reducible refine Kp.drew ?_|with_reducible refine Kp.alloc ?_ _|((with_reducible refine Kp.set ?_ ?_ _);(focus (first|exact Or.inl rfl|exact Or.inr rfl))))))).mono ?_;rintro e w10 ⟨ikd,iX,iY,iS,iO,rfl,YY⟩;have HK10:Hid (Kp w.heap.size w6 w10):=Rb (Kp.call (by(repeat (first|with_reducible exact HK10.out|with_reducible exact HK9.out|with_reducible exact Kp.refl _ _|with_reducible refine Kp.drew ?_|with_reducible refine Kp.alloc ?_ _|((with_reducible refine Kp.set ?_ ?_ _);(focus (first|exact Or.inl rfl|exact Or.inr rfl)))))) YY);have HB10:=Rb YY;have V9:=Rb (T6.out.call (ZX.out.trans (YY.mono ZX.out.size)));clear YY;have y0:=V9.out.zb.z0;have y1:=V9.out.zb.z1;have y2:=V9.out.zb.z2;have g0:=V9.out.zb.f0;have g1:=V9.out.zb.f1;have g2:=V9.out.zb.f2;have z0:=V9.out.zm.z0;have z1:=V9.out.zm.z1;have z2:=V9.out.zm.z2;have z3:=V9.out.zm.z3;have z4:=V9.out.zm.z4;have q0:=V9.out.zm.f0;have q1:=V9.out.zm.f1;have q2:=V9.out.zm.f2;have q3:=V9.out.zm.f3;have q4:=V9.out.zm.f4))
    all_goals
      go_wp2_with fail;refine RC (v:= .tuple #[.agg #[.slice A5 n5 k5,.slice A6 n6 k6,.int .i64 (lz1+lz2)],.agg #[.int .i64 ikd,.int .i64 iX,.int .i64 iY,.int .i64 iS,.bool iO],.int .i64 0]) (by simp[results,Tryz.results23,go_sem,y0,y1,y2,z0,z1,z2,z3,z4]) rfl ?_;obtain⟨e1,e2,e3,e4⟩:=HE.out;refine⟨_,_,0,rfl,⟨⟨_,_,_,_,_,_,_,rfl⟩,_,_,_,_,_,rfl⟩,?_,fun _=>⟨_,_,_,_,_,rfl,td (HFR.out.below HB10.out (Rf _)) T6.out.lt ?_,x,y,h,o,rfl,rfl,Vw,VJ,HHO.out,HLB.out,?_,rfl,?_⟩⟩
      · iterate 8 refine RM ?_ oJ _
        exact V9.out.bel
      · intro k hk
        (iterate 8 rw[Rn _ _ _ k oJ])
      · rw[e1,e2,e3,e4,HYS.out,YT.out,Zd.out]
      · rw[e1,e2,e3,e4,HYS.out,HZS.out]
section
variable{cs:List Nat}{K K':Nat->Bool}{m m':Nat->Nat}{s:Nat->Int}{a b c:Nat}(h:nB cs K K' m m' a b c)
include h
def kT(a b c w:Nat):Prop:=w≠a/\w≠b/\w≠c/\w≠ae a 1/\w≠ae b 1/\w≠ae c 1
theorem nB.cases{w:Nat}(hw:w/4∈a/4::b/4::c/4::cs)(hn:kT a b c w):(w=ae a 2\/w=ae b 2\/w=ae c 2)\/(w=ae a 3\/w=ae b 3\/w=ae c 3)\/(w/4∈cs/\w/4≠a/4/\w/4≠b/4/\w/4≠c/4):=by
 obtain⟨n1,n2,n3,n4,n5,n6⟩:=hn;rcases h.mem hw with e|e|e|e
 ·rcases aw e with e|e|e|e
  {exact absurd e n1};{exact absurd e n4};{exact .inl (.inl e)};{exact .inr (.inl (.inl e))}
 ·rcases aw e with e|e|e|e
  {exact absurd e n2};{exact absurd e n5};{exact .inl (.inr (.inl e))};{exact .inr (.inl (.inr (.inl e)))}
 ·rcases aw e with e|e|e|e
  {exact absurd e n3};{exact absurd e n6};{exact .inl (.inr (.inr e))};{exact .inr (.inl (.inr (.inr e)))}
 {exact .inr (.inr e)}
theorem nB.mN{w:Nat}(hw:w/4∈a/4::b/4::c/4::cs)(hn:kT a b c w):m w/4∈a/4::b/4::c/4::cs/\kT a b c (m w):=by obtain⟨n1,n2,n3,n4,n5,n6⟩:=hn;obtain⟨i1,i2⟩:=h.inv w hw;refine⟨i2,fun e=>n5 ?_,fun e=>n6 ?_,fun e=>n4 ?_,fun e=>n3 ?_,fun e=>n1 ?_,fun e=>n2 ?_⟩<;>rw[<-i1,e];{exact h.i1};{exact h.i2};{exact h.i3};{exact h.j3};{exact h.j1};{exact h.j2}
theorem nB.through{w:Nat}(hw:w/4∈a/4::b/4::c/4::cs)(hn:kT a b c w):m' (aZ a b c w)=aZ a b c (m w):=by
 obtain⟨t1,t2,t3,t4,t5,t6⟩:=h.tG;rcases h.cases hw hn with(rfl|rfl|rfl)|(rfl|rfl|rfl)|⟨hc,e1,e2,e3⟩
 {rw[t4,h.g1]};{rw[t5,h.g2]};{rw[t6,h.g3]};{rw[t1,h.h3]};{rw[t2,h.h1]};{rw[t3,h.h2]};{rw[gY e1 e2 e3,h.off w hc]}
theorem nB.back{w:Nat}(hw:w/4∈a/4::b/4::c/4::cs)(hn:kT a b c w):aZ (ae a 2) (ae b 2) (ae c 2) (aZ a b c w)=w:=by
 obtain⟨t1,t2,t3,t4,t5,t6⟩:=h.tG;have hab:=h.hab;have hbc:=h.hbc;have hca:=h.hca;have a1:=af a 1;have b1:=af b 1;have c1:=af c 1;have r4:∀z,ae (ae z 2) 2=z:=fun z=>by rw[ar];exact bC z
 have r5:∀z,ae (ae z 2) 3=ae z 1:=fun z=>by rw[ar];exact bF z 1
 have r3:∀z,ae (ae z 2) 1=ae z 3:=fun z=>ar z 2 1
 have na:=an (h:=a) (j:=1) oQ oQ;have nb:=an (h:=b) (j:=1) oQ oQ;have nc:=an (h:=c) (j:=1) oQ oQ;rcases h.cases hw hn with(rfl|rfl|rfl)|(rfl|rfl|rfl)|⟨hc,e1,e2,e3⟩
 {rw[t4];unfold aZ;rw[r4,r4,r4,r5,r5,r5,Rc oZ,Rc nb,Rc oZ,Rc oZ,Re rfl]};{rw[t5];unfold aZ;rw[r4,r4,r4,r5,r5,r5,Rc oZ,Rc oZ,Rc nc,Rc oZ,Rc oZ,Re rfl]};{rw[t6];unfold aZ;rw[r4,r4,r4,r5,r5,r5,Rc na,Rc oZ,Rc oZ,Re rfl]};{rw[t1];unfold aZ;rw[r4,r4,r4,r3,r3,r3,Rc oZ,Rc oZ,Re rfl]};{rw[t2];unfold aZ;rw[r4,r4,r4,r3,r3,r3,Re rfl]};{rw[t3];unfold aZ;rw[r4,r4,r4,r3,r3,r3,Rc oZ,Re rfl]};{rw[gY e1 e2 e3,gY (by rw[af];exact e1) (by rw[af];exact e2) (by rw[af];exact e3)]}
theorem nB.PK{w:Nat}(hw:w/4∈a/4::b/4::c/4::cs)(hn:kT a b c w):aZ a b c w/4∈a/4::b/4::c/4::cs:=by
 obtain⟨t1,t2,t3,t4,t5,t6⟩:=h.tG;rcases h.cases hw hn with(rfl|rfl|rfl)|(rfl|rfl|rfl)|⟨hc,e1,e2,e3⟩
 {rw[t4,af];simp};{rw[t5,af];simp};{rw[t6,af];simp};{rw[t1];simp};{rw[t2];simp};{rw[t3];simp};{rw[gY e1 e2 e3];exact hw}
theorem nB.oS{z:Nat}(hz:z/4∈a/4::b/4::c/4::cs):(z=ae a 2\/z=ae b 2\/z=ae c 2\/z=ae a 3\/z=ae b 3\/z=ae c 3)\/∃w,w/4∈a/4::b/4::c/4::cs/\kT a b c w/\aZ a b c w=z:=by
 obtain⟨t1,t2,t3,t4,t5,t6⟩:=h.tG;have hab:=h.hab;have hbc:=h.hbc;have hca:=h.hca;have ne:∀x,x=a\/x=b\/x=c->kT a b c (ae x 2)/\kT a b c (ae x 3):=fun x hx=>by have a1:=af a 1;have b1:=af b 1;have c1:=af c 1;have x2:=af x 2;have x3:=af x 3;have n2:=an (h:=x) (j:=2) oQ oQ;have n3:=an (h:=x) (j:=3) oQ oQ;have m2:=aB (h:=x) (i:=2) (j:=1) oQ oQ oQ;have m3:=aB (h:=x) (i:=3) (j:=1) oQ oQ oQ;unfold kT;rcases hx with rfl|rfl|rfl<;>refine⟨⟨?_,?_,?_,?_,?_,?_⟩,⟨?_,?_,?_,?_,?_,?_⟩⟩<;>omega
 rcases h.mem hz with e|e|e|⟨hc,e1,e2,e3⟩
 ·rcases aw e with rfl|rfl|rfl|rfl
  {exact .inr ⟨ae b 3,by rw[af];simp,(ne b oX).2,t2⟩};{exact .inr ⟨ae c 2,by rw[af];simp,(ne c oX).1,t6⟩};{exact .inl (.inl rfl)};{exact .inl (.inr (.inr (.inr (.inl rfl))))}
 ·rcases aw e with rfl|rfl|rfl|rfl
  {exact .inr ⟨ae c 3,by rw[af];simp,(ne c oX).2,t3⟩};{exact .inr ⟨ae a 2,by rw[af];simp,(ne a oX).1,t4⟩};{exact .inl (.inr (.inl rfl))};{exact .inl (.inr (.inr (.inr (.inr (.inl rfl)))))}
 ·rcases aw e with rfl|rfl|rfl|rfl
  {exact .inr ⟨ae a 3,by rw[af];simp,(ne a oX).2,t1⟩};{exact .inr ⟨ae b 2,by rw[af];simp,(ne b oX).1,t5⟩};{exact .inl (.inr (.inr (.inl rfl)))};{exact .inl (.inr (.inr (.inr (.inr (.inr rfl)))))}
 {refine .inr ⟨z,hz,?_,gY e1 e2 e3⟩;have a1:=af a 1;have b1:=af b 1;have c1:=af c 1;unfold kT;refine⟨?_,?_,?_,?_,?_,?_⟩<;>(intro e;subst e;omega)}
theorem nB.Je{x:Nat}(hx:x=a\/x=b\/x=c):K (ae x 1)=(!K a)/\K (ae x 2)=K a/\K (ae x 3)=(!K a)/\K x=K a:=by
 have key:x/4=a/4\/x/4=b/4\/x/4=c/4:=by rcases hx with e|e|e<;>subst e<;>simp
 have:=iq (K:=K) (c:=x/4) (fun y hy=>h.alt (by rw[hy];exact key)) (x:=x) rfl;have kx:K x=K a:=by
  rcases hx with rfl|rfl|rfl
  {rfl};{exact h.kb};{exact h.kc}
 rw[kx]at this;exact⟨this.1,this.2.1,this.2.2,kx⟩
theorem nB.Nu{x:Nat}(hx:x=a\/x=b\/x=c):K' (ae x 1)=K a/\K' (ae x 2)=(!K a)/\K' (ae x 3)=K a/\K' x=(!K a):=by
 obtain⟨k1,k2,k3,k0⟩:=h.Je hx;have key:x/4=a/4\/x/4=b/4\/x/4=c/4:=by rcases hx with e|e|e<;>subst e<;>simp
 rw[h.ff (x:=ae x 1) (by rw[af];exact key),h.ff (x:=ae x 2) (by rw[af];exact key),h.ff (x:=ae x 3) (by rw[af];exact key),h.ff key,k1,k2,k3,k0,Sv];exact⟨rfl,rfl,rfl,rfl⟩
theorem nB.Ow{w:Nat}(hw:w/4∈a/4::b/4::c/4::cs)(hn:kT a b c w):K' (aZ a b c w)=K w/\K' (ae (aZ a b c w) 3)=K (ae w 3):=by
 obtain⟨t1,t2,t3,t4,t5,t6⟩:=h.tG;have r1:∀z,ae (ae z 1) 3=z:=fun z=>by rw[ar];exact bC z
 have r2:∀z,ae (ae z 2) 3=ae z 1:=fun z=>by rw[ar];exact bF z 1
 have r3:∀z,ae (ae z 3) 3=ae z 2:=fun z=>by rw[ar];exact bF z 2
 obtain⟨A1,A2,A3,A0⟩:=h.Je (x:=a) (.inl rfl);obtain⟨B1,B2,B3,B0⟩:=h.Je (x:=b) (.inr (.inl rfl));obtain⟨C1,C2,C3,C0⟩:=h.Je (x:=c) (.inr (.inr rfl));obtain⟨D1,D2,D3,D0⟩:=h.Nu (x:=a) (.inl rfl);obtain⟨E1,E2,E3,E0⟩:=h.Nu (x:=b) (.inr (.inl rfl));obtain⟨F1,F2,F3,F0⟩:=h.Nu (x:=c) (.inr (.inr rfl));rcases h.cases hw hn with(rfl|rfl|rfl)|(rfl|rfl|rfl)|⟨hc,e1,e2,e3⟩
 {rw[t4,r1,r2,E1,E0,A2,A1];exact⟨rfl,rfl⟩};{rw[t5,r1,r2,F1,F0,B2,B1];exact⟨rfl,rfl⟩};{rw[t6,r1,r2,D1,D0,C2,C1];exact⟨rfl,rfl⟩};{rw[t1,r3,F0,F3,A3,A2];exact⟨rfl,rfl⟩};{rw[t2,r3,D0,D3,B3,B2];exact⟨rfl,rfl⟩};{rw[t3,r3,E0,E3,C3,C2];exact⟨rfl,rfl⟩};{rw[gY e1 e2 e3,h.pF e1 e2 e3,h.pF (x:=ae w 3) (by rw[af];exact e1) (by rw[af];exact e2) (by rw[af];exact e3)];exact⟨rfl,rfl⟩}
theorem nB.O_:DT (a/4::b/4::c/4::cs) K' m':=by
 have r2:∀z,ae (ae z 2) 3=ae z 1:=fun z=>by rw[ar];exact bF z 1
 have r3:∀z,ae (ae z 3) 3=ae z 2:=fun z=>by rw[ar];exact bF z 2
 obtain⟨D1,D2,D3,D0⟩:=h.Nu (x:=a) (.inl rfl);obtain⟨E1,E2,E3,E0⟩:=h.Nu (x:=b) (.inr (.inl rfl));obtain⟨F1,F2,F3,F0⟩:=h.Nu (x:=c) (.inr (.inr rfl));refine⟨fun z hz=>?_,fun z hz=>?_⟩;{rw[h.fl,h.fl,af,h.jq.alt z hz];split<;>rfl}
 ·rcases h.oS hz with(rfl|rfl|rfl|rfl|rfl|rfl)|⟨w,hw,hn,rfl⟩
  {rw[h.o1,r3,E2,D2]};{rw[h.o2,r3,F2,E2]};{rw[h.o3,r3,D2,F2]};{rw[h.p3,r2,F1,D3]};{rw[h.p1,r2,D1,E3]};{rw[h.p2,r2,E1,F3]};{obtain⟨w1,w2⟩:=h.mN hw hn;rw[h.through hw hn,(h.Ow w1 w2).2,(h.Ow hw hn).1,h.jq.cF w hw]}
theorem nB.PR:∀z,z/4∈a/4::b/4::c/4::cs->m' (m' z)=z/\m' z/4∈a/4::b/4::c/4::cs:=fun z hz=>by
 rcases h.oS hz with(rfl|rfl|rfl|rfl|rfl|rfl)|⟨w,hw,hn,rfl⟩
 {rw[h.o1,h.p1,af];simp};{rw[h.o2,h.p2,af];simp};{rw[h.o3,h.p3,af];simp};{rw[h.p3,h.o3,af];simp};{rw[h.p1,h.o1,af];simp};{rw[h.p2,h.o2,af];simp};{obtain⟨w1,w2⟩:=h.mN hw hn;rw[h.through hw hn,h.through w1 w2,(h.inv w hw).1];exact⟨rfl,h.PK w1 w2⟩}
theorem nB.swap:nB cs K' K m' m (ae a 2) (ae b 2) (ae c 2):=by
 have r1:∀z,ae (ae z 2) 1=ae z 3:=fun z=>ar z 2 1
 have r2:∀z,ae (ae z 2) 2=z:=fun z=>by rw[ar];exact bC z
 have r3:∀z,ae (ae z 2) 3=ae z 1:=fun z=>by rw[ar];exact bF z 1
 have hab:=h.hab;have hbc:=h.hbc;have hca:=h.hca;have out:∀x,(x=a\/x=b\/x=c)->(ae x 2/4∈a/4::b/4::c/4::cs/\kT a b c (ae x 2))/\(ae x 3/4∈a/4::b/4::c/4::cs/\kT a b c (ae x 3)):=fun x hx=>by have a1:=af a 1;have b1:=af b 1;have c1:=af c 1;have x2:=af x 2;have x3:=af x 3;have n2:=an (h:=x) (j:=2) oQ oQ;have n3:=an (h:=x) (j:=3) oQ oQ;have m2:=aB (h:=x) (i:=2) (j:=1) oQ oQ oQ;have m3:=aB (h:=x) (i:=3) (j:=1) oQ oQ oQ;refine⟨⟨by rw[x2];rcases hx with e|e|e<;>subst e<;>simp,?_⟩,⟨by rw[x3];rcases hx with e|e|e<;>subst e<;>simp,?_⟩⟩;{unfold kT;rcases hx with rfl|rfl|rfl<;>refine⟨?_,?_,?_,?_,?_,?_⟩<;>omega};{unfold kT;rcases hx with rfl|rfl|rfl<;>refine⟨?_,?_,?_,?_,?_,?_⟩<;>omega}
 have bk:∀w,w/4∈a/4::b/4::c/4::cs->kT a b c w->m w=aZ (ae a 2) (ae b 2) (ae c 2) (aZ a b c (m w)):=fun w hw hn=>by obtain⟨w1,w2⟩:=h.mN hw hn;exact(h.back w1 w2).symm
 have VY:=h.O_;have hinv:=h.PR;refine{ha:=(by rw[af];exact h.ha),hb:=(by rw[af];exact h.hb),hc:=(by rw[af];exact h.hc),hab:=(by rw[af,af];exact hab),hbc:=(by rw[af,af];exact hbc),hca:=(by rw[af,af];exact hca),jq:=(by rw[af,af,af];exact VY),i1:=(by rw[r1];exact h.o1),i2:=(by rw[r1];exact h.o2),i3:=(by rw[r1];exact h.o3),j1:=(by rw[r1];exact h.p1),j2:=(by rw[r1];exact h.p2),j3:=(by rw[r1];exact h.p3),inv:=(by rw[af,af,af];exact hinv),fl:=fun z=>?_,o1:=(by rw[r2,r3];exact h.i1),o2:=(by rw[r2,r3];exact h.i2),o3:=(by rw[r2,r3];exact h.i3),p1:=(by rw[r2,r3];exact h.j1),p2:=(by rw[r2,r3];exact h.j2),p3:=(by rw[r2,r3];exact h.j3),g1:=?_,g2:=?_,g3:=?_,h1:=?_,h2:=?_,h3:=?_,off:=fun z hz=>?_,par:=?_};{rw[af,af,af,h.fl z];split;{rw[Sv]};{rfl}};{rw[r1,r2,h.h1];exact bk _ (out b (.inr (.inl rfl))).2.1 (out b (.inr (.inl rfl))).2.2};{rw[r1,r2,h.h2];exact bk _ (out c (.inr (.inr rfl))).2.1 (out c (.inr (.inr rfl))).2.2};{rw[r1,r2,h.h3];exact bk _ (out a (.inl rfl)).2.1 (out a (.inl rfl)).2.2};{rw[r3,h.g1];exact bk _ (out a (.inl rfl)).1.1 (out a (.inl rfl)).1.2};{rw[r3,h.g2];exact bk _ (out b (.inr (.inl rfl))).1.1 (out b (.inr (.inl rfl))).1.2};{rw[r3,h.g3];exact bk _ (out c (.inr (.inr rfl))).1.1 (out c (.inr (.inr rfl))).1.2}
 ·rw[h.off z hz]
  refine bk z (by simp[hz]) ?_;have a1:=af a 1;have b1:=af b 1;have c1:=af c 1;have na:z/4≠a/4:=fun e=>h.ha (e▸hz)
  have nb:z/4≠b/4:=fun e=>h.hb (e▸hz)
  have nc:z/4≠c/4:=fun e=>h.hc (e▸hz)
  unfold kT;refine⟨?_,?_,?_,?_,?_,?_⟩<;>(intro e;subst e;omega)
 {have:=h.par;rw[bQ,bQ,bQ];omega}
theorem nB.both{n:Int}(hn:fH (a/4::b/4::c/4::cs) K m s n):fH (a/4::b/4::c/4::cs) K' m' s n:=by
 rcases TQ (K a)with hw|hw
 {exact fH.back (fun n hn=>h.KQ hw hn) hn}
 ·have h2:=h.swap
  have hw2:K' (ae a 2)=true:=by rw[(h.Nu (.inl rfl)).2.1,hw];rfl
  have:=h2.KQ (s:=s) hw2 (n:=n);rw[af,af,af]at this;exact this hn
end
structure P_(sg mt mt':List Int)(a b c:Nat):Prop where
 ha:a<mt.length
 hb:au mt a=b
 hc:au mt b=c
 hl:au mt c=a
 lm':mt'.length=mt.length
 hab:a/4≠b/4
 hbc:b/4≠c/4
 hca:c/4≠a/4
 par:¬(a%2=b%2/\b%2=c%2)
 o1:gn mt' (ae a 2)=ae b 3
 o2:gn mt' (ae b 2)=ae c 3
 o3:gn mt' (ae c 2)=ae a 3
 p1:gn mt' (ae b 3)=ae a 2
 p2:gn mt' (ae c 3)=ae b 2
 p3:gn mt' (ae a 3)=ae c 2
 g1:gn mt' (ae b 1)=aZ a b c (gn mt (ae a 2))
 g2:gn mt' (ae c 1)=aZ a b c (gn mt (ae b 2))
 g3:gn mt' (ae a 1)=aZ a b c (gn mt (ae c 2))
 h1:gn mt' a=aZ a b c (gn mt (ae b 3))
 h2:gn mt' b=aZ a b c (gn mt (ae c 3))
 h3:gn mt' c=aZ a b c (gn mt (ae a 3))
 off:∀h,h<mt.length->h/4≠a/4->h/4≠b/4->h/4≠c/4->gn mt' h=aZ a b c (gn mt h)
theorem P_.num{sg mt mt':List Int}{a b c:Nat}{L:Int}(hd:cJ sg mt L)(h:P_ sg mt mt' a b c){K:Nat->Bool}(hK:cA sg mt K):∃K',cA sg mt' K'/\∀n,jE sg mt K n->jE sg mt' K' n:=by
 have hI:=hd.2.2.2.2.2.1;have hn:=hd.2.1;have hF:=dE hd;have hb:b<mt.length:=by rw[<-h.hb];exact hF.1 a h.ha
 have hc:c<mt.length:=by rw[<-h.hc];exact hF.1 b hb
 have ha:=h.ha;have nx:∀x y,x<mt.length->au mt x=y->gn mt x=ae y 1:=fun x y hx e=>by unfold au at e;rw[<-e,ar];exact(bC _).symm
 have i1:=nx a b ha h.hb;have i2:=nx b c hb h.hc;have i3:=nx c a hc h.hl;have j1:=(hI.gn ha).2.2.2;have j2:=(hI.gn hb).2.2.2;have j3:=(hI.gn hc).2.2.2;rw[i1]at j1;rw[i2]at j2;rw[i3]at j3;have hab:=h.hab;have hbc:=h.hbc;have hca:=h.hca;have Vm:∀x,x∈(List.range sg.length).filter (fun x=>decide (x≠a/4)&&(decide (x≠b/4)&&decide (x≠c/4)))↔x<sg.length/\x≠a/4/\x≠b/4/\x≠c/4:=fun x=>by rw[R3,Rm];simp
 have VM:(List.range sg.length).Perm (a/4::b/4::c/4::(List.range sg.length).filter fun x=>decide (x≠a/4)&&(decide (x≠b/4)&&decide (x≠c/4))):=by
  refine(SJ SD (SC.2 ⟨fun hh=>?_,SC.2 ⟨fun hh=>?_,SC.2 ⟨fun hh=>?_,SD.filter _⟩⟩⟩)).2 fun x=>?_
  ·rcases RV.1 hh with e|e
   {exact hab e}
   ·rcases RV.1 e with e|e
    {exact hca e.symm};{exact((Vm _).1 e).2.1 rfl}
  ·rcases RV.1 hh with e|e
   {exact hbc e};{exact((Vm _).1 e).2.2.1 rfl}
  {exact((Vm _).1 hh).2.2.2 rfl};{rw[Rm,RV,RV,RV,Vm];omega}
 have T:nB ((List.range sg.length).filter fun x=>decide (x≠a/4)&&(decide (x≠b/4)&&decide (x≠c/4))) K (fun z=>if z/4=a/4\/z/4=b/4\/z/4=c/4 then !K z else K z) (gn mt) (gn mt') a b c:=
  {ha:=fun e=>((Vm _).1 e).2.1 rfl
   hb:=fun e=>((Vm _).1 e).2.2.1 rfl
   hc:=fun e=>((Vm _).1 e).2.2.2 rfl
   hab:=hab
   hbc:=hbc
   hca:=hca
   jq:=⟨fun z hz=>hK.alt z (VM.mem_iff.2 hz),fun z hz=>hK.cF z (VM.mem_iff.2 hz)⟩
   i1:=i1
   i2:=i2
   i3:=i3
   j1:=j1
   j2:=j2
   j3:=j3
   inv:=fun z hz=>by have XZ:=Rm.1 (VM.mem_iff.2 hz);have hg:=hI.gn (show z<mt.length by omega);exact⟨hg.2.2.2,VM.mem_iff.1 (Rm.2 (by have:=hg.2.1;omega))⟩
   fl:=fun z=>rfl
   o1:=h.o1
   o2:=h.o2
   o3:=h.o3
   p1:=h.p1
   p2:=h.p2
   p3:=h.p3
   g1:=h.g1
   g2:=h.g2
   g3:=h.g3
   h1:=h.h1
   h2:=h.h2
   h3:=h.h3
   off:=fun z hz=>by have:=(Vm _).1 hz;exact h.off z oZ this.2.1 this.2.2.1 this.2.2.2
   par:=h.par}
 have VY:=T.O_;refine⟨fun z=>if z/4=a/4\/z/4=b/4\/z/4=c/4 then !K z else K z,⟨fun z hz=>VY.alt z (VM.mem_iff.1 hz),fun z hz=>VY.cF z (VM.mem_iff.1 hz)⟩,fun n Yo=>?_⟩;exact fH.perm VM.symm (T.both (fH.perm VM Yo))
structure M4(sg sg' mt mt':List Int)(τ:Nat->Nat):Prop where
 ls:sg'.length=sg.length
 lm':mt'.length=mt.length
 at_:∀h,h<mt.length->τ h/4=h/4
 turn:∀h k,h<mt.length->τ (ae h k)=ae (τ h) k
 mate:∀h,h<mt.length->gn mt' (τ h)=τ (gn mt h)
 par:∀h,h<mt.length->τ h%2≠h%2
 sg:∀c,c<sg.length->gi sg' c= -gi sg c
theorem M4.num{sg sg' mt mt':List Int}{τ:Nat->Nat}{L:Int}(hd:cJ sg mt L)(h:M4 sg sg' mt mt' τ){K:Nat->Bool}(hK:cA sg mt K):∃K',cA sg' mt' K'/\∀n,jE sg mt K n->jE sg' mt' K' (-n):=by
 have hn:=hd.2.1;have hI:=hd.2.2.2.2.2.1;have mem:∀z,z/4∈List.range sg.length↔z<mt.length:=fun z=>by rw[Rm];omega
 have inj:∀x y,x<mt.length->y<mt.length->τ x=τ y->x=y:=fun x y hx hy e=>by
  have e4:x/4=y/4:=by rw[<-h.at_ x hx,<-h.at_ y hy,e]
  rcases aw e4 with rfl|rfl|rfl|rfl
  {rfl};{rw[h.turn y 1 hy]at e;exact absurd e (an oQ oQ)};{rw[h.turn y 2 hy]at e;exact absurd e (an oQ oQ)};{rw[h.turn y 3 hy]at e;exact absurd e (an oQ oQ)}
 have hσ:∃σ:Nat->Nat,∀z,z<mt.length->σ (τ z)=z:=by
  have:∀y:Nat,∃g:Nat,∀z,z<mt.length->τ z=y->g=z:=fun y=>by
   by_cases hy:∃z,z<mt.length/\τ z=y
   {obtain⟨z,hz,e1⟩:=hy;exact⟨z,fun g hg e2=>inj z g hz hg (e1.trans e2.symm)⟩};{exact⟨0,fun z hz e1=>absurd ⟨z,hz,e1⟩ hy⟩}
  obtain⟨σ,hσ⟩:=Sp this;exact⟨σ,fun z hz=>hσ _ z hz rfl⟩
 obtain⟨σ,hσ⟩:=hσ;have H:yR (List.range sg.length) K (fun z=>K (σ z)) (gn mt) (gn mt') (fun c=>c) τ (-1):=by refine⟨fun c _ d _ e=>e,fun z hz=>h.at_ z ((mem z).1 hz),fun z k hz=>h.turn z k ((mem z).1 hz),fun z hz=>h.mate z ((mem z).1 hz),fun z hz=>(mem _).2 (hI.gn ((mem z).1 hz)).2.1,fun z hz=>?_,fun z hz=>?_,fun z hz=>hK.alt z hz⟩;{show K (σ (τ z))=K z;rw[hσ z ((mem z).1 hz)]};{have:=h.par z ((mem z).1 hz);unfold eta;by_cases e:z%2=0;{rw[Re e,Rc oZ];rfl};{rw[Rc e,Re oZ];rfl}}
 have hmap:(List.range sg.length).map (fun c=>c)=List.range sg'.length:=by rw[List.map_id',h.ls]
 refine⟨fun z=>K (σ z),⟨fun z hz=>?_,fun z hz=>?_⟩,fun n Yo=>?_⟩;{obtain⟨y,hy,rfl⟩:=H.oS (z:=z) (by rw[hmap];exact hz);have hy':=(mem y).1 hy;show K (σ (ae (τ y) 1))= !K (σ (τ y));rw[<-h.turn y 1 hy',hσ _ ((mem _).1 (by rw[af];exact hy)),hσ y hy'];exact hK.alt y hy};{obtain⟨y,hy,rfl⟩:=H.oS (z:=z) (by rw[hmap];exact hz);have hy':=(mem y).1 hy;have hg:=(hI.gn hy').2.1;show K (σ (ae (gn mt' (τ y)) 3))=K (σ (τ y));rw[h.mate y hy',<-h.turn _ 3 hg,hσ _ ((mem _).1 (by rw[af];exact(mem _).2 hg)),hσ y hy'];exact hK.cF y hy}
 ·have:=H.sg (s:=gi sg) (s':=gi sg') (.inr rfl) (fun c hc=>by
   have XX:=Rm.1 hc;have h0:4*c<mt.length:=oZ;have a4:=h.at_ (4*c) h0;have Y3:=h.par (4*c) h0;have kb:=pj (K:=fun z=>K (σ z)) (c:=c) (fun x hx=>by
    obtain⟨y,hy,rfl⟩:=H.oS (z:=x) (by rw[hmap,h.ls,hx];exact hc);have hy':=(mem y).1 hy;show K (σ (ae (τ y) 1))= !K (σ (τ y));rw[<-h.turn y 1 hy',hσ _ ((mem _).1 (by rw[af];exact hy)),hσ y hy'];exact hK.alt y hy) (h:=τ (4*c)) (by rw[a4];omega)
   rw[hσ _ h0,Rc oZ]at kb;unfold cT;rw[h.sg c XX];show(if-gi sg c=1 then(if K (σ (4*c))=true then 1 else 0)else if K (σ (4*c))=true then 0 else-1)=_;rw[kb];rcases hd.2.2.2.2.1 c XX with e|e<;>rw[e]<;>cases K (4*c)<;>rfl) Yo
  rw[hmap,show(-1:Int)*n= -n by omega]at this;exact this
def rH(sg mt:List Int)(h:Nat):Nat:=if ai sg h=true then h else gn mt h
def ur(sg mt:List Int)(h:Nat):Nat:=gn mt (rH sg mt h)
def xy(sg mt:List Int)(h:Nat):Nat:=ae (rH sg mt h) 2
def yk(sg mt:List Int)(h:Nat):Nat:=ae (ur sg mt h) 2
def LA(sg mt:List Int)(xs:List Int)(h:Nat):List Int:=(xs.set (xy sg mt h) (ur sg mt h:Int)).set (yk sg mt h) (rH sg mt h:Int)
def Lc(sg mt:List Int)(bs:List Bool)(h:Nat):List Bool:=(bs.set (xy sg mt h) true).set (yk sg mt h) true
def Kd(n:Nat):List Int:=(List.range n).map Int.ofNat
def J8(sg mt:List Int)(a:Nat):List Int:=LA sg mt (LA sg mt (LA sg mt (Kd mt.length) a) (au mt a)) (au mt (au mt a))
def K8(sg mt:List Int)(a:Nat):List Bool:=Lc sg mt (Lc sg mt (Lc sg mt (List.replicate mt.length false) a) (au mt a)) (au mt (au mt a))
def oU(tl:List Int)(ou:List Bool)(mt:List Int):Nat->List Int
 |0=>mt
 |k+1=>if gb ou k=true then bH (oU tl ou mt k) (gn tl k) (gn tl (gn mt k))else oU tl ou mt k
def K9(sg mt xs:List Int)(h:Nat):List Int:=bH xs (xy sg mt h) (yk sg mt h)
def GK(sg mt:List Int)(a:Nat):List Int:=K9 sg mt (K9 sg mt (K9 sg mt (oU (J8 sg mt a) (K8 sg mt a) mt mt.length) a) (au mt a)) (au mt (au mt a))
theorem dI(tl:List Int)(ou:List Bool)(mt:List Int):∀k,(oU tl ou mt k).length=mt.length
 |0=>rfl
 |k+1=>by unfold oU;split;{rw[al,dI tl ou mt k]};{exact dI tl ou mt k}
theorem iH(sg mt xs:List Int)(h:Nat):(LA sg mt xs h).length=xs.length:=by unfold LA;simp
theorem iF(sg mt:List Int)(bs:List Bool)(h:Nat):(Lc sg mt bs h).length=bs.length:=by unfold Lc;simp
theorem gC(n:Nat):(Kd n).length=n:=by simp[Kd]
theorem Ba{n k:Nat}(h:k<n):gi (Kd n) k=(k:Int):=by rw[fP (by rw[gC];exact h)];simp[Kd]
theorem qW{sg mt:List Int}(hI:cP mt){a b:Nat}(ha:a<mt.length)(hb:au mt a=b):
  (rH sg mt a=a/\ur sg mt a=ae b 1/\xy sg mt a=ae a 2/\yk sg mt a=ae b 3)\/(rH sg mt a=ae b 1/\ur sg mt a=a/\xy sg mt a=ae b 3/\yk sg mt a=ae a 2):=by
 obtain⟨-,-,-,g3⟩:=hI.gn ha;have e:gn mt a=ae b 1:=by rw[<-hb];unfold au;rw[ar,bC]
 have e2:ae (ae b 1) 2=ae b 3:=by rw[ar]
 unfold yk ur xy rH;by_cases ho:ai sg a=true;{left;rw[Re ho,e,e2];exact⟨rfl,rfl,rfl,rfl⟩};{right;rw[Rc ho,g3,e,e2];exact⟨rfl,rfl,rfl,rfl⟩}
theorem rO{xs:List Int}{i k:Nat}{y:Int}(hi:i<xs.length):gn (xs.set i y) k=if k=i then y.toNat else gn xs k:=by unfold gn;rw[dB hi];split<;>rfl
theorem B8{sg mt xs:List Int}(hI:cP mt){a b:Nat}(ha:a<mt.length)(hb:au mt a=b)(h2:ae a 2<xs.length)(h3:ae b 3<xs.length)(Vh:ae a 2≠ae b 3)(k:Nat):
  gn (LA sg mt xs a) k=if k=ae a 2 then ae b 1 else if k=ae b 3 then a else gn xs k:=by
 unfold LA;rcases qW (sg:=sg) hI ha hb with⟨e1,e2,e3,e4⟩|⟨e1,e2,e3,e4⟩
 {rw[e1,e2,e3,e4,rO (by rw[Ry];exact h3),rO h2];by_cases u:k=ae a 2;{rw[Rc oZ,Re u,Re u];simp};{rw[Rc u,Rc u];simp}};{rw[e1,e2,e3,e4,rO (by rw[Ry];exact h2),rO h3];simp}
theorem BA{sg mt:List Int}{bs:List Bool}(hI:cP mt){a b:Nat}(ha:a<mt.length)(hb:au mt a=b)(h2:ae a 2<bs.length)(h3:ae b 3<bs.length)(k:Nat):
  gb (Lc sg mt bs a) k=if k=ae a 2\/k=ae b 3 then true else gb bs k:=by
 unfold Lc;rcases qW (sg:=sg) hI ha hb with⟨e1,e2,e3,e4⟩|⟨e1,e2,e3,e4⟩
 {rw[e3,e4,mJ (by rw[Ry];exact h3),mJ h2];by_cases u:k=ae a 2<;>by_cases v:k=ae b 3<;>simp[u,v]};{rw[e3,e4,mJ (by rw[Ry];exact h2),mJ h3];by_cases u:k=ae a 2<;>by_cases v:k=ae b 3<;>simp[u,v]}
theorem Bl{sg mt xs:List Int}(hI:cP mt){a b:Nat}(ha:a<mt.length)(hb:au mt a=b)(h2:ae a 2<xs.length)(h3:ae b 3<xs.length)(k:Nat):
  gn (K9 sg mt xs a) k=if k=ae a 2 then ae b 3 else if k=ae b 3 then ae a 2 else gn xs k:=by
 unfold K9;rcases qW (sg:=sg) hI ha hb with⟨e1,e2,e3,e4⟩|⟨e1,e2,e3,e4⟩
 {rw[e3,e4,bO h2 h3,sO (m:=gn xs)];rfl};{rw[e3,e4,bO h3 h2]}
structure T3(mt:List Int)(a b c:Nat):Prop where
 inv:cP mt
 four:∀h k,h<mt.length->ae h k<mt.length
 ha:a<mt.length
 hb:au mt a=b
 hc:au mt b=c
 hl:au mt c=a
 hab:a/4≠b/4
 hbc:b/4≠c/4
 hca:c/4≠a/4
def jK(a b c z:Nat):Prop:=z=a\/z=b\/z=c\/z=ae a 1\/z=ae b 1\/z=ae c 1
def eA(a b c z:Nat):Prop:=z=ae a 2\/z=ae b 2\/z=ae c 2\/z=ae a 3\/z=ae b 3\/z=ae c 3
instance(a b c z:Nat):Decidable (eA a b c z):=by unfold eA;infer_instance
section
variable{mt:List Int}{a b c:Nat}(H:T3 mt a b c)
include H
theorem T3.lt:b<mt.length/\c<mt.length:=by
 have h1:b<mt.length:=by rw[<-H.hb];exact H.four _ _ (H.inv.gn H.ha).2.1
 exact⟨h1,by rw[<-H.hc];exact H.four _ _ (H.inv.gn h1).2.1⟩
omit H in
theorem EC{z a s:Nat}:z=ae a s↔z/4=a/4/\z%4=(a%4+s)%4:=by unfold ae;omega
theorem T3.PZ{z:Nat}(ho:eA a b c z):¬jK a b c z:=by have h1:=H.hab;have h2:=H.hbc;have h3:=H.hca;unfold eA at ho;unfold jK;simp only[EC]at ho⊢;intro hi;rcases ho with⟨o1,o2⟩|⟨o1,o2⟩|⟨o1,o2⟩|⟨o1,o2⟩|⟨o1,o2⟩|⟨o1,o2⟩<;>rcases hi with e|e|e|⟨e,e'⟩|⟨e,e'⟩|⟨e,e'⟩<;>omega
omit H in
theorem nL{z:Nat}(ho:eA a b c z):jK a b c (aZ a b c z):=by unfold eA at ho;unfold aZ jK;split;{exact .inr (.inr (.inr (.inr (.inl rfl))))};{split;{exact .inr (.inr (.inr (.inr (.inr rfl))))};{split;{exact .inr (.inr (.inr (.inl rfl)))};{split;{exact .inr (.inr (.inl rfl))};{split;{exact .inl rfl};{split;{exact .inr (.inl rfl)};{exfalso;rcases ho with h|h|h|h|h|h<;>contradiction}}}}}}
omit H in
theorem kr{z:Nat}(ho:¬eA a b c z):aZ a b c z=z:=by unfold eA at ho;unfold aZ;rw[Rc oZ,Rc oZ,Rc oZ,Rc oZ,Rc oZ,Rc oZ]
theorem T3.tt:aZ a b c (ae a 2)=ae b 1/\aZ a b c (ae b 2)=ae c 1/\aZ a b c (ae c 2)=ae a 1/\aZ a b c (ae a 3)=c/\aZ a b c (ae b 3)=a/\aZ a b c (ae c 3)=b:=by have h1:=H.hab;have h2:=H.hbc;have h3:=H.hca;unfold aZ;refine⟨Re rfl,?_,?_,?_,?_,?_⟩;{rw[Rc (by unfold ae;omega),Re rfl]};{rw[Rc (by unfold ae;omega),Rc (by unfold ae;omega),Re rfl]};{rw[Rc (by unfold ae;omega),Rc (by unfold ae;omega),Rc (by unfold ae;omega),Re rfl]};{rw[Rc (by unfold ae;omega),Rc (by unfold ae;omega),Rc (by unfold ae;omega),Rc (by unfold ae;omega),Re rfl]};{rw[Rc (by unfold ae;omega),Rc (by unfold ae;omega),Rc (by unfold ae;omega),Rc (by unfold ae;omega),Rc (by unfold ae;omega),Re rfl]}
theorem T3.oL{y z:Nat}(hy:¬jK a b c y)(hz:¬jK a b c z)(e:aZ a b c y=aZ a b c z):y=z:=by by_cases oy:eA a b c y;{by_cases oz:eA a b c z;{have h1:=H.hab;have h2:=H.hbc;have h3:=H.hca;obtain⟨t1,t2,t3,t4,t5,t6⟩:=H.tt;unfold eA at oy oz;rcases oy with rfl|rfl|rfl|rfl|rfl|rfl<;>rcases oz with rfl|rfl|rfl|rfl|rfl|rfl<;>first|rfl|(exfalso;simp only[t1,t2,t3,t4,t5,t6]at e;clear t1 t2 t3 t4 t5 t6;(try unfold ae at e);omega)};{exact absurd (nL oy) (by rw[e,kr oz];exact hz)}};{by_cases oz:eA a b c z;{exact absurd (nL oz) (by rw[<-e,kr oy];exact hy)};{rw[kr oy,kr oz]at e;exact e}}
theorem T3.PU:gn mt a=ae b 1/\gn mt b=ae c 1/\gn mt c=ae a 1:=by
 have k:∀x y,au mt x=y->gn mt x=ae y 1:=fun x y e=>by rw[<-e];unfold au;rw[ar,bC]
 exact⟨k _ _ H.hb,k _ _ H.hc,k _ _ H.hl⟩
theorem T3.F9{z:Nat}(hz:z<mt.length)(hi:¬jK a b c z):¬jK a b c (gn mt z):=by obtain⟨e1,e2,e3⟩:=H.PU;obtain⟨hb,hc⟩:=H.lt;have k:=(H.inv.gn hz).2.2.2;have ka:=(H.inv.gn H.ha).2.2.2;have kb:=(H.inv.gn hb).2.2.2;have kc:=(H.inv.gn hc).2.2.2;rw[e1]at ka;rw[e2]at kb;rw[e3]at kc;unfold jK at hi⊢;intro h;rcases h with e|e|e|e|e|e<;>rw[e]at k<;>exact hi oZ
theorem T3.AO{tl:List Int}{ou:List Bool}(hto:∀k,k<mt.length->gn tl k=aZ a b c k)(hou:∀k,k<mt.length->(gb ou k=true↔eA a b c k))(htl:∀z,z<mt.length->aZ a b c z<mt.length):∀k,k<=mt.length->
  (∀u,u<k->eA a b c u->gn (oU tl ou mt k) (aZ a b c u)=aZ a b c (gn mt u)/\gn (oU tl ou mt k) (aZ a b c (gn mt u))=aZ a b c u)/\
  ∀z,(∀u,u<k->eA a b c u->z≠aZ a b c u/\z≠aZ a b c (gn mt u))->gn (oU tl ou mt k) z=gn mt z
 |0,_=>⟨fun u hu=>absurd hu (RG _),fun _ _=>rfl⟩
 |k+1,hk=>by
  obtain⟨i1,i2⟩:=T3.AO hto hou htl k oZ;have VA:k<mt.length:=oZ;have VS:=(H.inv.gn VA).2.1;have hgg:=(H.inv.gn VA).2.2.2;by_cases ho:eA a b c k
  ·have e:oU tl ou mt (k+1)=bH (oU tl ou mt k) (aZ a b c k) (aZ a b c (gn mt k)):=by
    show(if _ then _ else _)=_;rw[Re ((hou k VA).2 ho),hto k VA,hto _ VS]
   rw[e];have g1:aZ a b c k<(oU tl ou mt k).length:=by rw[dI];exact htl _ VA
   have g2:aZ a b c (gn mt k)<(oU tl ou mt k).length:=by rw[dI];exact htl _ VS
   have nk:¬jK a b c k:=H.PZ ho;have ngk:=H.F9 VA nk;refine⟨fun u hu Yu=>?_,fun z hz=>?_⟩
   ·have Zw:u<mt.length:=oZ
    have nu:=H.PZ Yu;have ngu:=H.F9 Zw nu;have ugg:=(H.inv.gn Zw).2.2.2;have hne1:aZ a b c k≠aZ a b c (gn mt k):=fun x=>(H.inv.gn VA).2.2.1 (H.oL nk ngk x).symm
    by_cases euk:u=k;{subst euk;refine⟨?_,?_⟩;{rw[bO g1 g2,Rc hne1,Re rfl]};{rw[bO g1 g2,Re rfl]}}
    ·by_cases eug:u=gn mt k
     ·have e2:gn mt u=k:=by rw[eug,hgg]
      rw[e2,eug];refine⟨?_,?_⟩;{rw[bO g1 g2,Re rfl]};{rw[bO g1 g2,Rc hne1,Re rfl]}
     ·have a1:aZ a b c u≠aZ a b c k:=fun x=>euk (H.oL nu nk x)
      have a2:aZ a b c u≠aZ a b c (gn mt k):=fun x=>eug (H.oL nu ngk x)
      have a3:aZ a b c (gn mt u)≠aZ a b c k:=fun x=>eug (by rw[<-H.oL ngu nk x,ugg])
      have a4:aZ a b c (gn mt u)≠aZ a b c (gn mt k):=fun x=>euk (dZ H.inv Zw VA (H.oL ngu ngk x))
      rw[bO g1 g2,bO g1 g2,Rc a2,Rc a1,Rc a4,Rc a3];exact i1 u oZ Yu
   {rw[bO g1 g2,Rc (hz k oZ ho).2,Rc (hz k oZ ho).1];exact i2 z fun u hu Yu=>hz u oZ Yu}
  ·have e:oU tl ou mt (k+1)=oU tl ou mt k:=by
    show(if _ then _ else _)=_;rw[Rc (fun x=>ho ((hou k VA).1 x))]
   rw[e];exact⟨fun u hu Yu=>i1 u (by have:u≠k:=fun x=>ho (x▸Yu);omega) Yu,fun z hz=>i2 z fun u hu Yu=>hz u oZ Yu⟩
theorem T3.Lf{sg:List Int}{k:Nat}(hk:k<mt.length):gn (J8 sg mt a) k=aZ a b c k:=by
 have h1:=H.hab;have h2:=H.hbc;have h3:=H.hca;obtain⟨hb,hc⟩:=H.lt;have e:gn (J8 sg mt a) k=if k=ae c 2 then ae a 1 else if k=ae a 3 then c else if k=ae b 2 then ae c 1 else if k=ae c 3 then b else if k=ae a 2 then ae b 1 else if k=ae b 3 then a else k:=by
  unfold J8;have l0:=gC mt.length;rw[H.hb,H.hc,B8 (a:=c) (b:=a) H.inv hc H.hl (by simp only[iH,l0];exact H.four _ _ hc) (by simp only[iH,l0];exact H.four _ _ H.ha) (by unfold ae;omega),
   B8 (a:=b) (b:=c) H.inv hb H.hc (by simp only[iH,l0];exact H.four _ _ hb) (by simp only[iH,l0];exact H.four _ _ hc) (by unfold ae;omega),
   B8 (a:=a) (b:=b) H.inv H.ha H.hb (by rw[l0];exact H.four _ _ H.ha) (by rw[l0];exact H.four _ _ hb) (by unfold ae;omega)]
  have:gn (Kd mt.length) k=k:=by unfold gn;rw[Ba hk];rfl
  rw[this]
 rw[e];by_cases ho:eA a b c k
 ·obtain⟨t1,t2,t3,t4,t5,t6⟩:=H.tt
  unfold eA at ho;rcases ho with rfl|rfl|rfl|rfl|rfl|rfl
  {rw[t1];repeat (first|rw[Re rfl]|rw[Rc (by unfold ae;omega)])};{rw[t2];repeat (first|rw[Re rfl]|rw[Rc (by unfold ae;omega)])};{rw[t3];repeat (first|rw[Re rfl]|rw[Rc (by unfold ae;omega)])};{rw[t4];repeat (first|rw[Re rfl]|rw[Rc (by unfold ae;omega)])};{rw[t5];repeat (first|rw[Re rfl]|rw[Rc (by unfold ae;omega)])};{rw[t6];repeat (first|rw[Re rfl]|rw[Rc (by unfold ae;omega)])}
 {rw[kr ho];unfold eA at ho;rw[Rc (fun x=>ho (by simp[x])),Rc (fun x=>ho (by simp[x])),Rc (fun x=>ho (by simp[x])),Rc (fun x=>ho (by simp[x])),Rc (fun x=>ho (by simp[x])),Rc (fun x=>ho (by simp[x]))]}
theorem T3.KJ{sg:List Int}{k:Nat}(hk:k<mt.length):gb (K8 sg mt a) k=true↔eA a b c k:=by
 obtain⟨hb,hc⟩:=H.lt;have l0:(List.replicate mt.length false).length=mt.length:=Sd;unfold K8;rw[H.hb,H.hc,BA (a:=c) (b:=a) H.inv hc H.hl (by simp only[iF,l0];exact H.four _ _ hc) (by simp only[iF,l0];exact H.four _ _ H.ha),
  BA (a:=b) (b:=c) H.inv hb H.hc (by simp only[iF,l0];exact H.four _ _ hb) (by simp only[iF,l0];exact H.four _ _ hc),
  BA (a:=a) (b:=b) H.inv H.ha H.hb (by rw[l0];exact H.four _ _ H.ha) (by rw[l0];exact H.four _ _ hb)]
 have:gb (List.replicate mt.length false) k=false:=by rw[CR (by rw[l0];exact hk)];simp
 rw[this];unfold eA;by_cases c1:k=ae c 2\/k=ae a 3;{rw[Re c1];rcases c1 with e|e<;>simp[e]};{rw[Rc c1];by_cases c2:k=ae b 2\/k=ae c 3;{rw[Re c2];rcases c2 with e|e<;>simp[e]};{rw[Rc c2];by_cases c3:k=ae a 2\/k=ae b 3;{rw[Re c3];rcases c3 with e|e<;>simp[e]};{rw[Rc c3];simp only[not_or]at c1 c2 c3;simp[c1,c2,c3]}}}
theorem T3.Ha{z:Nat}(hz:z<mt.length):aZ a b c z<mt.length:=by by_cases ho:eA a b c z;{obtain⟨hb,hc⟩:=H.lt;have:=nL ho;unfold jK at this;rcases this with e|e|e|e|e|e<;>rw[e]<;>first|exact H.ha|exact hb|exact hc|exact H.four _ _ H.ha|exact H.four _ _ hb|exact H.four _ _ hc};{rw[kr ho];exact hz}
theorem T3.mV{sg:List Int}(k:Nat):gn (GK sg mt a) k=if k=ae c 2 then ae a 3 else if k=ae a 3 then ae c 2 else if k=ae b 2 then ae c 3 else if k=ae c 3 then ae b 2 else if k=ae a 2 then ae b 3 else if k=ae b 3 then ae a 2 else gn (oU (J8 sg mt a) (K8 sg mt a) mt mt.length) k:=by
 obtain⟨hb,hc⟩:=H.lt;have l0:=dI (J8 sg mt a) (K8 sg mt a) mt mt.length;have le:∀xs h,(K9 sg mt xs h).length=xs.length:=fun xs h=>al _ _ _
 unfold GK;rw[H.hb,H.hc,Bl (a:=c) (b:=a) H.inv hc H.hl (by simp only[le,l0];exact H.four _ _ hc) (by simp only[le,l0];exact H.four _ _ H.ha),
  Bl (a:=b) (b:=c) H.inv hb H.hc (by simp only[le,l0];exact H.four _ _ hb) (by simp only[le,l0];exact H.four _ _ hc),
  Bl (a:=a) (b:=b) H.inv H.ha H.hb (by rw[l0];exact H.four _ _ H.ha) (by rw[l0];exact H.four _ _ hb)]
theorem T3.IV{sg:List Int}{k:Nat}(hk:¬eA a b c k):gn (GK sg mt a) k=gn (oU (J8 sg mt a) (K8 sg mt a) mt mt.length) k:=by rw[H.mV];unfold eA at hk;rw[Rc (fun x=>hk (by simp[x])),Rc (fun x=>hk (by simp[x])),Rc (fun x=>hk (by simp[x])),Rc (fun x=>hk (by simp[x])),Rc (fun x=>hk (by simp[x])),Rc (fun x=>hk (by simp[x]))]
theorem T3.ph{sg:List Int}{u z:Nat}(hu:eA a b c u)(hz:aZ a b c u=z)(hi:jK a b c z):gn (GK sg mt a) z=aZ a b c (gn mt u):=by
 have Zw:u<mt.length:=by obtain⟨hb,hc⟩:=H.lt;unfold eA at hu;rcases hu with e|e|e|e|e|e<;>rw[e]<;>first|exact H.four _ _ H.ha|exact H.four _ _ hb|exact H.four _ _ hc
 rw[H.IV (fun x=>H.PZ x hi),<-hz];exact((H.AO (fun k hk=>H.Lf hk) (fun k hk=>H.KJ hk) (fun z hz=>H.Ha hz) mt.length (Rf _)).1 u Zw hu).1
end
theorem Bp(sg mt:List Int)(a:Nat):(GK sg mt a).length=mt.length:=by unfold GK K9;rw[al,al,al,dI]
theorem No{sg mt:List Int}{L:Int}(hd:cJ sg mt L){a b c:Nat}(ha:a<mt.length)(hb:au mt a=b)(hc:au mt b=c)(hl:au mt c=a)(hab:a/4≠b/4)(hbc:b/4≠c/4)(hca:c/4≠a/4)(par:¬(a%2=b%2/\b%2=c%2)):
  P_ sg mt (GK sg mt a) a b c:=by
 have h2:mt.length=4*sg.length:=hd.2.1;have H:T3 mt a b c:=⟨hd.2.2.2.2.2.1,fun h k hh=>by have:=af h k;omega,ha,hb,hc,hl,hab,hbc,hca⟩;obtain⟨t1,t2,t3,t4,t5,t6⟩:=H.tt;refine⟨ha,hb,hc,hl,Bp _ _ _,hab,hbc,hca,par,?_,?_,?_,?_,?_,?_,?_,?_,?_,?_,?_,?_,?_⟩;{rw[H.mV];repeat (first|rw[Re rfl]|rw[Rc (by unfold ae;omega)])};{rw[H.mV];repeat (first|rw[Re rfl]|rw[Rc (by unfold ae;omega)])};{rw[H.mV];repeat (first|rw[Re rfl]|rw[Rc (by unfold ae;omega)])};{rw[H.mV];repeat (first|rw[Re rfl]|rw[Rc (by unfold ae;omega)])};{rw[H.mV];repeat (first|rw[Re rfl]|rw[Rc (by unfold ae;omega)])};{rw[H.mV];repeat (first|rw[Re rfl]|rw[Rc (by unfold ae;omega)])};{exact H.ph (by simp[eA]) t1 (by simp[jK])};{exact H.ph (by simp[eA]) t2 (by simp[jK])};{exact H.ph (by simp[eA]) t3 (by simp[jK])};{exact H.ph (by simp[eA]) t5 (by simp[jK])};{exact H.ph (by simp[eA]) t6 (by simp[jK])};{exact H.ph (by simp[eA]) t4 (by simp[jK])}
 ·intro h hh n1 n2 n3
  have no:¬eA a b c h:=by unfold eA;intro x;rcases x with e|e|e|e|e|e<;>rw[e]at n1 n2 n3<;>(try simp only[af]at n1 n2 n3)<;>omega
  have ni:¬jK a b c h:=by unfold jK;intro x;rcases x with e|e|e|e|e|e<;>rw[e]at n1 n2 n3<;>(try simp only[af]at n1 n2 n3)<;>omega
  rw[H.IV no];obtain⟨j1,j2⟩:=H.AO (tl:=J8 sg mt a) (ou:=K8 sg mt a) (fun k hk=>H.Lf hk) (fun k hk=>H.KJ hk) (fun z hz=>H.Ha hz) mt.length (Rf _);obtain⟨-,g1,g2,g3⟩:=H.inv.gn hh;by_cases ho:eA a b c (gn mt h);{have:=(j1 _ g1 ho).2;rw[g3,kr no]at this;exact this}
  ·rw[kr ho]
   refine j2 h fun u hu hou=>⟨fun e=>ni (by rw[e];exact nL hou),fun e=>?_⟩
   by_cases hog:eA a b c (gn mt u);{exact ni (by rw[e];exact nL hog)};{rw[kr hog]at e;exact ho (by rw[e,(H.inv.gn hu).2.2.2];exact hou)}
def iI(a b c k:Nat):Nat:=if k=0 then a else if k=1 then b else c
def Pq(sg mt:List Int)(h j:Nat):Nat:=if j=0 then xy sg mt h else if j=1 then rH sg mt h else if j=2 then ur sg mt h else yk sg mt h
def qM(sg mt:List Int)(f:Nat->Nat)(k:Nat):List Int:=(List.range 12).map fun j=>if j/4<k then((Pq sg mt (f (j/4)) (j%4):Nat):Int)else 0
theorem cK(sg mt:List Int)(f:Nat->Nat)(k:Nat):(qM sg mt f k).length=12:=by simp[qM]
theorem BB{sg mt:List Int}{f:Nat->Nat}{k j:Nat}(hj:j<12):gi (qM sg mt f k) j=if j/4<k then((Pq sg mt (f (j/4)) (j%4):Nat):Int)else 0:=by rw[fP (by rw[cK];exact hj)];simp[qM]
theorem Iq{sg mt:List Int}{f:Nat->Nat}{k h:Nat}(hk:k<3)(hf:f k=h):((((qM sg mt f k).set (k*4) (xy sg mt h:Int)).set (k*4+1) (rH sg mt h:Int)).set (k*4+2) (ur sg mt h:Int)).set (k*4+3) (yk sg mt h:Int)=qM sg mt f (k+1):=by
 refine mZ (by simp[cK]) fun j hj=>?_
 have YP:j<12:=by simpa[cK]using hj
 have l:=cK sg mt f k;rw[dB (by simp[l];omega),dB (by simp[l];omega),dB (by simp[l];omega),dB (by simp[l];omega),BB YP,BB YP];by_cases e:j/4=k
 ·rw[Re (show j/4<k+1 by omega),e,hf]
  unfold Pq;rcases(show j%4=0\/j%4=1\/j%4=2\/j%4=3 by omega)with m|m|m|m<;>rw[m]
  {rw[Rc oZ,Rc oZ,Rc oZ,Re oZ,Re rfl]};{rw[Rc oZ,Rc oZ,Re oZ,Rc oZ,Re rfl]};{rw[Rc oZ,Re oZ,Rc oZ,Rc oZ,Re rfl]};{rw[Re oZ,Rc oZ,Rc oZ,Rc oZ]}
 {rw[Rc oZ,Rc oZ,Rc oZ,Rc oZ];by_cases e':j/4<k;{rw[Re e',Re oZ]};{rw[Rc e',Rc oZ]}}
def FD(sg mt:List Int)(f:Nat->Nat):Nat->Nat
 |0=>0
 |k+1=>FD sg mt f k+if rH sg mt (f k)%2=1/\ur sg mt (f k)%2=1 then 1 else 0
def JO(sg mt:List Int)(f:Nat->Nat):Nat->Nat
 |0=>0
 |k+1=>JO sg mt f k+if rH sg mt (f k)%2=0/\ur sg mt (f k)%2=0 then 1 else 0
theorem Cf(sg mt:List Int)(f:Nat->Nat):∀k,FD sg mt f k<=k
 |0=>Rf _
 |k+1=>by have:=Cf sg mt f k;unfold FD;split<;>omega
theorem Cl(sg mt:List Int)(f:Nat->Nat):∀k,JO sg mt f k<=k
 |0=>Rf _
 |k+1=>by have:=Cl sg mt f k;unfold JO;split<;>omega
def nI(e:TypeId)(w:World)(b:Nat)(xs:List Int):Prop:=w.heap[b]?=some (.cells (xs.map (Value.int .i64)).toArray e (0,0))
section
variable{e:TypeId}{w w':World}{b:Nat}{xs:List Int}
theorem nI.lt(h:nI e w b xs):b<w.heap.size:=SL h
theorem nI.cell(h:nI e w b xs){k:Nat}(hk:k<xs.length):w.cell? ⟨b,k,none⟩=some (.int .i64 (gi xs k)):=by unfold nI at h;rw[Rt _ _ _ _ _ _ h];simp[fP hk,hk]
theorem nI.fz(h:nI e w b xs)(k:Nat):w.frozen? ⟨b,k,none⟩=false:=RD _ _ _ _ _ h
theorem nI.call(h:nI e w b xs)(hb:Below w.heap.size w w'):nI e w' b xs:=(hb.block b h.lt).trans h
theorem nI.set(h:nI e w b xs)(k:Nat)(z:Int):nI e (w.setCell ⟨b,k,none⟩ (.int .i64 z)) b (xs.set k z):=by
 have h':w.heap[b]'h.lt= .cells (xs.map (Value.int .i64)).toArray e (0,0):=by have:=h;unfold nI at this;simpa[R8 h.lt]using this
 show(w.heap.modify b _)[b]?=_;rw[R8 (by simpa using h.lt),SU,h'];show some (Obj.cells ((xs.map (Value.int .i64)).toArray.set! k (.int .i64 z)) e (0,0))=some (Obj.cells ((xs.set k z).map (Value.int .i64)).toArray e (0,0));rw[List.map_set];simp
end
structure I6(w wr:World)(A1 A2:Option Addr)(c1 c2:Nat)(sg mt:List Int)(L:Int)(xs:List Int):Prop where
 c0:wr.cell? ⟨w.heap.size,0,none⟩=some (.slice A1 sg.length c1)
 c1:wr.cell? ⟨w.heap.size,1,none⟩=some (.slice A2 mt.length c2)
 c2:wr.cell? ⟨w.heap.size,2,none⟩=some (.int .i64 L)
 zr:nI 91 wr (w.heap.size+1) (List.replicate 12 0)
 ed:nI 91 wr (w.heap.size+2) xs
 rs:RI wr (·<w.heap.size) A1 sg
 rm:RI wr (·<w.heap.size) A2 mt
 bel:Below w.heap.size w wr
section
variable{w wr w':World}{A1 A2:Option Addr}{c1 c2:Nat}{sg mt:List Int}{L:Int}{xs:List Int}
theorem I6.lt(h:I6 w wr A1 A2 c1 c2 sg mt L xs):w.heap.size+3<=wr.heap.size:=h.ed.lt
theorem I6.call(h:I6 w wr A1 A2 c1 c2 sg mt L xs)(hb:Below wr.heap.size wr w'):I6 w w' A1 A2 c1 c2 sg mt L xs:=by
 have hl:=h.lt;have o:∀i,w'.cell? ⟨w.heap.size,i,none⟩=wr.cell? ⟨w.heap.size,i,none⟩:=fun i=>hb.cell (p:=⟨w.heap.size,i,none⟩) oJ
 exact⟨(o _).trans h.c0,(o _).trans h.c1,(o _).trans h.c2,h.zr.call hb,h.ed.call hb,h.rs.ak fun b Vz=>hb.block b oZ,h.rm.ak fun b Vz=>hb.block b oZ,h.bel.trans (hb.mono oZ)⟩
theorem I6.st(h:I6 w wr A1 A2 c1 c2 sg mt L xs)(k:Nat)(z:Int):I6 w (wr.setCell ⟨w.heap.size+2,k,none⟩ (.int .i64 z)) A1 A2 c1 c2 sg mt L (xs.set k z):=by
 have hk:∀g,g≠w.heap.size+2->(wr.setCell ⟨w.heap.size+2,k,none⟩ (.int .i64 z)).heap[g]?=wr.heap[g]?:=fun g hg=>Rn _ _ _ _ hg
 have o:∀i,(wr.setCell ⟨w.heap.size+2,k,none⟩ (.int .i64 z)).cell? ⟨w.heap.size,i,none⟩=wr.cell? ⟨w.heap.size,i,none⟩:=fun i=>Ri (a:=⟨w.heap.size,i,none⟩) (hk _ oJ)
 exact⟨(o _).trans h.c0,(o _).trans h.c1,(o _).trans h.c2,(hk _ oZ).trans h.zr,h.ed.set k z,h.rs.ak fun b hb=>hk b oZ,h.rm.ak fun b hb=>hk b oZ,h.bel.setCell oJ _⟩
end
theorem Nn(w:World)(o0 o1 o2:Obj):(((w.alloc o0).alloc o1).alloc o2).heap[w.heap.size]?=some o0/\(((w.alloc o0).alloc o1).alloc o2).heap[w.heap.size+1]?=some o1/\(((w.alloc o0).alloc o1).alloc o2).heap[w.heap.size+2]?=some o2/\
  Below w.heap.size w (((w.alloc o0).alloc o1).alloc o2):=by
 refine⟨?_,?_,?_,(((Rh _ _).alloc (Rf _) _).alloc oX _).alloc qj _⟩;{rw[Rx _ _ _ qj,Rx _ _ _ oX];exact Ru _ _};{rw[Rx _ _ _ oX,show w.heap.size+1=(w.alloc o0).heap.size by simp];exact Ru _ _};{rw[show w.heap.size+2=((w.alloc o0).alloc o1).heap.size by simp];exact Ru _ _}
def Li(xs:List Int):Value:= .agg (xs.map (Value.int .i64)).toArray
theorem AV{xs:List Int}(h:xs.length=12):xs=[gi xs 0,gi xs 1,gi xs 2,gi xs 3,gi xs 4,gi xs 5,gi xs 6,gi xs 7,gi xs 8,gi xs 9,gi xs 10,gi xs 11]:=by
 refine mZ (by simp[h]) fun k hk=>?_
 rcases(oZ:k=0\/k=1\/k=2\/k=3\/k=4\/k=5\/k=6\/k=7\/k=8\/k=9\/k=10\/k=11)with rfl|rfl|rfl|rfl|rfl|rfl|rfl|rfl|rfl|rfl|rfl|rfl<;>rfl
def Qv(sg mt:List Int)(a:Nat)(w:World)(e:Ending)(w':World):Prop:=
 Below w.heap.size w w'/\((au mt (au mt (au mt a))=a/\a/4≠au mt a/4/\au mt a/4≠au mt (au mt a)/4/\au mt (au mt a)/4≠a/4/\FD sg mt (iI a (au mt a) (au mt (au mt a))) 3=1/\JO sg mt (iI a (au mt a) (au mt (au mt a))) 3=1/\
   e= .returned (.tuple #[Li (qM sg mt (iI a (au mt a) (au mt (au mt a))) 3),.bool true]))\/
  ∃xs:List Int,xs.length=12/\e= .returned (.tuple #[Li xs,.bool false]))
theorem Jf{sg mt:List Int}(hI:cP mt){a b c:Nat}(ha:a<mt.length)(hb:b<mt.length)(hc:c<mt.length)(eb:au mt a=b)(ec:au mt b=c)(ea:au mt c=a)(h:FD sg mt (iI a b c) 3=1):¬(a%2=b%2/\b%2=c%2):=by
 rintro⟨p1,p2⟩;have key:∀{x y:Nat},x<mt.length->au mt x=y->x%2=y%2->¬(rH sg mt x%2=1/\ur sg mt x%2=1):=by intro x y hx hy hp;have:=bQ y 1;rcases qW (sg:=sg) hI hx hy with⟨e1,e2,-,-⟩|⟨e1,e2,-,-⟩<;>rw[e1,e2]<;>omega
 have e:FD sg mt (iI a b c) 3=0:=by show 0+(if rH sg mt a%2=1/\ur sg mt a%2=1 then 1 else 0)+(if rH sg mt b%2=1/\ur sg mt b%2=1 then 1 else 0)+(if rH sg mt c%2=1/\ur sg mt c%2=1 then 1 else 0)=0;rw[Rc (key ha eb oZ),Rc (key hb ec oZ),Rc (key hc ea oZ)]
 omega
theorem nI.NK{e:TypeId}{w:World}{b:Nat}{v0 v1 v2 v3 v4 v5 v6 v7 v8 v9 v10 v11:Int}(h:nI e w b [v0,v1,v2,v3,v4,v5,v6,v7,v8,v9,v10,v11]):
  w.cell? ⟨b,0,none⟩=some (.int .i64 v0)/\w.cell? ⟨b,1,none⟩=some (.int .i64 v1)/\w.cell? ⟨b,2,none⟩=some (.int .i64 v2)/\w.cell? ⟨b,3,none⟩=some (.int .i64 v3)/\w.cell? ⟨b,4,none⟩=some (.int .i64 v4)/\w.cell? ⟨b,5,none⟩=some (.int .i64 v5)/\w.cell? ⟨b,6,none⟩=some (.int .i64 v6)/\w.cell? ⟨b,7,none⟩=some (.int .i64 v7)/\w.cell? ⟨b,8,none⟩=some (.int .i64 v8)/\w.cell? ⟨b,9,none⟩=some (.int .i64 v9)/\w.cell? ⟨b,10,none⟩=some (.int .i64 v10)/\w.cell? ⟨b,11,none⟩=some (.int .i64 v11)/\w.frozen? ⟨b,0,none⟩=false/\w.frozen? ⟨b,1,none⟩=false/\w.frozen? ⟨b,2,none⟩=false/\w.frozen? ⟨b,3,none⟩=false/\w.frozen? ⟨b,4,none⟩=false/\w.frozen? ⟨b,5,none⟩=false/\w.frozen? ⟨b,6,none⟩=false/\w.frozen? ⟨b,7,none⟩=false/\w.frozen? ⟨b,8,none⟩=false/\w.frozen? ⟨b,9,none⟩=false/\w.frozen? ⟨b,10,none⟩=false/\w.frozen? ⟨b,11,none⟩=false:=
 ⟨h.cell (k:=0) (oQ:0<12),h.cell (k:=1) (oQ:1<12),h.cell (k:=2) (oQ:2<12),h.cell (k:=3) (oQ:3<12),h.cell (k:=4) (oQ:4<12),h.cell (k:=5) (oQ:5<12),h.cell (k:=6) (oQ:6<12),h.cell (k:=7) (oQ:7<12),h.cell (k:=8) (oQ:8<12),h.cell (k:=9) (oQ:9<12),h.cell (k:=10) (oQ:10<12),h.cell (k:=11) (oQ:11<12),h.fz 0,h.fz 1,h.fz 2,h.fz 3,h.fz 4,h.fz 5,h.fz 6,h.fz 7,h.fz 8,h.fz 9,h.fz 10,h.fz 11⟩
theorem G9(y:Nat):(y%2=0/\((y:Int)%2==1)=false/\((y:Int)%2==0)=true)\/(y%2=1/\((y:Int)%2==1)=true/\((y:Int)%2==0)=false):=by
 rcases(oZ:y%2=0\/y%2=1)with h|h
 {exact .inl ⟨h,by rw[Rs];omega,by rw[SA];omega⟩};{exact .inr ⟨h,by rw[SA];omega,by rw[Rs];omega⟩}
theorem wK(A1 A2:Option Addr)(c1 c2:Nat)(sg mt:List Int)(L X:Int)(a:Nat)(w:World)(S:Nat->Prop)(hx:RI w S A1 sg)(hy:RI w S A2 mt)(hS:∀b,S b->b<w.heap.size)(hd:cJ sg mt L)(hX:X=a)(ha:a<mt.length):
  Calls Tryz.prog 56 #[.agg #[.slice A1 sg.length c1,.slice A2 mt.length c2,.int .i64 L],.int .i64 X] w (Qv sg mt a w):=by
 subst hX;have T0:Hid (I6 w (((w.alloc (.cells #[.slice A1 sg.length c1,.slice A2 mt.length c2,.int .i64 L] 24)).alloc (.cells #[.int .i64 0,.int .i64 0,.int .i64 0,.int .i64 0,.int .i64 0,.int .i64 0,.int .i64 0,.int .i64 0,.int .i64 0,.int .i64 0,.int .i64 0,.int .i64 0] 91)).alloc (.cells #[.int .i64 0,.int .i64 0,.int .i64 0,.int .i64 0,.int .i64 0,.int .i64 0,.int .i64 0,.int .i64 0,.int .i64 0,.int .i64 0,.int .i64 0,.int .i64 0] 91)) A1 A2 c1 c2 sg mt L (List.replicate 12 0)):=by obtain⟨e0,e1,e2,e6⟩:=Nn w (.cells #[.slice A1 sg.length c1,.slice A2 mt.length c2,.int .i64 L] 24) (.cells #[.int .i64 0,.int .i64 0,.int .i64 0,.int .i64 0,.int .i64 0,.int .i64 0,.int .i64 0,.int .i64 0,.int .i64 0,.int .i64 0,.int .i64 0,.int .i64 0] 91) (.cells #[.int .i64 0,.int .i64 0,.int .i64 0,.int .i64 0,.int .i64 0,.int .i64 0,.int .i64 0,.int .i64 0,.int .i64 0,.int .i64 0,.int .i64 0,.int .i64 0] 91);refine Rb ⟨?_,?_,?_,e1,e2,(hx.ak fun b hb=>e6.block b (hS b hb)).imp fun b hb=>hS b hb,(hy.ak fun b hb=>e6.block b (hS b hb)).imp fun b hb=>hS b hb,e6⟩<;>(rw[Rt _ _ _ _ _ _ e0];rfl)
 have hI:=hd.2.2.2.2.2.1;have h2:=hd.2.1;have VO:sg.length<=64:=hd.1;have tl:∀k,k<mt.length->au mt k<mt.length:=fun k hk=>by have:=af (gn mt k) 3;have:=(hI.gn hk).2.1;unfold au;omega
 obtain⟨b,hb⟩:∃b,au mt a=b:=⟨_,rfl⟩
 obtain⟨c,hc⟩:∃c,au mt b=c:=⟨_,rfl⟩
 obtain⟨d,hdd⟩:∃d,au mt c=d:=⟨_,rfl⟩
 have VF:b<mt.length:=by rw[<-hb];exact tl a ha
 have Vo:c<mt.length:=by rw[<-hc];exact tl b VF
 have hdl:d<mt.length:=by rw[<-hdd];exact tl c Vo
 have VQ:mt.length<=256:=oZ;unfold Qv;rw[hb,hc,hdd];have HI:=Rb hI;have H2:=Rb h2;have HB:=Rb hb;have HC:=Rb hc;have HDD:=Rb hdd;have k1:=T0.out.c1;clear hx hy hS hd hI h2 tl hb hc hdd;go_enter Tryz.func56,Tryz.ntmps56
 go_wp2_with fail;generalize hW:(((w.alloc (.cells #[.slice A1 sg.length c1,.slice A2 mt.length c2,.int .i64 L] 24)).alloc (.cells #[.int .i64 0,.int .i64 0,.int .i64 0,.int .i64 0,.int .i64 0,.int .i64 0,.int .i64 0,.int .i64 0,.int .i64 0,.int .i64 0,.int .i64 0,.int .i64 0] 91)).alloc (.cells #[.int .i64 0,.int .i64 0,.int .i64 0,.int .i64 0,.int .i64 0,.int .i64 0,.int .i64 0,.int .i64 0,.int .i64 0,.int .i64 0,.int .i64 0,.int .i64 0] 91))=wr at*;clear hW;have NX:Hid (∀(h v:Nat),h<mt.length->au mt h=v->Calls Tryz.prog 58 #[.slice A2 mt.length c2,.int .i64 (h:Int)] wr fun e w'=>e= .returned (.int .i64 (v:Int))/\wr=w'):=Rb fun h v hh hv=>by have:=cC A2 c2 mt (h:Int) h wr (·<w.heap.size) T0.out.rm HI.out oZ rfl hh;rw[hv]at this;exact this
 refine(NX.out a b ha HB.out).mono ?_;rintro e w1 ⟨rfl,rfl⟩;go_wp2_with fail;refine(NX.out b c VF HC.out).mono ?_;rintro e w1 ⟨rfl,rfl⟩;go_wp2_with fail;refine(NX.out c d Vo HDD.out).mono ?_;rintro e w1 ⟨rfl,rfl⟩;by_cases Vx:d=a/\a/4≠b/4/\b/4≠c/4/\c/4≠a/4
 case neg=>
  have hq:((d:Int)!=(a:Int))=true\/(((d:Int)!=(a:Int))=false/\(((a:Int)/4==(b:Int)/4)=true\/(((a:Int)/4==(b:Int)/4)=false/\(((b:Int)/4==(c:Int)/4)=true\/(((b:Int)/4==(c:Int)/4)=false/\((a:Int)/4==(c:Int)/4)=true))))):=by simp only[RZ,RK,SA,Rs];omega
  clear Vx;obtain⟨z0,z1,z2,z3,z4,z5,z6,z7,z8,z9,z10,z11,f0,f1,f2,f3,f4,f5,f6,f7,f8,f9,f10,f11⟩:=(show nI _ _ _ [0,0,0,0,0,0,0,0,0,0,0,0]from T0.out.zr).NK;obtain⟨e0,e1,e2,e3,e4,e5,e6,e7,e8,e9,e10,e11,-⟩:=(show nI _ _ _ [0,0,0,0,0,0,0,0,0,0,0,0]from T0.out.ed).NK;have Vg:=T0.out.lt;rcases hq with q1|⟨q1,q2|⟨q2,q3|⟨q3,q4⟩⟩⟩
  all_goals
   go_wp2_with fail;refine RC (v:= .tuple #[.agg #[.int .i64 0,.int .i64 0,.int .i64 0,.int .i64 0,.int .i64 0,.int .i64 0,.int .i64 0,.int .i64 0,.int .i64 0,.int .i64 0,.int .i64 0,.int .i64 0],.bool false]) (by simp[results,Tryz.results56,go_sem,z0,z1,z2,z3,z4,z5,z6,z7,z8,z9,z10,z11]) rfl ?_;refine⟨?_,.inr ⟨List.replicate 12 0,oX,rfl⟩⟩;(iterate 12 refine RM ?_ oJ _);exact T0.out.bel
 case pos=>
  have q1:((d:Int)!=(a:Int))=false:=by rw[RK];omega
  have q2:((a:Int)/4==(b:Int)/4)=false:=by rw[Rs];omega
  have q3:((b:Int)/4==(c:Int)/4)=false:=by rw[Rs];omega
  have q4:((a:Int)/4==(c:Int)/4)=false:=by rw[Rs];omega
  have HH:=Rb Vx;clear Vx;go_wp2_with fail;clear q1 q2 q3 q4;go_loopw[9,10,54] (fun ov un i wx=>∃k:Nat,k<=3/\i= .int .i64 k/\ov= .int .i64 (FD sg mt (iI a b c) k:Nat)/\un= .int .i64 (JO sg mt (iI a b c) k:Nat)/\Hid (I6 w wx A1 A2 c1 c2 sg mt L (qM sg mt (iI a b c) k))) (fun _ _ i _=>3-(intOf i).toNat)
  case atStart=>exact⟨0,oZ,rfl,rfl,rfl,T0⟩
  case round=>
   obtain⟨k,hk,rfl,rfl,rfl,T1⟩:=hrel;clear k1 NX T0;have k0:=T1.out.c0;have k1:=T1.out.c1;have k2:=T1.out.c2;by_cases hk3:k<3
   ·obtain⟨x,hx⟩:∃x,iI a b c k=x:=⟨_,rfl⟩
    have V7:x<mt.length:=by rw[<-hx];unfold iI;split;exact ha;split;exact VF;exact Vo
    have i0:∀w,(Instr.index 120 (.agg #[.int .i64 (a:Int),.int .i64 (b:Int),.int .i64 (c:Int)]) (.int .i64 (k:Int))).run Tryz.prog w= .ok (.int .i64 (x:Int)) w:=by
     intro w;rw[<-hx];rcases(oZ:k=0\/k=1\/k=2)with rfl|rfl|rfl
     {exact K1 _ _ _ _};{exact KC _ _ _ _};{exact Km _ _ _ _}
    have HX:=Rb hx;obtain⟨p,hp⟩:∃p,FD sg mt (iI a b c) k=p:=⟨_,rfl⟩
    obtain⟨q,hq⟩:∃q,JO sg mt (iI a b c) k=q:=⟨_,rfl⟩
    have hp3:p<=k:=by rw[<-hp];exact Cf _ _ _ _
    have hq3:q<=k:=by rw[<-hq];exact Cl _ _ _ _
    rw[hp,hq];have HP:=Rb hp;have HQ:=Rb hq;clear hx hp hq;go_wp2_with fail;clear i0;refine(iG A1 A2 c1 c2 mt.length sg L _ x _ (·<w.heap.size) T1.out.rs (fun b hb=>by have:=T1.out.lt;omega) oZ rfl (by have:=H2.out;omega)).mono ?_;rintro e w2 ⟨rfl,Vj⟩;have T2:=Rb (T1.out.call Vj);clear Vj k0 k1 k2 T1;have k1:=T2.out.c1;obtain⟨bm,off,e9,-,-⟩:=T2.out.rm.at_ V7;subst e9;obtain⟨gx,gxl,-,gxx⟩:=HI.out.gn V7;obtain⟨y,hy⟩:∃y,gn mt x=y:=⟨_,rfl⟩
    rw[hy]at gx gxl gxx;have kx:=aN T2.out.rm V7;have ky:=aN T2.out.rm gxl;rw[gx]at kx;rw[(HI.out.gn gxl).1,gxx]at ky;have HY:Hid (gn mt x=y/\gn mt y=x):=⟨hy,gxx⟩;clear gx gxx hy;have VP:=T2.out.lt;have p0:=T2.out.ed.cell (k:=k*4) (by rw[cK];omega);have p1:=T2.out.ed.cell (k:=k*4+1) (by rw[cK];omega);have p2:=T2.out.ed.cell (k:=k*4+2) (by rw[cK];omega);have p3:=T2.out.ed.cell (k:=k*4+3) (by rw[cK];omega);have f0:=T2.out.ed.fz (k*4);have f1:=T2.out.ed.fz (k*4+1);have f2:=T2.out.ed.fz (k*4+2);have f3:=T2.out.ed.fz (k*4+3);have hO:∃o i,Hid (rH sg mt x=o/\ur sg mt x=i/\xy sg mt x=ae o 2/\yk sg mt x=ae i 2)/\((ai sg x=false/\o=y/\i=x)\/(ai sg x=true/\o=x/\i=y)):=by
     refine⟨_,_,Rb ⟨rfl,rfl,rfl,rfl⟩,?_⟩;unfold ur rH
     cases ai sg x
     {exact .inl ⟨rfl,HY.out.1,(congrArg (gn mt) HY.out.1).trans HY.out.2⟩};{exact .inr ⟨rfl,rfl,HY.out.1⟩}
    obtain⟨o,i,HE,hoi⟩:=hO;rcases hoi with⟨Vu,rfl,rfl⟩|⟨Vu,rfl,rfl⟩
    all_goals
     rw[Vu];clear Vu;go_wp2_with fail;refine(dF o _ rfl oZ).mono ?_;rintro e w3 ⟨rfl,rfl⟩;go_wp2_with fail;refine(dF i _ rfl oZ).mono ?_;rintro e w3 ⟨rfl,rfl⟩;have hv:FD sg mt (iI a b c) (k+1)=p+(if o%2=1/\i%2=1 then 1 else 0)/\JO sg mt (iI a b c) (k+1)=q+(if o%2=0/\i%2=0 then 1 else 0):=by obtain⟨e1,e2,-,-⟩:=HE.out;refine⟨?_,?_⟩;{show FD sg mt (iI a b c) k+_=_;rw[HP.out,HX.out,e1,e2]};{show JO sg mt (iI a b c) k+_=_;rw[HQ.out,HX.out,e1,e2]}
     rcases G9 o with⟨po,o1,o0⟩|⟨po,o1,o0⟩<;>rcases G9 i with⟨pi,i1,i0⟩|⟨pi,i1,i0⟩
     all_goals
      simp only[po,pi,and_self,UZ,if_true,UG,Tx,Nat.zero_ne_one,Nat.one_ne_zero,U']at hv;have HV:=Rb hv;clear po pi hv;go_wp2_with fail;clear o1 i1 o0 i0;go_roundw
      case rel=>refine⟨k+1,oZ,by go_num,by rw[HV.out.1]<;>go_num,by rw[HV.out.2]<;>go_num,?_⟩;have hT:=(((T2.out.st (k*4) (ae o 2:Nat)).st (k*4+1) (o:Int)).st (k*4+2) (i:Int)).st (k*4+3) (ae i 2:Nat);obtain⟨e1,e2,e3,e4⟩:=HE.out;rw[<-Iq hk3 HX.out,e1,e2,e3,e4];exact Rb hT
      case measure=>simp[intOf];omega
   ·obtain rfl:k=3:=oZ
    obtain⟨p,hp⟩:∃p,FD sg mt (iI a b c) 3=p:=⟨_,rfl⟩
    obtain⟨q,hq⟩:∃q,JO sg mt (iI a b c) 3=q:=⟨_,rfl⟩
    have hp3:p<=3:=by rw[<-hp];exact Cf _ _ _ _
    have hq3:q<=3:=by rw[<-hq];exact Cl _ _ _ _
    rw[hp,hq];have HP:=Rb hp;have HQ:=Rb hq;clear hp hq k0 k1 k2;have E:=T1.out.ed;have Vg:=T1.out.lt;obtain⟨z0,z1,z2,z3,z4,z5,z6,z7,z8,z9,z10,z11,f0,f1,f2,f3,f4,f5,f6,f7,f8,f9,f10,f11⟩:=(show nI _ _ _ [0,0,0,0,0,0,0,0,0,0,0,0]from T1.out.zr).NK;obtain⟨v0,v1,v2,v3,v4,v5,v6,v7,v8,v9,v10,v11,hv⟩:∃v0 v1 v2 v3 v4 v5 v6 v7 v8 v9 v10 v11:Int,qM sg mt (iI a b c) 3=[v0,v1,v2,v3,v4,v5,v6,v7,v8,v9,v10,v11]:=⟨_,_,_,_,_,_,_,_,_,_,_,_,AV (cK _ _ _ _)⟩
    have HAG:Hid (Li (qM sg mt (iI a b c) 3)= .agg #[.int .i64 v0,.int .i64 v1,.int .i64 v2,.int .i64 v3,.int .i64 v4,.int .i64 v5,.int .i64 v6,.int .i64 v7,.int .i64 v8,.int .i64 v9,.int .i64 v10,.int .i64 v11]):=Rb (by rw[hv];rfl);rw[hv]at E;obtain⟨e0,e1,e2,e3,e4,e5,e6,e7,e8,e9,e10,e11,-⟩:=E.NK;clear E hv;have hs:(p=1/\q=1/\((p:Int)==1)=true/\((q:Int)==1)=true)\/(((p:Int)==1)=true/\((q:Int)==1)=false)\/((p:Int)==1)=false:=by simp only[SA,Rs];omega
    rcases hs with⟨p1,q1,s1,s2⟩|⟨s1,s2⟩|s1
    {have HPQ:Hid (p=1/\q=1):=⟨p1,q1⟩;clear p1 q1;go_wp2_with fail;refine RC (v:= .tuple #[.agg #[.int .i64 v0,.int .i64 v1,.int .i64 v2,.int .i64 v3,.int .i64 v4,.int .i64 v5,.int .i64 v6,.int .i64 v7,.int .i64 v8,.int .i64 v9,.int .i64 v10,.int .i64 v11],.bool true]) (by simp[results,Tryz.results56,go_sem,z0,z1,z2,z3,z4,z5,z6,z7,z8,z9,z10,z11]) rfl ?_;refine⟨?_,.inl ⟨HH.out.1,HH.out.2.1,HH.out.2.2.1,HH.out.2.2.2,HP.out.trans HPQ.out.1,HQ.out.trans HPQ.out.2,by rw[HAG.out]⟩⟩;(iterate 12 refine RM ?_ oJ _);exact T1.out.bel}
    all_goals
     go_wp2_with fail;refine RC (v:= .tuple #[.agg #[.int .i64 v0,.int .i64 v1,.int .i64 v2,.int .i64 v3,.int .i64 v4,.int .i64 v5,.int .i64 v6,.int .i64 v7,.int .i64 v8,.int .i64 v9,.int .i64 v10,.int .i64 v11],.bool false]) (by simp[results,Tryz.results56,go_sem,z0,z1,z2,z3,z4,z5,z6,z7,z8,z9,z10,z11]) rfl ?_;refine⟨?_,.inr ⟨_,cK _ _ _ _,by rw[HAG.out]⟩⟩;(iterate 12 refine RM ?_ oJ _);exact T1.out.bel
structure BM(w wr:World)(A1 A2:Option Addr)(c1 c2:Nat)(sg mt:List Int)(kd X Y s:Int)(ov:Bool)(be gt:Nat)(xs tl:List Int):Prop where
 mo:oF w wr A1 A2 c1 c2 sg mt 0 kd X Y s ov
 ed:nI 91 wr be xs
 tl:OI wr (w.heap.size+4) (.slice (some ⟨gt,0,none⟩) mt.length mt.length) tl
 hb:w.heap.size+4<=be
 ht:w.heap.size+4<=gt
 ne:be≠gt
structure sD(w wr:World)(A1 A2:Option Addr)(c1 c2:Nat)(sg mt:List Int)(kd X Y s:Int)(ov:Bool)(be gt go:Nat)(xs tl:List Int)(bs:List Bool):Prop where
 a:BM w wr A1 A2 c1 c2 sg mt kd X Y s ov be gt xs tl
 ou:OB wr (w.heap.size+4) (.slice (some ⟨go,0,none⟩) mt.length mt.length) bs
 ho:w.heap.size+4<=go
 n1:be≠go
 n2:gt≠go
structure I4(w wr:World)(A1 A2:Option Addr)(c1 c2:Nat)(sg mt:List Int)(kd X Y s:Int)(ov:Bool)(be gt go:Nat)(xs tl:List Int)(bs:List Bool)(br gr n5 k5:Nat)(v1:Value)(ys:List Int):Prop where
 b:sD w wr A1 A2 c1 c2 sg mt kd X Y s ov be gt go xs tl bs
 nw:GV wr (w.heap.size+4) br v1 (.slice (some ⟨gr,0,none⟩) n5 k5) sg ys 0
 hr:w.heap.size+4<=gr
 m1:be≠gr
 m2:gt≠gr
 m3:go≠gr
section
variable{w wr w':World}{A1 A2:Option Addr}{c1 c2:Nat}{sg mt:List Int}{kd X Y s:Int}{ov:Bool}{be gt go:Nat}{xs tl tl':List Int}{bs Zj:List Bool}{br gr n5 k5:Nat}{v1:Value}{ys ys':List Int}
theorem nI.mod{e:TypeId}{b g:Nat}(h:nI e wr b xs)(hm:Mod g wr w')(hn:b≠g):nI e w' b xs:=(hm.ak b hn).trans h
theorem OR.mod{α:Type}{e:TypeId}{f:α->Value}{B g b n c:Nat}{zs:List α}(h:OR e f wr B (.slice (some ⟨b,0,none⟩) n c) zs)(hm:Mod g wr w')(hn:b≠g):OR e f w' B (.slice (some ⟨b,0,none⟩) n c) zs:=
 h.ak fun g' X6=>hm.ak _ (fun e=>hn (by rw[<-e];injection X6))
theorem BM.call(h:BM w wr A1 A2 c1 c2 sg mt kd X Y s ov be gt xs tl)(hb:Below wr.heap.size wr w'):BM w w' A1 A2 c1 c2 sg mt kd X Y s ov be gt xs tl:=⟨h.mo.call hb,h.ed.call hb,h.tl.below hb (Rf _),h.hb,h.ht,h.ne⟩
theorem BM.J3(h:BM w wr A1 A2 c1 c2 sg mt kd X Y s ov be gt xs tl)(hm:Mod gt wr w')(ho:OI w' (w.heap.size+4) (.slice (some ⟨gt,0,none⟩) mt.length mt.length) tl'):BM w w' A1 A2 c1 c2 sg mt kd X Y s ov be gt xs tl':=⟨h.mo.mod hm h.ht,h.ed.mod hm h.ne,ho,h.hb,h.ht,h.ne⟩
theorem BM.mod{g:Nat}(h:BM w wr A1 A2 c1 c2 sg mt kd X Y s ov be gt xs tl)(hm:Mod g wr w')(hg:w.heap.size+4<=g)(h1:be≠g)(h2:gt≠g):BM w w' A1 A2 c1 c2 sg mt kd X Y s ov be gt xs tl:=⟨h.mo.mod hm hg,h.ed.mod hm h1,h.tl.mod hm h2,h.hb,h.ht,h.ne⟩
theorem sD.call(h:sD w wr A1 A2 c1 c2 sg mt kd X Y s ov be gt go xs tl bs)(hb:Below wr.heap.size wr w'):sD w w' A1 A2 c1 c2 sg mt kd X Y s ov be gt go xs tl bs:=⟨h.a.call hb,h.ou.below hb (Rf _),h.ho,h.n1,h.n2⟩
theorem sD.J3(h:sD w wr A1 A2 c1 c2 sg mt kd X Y s ov be gt go xs tl bs)(hm:Mod gt wr w')(ho:OI w' (w.heap.size+4) (.slice (some ⟨gt,0,none⟩) mt.length mt.length) tl'):sD w w' A1 A2 c1 c2 sg mt kd X Y s ov be gt go xs tl' bs:=⟨h.a.J3 hm ho,h.ou.mod hm h.n2.symm,h.ho,h.n1,h.n2⟩
theorem sD.Py(h:sD w wr A1 A2 c1 c2 sg mt kd X Y s ov be gt go xs tl bs)(hm:Mod go wr w')(ho:OB w' (w.heap.size+4) (.slice (some ⟨go,0,none⟩) mt.length mt.length) Zj):sD w w' A1 A2 c1 c2 sg mt kd X Y s ov be gt go xs tl Zj:=⟨h.a.mod hm h.ho h.n1 h.n2,ho,h.ho,h.n1,h.n2⟩
theorem sD.mod{g:Nat}(h:sD w wr A1 A2 c1 c2 sg mt kd X Y s ov be gt go xs tl bs)(hm:Mod g wr w')(hg:w.heap.size+4<=g)(h1:be≠g)(h2:gt≠g)(h3:go≠g):sD w w' A1 A2 c1 c2 sg mt kd X Y s ov be gt go xs tl bs:=⟨h.a.mod hm hg h1 h2,h.ou.mod hm h3,h.ho,h.n1,h.n2⟩
theorem I4.call(h:I4 w wr A1 A2 c1 c2 sg mt kd X Y s ov be gt go xs tl bs br gr n5 k5 v1 ys)(hb:Below wr.heap.size wr w'):I4 w w' A1 A2 c1 c2 sg mt kd X Y s ov be gt go xs tl bs br gr n5 k5 v1 ys:=⟨h.b.call hb,h.nw.call hb,h.hr,h.m1,h.m2,h.m3⟩
theorem I4.OC(h:I4 w wr A1 A2 c1 c2 sg mt kd X Y s ov be gt go xs tl bs br gr n5 k5 v1 ys)(hm:Mod gr wr w')(ho:OI w' (w.heap.size+4) (.slice (some ⟨gr,0,none⟩) n5 k5) ys'):I4 w w' A1 A2 c1 c2 sg mt kd X Y s ov be gt go xs tl bs br gr n5 k5 v1 ys':=⟨h.b.mod hm h.hr h.m1 h.m2 h.m3,h.nw.mod hm ho,h.hr,h.m1,h.m2,h.m3⟩
end
section
variable{w wr:World}{A1 A2:Option Addr}{c1 c2:Nat}{sg mt:List Int}{kd X Y s:Int}{ov:Bool}{be gt go:Nat}{xs tl:List Int}{bs:List Bool}
theorem BM.put(h:BM w wr A1 A2 c1 c2 sg mt kd X Y s ov be gt xs tl)(hl:tl.length=mt.length)(k:Nat)(z:Int):BM w (wr.setCell ⟨gt,k,none⟩ (.int .i64 z)) A1 A2 c1 c2 sg mt kd X Y s ov be gt xs (tl.set k z):=by refine h.J3 ((Mod.refl gt wr).set k _) ?_;have h':=h.tl;rw[show(Value.slice (some ⟨gt,0,none⟩) mt.length mt.length)= .slice (some ⟨gt,0,none⟩) tl.length mt.length by rw[hl]]at h';have:=h'.stored (k:=k) z;rw[Ry,hl]at this;exact this
theorem sD.put(h:sD w wr A1 A2 c1 c2 sg mt kd X Y s ov be gt go xs tl bs)(hl:tl.length=mt.length)(k:Nat)(z:Int):sD w (wr.setCell ⟨gt,k,none⟩ (.int .i64 z)) A1 A2 c1 c2 sg mt kd X Y s ov be gt go xs (tl.set k z) bs:=
 h.J3 ((Mod.refl gt wr).set k _) (h.a.put hl k z).tl
theorem sD.N9(h:sD w wr A1 A2 c1 c2 sg mt kd X Y s ov be gt go xs tl bs)(hl:bs.length=mt.length)(k:Nat)(z:Bool):sD w (wr.setCell ⟨go,k,none⟩ (.bool z)) A1 A2 c1 c2 sg mt kd X Y s ov be gt go xs tl (bs.set k z):=by refine h.Py ((Mod.refl go wr).set k _) ?_;have h':=h.ou;rw[show(Value.slice (some ⟨go,0,none⟩) mt.length mt.length)= .slice (some ⟨go,0,none⟩) bs.length mt.length by rw[hl]]at h';have:=h'.stored (k:=k) z;rw[Ry,hl]at this;exact this
end
def FC(w:World)(b:Nat)(x:Int):Prop:=w.heap[b]?=some (.cells #[.int .i64 5,.int .i64 x,.int .i64 0,.int .i64 0,.bool false] 26 (0,0))
theorem FC.at_{w:World}{b:Nat}{x:Int}(h:FC w b x):w.cell? ⟨b,0,none⟩=some (.int .i64 5)/\w.cell? ⟨b,1,none⟩=some (.int .i64 x)/\w.cell? ⟨b,2,none⟩=some (.int .i64 0)/\w.cell? ⟨b,3,none⟩=some (.int .i64 0)/\w.cell? ⟨b,4,none⟩=some (.bool false):=by unfold FC at h;refine⟨?_,?_,?_,?_,?_⟩<;>(rw[Rt _ _ _ _ _ _ h];rfl)
theorem FC.fz{w:World}{b:Nat}{x:Int}(h:FC w b x)(k:Nat):w.frozen? ⟨b,k,none⟩=false:=RD _ _ _ _ _ h
theorem FC.set{w:World}{b:Nat}{x:Int}(h:FC w b x)(z:Int):FC (w.setCell ⟨b,1,none⟩ (.int .i64 z)) b z:=by
 have hl:b<w.heap.size:=SL h;have h':w.heap[b]'hl= .cells #[.int .i64 5,.int .i64 x,.int .i64 0,.int .i64 0,.bool false] 26 (0,0):=by have:=h;unfold FC at this;simpa[R8 hl]using this
 show(w.heap.modify b _)[b]?=_;rw[R8 (by simpa using hl),SU,h'];rfl
theorem LL{w:World}{B g n c:Nat}{xs:List Int}(h:OI w B (.slice (some ⟨g,0,none⟩) n c) xs):RI w (·<w.heap.size) (some ⟨g,0,none⟩) xs:=by
 obtain⟨A',c',e',-,-,hr⟩:=h.reads;injection e' with e1 e2 e3
 subst e1;exact hr.imp fun b hb=>hb.2
def IW(n k:Nat):List Int:=(List.range n).map fun j=>if j<k then(j:Int)else 0
theorem cL(n k:Nat):(IW n k).length=n:=by simp[IW]
theorem xn{n k j:Nat}(hj:j<n):gi (IW n k) j=if j<k then(j:Int)else 0:=by rw[fP (by rw[cL];exact hj)];simp[IW]
theorem Hj(n:Nat):IW n 0=List.replicate n 0:=by
 refine mZ (by rw[cL,Sd]) fun j hj=>?_
 rw[cL]at hj;rw[xn hj,ir hj,Rc oZ]
theorem GL{n k:Nat}(hk:k<n):(IW n k).set k (k:Int)=IW n (k+1):=by
 refine mZ (by rw[Ry,cL,cL]) fun j hj=>?_
 rw[Ry,cL]at hj;rw[dB (by rw[cL];exact hk),xn hj,xn hj];by_cases e:j=k;{rw[Re e,Re oZ,e]};{rw[Rc e];by_cases e':j<k;{rw[Re e',Re oZ]};{rw[Rc e',Rc oZ]}}
theorem J9(n:Nat):IW n n=Kd n:=by
 refine mZ (by rw[cL,gC]) fun j hj=>?_
 rw[cL]at hj;rw[xn hj,Ba hj,Re hj]
def oY(sg mt:List Int)(f:Nat->Nat):Nat->List Int
 |0=>Kd mt.length
 |k+1=>LA sg mt (oY sg mt f k) (f k)
def o_(sg mt:List Int)(f:Nat->Nat):Nat->List Bool
 |0=>List.replicate mt.length false
 |k+1=>Lc sg mt (o_ sg mt f k) (f k)
def I1(sg mt ys:List Int)(f:Nat->Nat):Nat->List Int
 |0=>ys
 |k+1=>K9 sg mt (I1 sg mt ys f k) (f k)
theorem dk(sg mt:List Int)(f:Nat->Nat):∀k,(oY sg mt f k).length=mt.length
 |0=>gC _
 |k+1=>(iH _ _ _ _).trans (dk sg mt f k)
theorem bW(sg mt:List Int)(f:Nat->Nat):∀k,(o_ sg mt f k).length=mt.length
 |0=>Sd
 |k+1=>(iF _ _ _ _).trans (bW sg mt f k)
theorem kJ(sg mt ys:List Int)(f:Nat->Nat):∀k,(I1 sg mt ys f k).length=ys.length
 |0=>rfl
 |k+1=>(al _ _ _).trans (kJ sg mt ys f k)
def vL(xs:List Int):Prop:=∀k,k<xs.length->gi xs k=(gn xs k:Int)/\gn xs k<xs.length
theorem vL.jn{xs:List Int}(h:vL xs){a b:Nat}(ha:a<xs.length)(hb:b<xs.length):vL (bH xs a b):=by intro k hk;rw[al]at hk⊢;rw[bO ha hb,pP ha hb];split;{exact⟨rfl,ha⟩};{split;{exact⟨rfl,hb⟩};{exact h k hk}}
theorem vL.set{xs:List Int}(h:vL xs){k z:Nat}(hz:z<xs.length)(hk:k<xs.length):vL (xs.set k (z:Int)):=by intro j hj;rw[Ry]at hj⊢;rw[rO hk,dB hk];split;{exact⟨oX,by simpa using hz⟩};{exact h j hj}
theorem vL.id(n:Nat):vL (Kd n):=by intro k hk;rw[gC]at hk⊢;unfold gn;rw[Ba hk];exact⟨oX,by simpa using hk⟩
theorem vL.oU{tl:List Int}{ou:List Bool}{mt:List Int}(h:vL mt)(ht:∀k,k<mt.length->gn tl k<mt.length):∀k,k<=mt.length->vL (oU tl ou mt k)
 |0,_=>h
 |k+1,hk=>by have ih:=vL.oU (ou:=ou) h ht k oZ;show vL (if _ then _ else _);split;{exact ih.jn (by rw[dI];exact ht _ oZ) (by rw[dI];exact ht _ (h k oZ).2)};{exact ih}
theorem GG(A:Option Addr)(c n:Nat)(mt:List Int)(a:Int)(h:Nat)(w:World)(S:Nat->Prop)(hy:RI w S A mt)(hg:vL mt)(hl:mt.length<=400000)(hn:mt.length=n)(ha:a=h)(hh:h<mt.length):
  Calls Tryz.prog 58 #[.slice A n c,.int .i64 a] w fun e w'=>e= .returned (.int .i64 (au mt h:Nat))/\w=w':=by
 subst ha hn;obtain⟨Vs,Vv⟩:=hg h hh;obtain⟨b,off,rfl,-,hc⟩:=hy.at_ hh;have k2:=hc h hh;rw[Vs]at k2;have HG:=Rb Vv;clear hc hg hy Vs Vv;go_enter Tryz.func58,Tryz.ntmps58
 go_wp2_with fail;refine(nK (gn mt h) 3 _ rfl (by have:=HG.out;omega) oQ).mono ?_;rintro e w1 ⟨rfl,rfl⟩;go_wp2_with fail;go_ret;exact⟨rfl,rfl⟩
theorem Fi{xs:List Int}(h:xs.length=12):Li xs= .agg #[.int .i64 (gi xs 0),.int .i64 (gi xs 1),.int .i64 (gi xs 2),.int .i64 (gi xs 3),.int .i64 (gi xs 4),.int .i64 (gi xs 5),.int .i64 (gi xs 6),.int .i64 (gi xs 7),.int .i64 (gi xs 8),.int .i64 (gi xs 9),.int .i64 (gi xs 10),.int .i64 (gi xs 11)]:=(congrArg Li (AV h)).trans rfl
theorem N0(v0 v1 v2 v3 v4 v5 v6 v7 v8 v9 v10 v11:Value)(w:World):(Instr.index 91 (.agg #[v0,v1,v2,v3,v4,v5,v6,v7,v8,v9,v10,v11]) (.int .i64 0)).run Tryz.prog w= .ok (.agg #[v0,v1,v2,v3]) w:=by kernel_rfl
theorem NQ(v0 v1 v2 v3 v4 v5 v6 v7 v8 v9 v10 v11:Value)(w:World):(Instr.index 91 (.agg #[v0,v1,v2,v3,v4,v5,v6,v7,v8,v9,v10,v11]) (.int .i64 1)).run Tryz.prog w= .ok (.agg #[v4,v5,v6,v7]) w:=by kernel_rfl
theorem N3(v0 v1 v2 v3 v4 v5 v6 v7 v8 v9 v10 v11:Value)(w:World):(Instr.index 91 (.agg #[v0,v1,v2,v3,v4,v5,v6,v7,v8,v9,v10,v11]) (.int .i64 2)).run Tryz.prog w= .ok (.agg #[v8,v9,v10,v11]) w:=by kernel_rfl
theorem C'{sg mt:List Int}{f:Nat->Nat}{k x:Nat}(hk:k<3)(hf:f k=x)(w:World):(Instr.index 91 (Li (qM sg mt f 3)) (.int .i64 (k:Int))).run Tryz.prog w= .ok (.agg #[.int .i64 (xy sg mt x:Int),.int .i64 (rH sg mt x:Int),.int .i64 (ur sg mt x:Int),.int .i64 (yk sg mt x:Int)]) w:=by
 subst hf;rw[Fi (cK _ _ _ _)];have e:∀j,j<12->gi (qM sg mt f 3) j=((Pq sg mt (f (j/4)) (j%4):Nat):Int):=fun j hj=>by rw[BB hj,Re oZ]
 rcases(oZ:k=0\/k=1\/k=2)with rfl|rfl|rfl
 {refine(N0 _ _ _ _ _ _ _ _ _ _ _ _ w).trans ?_;rw[e 0 oQ,e 1 oQ,e 2 oQ,e 3 oQ];rfl};{refine(NQ _ _ _ _ _ _ _ _ _ _ _ _ w).trans ?_;rw[e 4 oQ,e 5 oQ,e 6 oQ,e 7 oQ];rfl};{refine(N3 _ _ _ _ _ _ _ _ _ _ _ _ w).trans ?_;rw[e 8 oQ,e 9 oQ,e 10 oQ,e 11 oQ];rfl}
theorem Du{sg mt:List Int}{L:Int}(hd:cJ sg mt L){h:Nat}(hh:h<mt.length):xy sg mt h<mt.length/\rH sg mt h<mt.length/\ur sg mt h<mt.length/\yk sg mt h<mt.length/\¬xy sg mt h=yk sg mt h:=by
 have hI:=hd.2.2.2.2.2.1;have h2:=hd.2.1;have o:rH sg mt h<mt.length:=by unfold rH;split;exact hh;exact(hI.gn hh).2.1
 have i:ur sg mt h<mt.length:=(hI.gn o).2.1;exact⟨by unfold xy;have:=af (rH sg mt h) 2;omega,o,i,by unfold yk;have:=af (ur sg mt h) 2;omega,fun e=>(hI.gn o).2.2.1 (dC e.symm)⟩
theorem FJ{sg mt:List Int}{L:Int}(hd:cJ sg mt L){f:Nat->Nat}(hf:∀k,k<3->f k<mt.length):∀k,k<=3->vL (oY sg mt f k)
 |0,_=>vL.id _
 |k+1,hk=>by obtain⟨h1,h2,h3,h4,-⟩:=Du hd (hf k oZ);have ih:=FJ hd hf k oZ;have l:=dk sg mt f k;exact(ih.set (by rw[l];exact h3) (by rw[l];exact h1)).set (by rw[Ry,l];exact h2) (by rw[Ry,l];exact h4)
theorem FH{sg mt:List Int}{L:Int}(hd:cJ sg mt L){f:Nat->Nat}(hf:∀k,k<3->f k<mt.length){ys:List Int}(hy:vL ys)(hl:ys.length=mt.length):∀k,k<=3->vL (I1 sg mt ys f k)
 |0,_=>hy
 |k+1,hk=>by obtain⟨h1,-,-,h4,-⟩:=Du hd (hf k oZ);have l:=(kJ sg mt ys f k).trans hl;exact(FH hd hf hy hl k oZ).jn (by rw[l];exact h1) (by rw[l];exact h4)
theorem mQ(W:World):W.drew.heap=W.heap:=rfl
theorem Ov{g b1 b2 b3 b4 k1 k2 k3 k4 b5 k5:Nat}{wr w':World}{v1 v2 v3 v4 v5:Value}(n1:b1≠g)(n2:b2≠g)(n3:b3≠g)(n4:b4≠g)(n5:b5≠g)(h1:wr.cell? ⟨b1,k1,none⟩=some v1)(h2:wr.cell? ⟨b2,k2,none⟩=some v2)(h3:wr.cell? ⟨b3,k3,none⟩=some v3)(h4:wr.cell? ⟨b4,k4,none⟩=some v4)(h5:wr.cell? ⟨b5,k5,none⟩=some v5)(h:Mod g wr w'):
  w'.cell? ⟨b1,k1,none⟩=some v1/\w'.cell? ⟨b2,k2,none⟩=some v2/\w'.cell? ⟨b3,k3,none⟩=some v3/\w'.cell? ⟨b4,k4,none⟩=some v4/\w'.cell? ⟨b5,k5,none⟩=some v5:=⟨h.cell n1 h1,h.cell n2 h2,h.cell n3 h3,h.cell n4 h4,h.cell n5 h5⟩
theorem Ed(A1 A2:Option Addr)(c1 c2:Nat)(sg mt:List Int)(L kd X Y s:Int)(ov:Bool)(w:World)(S:Nat->Prop)(hx:RI w S A1 sg)(hy:RI w S A2 mt)(hS:∀b,S b->b<w.heap.size)(hd:cJ sg mt L)(hL:L=0)(hX:0<=X/\X<4*sg.length):
  Calls Tryz.prog 24 #[.agg #[.slice A1 sg.length c1,.slice A2 mt.length c2,.int .i64 L],.agg #[.int .i64 kd,.int .i64 X,.int .i64 Y,.int .i64 s,.bool ov]] w
   (Mq w fun sg' mt' L'=>∃a b c:Nat,X=a/\a<mt.length/\au mt a=b/\au mt b=c/\au mt c=a/\a/4≠b/4/\b/4≠c/4/\c/4≠a/4/\¬(a%2=b%2/\b%2=c%2)/\sg'=sg/\mt'=GK sg mt a/\L'=0):=by
 subst hL;obtain⟨a,rfl⟩:∃c:Nat,X=c:=⟨X.toNat,oZ⟩
 have ha:a<mt.length:=by have:=hd.2.1;omega
 have T0:=Rb (oF.start (c1:=c1) (c2:=c2) (L:=0) (kd:=kd) (X:=(a:Int)) (Y:=Y) (s:=s) (ov:=ov) hx hy hS);have HD:=Rb hd;have VO:sg.length<=64:=hd.1;have VQ:mt.length<=256:=by have:=hd.2.1;omega
 have k0:=T0.out.c0;have k1:=T0.out.c1;have k2:=T0.out.c2;have n1:=T0.out.m1;clear hx hy hS hd hX;go_enter Tryz.func24,Tryz.ntmps24
 go_wp2_with fail;generalize hW:((((w.alloc (.cells #[.slice A1 sg.length c1,.slice A2 mt.length c2,.int .i64 0] 24)).alloc (.cells #[.int .i64 kd,.int .i64 (a:Int),.int .i64 Y,.int .i64 s,.bool ov] 26)).alloc (.cells #[.slice none 0 0,.slice none 0 0,.int .i64 0] 24)).alloc (.cells #[.int .i64 0,.int .i64 0,.int .i64 0,.int .i64 0,.bool false] 26))=wr at*;clear hW;refine(wK A1 A2 c1 c2 sg mt 0 (a:Int) a wr (·<wr.heap.size) (T0.out.rs.imp fun b hb=>by have:=T0.out.lt;omega) (T0.out.rm.imp fun b hb=>by have:=T0.out.lt;omega) (fun _ h=>h) HD.out rfl ha).mono ?_;rintro e w1 ⟨Vi,VE⟩;have T1:=Rb (T0.out.call Vi);clear k0 k1 k2 n1 T0 Vi;have V5:=T1.out.lt;have h50:w.heap.size<w1.heap.size:=oZ;have h51:w.heap.size+1<w1.heap.size:=oZ;have h52:w.heap.size+1+1<w1.heap.size:=oZ;have h53:w.heap.size+1+1+1<w1.heap.size:=oZ;rcases VE with⟨hl,hab,hbc,hca,hov,-,rfl⟩|⟨xs,hxs,rfl⟩
 case inr=>
  obtain⟨v0,v1,v2,v3,v4,v5,v6,v7,v8,v9,v10,v11,hv⟩:∃v0 v1 v2 v3 v4 v5 v6 v7 v8 v9 v10 v11:Int,Li xs= .agg #[.int .i64 v0,.int .i64 v1,.int .i64 v2,.int .i64 v3,.int .i64 v4,.int .i64 v5,.int .i64 v6,.int .i64 v7,.int .i64 v8,.int .i64 v9,.int .i64 v10,.int .i64 v11]:=⟨_,_,_,_,_,_,_,_,_,_,_,_,Fi hxs⟩
  rw[hv];clear hv hxs xs;obtain⟨y0,y1,y2,g0,g1,g2,-⟩:=T1.out.zb;obtain⟨z0,z1,z2,z3,z4,q0,q1,q2,q3,q4⟩:=T1.out.zm;go_wp2_with fail;refine RC (v:= .tuple #[.agg #[.slice none 0 0,.slice none 0 0,.int .i64 0],.agg #[.int .i64 0,.int .i64 0,.int .i64 0,.int .i64 0,.bool false],.int .i64 6]) (by simp[results,Tryz.results24,go_sem,y0,y1,y2,z0,z1,z2,z3,z4,h52,h53]) rfl ?_;refine⟨_,_,6,rfl,⟨⟨_,_,_,_,_,_,_,rfl⟩,_,_,_,_,_,rfl⟩,?_,fun h=>absurd h oQ⟩;refine Below.alloc ?_ ?_ _
  ·iterate 8 refine RM ?_ oJ _
   exact T1.out.bel
  {simp only[az];omega}
 case inl=>
  obtain⟨b,hb⟩:∃b,au mt a=b:=⟨_,rfl⟩
  rw[hb]at hl hab hbc hca hov⊢;obtain⟨c,hc⟩:∃c,au mt b=c:=⟨_,rfl⟩
  rw[hc]at hl hbc hca hov⊢;have hI:=HD.out.2.2.2.2.2.1;have tl:∀k,k<mt.length->au mt k<mt.length:=fun k hk=>by have:=af (gn mt k) 3;have:=(hI.gn hk).2.1;have:=HD.out.2.1;unfold au;omega
  have VF:b<mt.length:=by rw[<-hb];exact tl a ha
  have Vo:c<mt.length:=by rw[<-hc];exact tl b VF
  have HTR:Hid (au mt a=b/\au mt b=c/\au mt c=a/\a/4≠b/4/\b/4≠c/4/\c/4≠a/4/\¬(a%2=b%2/\b%2=c%2)):=⟨hb,hc,hl,hab,hbc,hca,Jf hI ha VF Vo hb hc hl hov⟩;have HFL:Hid (∀k,k<3->iI a b c k<mt.length):=Rb fun k _=>by unfold iI;split;exact ha;split;exact VF;exact Vo
  clear hb hc hl hab hbc hca hov tl hI;obtain⟨F,hF⟩:∃F,iI a b c=F:=⟨_,rfl⟩
  rw[hF]at HFL⊢;have HF:=Rb hF;clear hF;obtain⟨v0,v1,v2,v3,v4,v5,v6,v7,v8,v9,v10,v11,Xr⟩:∃v0 v1 v2 v3 v4 v5 v6 v7 v8 v9 v10 v11:Int,qM sg mt F 3=[v0,v1,v2,v3,v4,v5,v6,v7,v8,v9,v10,v11]:=⟨_,_,_,_,_,_,_,_,_,_,_,_,AV (cK _ _ _ _)⟩
  have HAG:Hid (Li (qM sg mt F 3)= .agg #[.int .i64 v0,.int .i64 v1,.int .i64 v2,.int .i64 v3,.int .i64 v4,.int .i64 v5,.int .i64 v6,.int .i64 v7,.int .i64 v8,.int .i64 v9,.int .i64 v10,.int .i64 v11]):=Rb (by rw[Xr];rfl);rw[HAG.out];have YO:=Rb Xr;clear Xr;have k1:=T1.out.c1;go_upto_region 4 with fail
  obtain⟨W,hW⟩:∃W,w1.alloc (.cells #[.int .i64 v0,.int .i64 v1,.int .i64 v2,.int .i64 v3,.int .i64 v4,.int .i64 v5,.int .i64 v6,.int .i64 v7,.int .i64 v8,.int .i64 v9,.int .i64 v10,.int .i64 v11] 91)=W:=⟨_,rfl⟩
  have hED:nI 91 W w1.heap.size (qM sg mt F 3):=by rw[YO.out,<-hW];exact Ru _ _
  have T2:=Rb (T1.out.call (by rw[<-hW];exact(Rh _ _).alloc (Rf _) _:Below w1.heap.size w1 W));rw[hW];obtain⟨be,YV⟩:∃bl,w1.heap.size=bl:=⟨_,rfl⟩
  rw[YV]at hED V5⊢;have HED:=Rb hED;have HBE:Hid (w.heap.size+4<=be):=Rb V5;clear hW YV hED h50 h51 h52 h53 k1 T1 V5 w1;have k1:=T2.out.c1;have mk:=dN 22 Tryz.underlying22 mt.length oZ W;go_upto_region 5 with fail
  obtain⟨gt,hgt⟩:∃g,W.heap.size=g:=⟨_,rfl⟩
  have hB2:Below W.heap.size W (W.alloc (.cells (List.replicate mt.length (Value.int .i64 0)).toArray 3)):=(Rh _ _).alloc (Rf _) _;have T3:Hid (BM w (W.alloc (.cells (List.replicate mt.length (Value.int .i64 0)).toArray 3)) A1 A2 c1 c2 sg mt kd (a:Int) Y s ov be gt (qM sg mt F 3) (IW mt.length 0)):=by have ho:=OI.new W (w.heap.size+4) mt.length T2.out.lt (by unfold maxLen;omega);rw[hgt]at ho;refine Rb ⟨T2.out.call hB2,HED.out.call hB2,by rw[Hj];exact ho,HBE.out,by rw[<-hgt];exact T2.out.lt,by have:=HED.out.lt;omega⟩
  rw[TZ]at T3;obtain⟨W3,hW3⟩:∃x,W.alloc (.cells (Array.replicate mt.length (Value.int .i64 0)) 3)=x:=⟨_,rfl⟩
  rw[hW3]at T3⊢;rw[hgt];clear hB2 hgt mk k1 T2 HED HBE hW3 W wr;go_wp2_with fail;go_loopw[40] (fun i wx=>∃k:Nat,k<=mt.length/\i= .int .i64 k/\Hid (BM w wx A1 A2 c1 c2 sg mt kd (a:Int) Y s ov be gt (qM sg mt F 3) (IW mt.length k))) (fun i _=>mt.length-(intOf i).toNat)
  case atStart=>exact⟨0,Rv _,rfl,T3⟩
  case round=>
   clear T3;obtain⟨k,hk,rfl,T4⟩:=hrel;by_cases VA:k<mt.length
   ·obtain⟨-,-,Xm,-,XJ,hf4⟩:=T4.out.tl.ints_at (by rw[cL];omega)
    have p0:=XJ k (by rw[cL];exact VA);have f0:=hf4 k;clear XJ hf4;go_wp2_with fail;go_roundw
    case rel=>exact⟨k+1,oZ,by go_num,by rw[<-GL VA];exact Rb (T4.out.put (cL _ _) k (k:Int))⟩
    case measure=>simp[intOf];omega
   ·obtain rfl:mt.length=k:=oZ
    rw[J9]at T4;have k1:=T4.out.mo.c1;have mk:=gH 94 Tryz.underlying94 mt.length oZ wr;go_upto_region 11 with fail
    obtain⟨go,V8⟩:∃g,wr.heap.size=g:=⟨_,rfl⟩
    have T5:Hid (sD w (wr.alloc (.cells (List.replicate mt.length (Value.bool false)).toArray 4)) A1 A2 c1 c2 sg mt kd (a:Int) Y s ov be gt go (qM sg mt F 3) (oY sg mt F 0) (o_ sg mt F 0)):=by have ho:=OB.new wr (w.heap.size+4) mt.length T4.out.mo.lt (by unfold maxLen;omega);rw[V8]at ho;obtain⟨-,-,Xm,-,-,-⟩:=T4.out.tl.ints_at (by rw[gC];omega);have:=T4.out.ed.lt;exact Rb ⟨T4.out.call ((Rh _ _).alloc (Rf _) _),ho,by rw[<-V8];exact T4.out.mo.lt,oZ,oZ⟩
    rw[TZ]at T5;obtain⟨W5,hW5⟩:∃x,wr.alloc (.cells (Array.replicate mt.length (Value.bool false)) 4)=x:=⟨_,rfl⟩
    rw[hW5]at T5⊢;rw[V8];clear V8 mk k1 T4 hW5 VA hk wr;have he:=T5.out.a.ed;rw[YO.out]at he;obtain⟨e0,e1,e2,e3,e4,e5,e6,e7,e8,e9,e10,e11,-⟩:=he.NK;clear he;go_wp2_with fail;clear e0 e1 e2 e3 e4 e5 e6 e7 e8 e9 e10 e11;go_loopw[53] (fun i wx=>∃k:Nat,k<=3/\i= .int .i64 k/\Hid (sD w wx A1 A2 c1 c2 sg mt kd (a:Int) Y s ov be gt go (qM sg mt F 3) (oY sg mt F k) (o_ sg mt F k))) (fun i _=>3-(intOf i).toNat)
    case atStart=>exact⟨0,Rv _,rfl,T5⟩
    case round=>
     clear T5;obtain⟨k,hk,rfl,T6⟩:=hrel;by_cases hk3:k<3
     ·obtain⟨x,hx⟩:∃x,F k=x:=⟨_,rfl⟩
      have V7:x<mt.length:=by rw[<-hx];exact HFL.out k hk3
      obtain⟨lB,lO,lI,lF,nBG⟩:=Du HD.out V7;have nGB:¬yk sg mt x=xy sg mt x:=fun e=>nBG e.symm
      have i0:=fun w=>C' (sg:=sg) (mt:=mt) hk3 hx w
      rw[HAG.out]at i0;have HX:Hid (F k=x):=Rb hx;have hT:oY sg mt F (k+1)=((oY sg mt F k).set (xy sg mt x) (ur sg mt x:Int)).set (yk sg mt x) (rH sg mt x:Int):=by rw[<-hx];rfl
      have hU:o_ sg mt F (k+1)=((o_ sg mt F k).set (xy sg mt x) true).set (yk sg mt x) true:=by rw[<-hx];rfl
      generalize xy sg mt x=B at*;generalize rH sg mt x=O at*;generalize ur sg mt x=I at*;generalize yk sg mt x=G at*;have HT:=Rb hT;have HU:=Rb hU;clear hT hU hx;go_upto_region 14 with fail
      clear i0;obtain⟨W6,hW6⟩:∃x,wr.alloc (.cells #[.int .i64 (B:Int),.int .i64 (O:Int),.int .i64 (I:Int),.int .i64 (G:Int)] 90)=x:=⟨_,rfl⟩
      have WC:Below wr.heap.size wr W6:=by rw[<-hW6];exact(Rh _ _).alloc (Rf _) _
      have hPB:nI 90 W6 wr.heap.size [(B:Int),(O:Int),(I:Int),(G:Int)]:=by rw[<-hW6];exact Ru _ _
      have T7:=Rb (T6.out.call WC);obtain⟨bp,hbp⟩:∃b,wr.heap.size=b:=⟨_,rfl⟩
      obtain⟨-,-,Xm,-,-,-⟩:=T6.out.a.tl.ints_at (by rw[dk];omega);obtain⟨-,-,hos,-,-,-⟩:=T6.out.ou.dO (by rw[bW];omega);rw[hW6,hbp];rw[hbp]at hPB Xm hos;have n1:bp≠gt:=oZ;have n2:bp≠go:=oZ;have HPB:=Rb hPB;have m1:¬bp=gt:=n1;have m2:¬gt=bp:=fun e=>n1 e.symm
      have m3:¬bp=go:=n2;have m4:¬go=bp:=fun e=>n2 e.symm
      have p0:=hPB.cell (k:=0) oX;have p1:=hPB.cell (k:=1) oX;have p2:=hPB.cell (k:=2) oX;have p3:=hPB.cell (k:=3) oX;rw[show gi [(B:Int),(O:Int),(I:Int),(G:Int)] 0=B from rfl]at p0;rw[show gi [(B:Int),(O:Int),(I:Int),(G:Int)] 1=O from rfl]at p1;rw[show gi [(B:Int),(O:Int),(I:Int),(G:Int)] 2=I from rfl]at p2;rw[show gi [(B:Int),(O:Int),(I:Int),(G:Int)] 3=G from rfl]at p3;obtain⟨-,-,-,-,XJ,hf4⟩:=T7.out.a.tl.ints_at (by rw[dk];omega);have cB:=XJ B (by rw[dk];exact lB);have cG:=XJ G (by rw[dk];exact lF);have fB:=hf4 B;have fG:=hf4 G;clear XJ hf4 hPB Xm hos hbp hW6 WC T6 n1 n2 wr;generalize gi (oY sg mt F k) B=tB at cB;generalize gi (oY sg mt F k) G=tG at cG;go_region;refine EZ (fun Z=>sD w Z A1 A2 c1 c2 sg mt kd (a:Int) Y s ov be gt go (qM sg mt F 3) (oY sg mt F (k+1)) (o_ sg mt F k)/\nI 90 Z bp [(B:Int),(O:Int),(I:Int),(G:Int)]) ⟨?_,?_⟩ (fun Z HZ=>?_);{rw[HT.out];exact(((T7.out.put (dk _ _ _ _) B (I:Int)).put (by rw[Ry,dk]) G (O:Int))).call (Rh _ _).drew};{exact HPB.out.mod (((Mod.refl gt W6).set B _).set G _).drew m1};have T8:=Rb HZ.1;have HPB2:=Rb HZ.2;clear HZ p0 p1 p2 p3 cB cG fB fG T7 HPB tB tG W6 HT;have p0:=HPB2.out.cell (k:=0) oX;have p3:=HPB2.out.cell (k:=3) oX;rw[show gi [(B:Int),(O:Int),(I:Int),(G:Int)] 0=B from rfl]at p0;rw[show gi [(B:Int),(O:Int),(I:Int),(G:Int)] 3=G from rfl]at p3;obtain⟨-,-,-,-,XJ,hf4⟩:=T8.out.ou.dO (by rw[bW];omega)
      have cB:=XJ B (by rw[bW];exact lB);have cG:=XJ G (by rw[bW];exact lF);have fB:=hf4 B;have fG:=hf4 G;clear XJ hf4 HPB2;generalize gb (o_ sg mt F k) B=tB at cB;generalize gb (o_ sg mt F k) G=tG at cG;go_wp2_with fail;go_region;refine EZ (fun Z=>sD w Z A1 A2 c1 c2 sg mt kd (a:Int) Y s ov be gt go (qM sg mt F 3) (oY sg mt F (k+1)) (o_ sg mt F (k+1))) ?_ (fun Z2 HZ=>?_);{rw[HU.out];exact(((T8.out.N9 (bW _ _ _ _) B true).N9 (by rw[Ry,bW]) G true)).call (Rh _ _).drew};have T9:=Rb HZ;clear HZ p0 p3 cB cG fB fG T8 tB tG Z HU;go_wp2_with fail;go_roundw
      case rel=>exact⟨k+1,oZ,by go_num,T9⟩
      case measure=>simp[intOf];omega
     ·obtain rfl:k=3:=oZ
      have k0:=T6.out.a.mo.c0;have k1:=T6.out.a.mo.c1;have k2:=T6.out.a.mo.c2;go_wp2_with fail;refine(sm A1 A2 c1 c2 sg mt 0 wr (·<w.heap.size) T6.out.a.mo.rs T6.out.a.mo.rm (fun b hb=>by have:=T6.out.a.mo.lt;omega) oZ oZ).mono ?_;rintro e w7 ⟨v1',v2',rfl,hf,hb7⟩;have hNW:=tN (K:=0) (B:=w.heap.size+4) (⟨hf.os,hf.om,hf.ne⟩:NM w7 wr.heap.size v1' v2' _ _) T6.out.a.mo.lt hb7.size;have hTB:=(T6.out.call hb7).call ((Rh _ _).alloc (Rf _) (.cells #[v1',v2',.int .i64 0] 24));obtain⟨A6,k6,Wq,-,-,-⟩:=hf.os.shape;obtain⟨gr,k5,WK,Vs,Vv,-,-,-,-⟩:=hf.om.block oZ;have YV:=T6.out.a.ed.lt;obtain⟨-,-,Xm,-,-,-⟩:=T6.out.a.tl.ints_at (by rw[dk];omega);obtain⟨-,-,hos,-,-,-⟩:=T6.out.ou.dO (by rw[bW];omega);have hlt6:=T6.out.a.mo.lt;obtain⟨n6,hn6⟩:∃n,sg.length=n:=⟨_,rfl⟩
      rw[hn6]at Wq;subst WK Wq;have T7:Hid (I4 w (w7.alloc (.cells #[.slice A6 n6 k6,.slice (some ⟨gr,0,none⟩) mt.length k5,.int .i64 0] 24)) A1 A2 c1 c2 sg mt kd (a:Int) Y s ov be gt go (qM sg mt F 3) (oY sg mt F 3) (o_ sg mt F 3) w7.heap.size gr mt.length k5 (.slice A6 n6 k6) (oU (oY sg mt F 3) (o_ sg mt F 3) mt 0)):=Rb ⟨hTB,hNW,oZ,oZ,oZ,oZ⟩;have HBR:Hid (go≠w7.heap.size/\gt≠w7.heap.size/\be≠w7.heap.size):=Rb (by have:=hb7.size;exact⟨oZ,oZ,oZ⟩);clear hf hb7 hNW hTB Vs Vv YV Xm hos hlt6 k0 k1 k2 T6 hn6 hk hk3;go_upto_region 18 with fail
      obtain⟨W8,hW8⟩:∃x,w7.alloc (.cells #[.slice A6 n6 k6,.slice (some ⟨gr,0,none⟩) mt.length k5,.int .i64 0] 24)=x:=⟨_,rfl⟩
      obtain⟨br,ZF⟩:∃b,w7.heap.size=b:=⟨_,rfl⟩
      rw[hW8,ZF]at T7⊢;rw[ZF]at HBR;clear hW8 ZF w7 wr;have HRT:=Rb (FJ HD.out HFL.out 3 (Rf _));go_wp2_with fail;go_loopw[81] (fun i wx=>∃k:Nat,k<=mt.length/\i= .int .i64 k/\Hid (I4 w wx A1 A2 c1 c2 sg mt kd (a:Int) Y s ov be gt go (qM sg mt F 3) (oY sg mt F 3) (o_ sg mt F 3) br gr mt.length k5 (.slice A6 n6 k6) (oU (oY sg mt F 3) (o_ sg mt F 3) mt k))) (fun i _=>mt.length-(intOf i).toNat)
      case atStart=>exact⟨0,Rv _,rfl,T7⟩
      case round=>
       clear T7;obtain⟨k,hk,rfl,T8⟩:=hrel;by_cases VA:k<mt.length
       ·obtain⟨-,-,-,-,Z0,-⟩:=T8.out.b.ou.dO (by rw[bW];omega)
        have cU:=Z0 k (by rw[bW];exact VA);clear Z0;have hJ:oU (oY sg mt F 3) (o_ sg mt F 3) mt (k+1)=if gb (o_ sg mt F 3) k=true then bH (oU (oY sg mt F 3) (o_ sg mt F 3) mt k) (gn (oY sg mt F 3) k) (gn (oY sg mt F 3) (gn mt k))else oU (oY sg mt F 3) (o_ sg mt F 3) mt k:=rfl;obtain⟨bu,hbu⟩:∃b,gb (o_ sg mt F 3) k=b:=⟨_,rfl⟩
        rw[hbu]at cU hJ;clear hbu
        cases bu with
        |false=>
         rw[Rc oQ]at hJ;have HJ:=Rb hJ;clear hJ;go_wp2_with fail;go_roundw
         case rel=>exact⟨k+1,oZ,by go_num,by rw[HJ.out];exact T8⟩
         case measure=>simp[intOf];omega
        |true=>
         rw[Re rfl]at hJ;obtain⟨Vs,Vv,-,-⟩:=HD.out.2.2.2.2.2.1.gn VA;obtain⟨bm,off,e9,YM,-⟩:=T8.out.b.a.mo.rm.at_ VA;subst e9;have kk:=aN T8.out.b.a.mo.rm VA;rw[Vs]at kk;obtain⟨m,hm⟩:∃m,gn mt k=m:=⟨_,rfl⟩
         rw[hm]at kk hJ Vv;have lT:=dk sg mt F 3;obtain⟨-,-,-,-,hct,-⟩:=T8.out.b.a.tl.ints_at (by rw[lT];omega);have c1_:=hct k (by rw[lT];exact VA);have c2_:=hct m (by rw[lT];exact Vv);obtain⟨r1,r2⟩:=HRT.out k (by rw[lT];exact VA);obtain⟨r3,r4⟩:=HRT.out m (by rw[lT];exact Vv);rw[r1]at c1_;rw[r3]at c2_;rw[lT]at r2 r4;obtain⟨tk,htk⟩:∃t,gn (oY sg mt F 3) k=t:=⟨_,rfl⟩
         obtain⟨tm,htm⟩:∃t,gn (oY sg mt F 3) m=t:=⟨_,rfl⟩
         rw[htk]at c1_ hJ r2;rw[htm]at c2_ hJ r4;have HJ:=Rb hJ;have P1:=Rb T8.out.nw.c1;have P2:=Rb c1_;have P3:=Rb c2_;have P4:=Rb T8.out.b.a.mo.c1;have P5:=Rb kk;have hrr:=T8.out.hr;have N1:Hid (br≠gr):=Rb (fun e=>T8.out.nw.nb (by rw[e];rfl));have N2:Hid (gt≠gr):=Rb T8.out.m2;have N4:Hid (w.heap.size≠gr):=Rb oZ;have N5:Hid (bm≠gr):=Rb oZ;have VJ:(oU (oY sg mt F 3) (o_ sg mt F 3) mt k).length=mt.length:=dI _ _ _ _;have HYL:=Rb VJ;clear Vs hm hct lT r1 r3 htk htm hJ c1_ c2_ kk hrr YM VJ;go_wp2_with fail
         go_region_held3 (fun w'=>w'.cell? ⟨br,1,none⟩=some (.slice (some ⟨gr,0,none⟩) mt.length k5)/\w'.cell? ⟨gt,k,none⟩=some (.int .i64 (tk:Int))/\w'.cell? ⟨gt,m,none⟩=some (.int .i64 (tm:Int))/\w'.cell? ⟨w.heap.size,1,none⟩=some (.slice (some ⟨bm,off,none⟩) mt.length c2)/\w'.cell? ⟨bm,off+k,none⟩=some (.int .i64 (m:Int)))
          (((with_reducible refine Ov N1.out N2.out N2.out N4.out N5.out P1.out P2.out P3.out P4.out P5.out ?_);(repeat (first|with_reducible exact HM.out|with_reducible exact Mod.refl _ _|with_reducible refine Mod.drew ?_))))
          ((go_at_call 43;refine(cO gr mt.length k5 _ _ _ tk tm _ (w.heap.size+4) (by exact T8.out.nw.o2) rfl rfl (by rw[HYL.out];exact r2) (by rw[HYL.out];exact r4)).mono ?_;rintro e w9 ⟨rfl,ho9,hm9⟩;have HM:Hid (Mod gr wr w9):=Rb ((Mod.refl gr wr).drew.trans hm9);have HO9:=Rb ho9;clear ho9 hm9))
         have T9:=Rb (T8.out.OC HM.out HO9.out);go_wp2_with fail;go_roundw
         case rel=>exact⟨k+1,oZ,by go_num,by rw[HJ.out];exact T9⟩
         case measure=>simp[intOf];omega
       ·obtain rfl:mt.length=k:=oZ
        have hJR:vL (oU (oY sg mt F 3) (o_ sg mt F 3) mt mt.length):=vL.oU (fun k hk=>⟨(HD.out.2.2.2.2.2.1.gn hk).1,(HD.out.2.2.2.2.2.1.gn hk).2.1⟩) (fun k hk=>by have l:=dk sg mt F 3;have:=(HRT.out k oZ).2;omega) _ (Rf _);have hJL:=dI (oY sg mt F 3) (o_ sg mt F 3) mt mt.length;obtain⟨J,hJ⟩:∃J,oU (oY sg mt F 3) (o_ sg mt F 3) mt mt.length=J:=⟨_,rfl⟩
        rw[hJ]at T8 hJR hJL;have HJ:=Rb hJ;have HJR:=Rb hJR;have HJL:=Rb hJL;have T9:Hid (I4 w wr A1 A2 c1 c2 sg mt kd (a:Int) Y s ov be gt go (qM sg mt F 3) (oY sg mt F 3) (o_ sg mt F 3) br gr mt.length k5 (.slice A6 n6 k6) (I1 sg mt J F 0)):=T8;have he:=T9.out.b.a.ed;rw[YO.out]at he;obtain⟨e0,e1,e2,e3,e4,e5,e6,e7,e8,e9,e10,e11,-⟩:=he.NK;clear he;clear hJ hJR hJL T8 hk VA;go_wp2_with fail;clear e0 e1 e2 e3 e4 e5 e6 e7 e8 e9 e10 e11;go_loopw[104] (fun i wx=>∃k:Nat,k<=3/\i= .int .i64 k/\Hid (I4 w wx A1 A2 c1 c2 sg mt kd (a:Int) Y s ov be gt go (qM sg mt F 3) (oY sg mt F 3) (o_ sg mt F 3) br gr mt.length k5 (.slice A6 n6 k6) (I1 sg mt J F k))) (fun i _=>3-(intOf i).toNat)
        case atStart=>exact⟨0,Rv _,rfl,T9⟩
        case round=>
         clear T9;obtain⟨k,hk,rfl,T8⟩:=hrel;by_cases hk3:k<3
         ·obtain⟨x,hx⟩:∃x,F k=x:=⟨_,rfl⟩
          have V7:x<mt.length:=by rw[<-hx];exact HFL.out k hk3
          obtain⟨lB,lO,lI,lF,nBG⟩:=Du HD.out V7;have i0:=fun w=>C' (sg:=sg) (mt:=mt) hk3 hx w
          rw[HAG.out]at i0;have hT:I1 sg mt J F (k+1)=bH (I1 sg mt J F k) (xy sg mt x) (yk sg mt x):=by rw[<-hx];rfl
          generalize xy sg mt x=B at*;generalize rH sg mt x=O at*;generalize ur sg mt x=I at*;generalize yk sg mt x=G at*;have HT:=Rb hT;clear hT hx lO lI nBG;go_upto_region 27 with fail
          clear i0;obtain⟨W6,hW6⟩:∃x,wr.alloc (.cells #[.int .i64 (B:Int),.int .i64 (O:Int),.int .i64 (I:Int),.int .i64 (G:Int)] 90)=x:=⟨_,rfl⟩
          have WC:Below wr.heap.size wr W6:=by rw[<-hW6];exact(Rh _ _).alloc (Rf _) _
          have hPB:nI 90 W6 wr.heap.size [(B:Int),(O:Int),(I:Int),(G:Int)]:=by rw[<-hW6];exact Ru _ _
          have T9:=Rb (T8.out.call WC);obtain⟨bp,hbp⟩:∃b,wr.heap.size=b:=⟨_,rfl⟩
          rw[hW6,hbp];rw[hbp]at hPB;have p0:=hPB.cell (k:=0) oX;have p3:=hPB.cell (k:=3) oX;rw[show gi [(B:Int),(O:Int),(I:Int),(G:Int)] 0=B from rfl]at p0;rw[show gi [(B:Int),(O:Int),(I:Int),(G:Int)] 3=G from rfl]at p3;have r1:=T9.out.nw.c1;have WR:Hid ((I1 sg mt J F k).length=mt.length):=Rb ((kJ _ _ _ _ _).trans HJL.out);clear hPB hbp hW6 WC T8 wr;go_wp2_with fail;refine(cO gr mt.length k5 _ _ _ B G _ (w.heap.size+4) T9.out.nw.o2 rfl rfl (by rw[WR.out];exact lB) (by rw[WR.out];exact lF)).mono ?_;rintro e w9 ⟨rfl,ho9,hm9⟩;have V9:=Rb (T9.out.OC hm9 ho9);clear ho9 hm9 p0 p3 r1;go_wp2_with fail;go_roundw
          case rel=>exact⟨k+1,oZ,by go_num,by rw[HT.out];exact V9⟩
          case measure=>simp[intOf];omega
         ·obtain rfl:k=3:=oZ
          have hMR:=FH HD.out HFL.out HJR.out HJL.out 3 (Rf _);have hML:=(kJ sg mt J F 3).trans HJL.out;have hMM:I1 sg mt J F 3=GK sg mt a:=by rw[<-HJ.out,<-HF.out];obtain⟨e1,e2,-⟩:=HTR.out;unfold GK J8 K8;rw[e1,e2];rfl
          obtain⟨M,hM⟩:∃M,I1 sg mt J F 3=M:=⟨_,rfl⟩
          rw[hM]at T8 hMR hML hMM;have HMR:=Rb hMR;have Zb:=Rb hML;have HMM:=Rb hMM;clear hMR hML hMM hM HJ HJR HJL hk hk3;rw[show((3:Nat):Int)=3 from rfl];revert wr;intro V T8;go_upto_region 30 with fail
          obtain⟨W9,hW9⟩:∃x,V.alloc (.cells #[.int .i64 5,.int .i64 0,.int .i64 0,.int .i64 0,.bool false] 26)=x:=⟨_,rfl⟩
          have hBV:Below V.heap.size V W9:=by rw[<-hW9];exact(Rh _ _).alloc (Rf _) _
          have hIV:∃x,FC W9 V.heap.size x:=⟨0,by rw[<-hW9];exact Ru _ _⟩
          obtain⟨bi,hbi⟩:∃b,V.heap.size=b:=⟨_,rfl⟩
          rw[hbi]at hBV hIV;rw[hW9,hbi];have HBV:=Rb hBV;have Vy:=Rb hIV;have HBI:=Rb hbi;clear hBV hIV hW9 hbi;go_wp2_with fail;go_loopw[20] (fun i wx=>∃k:Nat,k<=mt.length/\i= .int .i64 ((k:Int)-1)/\Hid (Below bi V wx)/\Hid (∃x,FC wx bi x)) (fun i _=>(intOf i+1).toNat)
          case atStart=>exact⟨mt.length,Rf _,rfl,HBV,Vy⟩
          case round=>
           clear HBV Vy;obtain⟨k,hk,rfl,HB,HX⟩:=hrel;have T9:=Rb (T8.out.call (by rw[HBI.out];exact HB.out));by_cases Yg:k=0
           ·subst Yg
            rw[show((0:Nat):Int)-1= -1 from rfl];obtain⟨x,hx⟩:=HX.out;obtain⟨x0,x1,x2,x3,x4⟩:=hx.at_;have r0:=T9.out.nw.c0;have r1:=T9.out.nw.c1;have r2:=T9.out.nw.c2;have V9:=Rb T9.out.b.a.mo;obtain⟨y0,y1,y2,g0,g1,g2,-⟩:=V9.out.zb;obtain⟨z0,z1,z2,z3,z4,q0,q1,q2,q3,q4⟩:=V9.out.zm;have VF:=T9.out.nw.lo;have hbi4:w.heap.size+4<=bi:=by rw[<-HBI.out];exact T8.out.b.a.mo.lt
            have d1:¬br=w.heap.size+2:=oZ;have d2:¬w.heap.size+2=br:=oZ;have d3:¬br=w.heap.size+3:=oZ;have d4:¬w.heap.size+3=br:=oZ;have d5:¬br=w.heap.size+1+1:=oZ;have d6:¬w.heap.size+1+1=br:=oZ;have d7:¬br=w.heap.size+1+1+1:=oZ;have d8:¬w.heap.size+1+1+1=br:=oZ;have f1:¬bi=w.heap.size+2:=oZ;have f2:¬w.heap.size+2=bi:=oZ;have f3:¬bi=w.heap.size+3:=oZ;have f4:¬w.heap.size+3=bi:=oZ;have f5:¬bi=w.heap.size+1+1:=oZ;have f6:¬w.heap.size+1+1=bi:=oZ;have f7:¬bi=w.heap.size+1+1+1:=oZ;have f8:¬w.heap.size+1+1+1=bi:=oZ;clear hx hk;go_wp2_with fail;go_region;go_wp2_with fail;refine RC (v:= .tuple #[.agg #[.slice A6 n6 k6,.slice (some ⟨gr,0,none⟩) mt.length k5,.int .i64 0],.agg #[.int .i64 5,.int .i64 x,.int .i64 0,.int .i64 0,.bool false],.int .i64 0]) (by simp[results,Tryz.results24,go_sem,y0,y1,y2,z0,z1,z2,z3,z4]) rfl ?_;obtain⟨e1,e2,e3,e4,e5,e6,e7⟩:=HTR.out;refine⟨_,_,0,rfl,⟨⟨_,_,_,_,_,_,_,rfl⟩,_,_,_,_,_,rfl⟩,?_,fun _=>⟨_,_,_,_,_,rfl,td (⟨T9.out.nw.o1,T9.out.nw.o2,T9.out.nw.ne⟩:dz wr (w.heap.size+4) _ _ sg M) (Rf _) ?_,a,b,c,rfl,ha,e1,e2,e3,e4,e5,e6,e7,rfl,HMM.out,rfl⟩⟩;{refine Td ?_;(iterate 8 refine RM ?_ oJ _);exact V9.out.bel};{intro g hg;rw[mQ];(iterate 8 rw[Rn _ _ _ g oJ])}
           ·obtain⟨u,rfl⟩:∃u,k=u+1:=⟨k-1,oZ⟩
            rw[show((u+1:Nat):Int)-1=(u:Int) by omega];have Zw:u<mt.length:=oZ;clear Yg;have r1:=T9.out.nw.c1;have hro:=LL T9.out.nw.o2;have NX:Hid (∀(h v:Nat),h<mt.length->au M h=v->Calls Tryz.prog 58 #[.slice (some ⟨gr,0,none⟩) mt.length k5,.int .i64 (h:Int)] wr fun e w'=>e= .returned (.int .i64 (v:Int))/\wr=w'):=Rb fun h v hh hv=>by have:=GG (some ⟨gr,0,none⟩) k5 mt.length M (h:Int) h wr (·<wr.heap.size) hro HMR.out (by rw[Zb.out];omega) Zb.out rfl (by rw[Zb.out];exact hh);rw[hv]at this;exact this
            have nl:∀h,h<mt.length->au M h<mt.length:=fun h hh=>by have:=(HMR.out h (by rw[Zb.out];exact hh)).2;have e:=af (gn M h) 3;have:=HD.out.2.1;rw[Zb.out]at*;unfold au;omega
            obtain⟨p,hp⟩:∃p,au M u=p:=⟨_,rfl⟩
            obtain⟨q,hq⟩:∃q,au M p=q:=⟨_,rfl⟩
            obtain⟨z,hz⟩:∃z,au M q=z:=⟨_,rfl⟩
            have Wr:p<mt.length:=by rw[<-hp];exact nl u Zw
            have Xf:q<mt.length:=by rw[<-hq];exact nl p Wr
            obtain⟨-,-,-,-,Z0,-⟩:=T9.out.b.ou.dO (by rw[bW];omega);have cu:=Z0 u (by rw[bW];exact Zw);have cp:=Z0 p (by rw[bW];exact Wr);have cq:=Z0 q (by rw[bW];exact Xf);generalize gb (o_ sg mt F 3) u=b1 at cu;generalize gb (o_ sg mt F 3) p=b2 at cp;generalize gb (o_ sg mt F 3) q=b3 at cq;have HP:=Rb hp;have HQ:=Rb hq;have HZ:=Rb hz;clear hp hq hz nl Z0 hro;go_wp2_with fail;refine(NX.out u p Zw HP.out).mono ?_;rintro e w11 ⟨rfl,rfl⟩;go_wp2_with fail;refine(NX.out p q Wr HQ.out).mono ?_;rintro e w11 ⟨rfl,rfl⟩
            cases b1 with
            |false=>
             go_wp2_with fail;go_roundw
             case rel=>exact⟨u,oZ,rfl,HB,HX⟩
             case measure=>simp[intOf]<;>omega
            |true=>
             cases b2 with
             |false=>
              go_wp2_with fail;go_roundw
              case rel=>exact⟨u,oZ,rfl,HB,HX⟩
              case measure=>simp[intOf]<;>omega
             |true=>
              cases b3 with
              |false=>
               go_wp2_with fail;go_roundw
               case rel=>exact⟨u,oZ,rfl,HB,HX⟩
               case measure=>simp[intOf]<;>omega
              |true=>
               go_wp2_with fail;refine(NX.out q z Xf HZ.out).mono ?_;rintro e w11 ⟨rfl,rfl⟩;by_cases hzu:z=u
               ·have s1:((z:Int)==(u:Int))=true:=by rw[SA];omega
                clear hzu;obtain⟨x,hx⟩:=HX.out;obtain⟨-,x1,-,-,-⟩:=hx.at_;have f1:=hx.fz 1;have HXX:=Rb hx;clear hx;go_wp2_with fail;go_roundw
                case rel=>exact⟨u,oZ,rfl,Rb (HB.out.setCell (Rf _) _),Rb ⟨_,HXX.out.set (u:Int)⟩⟩
                case measure=>simp[intOf]<;>omega
               ·have s1:((z:Int)==(u:Int))=false:=by rw[Rs];omega
                clear hzu;go_wp2_with fail;go_roundw
                case rel=>exact⟨u,oZ,rfl,HB,HX⟩
                case measure=>simp[intOf]<;>omega
end Go.Proofs.YtdbhigmklejicaaGreat
