/- Lemmas, each under its own premises. -/
import Derived.Test.YtdbhigmklejicaaGreatZ07
namespace Go.Proofs.YtdbhigmklejicaaGreat
set_option maxHeartbeats 16000000
set_option maxRecDepth 100000
open Go.RowKit
theorem iG(A1 A2:Option Addr)(c1 c2 ml:Nat)(sg:List Int)(L a:Int)(h:Nat)(w:World)(S:Nat->Prop)(hx:RI w S A1 sg)(hS:∀b,S b->b<w.heap.size)(hm:sg.length<=1099511627776)(ha:a=h)(hh:h<4*sg.length):
  Calls Tryz.prog 76 #[.agg #[.slice A1 sg.length c1,.slice A2 ml c2,.int .i64 L],.int .i64 a] w fun e w'=>e= .returned (.bool (ai sg h))/\Below w.heap.size w w':=by
 subst ha;have hb:Below w.heap.size w (w.alloc (.cells #[.slice A1 sg.length c1,.slice A2 ml c2,.int .i64 L] 24)):=(Rh _ _).alloc (Rf _) _;have HB:=Rb hb;clear hb;obtain⟨b,off,rfl,Xv,hc⟩:=hx.at_ (k:=h/4) oZ;have k1:=hc (h/4) oZ;have Xv:=hS b Xv;clear hc hx hS;go_enter Tryz.func76,Tryz.ntmps76
 go_wp2;(all_goals go_ret);(all_goals refine⟨aF ?_,HB.out⟩);(all_goals unfold ai);(all_goals rw[R_]);(all_goals(split<;>(try split)<;>(try split)));(all_goals simp only[SA,Vd,Ve,U7,S8,not_true_eq_false]);(all_goals omega)
def bH(xs:List Int)(a b:Nat):List Int:=(xs.set a (b:Int)).set b (a:Int)
theorem al(xs:List Int)(a b:Nat):(bH xs a b).length=xs.length:=by unfold bH;rw[Ry,Ry]
theorem pP{xs:List Int}{a b:Nat}(ha:a<xs.length)(hb:b<xs.length)(k:Nat):gi (bH xs a b) k=if k=b then(a:Int)else if k=a then(b:Int)else gi xs k:=by unfold bH;rw[dB (by rw[Ry];exact hb),dB ha]
theorem cC(A:Option Addr)(c:Nat)(mt:List Int)(a:Int)(h:Nat)(w:World)(S:Nat->Prop)(hy:RI w S A mt)(hI:cP mt)(hl:mt.length<=400000)(ha:a=h)(hh:h<mt.length):
  Calls Tryz.prog 58 #[.slice A mt.length c,.int .i64 a] w fun e w'=>e= .returned (.int .i64 (au mt h:Nat))/\w=w':=by
 subst ha;obtain⟨Vs,Vv,-,-⟩:=hI.gn hh;obtain⟨b,off,rfl,-,hc⟩:=hy.at_ hh;have k2:=hc h hh;rw[Vs]at k2;have HG:=Rb Vv;clear hc hI hy Vs Vv;go_enter Tryz.func58,Tryz.ntmps58
 go_wp2_with fail;refine(nK (gn mt h) 3 _ rfl (by have:=HG.out;omega) oQ).mono ?_;rintro e w1 ⟨rfl,rfl⟩;go_wp2_with fail;go_ret;exact⟨rfl,rfl⟩
theorem G_(g n c:Nat)(xs:List Int)(a' b':Int)(a b:Nat)(w:World)(B:Nat)(ho:OI w B (.slice (some ⟨g,0,none⟩) n c) xs)(ha:a'=a)(hb:b'=b)(Wo:a<xs.length)(VF:b<xs.length):
  Calls Tryz.prog 43 #[.slice (some ⟨g,0,none⟩) n c,.int .i64 a',.int .i64 b'] w fun e w'=>e= .returned (.tuple #[])/\w'=(w.setCell ⟨g,a,none⟩ (.int .i64 b)).setCell ⟨g,b,none⟩ (.int .i64 a):=by
 subst ha hb;obtain⟨rfl,-,Xm,ZS,hc,hf⟩:=ho.ints_at oZ;have f1:=hf a;have k1:=hc a Wo;have h2:=ho.stored (k:=a) (b:Int);obtain⟨-,-,-,-,Xd,hf2⟩:=h2.ints_at (by rw[Ry];omega);have f2:=hf2 b;have k2:=Xd b (by rw[Ry];exact VF);clear hc hf Xd hf2 h2 ho;go_enter Tryz.func43,Tryz.ntmps43
 go_wp2_with fail
 go_end0
 exact⟨rfl,rfl⟩
structure Mod(g:Nat)(w w':World):Prop where
 bel:Below g w w'
 sz:w'.heap.size=w.heap.size
 ak:∀b,b≠g->w'.heap[b]?=w.heap[b]?
theorem Mod.refl(g:Nat)(w:World):Mod g w w:=⟨Rh _ _,rfl,fun _ _=>rfl⟩
theorem Mod.trans{g:Nat}{a b c:World}(h:Mod g a b)(k:Mod g b c):Mod g a c:=⟨h.bel.trans k.bel,k.sz.trans h.sz,fun x hx=>(k.ak x hx).trans (h.ak x hx)⟩
theorem Mod.drew{g:Nat}{a b:World}(h:Mod g a b):Mod g a b.drew:=⟨h.bel.drew,h.sz,h.ak⟩
theorem Mod.drewN{g:Nat}{a b:World}(h:Mod g a b)(n:Nat):Mod g a (b.drewN n):=⟨RJ h.bel n,h.sz,h.ak⟩
theorem az(w:World)(a:Addr)(u:Value):(w.setCell a u).heap.size=w.heap.size:=by simp[World.setCell]
theorem Mod.set{g:Nat}{a b:World}(h:Mod g a b)(k:Nat)(u:Value):Mod g a (b.setCell ⟨g,k,none⟩ u):=
 ⟨h.bel.setCell (Rf _) _,(az _ _ _).trans h.sz,fun x hx=>(Rn b _ _ x hx).trans (h.ak x hx)⟩
theorem cO(g n c:Nat)(xs:List Int)(a' b':Int)(a b:Nat)(w:World)(B:Nat)(ho:OI w B (.slice (some ⟨g,0,none⟩) n c) xs)(ha:a'=a)(hb:b'=b)(Wo:a<xs.length)(VF:b<xs.length):
  Calls Tryz.prog 43 #[.slice (some ⟨g,0,none⟩) n c,.int .i64 a',.int .i64 b'] w fun e w'=>e= .returned (.tuple #[])/\OI w' B (.slice (some ⟨g,0,none⟩) n c) (bH xs a b)/\Mod g w w':=by
 refine(G_ g n c xs a' b' a b w B ho ha hb Wo VF).mono ?_;rintro e w' ⟨rfl,rfl⟩;obtain⟨rfl,-,-,-,-,-⟩:=ho.ints_at oZ;have h1:=ho.stored (k:=a) (b:Int);have h2:=h1.stored (k:=b) (a:Int);rw[Ry,Ry]at h2;exact⟨rfl,h2,((Mod.refl _ _).set _ _).set _ _⟩
def nE(xs:List Int)(a b:Nat):Int:=if gi xs a=(b:Int)then 1 else 0
def ic(xs:List Int)(a b:Nat):List Int:=if gi xs a=(b:Int)then xs else bH xs (gn xs a) (gn xs b)
theorem gm(xs:List Int)(a b:Nat):(ic xs a b).length=xs.length:=by unfold ic;split<;>simp[al]
theorem tR(g n c:Nat)(xs:List Int)(a' b':Int)(a b:Nat)(w:World)(B:Nat)(ho:OI w B (.slice (some ⟨g,0,none⟩) n c) xs)(ha:a'=a)(hb:b'=b)(Wo:a<xs.length)(VF:b<xs.length)
  (hA:gi xs a=(gn xs a:Int)/\gn xs a<xs.length)(hB:gi xs b=(gn xs b:Int)/\gn xs b<xs.length):
  Calls Tryz.prog 45 #[.slice (some ⟨g,0,none⟩) n c,.int .i64 a',.int .i64 b'] w fun e w'=>e= .returned (.int .i64 (nE xs a b))/\OI w' B (.slice (some ⟨g,0,none⟩) n c) (ic xs a b)/\Mod g w w':=by
 subst ha hb;have HO:=Rb ho;obtain⟨rfl,-,Xm,ZS,hc,hf⟩:=ho.ints_at oZ;have k1:=hc a Wo;have k2:=hc b VF;rw[hA.1]at k1;rw[hB.1]at k2;have HA:=Rb hA;have HB:=Rb hB;clear hc hf ho hA hB;obtain⟨x,hx⟩:∃x,gn xs a=x:=⟨_,rfl⟩
 obtain⟨y,hy⟩:∃y,gn xs b=y:=⟨_,rfl⟩
 rw[hx]at k1 HA;rw[hy]at k2 HB;by_cases hxb:x=b
 ·have e1:nE xs a b=1:=by unfold nE;rw[Re (by rw[HA.out.1,hxb])]
  have e2:ic xs a b=xs:=by unfold ic;rw[Re (by rw[HA.out.1,hxb])]
  rw[e1,e2];subst hxb;clear e1 e2;go_enter Tryz.func45,Tryz.ntmps45
  go_wp2_with fail;go_ret;exact⟨rfl,HO.out,Mod.refl _ _⟩
 ·have e1:nE xs a b=0:=by unfold nE;rw[Rc (by rw[HA.out.1];omega)]
  have e2:ic xs a b=bH xs x y:=by unfold ic;rw[Rc (by rw[HA.out.1];omega),hx,hy]
  rw[e1,e2];clear e1 e2 hx hy;go_enter Tryz.func45,Tryz.ntmps45
  go_wp2_with fail
  go_region_with(go_at_call 43;refine(cO g xs.length c xs _ _ x y _ B (HO.out.drewN _) rfl rfl HA.out.2 HB.out.2).mono ?_;rintro e w1 ⟨rfl,YS,VL⟩;replace YS:=Rb YS;replace VL:=Rb VL)
  (all_goals go_wp2_with fail);(all_goals go_ret);(all_goals exact⟨rfl,YS.out,((Mod.refl _ _).drewN _).trans VL.out⟩)
def AG(gone:List Int)(h:Nat):Nat:=h-4*(gone.filter fun c=>decide (c<((h/4:Nat):Int))).length
def qO(gone:List Int)(h k:Nat):Nat:=4*((gone.take k).filter fun c=>decide (c<((h/4:Nat):Int))).length
theorem Ek{gone:List Int}{h k:Nat}(hk:k<gone.length):qO gone h (k+1)=qO gone h k+if gi gone k<((h/4:Nat):Int)then 4 else 0:=by unfold qO;rw[TL hk,Th,Rz,fP hk];by_cases hc:gone[k]<((h/4:Nat):Int);{rw[Re hc,Sw (by simpa using hc)];simp;omega};{rw[Rc hc,Sx (by simpa using hc)];simp}
theorem JA(gone:List Int)(h k:Nat):qO gone h k<=4*k:=by unfold qO;have:=Tg (fun c=>decide (c<((h/4:Nat):Int))) (gone.take k);rw[UD]at this;omega
theorem lQ(A:Option Addr)(c:Nat)(gone:List Int)(a:Int)(h:Nat)(w:World)(S:Nat->Prop)(hy:RI w S A gone)(hl:gone.length<=1000)(ha:a=h)(hh:h<=400000)(Y':4*(gone.filter fun c=>decide (c<((h/4:Nat):Int))).length<=h):
  Calls Tryz.prog 46 #[.int .i64 a,.slice A gone.length c] w fun e w'=>e= .returned (.int .i64 (AG gone h:Nat))/\w=w':=by
 subst ha;have HY:=Rb hy;clear hy;go_enter Tryz.func46,Tryz.ntmps46
 go_wp2_with fail;go_loopw[5,10] (fun by' i wr=>∃k:Nat,k<=gone.length/\i= .int .i64 k/\by'= .int .i64 (qO gone h k)/\wr=w) (fun _ i _=>gone.length-(intOf i).toNat)
 case atStart=>exact⟨0,Rv _,rfl,by simp[qO],rfl⟩
 case round=>
  obtain⟨k,hk,rfl,rfl,rfl⟩:=hrel;have hb:=JA gone h k;by_cases VA:k<gone.length
  ·obtain⟨b,off,rfl,-,hc⟩:=HY.out.at_ VA
   have k1:=hc k VA;have hs:=Ek (h:=h) VA;obtain⟨p,hp⟩:∃p,qO gone h k=p:=⟨_,rfl⟩
   rw[hp]at hs hb⊢;clear hc hp;by_cases hg:gi gone k<((h/4:Nat):Int)
   ·rw[Re hg]at hs
    have HS:=Rb hs;have Vv:gi gone k<(h:Int)/4:=oZ;clear hs hg;go_wp2_with fail;go_roundw
    case rel=>exact⟨k+1,oZ,by go_num,by rw[HS.out];go_num,trivial⟩
    case measure=>simp[intOf];omega
   ·rw[Rc hg]at hs
    have HS:=Rb hs;have Vv:¬gi gone k<(h:Int)/4:=oZ;clear hs hg;go_wp2_with fail;go_roundw
    case rel=>exact⟨k+1,oZ,by go_num,by rw[HS.out];go_num,trivial⟩
    case measure=>simp[intOf];omega
  ·obtain rfl:gone.length=k:=oZ
   have hs:qO gone h gone.length=4*(gone.filter fun c=>decide (c<((h/4:Nat):Int))).length:=by unfold qO;rw[UE]
   have e:AG gone h=h-qO gone h gone.length:=by unfold AG;rw[hs]
   rw[<-hs]at Y';obtain⟨p,hp⟩:∃p,qO gone h gone.length=p:=⟨_,rfl⟩
   rw[hp]at Y' hb e⊢;have HE:=Rb e;clear e hs hp;go_wp2_with fail;go_ret;exact⟨cE (by rw[HE.out];omega),rfl⟩
def Lz(W:World)(g n:Nat):Prop:=W.heap[g]?=some (.cells (Array.replicate n (Value.int .i64 0)) 3 (0,0))/\g<W.heap.size
theorem Q7{W:World}{g n:Nat}(h:Lz W g n):Lz W.drew g n:=h
theorem QX{W:World}{g n:Nat}(h:g=W.heap.size):Lz (W.alloc (.cells (Array.replicate n (Value.int .i64 0)) 3)) g n:=by subst h;exact⟨Ru W _,oX⟩
theorem QU{W:World}{g n:Nat}(h:Lz W g n)(o:Obj):Lz (W.alloc o) g n:=⟨(Rx W o g h.2).trans h.1,by have:=h.2;simp;omega⟩
theorem QA{X W:World}{g n:Nat}(h:Lz X g n)(hb:Below X.heap.size X W):Lz W g n:=⟨(hb.block g h.2).trans h.1,RB h.2 hb.size⟩
theorem Nc{W0 W:World}{g n:Nat}{P:Option Addr}{p:Nat}{xs:List Int}(h1:RI W0 (·<W0.heap.size) P xs)(hx:xs.length<=100000)(hn:n<=100000)(hB:Below W0.heap.size W0 W)
  (c0:W.cell? ⟨g,0,none⟩=some (.slice P xs.length p))(hcz:∃g',W.cell? ⟨g,1,none⟩=some (.slice (some ⟨g',0,none⟩) n n)/\Lz W g' n):
  Calls Tryz.prog 77 #[.slice (some ⟨g,0,none⟩) 2 2] W fun e w'=>∃A c,e= .returned (.slice A (xs.length+n) c)/\OI w' W.heap.size (.slice A (xs.length+n) c) (xs++List.replicate n 0)/\Below W0.heap.size W0 w'/\Below W.heap.size W w'/\W0.heap.size<=W.heap.size:=by
 obtain⟨g',c1,hz⟩:=hcz;have hg:g<W.heap.size:=RX W _ c0;have ho:OI W g' (.slice (some ⟨g',0,none⟩) n n) (List.replicate n 0):=kY hz.1 (Rf _) (by unfold maxLen;omega);obtain⟨A',c',e',-,-,Wi⟩:=ho.reads;injection e' with e1 e2 e3
 subst e1;have hr:RL W (·<W.heap.size) (some ⟨g,0,none⟩) [xs,List.replicate n 0]:=fun _=>⟨g,0,rfl,hg,fun k hk=>by
  have VH:k=0\/k=1:=by simp at hk;omega
  rcases VH with rfl|rfl
  {exact⟨P,p,c0,(h1.below hB).imp fun _ hb=>RB hb hB.size,by unfold maxLen;simp;omega⟩}
  ·exact⟨_,n,by simpa using c1,Wi.imp fun _ hb=>hb.2,by unfold maxLen;simp;omega⟩⟩
 refine(rP (c:=2) hr oX qj).mono ?_;rintro e w' ⟨v,rfl,ho,hb⟩;have e:[xs,List.replicate n 0].flatten=xs++List.replicate n 0:=oX;rw[e]at ho;obtain⟨A,c,rfl,-,-,-⟩:=ho.shape;rw[Rz,Sd]at ho⊢;exact⟨A,c,rfl,ho,hB.trans (hb.mono hB.size),hb,hB.size⟩
structure Px(w wr:World)(A1 A2:Option Addr)(c1 c2:Nat)(sg mt:List Int)(L:Int):Prop where
 da:bI wr w.heap.size A1 A2 c1 c2 sg mt L
 bel:Below w.heap.size w wr
theorem Ox{w wr w':World}{A1 A2:Option Addr}{c1 c2:Nat}{sg mt:List Int}{L:Int}(h:Hid (Px w wr A1 A2 c1 c2 sg mt L))(hb:Below wr.heap.size wr w'):
  Hid (Px w w' A1 A2 c1 c2 sg mt L)/\w'.cell? ⟨w.heap.size,0,none⟩=some (.slice A1 sg.length c1)/\w'.cell? ⟨w.heap.size,1,none⟩=some (.slice A2 mt.length c2)/\w'.cell? ⟨w.heap.size,2,none⟩=some (.int .i64 L):=by
 have h':=h.out.da.below hb;exact⟨Rb ⟨h',h.out.bel.trans (hb.mono h.out.bel.size)⟩,h'.c0,h'.c1,h'.c2⟩
theorem vA(A1 A2 A3:Option Addr)(c1 c2 c3:Nat)(sg mt ss:List Int)(L:Int)(w:World)(S:Nat->Prop)(hx:RI w S A1 sg)(hy:RI w S A2 mt)(hz:RI w S A3 ss)(hS:∀b,S b->b<w.heap.size)(VO:sg.length<=1000)(hm:mt.length<=1000)(hs:ss.length<=4):
  Calls Tryz.prog 42 #[.agg #[.slice A1 sg.length c1,.slice A2 mt.length c2,.int .i64 L],.slice A3 ss.length c3] w (jR (sg++ss) (mt++List.replicate (4*ss.length) 0) L w):=by
 have X9:=bI.start (c1:=c1) (c2:=c2) (L:=L) S hx hy hS;have Wn:Below w.heap.size w (w.alloc (.cells #[.slice A1 sg.length c1,.slice A2 mt.length c2,.int .i64 L] 24)):=(Rh _ _).alloc (Rf _) _;have V6:=hz.ak fun b hb=>Wn.block b (hS b hb)
 obtain⟨W1,hW1⟩:∃W1,w.alloc (.cells #[.slice A1 sg.length c1,.slice A2 mt.length c2,.int .i64 L] 24)=W1:=⟨_,rfl⟩
 have VV:W1.heap.size=w.heap.size+1:=by rw[<-hW1];simp
 rw[hW1]at X9 Wn V6;have Vi:Below W1.heap.size W1 (W1.alloc (.cells #[.slice none 0 0,.slice none 0 0,.int .i64 0] 24)):=(Rh _ _).alloc (Rf _) _;have T0:Hid (Px w W1 A1 A2 c1 c2 sg mt L):=Rb ⟨X9,Wn⟩;have VW:=Rb Vi;have HZ0:Hid (wv (W1.alloc (.cells #[.slice none 0 0,.slice none 0 0,.int .i64 0] 24)) (w.heap.size+1)):=Rb (Mp VV.symm);have HSB:=Rb (V6.imp (T:=(·<W1.heap.size)) fun b hb=>by have:=hS b hb;rw[VV];omega);have XR:=X9.below Vi;have k0:=XR.c0;have k1:=XR.c1;have k2:=XR.c2;obtain⟨n,hn⟩:∃n,4*ss.length=n:=⟨_,rfl⟩
 have WY:=dN 22 Tryz.underlying22 n oZ;have hnI:(4:Int)*(ss.length:Int)=(n:Int):=oZ;rw[hn];have hn16:n<=16:=oZ;have w4:IntKind.i64.wrap (n:Int)=(n:Int):=SF _ oZ;clear hn;clear hx hy hz hS X9 Wn V6 Vi XR;have HSA:=Rb T0.out.da.rs;have HMA:=Rb T0.out.da.rm;have WO:W1.heap.size<=w.heap.size+1:=oZ;have Xp:w.heap.size<=W1.heap.size:=oZ;go_enter Tryz.func42,Tryz.ntmps42
 go_wp2_with fail;(try rw[hW1]);generalize hW:W1.alloc (.cells #[.slice none 0 0,.slice none 0 0,.int .i64 0] 24)=wr at*;clear hW hW1 VV;have WG:mt.length<=100000:=oZ;have YB:n<=100000:=oZ
 go_region_held3 (fun w'=>Hid (Px w w' A1 A2 c1 c2 sg mt L)/\w'.cell? ⟨w.heap.size,0,none⟩=some (.slice A1 sg.length c1)/\w'.cell? ⟨w.heap.size,1,none⟩=some (.slice A2 mt.length c2)/\w'.cell? ⟨w.heap.size,2,none⟩=some (.int .i64 L))
  (((with_reducible refine Ox T0 ?_);(repeat (first|with_reducible exact YC.out|with_reducible exact HBM.out|with_reducible exact VW.out|with_reducible exact Rh _ _|with_reducible refine Td ?_|((with_reducible refine jU ?_ ?_ _);(focus (first|(simp;done)|(simp;omega))))|with_reducible refine lK ?_ _))))
  (first
   |(go_at_call 77;(with_reducible refine(OE (W0:=W1) HSA.out HSB.out oZ oZ ?_ (p:=c1) (q:=c3) ?_ ?_).mono ?_);(repeat (first|with_reducible exact YC.out|with_reducible exact HBM.out|with_reducible exact VW.out|with_reducible exact Rh _ _|with_reducible refine Td ?_|((with_reducible refine jU ?_ ?_ _);(focus (first|(simp;done)|(simp;omega))))|with_reducible refine lK ?_ _));(repeat (first|with_reducible refine zv ?_|((with_reducible refine qH ?_ ?_);(focus (first|(with_reducible rfl)|(simp;done)));(focus (exact rfl)))|with_reducible refine jM HCS.out ?_|with_reducible refine jM HCM.out ?_|with_reducible refine qt ?_));rintro eS wS ⟨PS,pS,rfl,hoS,hbS,hcS,hnS⟩;have HOS:=Rb hoS;have YC:=Rb hbS;have HCS:=Rb hcS;have szS:=YC.out.size;(try (refine xj (G:=wv wS (w.heap.size+1)) ?_ ?_;(focus ((repeat (first|with_reducible refine wv.drew ?_|with_reducible exact HZ0.out|with_reducible exact HZS.out|with_reducible exact HZM.out|with_reducible refine wv.below ?_ HCS.out|with_reducible refine wv.below ?_ HCM.out|with_reducible refine KB ?_ _));done));intro hzS;have HZS:=Rb hzS;have yS0:=hzS.z.z0;have yS1:=hzS.z.z1;have yS2:=hzS.z.z2;have gS0:=hzS.z.f0;have gS1:=hzS.z.f1;have gS2:=hzS.z.f2;have tS:=hzS.z.lt;clear hzS));have HWS:=Rb (hoS.mono hnS);have snS:=hnS;(try (refine xj (O1 (w0:=wM) ?_ hcS hoS) ?_;(focus ((repeat (first|with_reducible exact YC.out|with_reducible exact HBM.out|with_reducible exact VW.out|with_reducible exact Rh _ _|with_reducible refine Td ?_|((with_reducible refine jU ?_ ?_ _);(focus (first|(simp;done)|(simp;omega))))|with_reducible refine lK ?_ _));done));intro hj;have HJ:=Rb hj;clear hj));clear hoS hbS hcS hnS)
   |(go_at_call 77;(with_reducible refine(Nc (W0:=W1) (n:=n) HMA.out WG YB ?_ (p:=c2) ?_ ?_).mono ?_);(repeat (first|with_reducible exact YC.out|with_reducible exact HBM.out|with_reducible exact VW.out|with_reducible exact Rh _ _|with_reducible refine Td ?_|((with_reducible refine jU ?_ ?_ _);(focus (first|(simp;done)|(simp;omega))))|with_reducible refine lK ?_ _));(repeat (first|with_reducible refine zv ?_|((with_reducible refine qH ?_ ?_);(focus (first|(with_reducible rfl)|(simp;done)));(focus (exact rfl)))|with_reducible refine jM HCS.out ?_|with_reducible refine jM HCM.out ?_|with_reducible refine qt ?_));(apply Exists.intro);(apply And.intro);(repeat (first|with_reducible refine zv ?_|((with_reducible refine qH ?_ ?_);(focus (first|(with_reducible rfl)|(simp;done)));(focus (exact rfl)))|with_reducible refine jM HCS.out ?_|with_reducible refine jM HCM.out ?_|with_reducible refine qt ?_));(repeat (first|with_reducible refine Q7 ?_|((with_reducible refine QX ?_);(focus (first|(with_reducible rfl)|(simp;done))))|((with_reducible refine zrL ?_);(focus (first|(with_reducible rfl)|(simp;done))))|with_reducible refine QA ?_ HCS.out|with_reducible refine QA ?_ HCM.out|with_reducible refine QU ?_ _));rintro eM wM ⟨PM,pM,rfl,hoM,hbM,hcM,hnM⟩;have HOM:=Rb hoM;have HBM:=Rb hbM;have HCM:=Rb hcM;have szM:=HBM.out.size;(try (refine xj (G:=wv wM (w.heap.size+1)) ?_ ?_;(focus ((repeat (first|with_reducible refine wv.drew ?_|with_reducible exact HZ0.out|with_reducible exact HZS.out|with_reducible exact HZM.out|with_reducible refine wv.below ?_ HCS.out|with_reducible refine wv.below ?_ HCM.out|with_reducible refine KB ?_ _));done));intro hzM;have HZM:=Rb hzM;have yM0:=hzM.z.z0;have yM1:=hzM.z.z1;have yM2:=hzM.z.z2;have gM0:=hzM.z.f0;have gM1:=hzM.z.f1;have gM2:=hzM.z.f2;have tM:=hzM.z.lt;clear hzM));have HWM:=Rb (hoM.mono hnM);have snM:=hnM;(try (refine xj (O1 (w0:=wS) ?_ hcM hoM) ?_;(focus ((repeat (first|with_reducible exact YC.out|with_reducible exact HBM.out|with_reducible exact VW.out|with_reducible exact Rh _ _|with_reducible refine Td ?_|((with_reducible refine jU ?_ ?_ _);(focus (first|(simp;done)|(simp;omega))))|with_reducible refine lK ?_ _));done));intro hj;have HJ:=Rb hj;clear hj));clear hoM hbM hcM hnM))
 all_goals
  have W_:=Vc (by assumption);go_wp2_with fail
  first
   |refine RC (v:= .agg #[.slice PS (sg.length+ss.length) pS,.slice PM (mt.length+n) pM,.int .i64 L]) (by simp[results,Tryz.results42,go_sem,yM0,yM1,yM2]) rfl ?_
   |refine RC (v:= .agg #[.slice PS (sg.length+ss.length) pS,.slice PM (mt.length+n) pM,.int .i64 L]) (by simp[results,Tryz.results42,go_sem,yS0,yS1,yS2]) rfl ?_
  have VF:=W_.out.bel
  first
   |(have hN:=Hu (K:=L) (Of HWS.out HJ.out YC.out.size) HZM.out Xp (U0 _);exact⟨_,_,rfl,⟨hN.o1,hN.o2,hN.ne⟩,VF⟩)
   |(have hN:=Hu (K:=L) (two_M HWM.out HJ.out HBM.out.size) HZS.out Xp (U0 _);exact⟨_,_,rfl,⟨hN.o1,hN.o2,hN.ne⟩,VF⟩)
def eh(sg mt:List Int)(c s:Nat):Bool:=ai sg (4*c+s)&&decide (gn mt (4*c+s)/4=c)
def ja(sg mt:List Int)(c:Nat):Option Nat:=if eh sg mt c 2 then some (4*c+2)else if eh sg mt c 1 then some (4*c+1)else if eh sg mt c 3 then some (4*c+3)else none
def Hb(mt:List Int):Option Nat->Value
 |some o=> .tuple #[.int .i64 (ae o 2:Nat),.int .i64 (ae (gn mt o) 2:Nat),.bool true]
 |none=> .tuple #[.int .i64 0,.int .i64 0,.bool false]
theorem rS{sg mt:List Int}{c o:Nat}(h:ja sg mt c=some o):o/4=c/\ai sg o=true/\gn mt o/4=c:=by
 unfold ja at h;split at h
 ·rename_i hk
  unfold eh at hk;injection h with h
  subst h;rw[RA,RE]at hk;exact⟨oZ,hk.1,hk.2⟩
 ·split at h
  ·rename_i hk
   unfold eh at hk;injection h with h
   subst h;rw[RA,RE]at hk;exact⟨oZ,hk.1,hk.2⟩
  ·split at h
   ·rename_i hk
    unfold eh at hk;injection h with h
    subst h;rw[RA,RE]at hk;exact⟨oZ,hk.1,hk.2⟩
   {cases h}
theorem K1(a b c:Value)(w:World):(Instr.index 120 (.agg #[a,b,c]) (.int .i64 0)).run Tryz.prog w= .ok a w:=by kernel_rfl
theorem KC(a b c:Value)(w:World):(Instr.index 120 (.agg #[a,b,c]) (.int .i64 1)).run Tryz.prog w= .ok b w:=by kernel_rfl
theorem Km(a b c:Value)(w:World):(Instr.index 120 (.agg #[a,b,c]) (.int .i64 2)).run Tryz.prog w= .ok c w:=by kernel_rfl
theorem Gh(A1 A2:Option Addr)(c1 c2:Nat)(sg mt:List Int)(L:Int)(w:World)(S:Nat->Prop)(hx:RI w S A1 sg)(hy:RI w S A2 mt)(hS:∀b,S b->b<w.heap.size)(hd:cJ sg mt L)(a:Int)(c:Nat)(ha:a=c)(hc:c<sg.length):
  Calls Tryz.prog 44 #[.agg #[.slice A1 sg.length c1,.slice A2 mt.length c2,.int .i64 L],.int .i64 a] w fun e w'=>e= .returned (Hb mt (ja sg mt c))/\Below w.heap.size w w':=by
 subst ha;have HD:=Rb (bI.start (c1:=c1) (c2:=c2) (L:=L) S hx hy hS);have HB:=Rb ((Rh w.heap.size w).alloc (Rf _) (.cells #[.slice A1 sg.length c1,.slice A2 mt.length c2,.int .i64 L] 24));have HI:=Rb hd.2.2.2.2.2.1;obtain⟨h1,h2,-,-,-,-,-,-⟩:=hd;have H2:=Rb h2;clear h2;clear hx hy hS;go_enter Tryz.func44,Tryz.ntmps44
 go_wp2_with fail;go_loopw[11] (fun i wr=>∃k:Nat,k<=3/\i= .int .i64 k/\Hid (bI wr w.heap.size A1 A2 c1 c2 sg mt L)/\Hid (Below w.heap.size w wr)/\(1<=k->eh sg mt c 2=false)/\(2<=k->eh sg mt c 1=false)/\(3<=k->eh sg mt c 3=false)) (fun i _=>3-(intOf i).toNat)
 case atStart=>exact⟨0,oZ,rfl,HD,HB,fun h=>by omega,fun h=>by omega,fun h=>by omega⟩
 case round=>
  clear HD HB;obtain⟨k,hk,rfl,HD,HB,q1,q2,q3⟩:=hrel;have k0:=HD.out.c0;have k1:=HD.out.c1;have k2:=HD.out.c2;rcases(oZ:k=0\/k=1\/k=2\/k=3)with rfl|rfl|rfl|rfl
  ·rw[show((0:Nat):Int)=0 from rfl]
   have h2:=H2.out;obtain⟨o,ho⟩:∃o,4*c+2=o:=⟨_,rfl⟩
   have Ze:o<4*sg.length:=oZ;have hoi:(4:Int)*(c:Int)+2=(o:Int):=oZ;obtain⟨Vs,Vv,-,-⟩:=HI.out.gn (show o<mt.length by omega);obtain⟨b,off,rfl,Xv,WS⟩:=HD.out.rm.at_ (show o<mt.length by omega);have kk:=WS o oZ;rw[Vs]at kk;have hom:o<mt.length:=oZ;have hg3:gn mt o<1000:=oZ;clear WS h2;have i0:=K1 (.int .i64 2) (.int .i64 1) (.int .i64 3);go_wp2_with fail;clear i0;refine(iG A1 (some ⟨b,off,none⟩) c1 c2 mt.length sg L _ o wr (·<wr.heap.size) HD.out.rs (fun _ h=>h) oZ oZ Ze).mono ?_;rintro e w1 ⟨rfl,Vi⟩;have Vp:=Rb (HD.out.below Vi);have Vr:=Rb (HB.out.trans (Vi.mono HB.out.size));have j0:=Vp.out.c0;have j1:=Vp.out.c1;have j2:=Vp.out.c2;have jk:=(Vi.cell (p:=⟨b,off+o,none⟩) Xv).trans kk;clear k0 k1 k2 kk HD HB Vi;have XS:eh sg mt c 2=(ai sg o&&decide (gn mt o/4=c)):=by unfold eh;rw[ho]
   cases Vu:ai sg o with
   |false=>
    have hkf:eh sg mt c 2=false:=by rw[XS,Vu];rfl
    clear XS Vu;go_wp2_with fail;go_roundw
    case rel=>exact⟨0+1,oZ,by go_num,Vp,Vr,fun _=>hkf,fun h=>by omega,fun h=>by omega⟩
    case measure=>simp[intOf]
   |true=>
    by_cases YW:gn mt o/4=c
    ·have hkt:eh sg mt c 2=true:=by rw[XS,Vu,Rj YW];rfl
     have E:ja sg mt c=some o:=by unfold ja;rw[Re hkt,ho]
     have HE:=Rb E;have hgi:(gn mt o:Int)/4=(c:Int):=oZ;have HG2:=Rb Vv;clear XS Vu YW hkt E;go_wp2_with fail
     go_quiet(first
      |(go_at_call 61;with_reducible (show Calls _ _ #[Value.int .i64 (o:Int)] _ _);exact RP ((dF o _ rfl oZ).mono (fun _ _ h=>⟨h.1,h.2.symm⟩)))
      |(go_at_call 61;exact RP ((dF (gn mt o) _ rfl (by have:=HG2.out;have:=H2.out;omega)).mono (fun _ _ h=>⟨h.1,h.2.symm⟩))))
     go_wp2_with fail
     go_ret3
     exact⟨by rw[HE.out];rfl,RJ Vr.out _⟩
    ·have hkf:eh sg mt c 2=false:=by rw[XS,Vu,Rl YW];rfl
     have hgi:((gn mt o:Int)/4==(c:Int))=false:=by rw[Rs];omega
     clear XS Vu YW;go_wp2_with fail;go_roundw
     case rel=>exact⟨0+1,oZ,by go_num,Vp,Vr,fun _=>hkf,fun h=>by omega,fun h=>by omega⟩
     case measure=>simp[intOf]
  ·rw[show((1:Nat):Int)=1 from rfl]
   have h2:=H2.out;obtain⟨o,ho⟩:∃o,4*c+1=o:=⟨_,rfl⟩
   have Ze:o<4*sg.length:=oZ;have hoi:(4:Int)*(c:Int)+1=(o:Int):=oZ;obtain⟨Vs,Vv,-,-⟩:=HI.out.gn (show o<mt.length by omega);obtain⟨b,off,rfl,Xv,WS⟩:=HD.out.rm.at_ (show o<mt.length by omega);have kk:=WS o oZ;rw[Vs]at kk;have hom:o<mt.length:=oZ;have hg3:gn mt o<1000:=oZ;clear WS h2;have i0:=KC (.int .i64 2) (.int .i64 1) (.int .i64 3);go_wp2_with fail;clear i0;refine(iG A1 (some ⟨b,off,none⟩) c1 c2 mt.length sg L _ o wr (·<wr.heap.size) HD.out.rs (fun _ h=>h) oZ oZ Ze).mono ?_;rintro e w1 ⟨rfl,Vi⟩;have Vp:=Rb (HD.out.below Vi);have Vr:=Rb (HB.out.trans (Vi.mono HB.out.size));have j0:=Vp.out.c0;have j1:=Vp.out.c1;have j2:=Vp.out.c2;have jk:=(Vi.cell (p:=⟨b,off+o,none⟩) Xv).trans kk;clear k0 k1 k2 kk HD HB Vi;have XS:eh sg mt c 1=(ai sg o&&decide (gn mt o/4=c)):=by unfold eh;rw[ho]
   cases Vu:ai sg o with
   |false=>
    have hkf:eh sg mt c 1=false:=by rw[XS,Vu];rfl
    clear XS Vu;go_wp2_with fail;go_roundw
    case rel=>exact⟨1+1,oZ,by go_num,Vp,Vr,fun _=>q1 oZ,fun _=>hkf,fun h=>by omega⟩
    case measure=>simp[intOf]
   |true=>
    by_cases YW:gn mt o/4=c
    ·have hkt:eh sg mt c 1=true:=by rw[XS,Vu,Rj YW];rfl
     have E:ja sg mt c=some o:=by unfold ja;rw[Rc (by rw[q1 oZ];decide),Re hkt,ho]
     have HE:=Rb E;have hgi:(gn mt o:Int)/4=(c:Int):=oZ;have HG2:=Rb Vv;clear XS Vu YW hkt E;go_wp2_with fail
     go_quiet(first
      |(go_at_call 61;with_reducible (show Calls _ _ #[Value.int .i64 (o:Int)] _ _);exact RP ((dF o _ rfl oZ).mono (fun _ _ h=>⟨h.1,h.2.symm⟩)))
      |(go_at_call 61;exact RP ((dF (gn mt o) _ rfl (by have:=HG2.out;have:=H2.out;omega)).mono (fun _ _ h=>⟨h.1,h.2.symm⟩))))
     go_wp2_with fail
     go_ret3
     exact⟨by rw[HE.out];rfl,RJ Vr.out _⟩
    ·have hkf:eh sg mt c 1=false:=by rw[XS,Vu,Rl YW];rfl
     have hgi:((gn mt o:Int)/4==(c:Int))=false:=by rw[Rs];omega
     clear XS Vu YW;go_wp2_with fail;go_roundw
     case rel=>exact⟨1+1,oZ,by go_num,Vp,Vr,fun _=>q1 oZ,fun _=>hkf,fun h=>by omega⟩
     case measure=>simp[intOf]
  ·rw[show((2:Nat):Int)=2 from rfl]
   have h2:=H2.out;obtain⟨o,ho⟩:∃o,4*c+3=o:=⟨_,rfl⟩
   have Ze:o<4*sg.length:=oZ;have hoi:(4:Int)*(c:Int)+3=(o:Int):=oZ;obtain⟨Vs,Vv,-,-⟩:=HI.out.gn (show o<mt.length by omega);obtain⟨b,off,rfl,Xv,WS⟩:=HD.out.rm.at_ (show o<mt.length by omega);have kk:=WS o oZ;rw[Vs]at kk;have hom:o<mt.length:=oZ;have hg3:gn mt o<1000:=oZ;clear WS h2;have i0:=Km (.int .i64 2) (.int .i64 1) (.int .i64 3);go_wp2_with fail;clear i0;refine(iG A1 (some ⟨b,off,none⟩) c1 c2 mt.length sg L _ o wr (·<wr.heap.size) HD.out.rs (fun _ h=>h) oZ oZ Ze).mono ?_;rintro e w1 ⟨rfl,Vi⟩;have Vp:=Rb (HD.out.below Vi);have Vr:=Rb (HB.out.trans (Vi.mono HB.out.size));have j0:=Vp.out.c0;have j1:=Vp.out.c1;have j2:=Vp.out.c2;have jk:=(Vi.cell (p:=⟨b,off+o,none⟩) Xv).trans kk;clear k0 k1 k2 kk HD HB Vi;have XS:eh sg mt c 3=(ai sg o&&decide (gn mt o/4=c)):=by unfold eh;rw[ho]
   cases Vu:ai sg o with
   |false=>
    have hkf:eh sg mt c 3=false:=by rw[XS,Vu];rfl
    clear XS Vu;go_wp2_with fail;go_roundw
    case rel=>exact⟨2+1,oZ,by go_num,Vp,Vr,fun _=>q1 oZ,fun _=>q2 oZ,fun _=>hkf⟩
    case measure=>simp[intOf]
   |true=>
    by_cases YW:gn mt o/4=c
    ·have hkt:eh sg mt c 3=true:=by rw[XS,Vu,Rj YW];rfl
     have E:ja sg mt c=some o:=by unfold ja;rw[Rc (by rw[q1 oZ];decide),Rc (by rw[q2 oZ];decide),Re hkt,ho]
     have HE:=Rb E;have hgi:(gn mt o:Int)/4=(c:Int):=oZ;have HG2:=Rb Vv;clear XS Vu YW hkt E;go_wp2_with fail
     go_quiet(first
      |(go_at_call 61;with_reducible (show Calls _ _ #[Value.int .i64 (o:Int)] _ _);exact RP ((dF o _ rfl oZ).mono (fun _ _ h=>⟨h.1,h.2.symm⟩)))
      |(go_at_call 61;exact RP ((dF (gn mt o) _ rfl (by have:=HG2.out;have:=H2.out;omega)).mono (fun _ _ h=>⟨h.1,h.2.symm⟩))))
     go_wp2_with fail
     go_ret3
     exact⟨by rw[HE.out];rfl,RJ Vr.out _⟩
    ·have hkf:eh sg mt c 3=false:=by rw[XS,Vu,Rl YW];rfl
     have hgi:((gn mt o:Int)/4==(c:Int))=false:=by rw[Rs];omega
     clear XS Vu YW;go_wp2_with fail;go_roundw
     case rel=>exact⟨2+1,oZ,by go_num,Vp,Vr,fun _=>q1 oZ,fun _=>q2 oZ,fun _=>hkf⟩
     case measure=>simp[intOf]
  ·have E:ja sg mt c=none:=by unfold ja;rw[Rc (by rw[q1 oZ];decide),Rc (by rw[q2 oZ];decide),Rc (by rw[q3 oZ];decide)]
   have HE:=Rb E;clear E;go_wp2_with fail
   go_ret3
   exact⟨by rw[HE.out];rfl,HB.out⟩
structure mD(w:World)(b:Nat):Prop where
 z0:w.cell? ⟨b,0,none⟩=some (.int .i64 0)
 z1:w.cell? ⟨b,1,none⟩=some (.int .i64 0)
 z2:w.cell? ⟨b,2,none⟩=some (.int .i64 0)
 z3:w.cell? ⟨b,3,none⟩=some (.int .i64 0)
 z4:w.cell? ⟨b,4,none⟩=some (.bool false)
 f0:w.frozen? ⟨b,0,none⟩=false
 f1:w.frozen? ⟨b,1,none⟩=false
 f2:w.frozen? ⟨b,2,none⟩=false
 f3:w.frozen? ⟨b,3,none⟩=false
 f4:w.frozen? ⟨b,4,none⟩=false
theorem mD.new{w:World}{b:Nat}(h:w.heap[b]?=some (.cells #[.int .i64 0,.int .i64 0,.int .i64 0,.int .i64 0,.bool false] 26 (0,0))):mD w b:=by refine⟨?_,?_,?_,?_,?_,RD _ _ _ _ _ h,RD _ _ _ _ _ h,RD _ _ _ _ _ h,RD _ _ _ _ _ h,RD _ _ _ _ _ h⟩<;>(rw[Rt _ _ _ _ _ _ h];rfl)
theorem mD.ak{w w':World}{b:Nat}(h:mD w b)(hk:w'.heap[b]?=w.heap[b]?):mD w' b:=
 ⟨(Ri (a:=⟨b,0,none⟩) hk).trans h.z0,(Ri (a:=⟨b,1,none⟩) hk).trans h.z1,(Ri (a:=⟨b,2,none⟩) hk).trans h.z2,(Ri (a:=⟨b,3,none⟩) hk).trans h.z3,(Ri (a:=⟨b,4,none⟩) hk).trans h.z4,
  (Ro (a:=⟨b,0,none⟩) hk).trans h.f0,(Ro (a:=⟨b,1,none⟩) hk).trans h.f1,(Ro (a:=⟨b,2,none⟩) hk).trans h.f2,(Ro (a:=⟨b,3,none⟩) hk).trans h.f3,(Ro (a:=⟨b,4,none⟩) hk).trans h.f4⟩
theorem fD.ak{w w':World}{b:Nat}(h:fD w b)(hk:w'.heap[b]?=w.heap[b]?)(hs:w.heap.size<=w'.heap.size):fD w' b:=
 ⟨(Ri (a:=⟨b,0,none⟩) hk).trans h.z0,(Ri (a:=⟨b,1,none⟩) hk).trans h.z1,(Ri (a:=⟨b,2,none⟩) hk).trans h.z2,
  (Ro (a:=⟨b,0,none⟩) hk).trans h.f0,(Ro (a:=⟨b,1,none⟩) hk).trans h.f1,(Ro (a:=⟨b,2,none⟩) hk).trans h.f2,RB h.lt hs⟩
structure oF(w wr:World)(A1 A2:Option Addr)(c1 c2:Nat)(sg mt:List Int)(L kd X Y s:Int)(ov:Bool):Prop where
 c0:wr.cell? ⟨w.heap.size,0,none⟩=some (.slice A1 sg.length c1)
 c1:wr.cell? ⟨w.heap.size,1,none⟩=some (.slice A2 mt.length c2)
 c2:wr.cell? ⟨w.heap.size,2,none⟩=some (.int .i64 L)
 m0:wr.cell? ⟨w.heap.size+1,0,none⟩=some (.int .i64 kd)
 m1:wr.cell? ⟨w.heap.size+1,1,none⟩=some (.int .i64 X)
 m2:wr.cell? ⟨w.heap.size+1,2,none⟩=some (.int .i64 Y)
 m3:wr.cell? ⟨w.heap.size+1,3,none⟩=some (.int .i64 s)
 m4:wr.cell? ⟨w.heap.size+1,4,none⟩=some (.bool ov)
 zb:fD wr (w.heap.size+2)
 zm:mD wr (w.heap.size+3)
 rs:RI wr (·<w.heap.size) A1 sg
 rm:RI wr (·<w.heap.size) A2 mt
 lt:w.heap.size+4<=wr.heap.size
 bel:Below w.heap.size w wr
section
variable{w wr w':World}{A1 A2:Option Addr}{c1 c2:Nat}{sg mt:List Int}{L kd X Y s:Int}{ov:Bool}
theorem oF.ak(h:oF w wr A1 A2 c1 c2 sg mt L kd X Y s ov)(hk:∀b,b<w.heap.size+4->w'.heap[b]?=wr.heap[b]?)(hs:wr.heap.size<=w'.heap.size)(hb:Below w.heap.size w w'):oF w w' A1 A2 c1 c2 sg mt L kd X Y s ov:=by
 have o:∀b i,b<w.heap.size+4->w'.cell? ⟨b,i,none⟩=wr.cell? ⟨b,i,none⟩:=fun b i hb=>Ri (a:=⟨b,i,none⟩) (hk b hb)
 exact⟨(o _ _ oZ).trans h.c0,(o _ _ oZ).trans h.c1,(o _ _ oZ).trans h.c2,(o _ _ oZ).trans h.m0,(o _ _ oZ).trans h.m1,(o _ _ oZ).trans h.m2,(o _ _ oZ).trans h.m3,(o _ _ oZ).trans h.m4,
  h.zb.ak (hk _ oZ) hs,h.zm.ak (hk _ oZ),h.rs.ak fun b hb=>hk b oZ,h.rm.ak fun b hb=>hk b oZ,RQ h.lt hs,hb⟩
theorem oF.call(h:oF w wr A1 A2 c1 c2 sg mt L kd X Y s ov)(hb:Below wr.heap.size wr w'):oF w w' A1 A2 c1 c2 sg mt L kd X Y s ov:=
 h.ak (fun b Vg=>hb.block b (RB Vg h.lt)) hb.size (h.bel.trans (hb.mono h.bel.size))
theorem oF.mod{g:Nat}(h:oF w wr A1 A2 c1 c2 sg mt L kd X Y s ov)(hm:Mod g wr w')(hg:w.heap.size+4<=g):oF w w' A1 A2 c1 c2 sg mt L kd X Y s ov:=
 h.ak (fun b Vg=>hm.ak b oZ) (Nat.le_of_eq hm.sz.symm) (h.bel.trans (hm.bel.mono oZ))
theorem oF.drew(h:oF w wr A1 A2 c1 c2 sg mt L kd X Y s ov):oF w wr.drew A1 A2 c1 c2 sg mt L kd X Y s ov:=h.call (Rh _ _).drew
theorem oF.start{S:Nat->Prop}(hx:RI w S A1 sg)(hy:RI w S A2 mt)(hS:∀b,S b->b<w.heap.size):
  oF w ((((w.alloc (.cells #[.slice A1 sg.length c1,.slice A2 mt.length c2,.int .i64 L] 24)).alloc (.cells #[.int .i64 kd,.int .i64 X,.int .i64 Y,.int .i64 s,.bool ov] 26)).alloc (.cells #[.slice none 0 0,.slice none 0 0,.int .i64 0] 24)).alloc (.cells #[.int .i64 0,.int .i64 0,.int .i64 0,.int .i64 0,.bool false] 26)) A1 A2 c1 c2 sg mt L kd X Y s ov:=by
 have Vi:Below w.heap.size w (w.alloc (.cells #[.slice A1 sg.length c1,.slice A2 mt.length c2,.int .i64 L] 24)):=(Rh _ _).alloc (Rf _) _;have k1:=Ru w (.cells #[.slice A1 sg.length c1,.slice A2 mt.length c2,.int .i64 L] 24);have s1:(w.alloc (.cells #[.slice A1 sg.length c1,.slice A2 mt.length c2,.int .i64 L] 24)).heap.size=w.heap.size+1:=oX;obtain⟨w1,h1⟩:∃x,w.alloc (.cells #[.slice A1 sg.length c1,.slice A2 mt.length c2,.int .i64 L] 24)=x:=⟨_,rfl⟩
 rw[h1]at Vi k1 s1⊢;have Vj:Below w1.heap.size w1 (w1.alloc (.cells #[.int .i64 kd,.int .i64 X,.int .i64 Y,.int .i64 s,.bool ov] 26)):=(Rh _ _).alloc (Rf _) _;have k2:=Ru w1 (.cells #[.int .i64 kd,.int .i64 X,.int .i64 Y,.int .i64 s,.bool ov] 26);have s2:(w1.alloc (.cells #[.int .i64 kd,.int .i64 X,.int .i64 Y,.int .i64 s,.bool ov] 26)).heap.size=w.heap.size+2:=by simp[s1]
 obtain⟨w2,h2⟩:∃x,w1.alloc (.cells #[.int .i64 kd,.int .i64 X,.int .i64 Y,.int .i64 s,.bool ov] 26)=x:=⟨_,rfl⟩
 rw[h2]at Vj k2 s2⊢;have Vt:Below w2.heap.size w2 (w2.alloc (.cells #[.slice none 0 0,.slice none 0 0,.int .i64 0] 24)):=(Rh _ _).alloc (Rf _) _;have k3:=Ru w2 (.cells #[.slice none 0 0,.slice none 0 0,.int .i64 0] 24);have s3:(w2.alloc (.cells #[.slice none 0 0,.slice none 0 0,.int .i64 0] 24)).heap.size=w.heap.size+3:=by simp[s2]
 obtain⟨w3,h3⟩:∃x,w2.alloc (.cells #[.slice none 0 0,.slice none 0 0,.int .i64 0] 24)=x:=⟨_,rfl⟩
 rw[h3]at Vt k3 s3⊢;have Wp:Below w3.heap.size w3 (w3.alloc (.cells #[.int .i64 0,.int .i64 0,.int .i64 0,.int .i64 0,.bool false] 26)):=(Rh _ _).alloc (Rf _) _;have k4:=Ru w3 (.cells #[.int .i64 0,.int .i64 0,.int .i64 0,.int .i64 0,.bool false] 26);have s4:(w3.alloc (.cells #[.int .i64 0,.int .i64 0,.int .i64 0,.int .i64 0,.bool false] 26)).heap.size=w.heap.size+4:=by simp[s3]
 obtain⟨w4,h4⟩:∃x,w3.alloc (.cells #[.int .i64 0,.int .i64 0,.int .i64 0,.int .i64 0,.bool false] 26)=x:=⟨_,rfl⟩
 rw[h4]at Wp k4 s4⊢;rw[s1]at k2;rw[s2]at k3;rw[s3]at k4;have e1:w4.heap[w.heap.size]?=some (.cells #[.slice A1 sg.length c1,.slice A2 mt.length c2,.int .i64 L] 24 (0,0)):=by rw[Wp.block _ oZ,Vt.block _ oZ,Vj.block _ oZ];exact k1
 have e2:w4.heap[w.heap.size+1]?=some (.cells #[.int .i64 kd,.int .i64 X,.int .i64 Y,.int .i64 s,.bool ov] 26 (0,0)):=by rw[Wp.block _ oZ,Vt.block _ oZ];exact k2
 have e3:w4.heap[w.heap.size+2]?=some (.cells #[.slice none 0 0,.slice none 0 0,.int .i64 0] 24 (0,0)):=by rw[Wp.block _ oZ];exact k3
 have hb:Below w.heap.size w w4:=((Vi.trans (Vj.mono oZ)).trans (Vt.mono oZ)).trans (Wp.mono oZ);refine⟨?_,?_,?_,?_,?_,?_,?_,?_,fD.new e3 oZ,mD.new k4,?_,?_,oZ,hb⟩;{rw[Rt _ _ _ _ _ _ e1];rfl};{rw[Rt _ _ _ _ _ _ e1];rfl};{rw[Rt _ _ _ _ _ _ e1];rfl};{rw[Rt _ _ _ _ _ _ e2];rfl};{rw[Rt _ _ _ _ _ _ e2];rfl};{rw[Rt _ _ _ _ _ _ e2];rfl};{rw[Rt _ _ _ _ _ _ e2];rfl};{rw[Rt _ _ _ _ _ _ e2];rfl};{exact(hx.ak fun b Vz=>hb.block b (hS b Vz)).imp fun b Vz=>hS b Vz};{exact(hy.ak fun b Vz=>hb.block b (hS b Vz)).imp fun b Vz=>hS b Vz}
end
theorem GV.mod{wx w':World}{B b g n c:Nat}{v1:Value}{xs ys ys':List Int}{K:Int}(h:GV wx B b v1 (.slice (some ⟨g,0,none⟩) n c) xs ys K)(hm:Mod g wx w')(ho:OI w' B (.slice (some ⟨g,0,none⟩) n c) ys'):GV w' B b v1 (.slice (some ⟨g,0,none⟩) n c) xs ys' K:=by
 have Vh:b≠g:=fun e=>h.nb (by rw[e];rfl)
 have o:∀o,w'.cell? ⟨b,o,none⟩=wx.cell? ⟨b,o,none⟩:=fun o=>Ri (a:=⟨b,o,none⟩) (hm.ak b Vh)
 exact⟨(o 0).trans h.c0,(o 1).trans h.c1,(o 2).trans h.c2,h.o1.ak fun g' X6=>hm.ak _ (fun e=>h.ne g' X6 (by rw[e];rfl)),ho,h.ne,h.nb,h.lo⟩
def OV(dv mv:Value):Prop:=(∃(A1 A2:Option Addr)(n1 k1 n2 k2:Nat)(L:Int),dv= .agg #[.slice A1 n1 k1,.slice A2 n2 k2,.int .i64 L])/\∃(a b c d:Int)(o:Bool),mv= .agg #[.int .i64 a,.int .i64 b,.int .i64 c,.int .i64 d,.bool o]
def Mq(w:World)(P:List Int->List Int->Int->Prop)(e:Ending)(w':World):Prop:=
 ∃(dv mv:Value)(er:Int),e= .returned (.tuple #[dv,mv,.int .i64 er])/\OV dv mv/\Below w.heap.size w w'/\(er=0->∃v1 v2 sg' mt' L',dv= .agg #[v1,v2,.int .i64 L']/\dz w' w.heap.size v1 v2 sg' mt'/\P sg' mt' L')
def yi(x y i:Nat):Nat:=if i<4 then 4*x+i else 4*y+(i-4)
def DX(x y i:Nat):Nat:=if i<4 then y else x
def By(mt:List Int)(h o:Nat):Bool:=decide (au mt h/4=o)&&(decide (au mt (au mt h)=h)&&decide (h%2=gn mt h%2))
def JS(mt:List Int)(h:Nat):Value:= .agg #[.int .i64 (h:Int),.int .i64 (gn mt (au mt h):Int),.int .i64 (ae h 2:Nat),.int .i64 (ae (gn mt (au mt h)) 2:Nat),
 .int .i64 (ae (gn mt h) 2:Nat),.int .i64 (au mt h:Int),.int .i64 (gn mt h:Int),.int .i64 (ae (au mt h) 2:Nat)]
def Qh(mt:List Int)(x y:Nat)(w:World)(e:Ending)(w':World):Prop:=
 Below w.heap.size w w'/\((∃i,i<8/\By mt (yi x y i) (DX x y i)=true/\e= .returned (.tuple #[JS mt (yi x y i),.bool true]))\/
  e= .returned (.tuple #[.agg #[.int .i64 0,.int .i64 0,.int .i64 0,.int .i64 0,.int .i64 0,.int .i64 0,.int .i64 0,.int .i64 0],.bool false]))
theorem E'{n x y i:Nat}(hx:x<n)(hy:y<n)(hi:i<8):yi x y i<4*n:=by unfold yi;split<;>omega
theorem Ip(A1 A2:Option Addr)(c1 c2:Nat)(sg mt:List Int)(L X Y:Int)(x y:Nat)(w:World)(S:Nat->Prop)(hx:RI w S A1 sg)(hy:RI w S A2 mt)(hS:∀b,S b->b<w.heap.size)(hI:cP mt)(h2:mt.length=4*sg.length)(VO:sg.length<=64)(hX:X=x)(hY:Y=y)(V7:x<sg.length)(VJ:y<sg.length):
  Calls Tryz.prog 54 #[.agg #[.slice A1 sg.length c1,.slice A2 mt.length c2,.int .i64 L],.int .i64 X,.int .i64 Y] w (Qh mt x y w):=by
 subst hX hY;have HD:=Rb (bI.start (c1:=c1) (c2:=c2) (L:=L) S hx hy hS);have Vi:Below w.heap.size w (w.alloc (.cells #[.slice A1 sg.length c1,.slice A2 mt.length c2,.int .i64 L] 24)):=(Rh _ _).alloc (Rf _) _
 have HT:Hid (bI ((w.alloc (.cells #[.slice A1 sg.length c1,.slice A2 mt.length c2,.int .i64 L] 24)).alloc (.cells #[.int .i64 0,.int .i64 0,.int .i64 0,.int .i64 0,.int .i64 0,.int .i64 0,.int .i64 0,.int .i64 0] 85)) w.heap.size A1 A2 c1 c2 sg mt L/\
   ((w.alloc (.cells #[.slice A1 sg.length c1,.slice A2 mt.length c2,.int .i64 L] 24)).alloc (.cells #[.int .i64 0,.int .i64 0,.int .i64 0,.int .i64 0,.int .i64 0,.int .i64 0,.int .i64 0,.int .i64 0] 85)).heap[w.heap.size+1]?=some (.cells #[.int .i64 0,.int .i64 0,.int .i64 0,.int .i64 0,.int .i64 0,.int .i64 0,.int .i64 0,.int .i64 0] 85 (0,0))/\
   Below w.heap.size w ((w.alloc (.cells #[.slice A1 sg.length c1,.slice A2 mt.length c2,.int .i64 L] 24)).alloc (.cells #[.int .i64 0,.int .i64 0,.int .i64 0,.int .i64 0,.int .i64 0,.int .i64 0,.int .i64 0,.int .i64 0] 85))):=by
  have hn:=Ru (w.alloc (.cells #[.slice A1 sg.length c1,.slice A2 mt.length c2,.int .i64 L] 24)) (.cells #[.int .i64 0,.int .i64 0,.int .i64 0,.int .i64 0,.int .i64 0,.int .i64 0,.int .i64 0,.int .i64 0] 85);rw[show(w.alloc (.cells #[.slice A1 sg.length c1,.slice A2 mt.length c2,.int .i64 L] 24)).heap.size=w.heap.size+1 by simp]at hn;exact Rb ⟨HD.out.below ((Rh _ _).alloc (Rf _) _),hn,Vi.alloc oX _⟩
 have HI:=Rb hI;have H2:=Rb h2;have VQ:mt.length<=256:=oZ;clear hx hy hS hI h2 HD Vi;go_enter Tryz.func54,Tryz.ntmps54
 go_wp2_with fail;generalize hW:(w.alloc (.cells #[.slice A1 sg.length c1,.slice A2 mt.length c2,.int .i64 L] 24)).alloc (.cells #[.int .i64 0,.int .i64 0,.int .i64 0,.int .i64 0,.int .i64 0,.int .i64 0,.int .i64 0,.int .i64 0] 85)=wr at*;clear hW
 go_loop [15] (fun i=>∃k:Nat,k<=8/\i= .int .i64 k) (fun i=>8-(intOf i).toNat)
 case atStart=>exact⟨0,oZ,rfl⟩
 case round=>
  obtain⟨k,hk,rfl⟩:=hrel;have k0:=HT.out.1.c0;have k1:=HT.out.1.c1;have k2:=HT.out.1.c2;by_cases hk8:k<8
  ·obtain⟨h,hh⟩:∃h,yi x y k=h:=⟨_,rfl⟩
   obtain⟨o,ho⟩:∃o,DX x y k=o:=⟨_,rfl⟩
   have V4:h<mt.length:=by have:=E' V7 VJ hk8;have:=H2.out;omega
   obtain⟨Vs,Vv,-,-⟩:=HI.out.gn V4;obtain⟨g,hg⟩:∃g,au mt h=g:=⟨_,rfl⟩
   have VS:g<mt.length:=by rw[<-hg];unfold au;have:=af (gn mt h) 3;have:=H2.out;omega
   obtain⟨ZZ,hu2,-,-⟩:=HI.out.gn VS;obtain⟨b,off,rfl,Xv,hc⟩:=HT.out.1.rm.at_ V4;have kh:=hc h V4;have kg:=hc g VS;rw[Vs]at kh;rw[ZZ]at kg;obtain⟨m,hm⟩:∃m,gn mt h=m:=⟨_,rfl⟩
   obtain⟨u,hu⟩:∃u,gn mt g=u:=⟨_,rfl⟩
   obtain⟨v,hv⟩:∃v,au mt g=v:=⟨_,rfl⟩
   rw[hm]at kh Vv;rw[hu]at kg hu2;have HH:=Rb hh;have HO:=Rb ho;have HG:=Rb hg;have HM:=Rb hm;have HU:=Rb hu;have HV:=Rb hv;have hLB:By mt h o=(decide (g/4=o)&&(decide (v=h)&&decide (h%2=m%2))):=by unfold By;rw[hg,hv,hm]
   have HLB:=Rb hLB;clear hc Vs ZZ hm hu hv hg hLB;by_cases h4:k<4
   ·clear hh ho
    have e1:(4:Int)*(x:Int)+(k:Int)=(h:Int):=by have:=HH.out;unfold yi at this;split at this<;>omega
    have e2:y=o:=by have:=HO.out;unfold DX at this;split at this<;>omega
    have hk4:k<4:=oZ;subst e2;by_cases t1:g/4=y
    ·have q1:((g:Int)/4 !=(y:Int))=false:=by rw[RK];omega
     by_cases t2:v=h
     ·have q2:((v:Int)!=(h:Int))=false:=by rw[RK];omega
      by_cases t3:h%2=m%2
      ·have q3:((h:Int)%2 !=(m:Int)%2)=false:=by rw[RK];omega
       clear t1 t2 t3;have y0:wr.cell? ⟨w.heap.size+1,0,none⟩=some (.int .i64 0):=by rw[Rt _ _ _ _ _ _ HT.out.2.1];rfl
       have f0:wr.frozen? ⟨w.heap.size+1,0,none⟩=false:=RD _ _ _ _ _ HT.out.2.1;have y1:wr.cell? ⟨w.heap.size+1,1,none⟩=some (.int .i64 0):=by rw[Rt _ _ _ _ _ _ HT.out.2.1];rfl
       have f1:wr.frozen? ⟨w.heap.size+1,1,none⟩=false:=RD _ _ _ _ _ HT.out.2.1;have y2:wr.cell? ⟨w.heap.size+1,2,none⟩=some (.int .i64 0):=by rw[Rt _ _ _ _ _ _ HT.out.2.1];rfl
       have f2:wr.frozen? ⟨w.heap.size+1,2,none⟩=false:=RD _ _ _ _ _ HT.out.2.1;have y3:wr.cell? ⟨w.heap.size+1,3,none⟩=some (.int .i64 0):=by rw[Rt _ _ _ _ _ _ HT.out.2.1];rfl
       have f3:wr.frozen? ⟨w.heap.size+1,3,none⟩=false:=RD _ _ _ _ _ HT.out.2.1;have y4:wr.cell? ⟨w.heap.size+1,4,none⟩=some (.int .i64 0):=by rw[Rt _ _ _ _ _ _ HT.out.2.1];rfl
       have f4:wr.frozen? ⟨w.heap.size+1,4,none⟩=false:=RD _ _ _ _ _ HT.out.2.1;have y5:wr.cell? ⟨w.heap.size+1,5,none⟩=some (.int .i64 0):=by rw[Rt _ _ _ _ _ _ HT.out.2.1];rfl
       have f5:wr.frozen? ⟨w.heap.size+1,5,none⟩=false:=RD _ _ _ _ _ HT.out.2.1;have y6:wr.cell? ⟨w.heap.size+1,6,none⟩=some (.int .i64 0):=by rw[Rt _ _ _ _ _ _ HT.out.2.1];rfl
       have f6:wr.frozen? ⟨w.heap.size+1,6,none⟩=false:=RD _ _ _ _ _ HT.out.2.1;have y7:wr.cell? ⟨w.heap.size+1,7,none⟩=some (.int .i64 0):=by rw[Rt _ _ _ _ _ _ HT.out.2.1];rfl
       have f7:wr.frozen? ⟨w.heap.size+1,7,none⟩=false:=RD _ _ _ _ _ HT.out.2.1;have Vg:w.heap.size+1<wr.heap.size:=SL HT.out.2.1;go_wp2_with fail;refine(cC (some ⟨b,off,none⟩) c2 mt _ h wr (·<wr.heap.size) (HT.out.1.rm) HI.out oZ rfl V4).mono ?_;rintro e w1 ⟨rfl,rfl⟩;rw[HG.out];go_wp2_with fail;refine(cC (some ⟨b,off,none⟩) c2 mt _ g wr (·<wr.heap.size) (HT.out.1.rm) HI.out oZ rfl VS).mono ?_;rintro e w1 ⟨rfl,rfl⟩;rw[HV.out];go_wp2_with fail;refine(dF h _ rfl oZ).mono ?_;rintro e w1 ⟨rfl,rfl⟩;go_wp2_with fail;refine(dF u _ rfl oZ).mono ?_;rintro e w1 ⟨rfl,rfl⟩;go_wp2_with fail;refine(dF m _ rfl oZ).mono ?_;rintro e w1 ⟨rfl,rfl⟩;go_wp2_with fail;refine(dF g _ rfl oZ).mono ?_;rintro e w1 ⟨rfl,rfl⟩;go_wp2_with fail;refine RC (v:= .tuple #[.agg #[.int .i64 (h:Int),.int .i64 (u:Int),.int .i64 (ae h 2:Nat),.int .i64 (ae u 2:Nat),.int .i64 (ae m 2:Nat),.int .i64 (g:Int),.int .i64 (m:Int),.int .i64 (ae g 2:Nat)],.bool true]) (by simp[results,Tryz.results54,go_sem,y0,y1,y2,y3,y4,y5,y6,y7,Vg]) rfl ?_;refine⟨?_,.inl ⟨k,oZ,?_,?_⟩⟩
       ·refine Below.alloc ?_ ?_ _
        ·iterate 8 refine RM ?_ oJ _
         exact HT.out.2.2
        {simp only[az];omega}
       {rw[HH.out,HO.out,HLB.out];simp only[RK]at q1 q2 q3;rw[RA,RA];exact⟨Rj oZ,Rj oZ,Rj oZ⟩};{rw[HH.out];unfold JS;rw[HG.out,HU.out,HM.out]}
      ·have q3:((h:Int)%2 !=(m:Int)%2)=true:=by rw[RZ];omega
       clear t1 t2 t3;go_wp2_with fail;refine(cC (some ⟨b,off,none⟩) c2 mt _ h wr (·<wr.heap.size) (HT.out.1.rm) HI.out oZ rfl V4).mono ?_;rintro e w1 ⟨rfl,rfl⟩;rw[HG.out];go_wp2_with fail;refine(cC (some ⟨b,off,none⟩) c2 mt _ g wr (·<wr.heap.size) (HT.out.1.rm) HI.out oZ rfl VS).mono ?_;rintro e w1 ⟨rfl,rfl⟩;rw[HV.out];go_wp2_with fail
       go_round
       case rel=>exact⟨k+1,oZ,by go_num⟩
       case measure=>simp[intOf];omega
     ·have q2:((v:Int)!=(h:Int))=true:=by rw[RZ];omega
      clear t1 t2;go_wp2_with fail;refine(cC (some ⟨b,off,none⟩) c2 mt _ h wr (·<wr.heap.size) (HT.out.1.rm) HI.out oZ rfl V4).mono ?_;rintro e w1 ⟨rfl,rfl⟩;rw[HG.out];go_wp2_with fail;refine(cC (some ⟨b,off,none⟩) c2 mt _ g wr (·<wr.heap.size) (HT.out.1.rm) HI.out oZ rfl VS).mono ?_;rintro e w1 ⟨rfl,rfl⟩;rw[HV.out];go_wp2_with fail
      go_round
      case rel=>exact⟨k+1,oZ,by go_num⟩
      case measure=>simp[intOf];omega
    ·have q1:((g:Int)/4 !=(y:Int))=true:=by rw[RZ];omega
     clear t1;go_wp2_with fail;refine(cC (some ⟨b,off,none⟩) c2 mt _ h wr (·<wr.heap.size) (HT.out.1.rm) HI.out oZ rfl V4).mono ?_;rintro e w1 ⟨rfl,rfl⟩;rw[HG.out];go_wp2_with fail
     go_round
     case rel=>exact⟨k+1,oZ,by go_num⟩
     case measure=>simp[intOf];omega
   ·clear hh ho
    have e1:(4:Int)*(y:Int)+(k:Int)-4=(h:Int):=by have:=HH.out;unfold yi at this;split at this<;>omega
    have e2:x=o:=by have:=HO.out;unfold DX at this;split at this<;>omega
    have hk4:4<=k:=oZ;subst e2;by_cases t1:g/4=x
    ·have q1:((g:Int)/4 !=(x:Int))=false:=by rw[RK];omega
     by_cases t2:v=h
     ·have q2:((v:Int)!=(h:Int))=false:=by rw[RK];omega
      by_cases t3:h%2=m%2
      ·have q3:((h:Int)%2 !=(m:Int)%2)=false:=by rw[RK];omega
       clear t1 t2 t3;have y0:wr.cell? ⟨w.heap.size+1,0,none⟩=some (.int .i64 0):=by rw[Rt _ _ _ _ _ _ HT.out.2.1];rfl
       have f0:wr.frozen? ⟨w.heap.size+1,0,none⟩=false:=RD _ _ _ _ _ HT.out.2.1;have y1:wr.cell? ⟨w.heap.size+1,1,none⟩=some (.int .i64 0):=by rw[Rt _ _ _ _ _ _ HT.out.2.1];rfl
       have f1:wr.frozen? ⟨w.heap.size+1,1,none⟩=false:=RD _ _ _ _ _ HT.out.2.1;have y2:wr.cell? ⟨w.heap.size+1,2,none⟩=some (.int .i64 0):=by rw[Rt _ _ _ _ _ _ HT.out.2.1];rfl
       have f2:wr.frozen? ⟨w.heap.size+1,2,none⟩=false:=RD _ _ _ _ _ HT.out.2.1;have y3:wr.cell? ⟨w.heap.size+1,3,none⟩=some (.int .i64 0):=by rw[Rt _ _ _ _ _ _ HT.out.2.1];rfl
       have f3:wr.frozen? ⟨w.heap.size+1,3,none⟩=false:=RD _ _ _ _ _ HT.out.2.1;have y4:wr.cell? ⟨w.heap.size+1,4,none⟩=some (.int .i64 0):=by rw[Rt _ _ _ _ _ _ HT.out.2.1];rfl
       have f4:wr.frozen? ⟨w.heap.size+1,4,none⟩=false:=RD _ _ _ _ _ HT.out.2.1;have y5:wr.cell? ⟨w.heap.size+1,5,none⟩=some (.int .i64 0):=by rw[Rt _ _ _ _ _ _ HT.out.2.1];rfl
       have f5:wr.frozen? ⟨w.heap.size+1,5,none⟩=false:=RD _ _ _ _ _ HT.out.2.1;have y6:wr.cell? ⟨w.heap.size+1,6,none⟩=some (.int .i64 0):=by rw[Rt _ _ _ _ _ _ HT.out.2.1];rfl
       have f6:wr.frozen? ⟨w.heap.size+1,6,none⟩=false:=RD _ _ _ _ _ HT.out.2.1;have y7:wr.cell? ⟨w.heap.size+1,7,none⟩=some (.int .i64 0):=by rw[Rt _ _ _ _ _ _ HT.out.2.1];rfl
       have f7:wr.frozen? ⟨w.heap.size+1,7,none⟩=false:=RD _ _ _ _ _ HT.out.2.1;have Vg:w.heap.size+1<wr.heap.size:=SL HT.out.2.1;go_wp2_with fail;refine(cC (some ⟨b,off,none⟩) c2 mt _ h wr (·<wr.heap.size) (HT.out.1.rm) HI.out oZ rfl V4).mono ?_;rintro e w1 ⟨rfl,rfl⟩;rw[HG.out];go_wp2_with fail;refine(cC (some ⟨b,off,none⟩) c2 mt _ g wr (·<wr.heap.size) (HT.out.1.rm) HI.out oZ rfl VS).mono ?_;rintro e w1 ⟨rfl,rfl⟩;rw[HV.out];go_wp2_with fail;refine(dF h _ rfl oZ).mono ?_;rintro e w1 ⟨rfl,rfl⟩;go_wp2_with fail;refine(dF u _ rfl oZ).mono ?_;rintro e w1 ⟨rfl,rfl⟩;go_wp2_with fail;refine(dF m _ rfl oZ).mono ?_;rintro e w1 ⟨rfl,rfl⟩;go_wp2_with fail;refine(dF g _ rfl oZ).mono ?_;rintro e w1 ⟨rfl,rfl⟩;go_wp2_with fail;refine RC (v:= .tuple #[.agg #[.int .i64 (h:Int),.int .i64 (u:Int),.int .i64 (ae h 2:Nat),.int .i64 (ae u 2:Nat),.int .i64 (ae m 2:Nat),.int .i64 (g:Int),.int .i64 (m:Int),.int .i64 (ae g 2:Nat)],.bool true]) (by simp[results,Tryz.results54,go_sem,y0,y1,y2,y3,y4,y5,y6,y7,Vg]) rfl ?_;refine⟨?_,.inl ⟨k,oZ,?_,?_⟩⟩
       ·refine Below.alloc ?_ ?_ _
        ·iterate 8 refine RM ?_ oJ _
         exact HT.out.2.2
        {simp only[az];omega}
       {rw[HH.out,HO.out,HLB.out];simp only[RK]at q1 q2 q3;rw[RA,RA];exact⟨Rj oZ,Rj oZ,Rj oZ⟩};{rw[HH.out];unfold JS;rw[HG.out,HU.out,HM.out]}
      ·have q3:((h:Int)%2 !=(m:Int)%2)=true:=by rw[RZ];omega
       clear t1 t2 t3;go_wp2_with fail;refine(cC (some ⟨b,off,none⟩) c2 mt _ h wr (·<wr.heap.size) (HT.out.1.rm) HI.out oZ rfl V4).mono ?_;rintro e w1 ⟨rfl,rfl⟩;rw[HG.out];go_wp2_with fail;refine(cC (some ⟨b,off,none⟩) c2 mt _ g wr (·<wr.heap.size) (HT.out.1.rm) HI.out oZ rfl VS).mono ?_;rintro e w1 ⟨rfl,rfl⟩;rw[HV.out];go_wp2_with fail
       go_round
       case rel=>exact⟨k+1,oZ,by go_num⟩
       case measure=>simp[intOf];omega
     ·have q2:((v:Int)!=(h:Int))=true:=by rw[RZ];omega
      clear t1 t2;go_wp2_with fail;refine(cC (some ⟨b,off,none⟩) c2 mt _ h wr (·<wr.heap.size) (HT.out.1.rm) HI.out oZ rfl V4).mono ?_;rintro e w1 ⟨rfl,rfl⟩;rw[HG.out];go_wp2_with fail;refine(cC (some ⟨b,off,none⟩) c2 mt _ g wr (·<wr.heap.size) (HT.out.1.rm) HI.out oZ rfl VS).mono ?_;rintro e w1 ⟨rfl,rfl⟩;rw[HV.out];go_wp2_with fail
      go_round
      case rel=>exact⟨k+1,oZ,by go_num⟩
      case measure=>simp[intOf];omega
    ·have q1:((g:Int)/4 !=(x:Int))=true:=by rw[RZ];omega
     clear t1;go_wp2_with fail;refine(cC (some ⟨b,off,none⟩) c2 mt _ h wr (·<wr.heap.size) (HT.out.1.rm) HI.out oZ rfl V4).mono ?_;rintro e w1 ⟨rfl,rfl⟩;rw[HG.out];go_wp2_with fail
     go_round
     case rel=>exact⟨k+1,oZ,by go_num⟩
     case measure=>simp[intOf];omega
  ·obtain rfl:k=8:=oZ
   have y0:wr.cell? ⟨w.heap.size+1,0,none⟩=some (.int .i64 0):=by rw[Rt _ _ _ _ _ _ HT.out.2.1];rfl
   have f0:wr.frozen? ⟨w.heap.size+1,0,none⟩=false:=RD _ _ _ _ _ HT.out.2.1;have y1:wr.cell? ⟨w.heap.size+1,1,none⟩=some (.int .i64 0):=by rw[Rt _ _ _ _ _ _ HT.out.2.1];rfl
   have f1:wr.frozen? ⟨w.heap.size+1,1,none⟩=false:=RD _ _ _ _ _ HT.out.2.1;have y2:wr.cell? ⟨w.heap.size+1,2,none⟩=some (.int .i64 0):=by rw[Rt _ _ _ _ _ _ HT.out.2.1];rfl
   have f2:wr.frozen? ⟨w.heap.size+1,2,none⟩=false:=RD _ _ _ _ _ HT.out.2.1;have y3:wr.cell? ⟨w.heap.size+1,3,none⟩=some (.int .i64 0):=by rw[Rt _ _ _ _ _ _ HT.out.2.1];rfl
   have f3:wr.frozen? ⟨w.heap.size+1,3,none⟩=false:=RD _ _ _ _ _ HT.out.2.1;have y4:wr.cell? ⟨w.heap.size+1,4,none⟩=some (.int .i64 0):=by rw[Rt _ _ _ _ _ _ HT.out.2.1];rfl
   have f4:wr.frozen? ⟨w.heap.size+1,4,none⟩=false:=RD _ _ _ _ _ HT.out.2.1;have y5:wr.cell? ⟨w.heap.size+1,5,none⟩=some (.int .i64 0):=by rw[Rt _ _ _ _ _ _ HT.out.2.1];rfl
   have f5:wr.frozen? ⟨w.heap.size+1,5,none⟩=false:=RD _ _ _ _ _ HT.out.2.1;have y6:wr.cell? ⟨w.heap.size+1,6,none⟩=some (.int .i64 0):=by rw[Rt _ _ _ _ _ _ HT.out.2.1];rfl
   have f6:wr.frozen? ⟨w.heap.size+1,6,none⟩=false:=RD _ _ _ _ _ HT.out.2.1;have y7:wr.cell? ⟨w.heap.size+1,7,none⟩=some (.int .i64 0):=by rw[Rt _ _ _ _ _ _ HT.out.2.1];rfl
   have f7:wr.frozen? ⟨w.heap.size+1,7,none⟩=false:=RD _ _ _ _ _ HT.out.2.1;go_wp2_with fail;refine RC (v:= .tuple #[.agg #[.int .i64 0,.int .i64 0,.int .i64 0,.int .i64 0,.int .i64 0,.int .i64 0,.int .i64 0,.int .i64 0],.bool false]) (by simp[results,Tryz.results54,go_sem,y0,y1,y2,y3,y4,y5,y6,y7]) rfl ?_;refine⟨?_,.inr rfl⟩;(iterate 8 refine RM ?_ oJ _);exact HT.out.2.2
theorem wO(A1 A2:Option Addr)(c1 c2:Nat)(sg mt:List Int)(L kd X Y s:Int)(ov:Bool)(w:World)(S:Nat->Prop)(hx:RI w S A1 sg)(hy:RI w S A2 mt)(hS:∀b,S b->b<w.heap.size)(VO:sg.length<=64)(hL:L=0)(hX: -1<=X/\X<4*sg.length):
  Calls Tryz.prog 41 #[.agg #[.slice A1 sg.length c1,.slice A2 mt.length c2,.int .i64 L],.agg #[.int .i64 kd,.int .i64 X,.int .i64 Y,.int .i64 s,.bool ov]] w fun e w'=>∃er:Int,e= .returned (.int .i64 er)/\(er=0->0<=X/\ai sg X.toNat=true/\sg.length+1<=64)/\Below w.heap.size w w':=by
 subst hL;have HD:=Rb ((bI.start (c1:=c1) (c2:=c2) (L:=0) S hx hy hS).below ((Rh _ _).alloc (Rf _) (.cells #[.int .i64 kd,.int .i64 X,.int .i64 Y,.int .i64 s,.bool ov] 26)));have HB:=Rb (((Rh w.heap.size w).alloc (Rf _) (.cells #[.slice A1 sg.length c1,.slice A2 mt.length c2,.int .i64 0] 24)).alloc oX (.cells #[.int .i64 kd,.int .i64 X,.int .i64 Y,.int .i64 s,.bool ov] 26));have hX1:=hX.1;have hX2:=hX.2;clear hx hy hS hX;by_cases Wm:X<0
 ·obtain rfl:X= -1:=oZ
  clear hX1 hX2 Wm;go_enter Tryz.func41,Tryz.ntmps41
  go_wp2_with fail;go_ret;exact⟨6,rfl,fun h=>by omega,HB.out⟩
 ·obtain⟨h,rfl⟩:∃h:Nat,X=h:=⟨X.toNat,oZ⟩
  have hh:h<4*sg.length:=oZ;have e0:((h:Int)).toNat=h:=oX;rw[e0];have Yf:(0:Int)<=(h:Int):=oZ;have Vg:¬((h:Int)<0):=oZ;clear hX1 hX2 Wm e0;go_enter Tryz.func41,Tryz.ntmps41
  go_wp2_with fail;obtain⟨W,hW⟩:∃W,(w.alloc (.cells #[.slice A1 sg.length c1,.slice A2 mt.length c2,.int .i64 0] 24)).alloc (.cells #[.int .i64 kd,.int .i64 (h:Int),.int .i64 Y,.int .i64 s,.bool ov] 26)=W:=⟨_,rfl⟩
  have VL:W.cell? ⟨w.heap.size+1,1,none⟩=some (.int .i64 (h:Int)):=by have:=Ru (w.alloc (.cells #[.slice A1 sg.length c1,.slice A2 mt.length c2,.int .i64 0] 24)) (.cells #[.int .i64 kd,.int .i64 (h:Int),.int .i64 Y,.int .i64 s,.bool ov] 26);rw[hW,show(w.alloc (.cells #[.slice A1 sg.length c1,.slice A2 mt.length c2,.int .i64 0] 24)).heap.size=w.heap.size+1 by simp]at this;rw[Rt _ _ _ _ _ _ this];rfl
  rw[hW]at HD HB⊢;clear hW;refine(iG A1 A2 c1 c2 mt.length sg 0 _ h W (·<W.heap.size) HD.out.rs (fun _ h=>h) oZ rfl hh).mono ?_;rintro e w1 ⟨rfl,Vi⟩;have Vp:=Rb (HD.out.below Vi);have Vr:=Rb (HB.out.trans (Vi.mono HB.out.size));have j0:=Vp.out.c0;have j2:=Vp.out.c2;have jm:=(Vi.cell (p:=⟨w.heap.size+1,1,none⟩) (RX _ _ VL)).trans VL;clear Vi VL HD HB
  cases Vu:ai sg h with
  |false=>clear Vu;go_wp2_with fail;go_ret;exact⟨6,rfl,fun h=>by omega,Vr.out⟩
  |true=>have HOB:=Rb Vu;clear Vu;by_cases h65:sg.length=64;{go_wp2_with fail;go_ret;exact⟨5,rfl,fun h=>by omega,Vr.out⟩};{have h63:sg.length<=63:=oZ;clear h65;go_wp2_with fail;go_ret;refine⟨0,rfl,?_,Vr.out⟩;intro _;exact HOB.out}
def JK(n:Nat)(s:Int)(ov:Bool):Nat:=if ov then(if s=1 then 4*n+3 else 4*n+1)else 4*n
def CZ(n:Nat)(s:Int)(ov:Bool):Nat:=if ov then(if s=1 then 4*n+1 else 4*n+3)else 4*n+2
def Ki(n:Nat)(s:Int)(ov:Bool):Nat:=if ov then 4*n else(if s=1 then 4*n+3 else 4*n+1)
def Ds(n:Nat)(s:Int)(ov:Bool):Nat:=if ov then 4*n+2 else(if s=1 then 4*n+1 else 4*n+3)
def JV(mt:List Int)(n:Nat)(s:Int)(ov:Bool)(h:Nat):List Int:=
 bH (bH (bH (mt++List.replicate 4 0) (CZ n s ov) (Ki n s ov)) (Ds n s ov) (gn mt h)) h (JK n s ov)
theorem Gt{w wr w':World}{b:Nat}{v1 v2:Value}{xs ys:List Int}{K:Int}(N:GV wr (w.heap.size+4) b v1 v2 xs ys K)(hk:∀g,w.heap.size+4<=g->w'.heap[g]?=wr.heap[g]?):dz w' w.heap.size v1 v2 xs ys:=
 ⟨(N.o1.ak fun g hg=>hk g (N.o1.lt g hg).1).mono oZ,(N.o2.ak fun g hg=>hk g (N.o2.lt g hg).1).mono oZ,N.ne⟩
theorem Gj(A1 A2:Option Addr)(c1 c2:Nat)(sg mt:List Int)(L kd X Y s:Int)(ov:Bool)(w:World)(S:Nat->Prop)(hx:RI w S A1 sg)(hy:RI w S A2 mt)(hS:∀b,S b->b<w.heap.size)(hd:cJ sg mt L)(hL:L=0)(hX: -1<=X/\X<4*sg.length)(hs:s=1\/s= -1):
  Calls Tryz.prog 19 #[.agg #[.slice A1 sg.length c1,.slice A2 mt.length c2,.int .i64 L],.agg #[.int .i64 kd,.int .i64 X,.int .i64 Y,.int .i64 s,.bool ov]] w
   (Mq w fun sg' mt' L'=>∃h:Nat,X=h/\h<mt.length/\ai sg h=true/\sg.length+1<=64/\sg'=sg++[s]/\mt'=JV mt sg.length s ov h/\L'=L):=by
 have T0:=Rb (oF.start (c1:=c1) (c2:=c2) (L:=L) (kd:=kd) (X:=X) (Y:=Y) (s:=s) (ov:=ov) hx hy hS);have HI:=Rb hd.2.2.2.2.2.1;have VO:sg.length<=64:=hd.1;have H2:=Rb hd.2.1;have HX:=Rb hX;have HL:=Rb hL;obtain⟨k0,k1,k2,n0,n1,n2,n3,n4,-,-,-,-,-,-⟩:=T0.out;clear hx hy hS hd hX hL;go_enter Tryz.func19,Tryz.ntmps19
 go_wp2_with fail;generalize hW:(((w.alloc (.cells #[.slice A1 sg.length c1,.slice A2 mt.length c2,.int .i64 L] 24)).alloc (.cells #[.int .i64 kd,.int .i64 X,.int .i64 Y,.int .i64 s,.bool ov] 26)).alloc (.cells #[.slice none 0 0,.slice none 0 0,.int .i64 0] 24)).alloc (.cells #[.int .i64 0,.int .i64 0,.int .i64 0,.int .i64 0,.bool false] 26)=wr at*;clear hW;refine(wO A1 A2 c1 c2 sg mt L kd X Y s ov wr (·<w.heap.size) T0.out.rs T0.out.rm (fun b hb=>by have:=T0.out.lt;omega) VO HL.out HX.out).mono ?_;rintro e w1 ⟨er,rfl,Z0,Vi⟩;have T1:=Rb (T0.out.call Vi);obtain⟨j0,j1,j2,-,o1,-,o3,o4,-,-,-,-,V5,-⟩:=T1.out;clear k0 k1 k2 n0 n1 n2 n3 n4 T0 Vi;by_cases her:er=0
 ·subst her
  obtain⟨hX0,Vu,h63⟩:=Z0 rfl;obtain⟨h,rfl⟩:∃h:Nat,X=h:=⟨X.toNat,oZ⟩
  rw[show((h:Int)).toNat=h by simp]at Vu;have V4:h<mt.length:=by have:=HX.out.2;have:=H2.out;omega
  have HOB:=Rb Vu;clear Z0 Vu;have Vj:Below w1.heap.size w1 (w1.alloc (.cells #[.int .i64 s] 3)):=(Rh _ _).alloc (Rf _) _;have Xp:(w1.alloc (.cells #[.int .i64 s] 3)).heap.size=w1.heap.size+1:=oX;have VN:RI (w1.alloc (.cells #[.int .i64 s] 3)) (·<w1.heap.size+1) (some ⟨w1.heap.size,0,none⟩) [s]:=fun _=>⟨w1.heap.size,0,rfl,R9 _,fun k hk=>by
   obtain rfl:k=0:=by simp at hk;omega
   rw[Rt _ _ _ _ _ _ (Ru w1 (.cells #[.int .i64 s] 3))];rfl⟩
  have Zd:=Rb VN;have VD:=Rb Vj;have Ww:=Rb Xp;have T2:=Rb (T1.out.call Vj);clear Vj Xp VN;go_wp2_with fail;generalize hW2:w1.alloc (.cells #[.int .i64 s] 3)=w2 at*;clear hW2;refine(vA A1 A2 (some ⟨w1.heap.size,0,none⟩) c1 c2 1 sg mt [s] L w2 (·<w1.heap.size+1) (T2.out.rs.imp fun b hb=>by omega) (T2.out.rm.imp fun b hb=>by omega) Zd.out (fun b hb=>by have:=Ww.out;omega) oZ (by have:=H2.out;omega) oX).mono ?_;rintro e w3 ⟨v1,v2,rfl,hf,Vt⟩;have T3:=Rb (T2.out.call Vt);have HN:=Rb (tN (K:=L) (B:=w.heap.size+4) (⟨hf.os,hf.om,hf.ne⟩:NM w3 w2.heap.size v1 v2 _ _) T2.out.lt Vt.size);have T4:=Rb (T3.out.call ((Rh _ _).alloc (Rf _) (.cells #[v1,v2,.int .i64 L] 24)));obtain⟨A5,k5,WK,-,-,-⟩:=hf.om.shape;obtain⟨A6,k6,Wq,-,-,-⟩:=hf.os.shape;obtain⟨n6,hn6⟩:∃n,(sg++[s]).length=n:=⟨_,rfl⟩
  obtain⟨n5,hn5⟩:∃n,(mt++List.replicate (4*[s].length) (0:Int)).length=n:=⟨_,rfl⟩
  have h45:mt.length+4=n5:=by rw[<-hn5];simp
  rw[hn5]at WK;rw[hn6]at Wq;subst WK;subst Wq;clear hf Vt j0 j1 j2 o1 o3 o4 T1 T2 VD Ww Zd T3 hn6;obtain⟨g,c',e5,Vs,Vv,-,-,-,-⟩:=HN.out.o2.block oZ;injection e5 with e5 e6 e7
  clear e6 e7;subst e5;obtain⟨n,hn⟩:∃n,sg.length=n:=⟨_,rfl⟩
  have H2n:mt.length=4*n:=by rw[<-hn];exact H2.out
  obtain⟨a0,ha0⟩:∃a,CZ sg.length s ov=a:=⟨_,rfl⟩
  obtain⟨a1,ha1⟩:∃a,Ki sg.length s ov=a:=⟨_,rfl⟩
  obtain⟨a2,ha2⟩:∃a,Ds sg.length s ov=a:=⟨_,rfl⟩
  obtain⟨a3,ZA⟩:∃a,JK sg.length s ov=a:=⟨_,rfl⟩
  have hr:a0<n5/\a1<n5/\a2<n5/\a3<n5:=by unfold CZ at ha0;unfold Ki at ha1;unfold Ds at ha2;unfold JK at ZA;rcases hs with rfl|rfl<;>cases ov<;>simp at ha0 ha1 ha2 ZA<;>omega
  have HLX:Hid ((mt++List.replicate (4*[s].length) (0:Int)).length=n5):=Rb hn5;obtain⟨xs,hxs⟩:∃xs,mt++List.replicate (4*[s].length) (0:Int)=xs:=⟨_,rfl⟩
  have HXS:=Rb hxs;rw[hxs]at HN HLX;have HA0:=Rb ha0;have HA1:=Rb ha1;have HA2:=Rb ha2;have HA3:=Rb ZA;have HR:=Rb hr;have H45:=Rb h45;have HN5:=Rb hn5;obtain⟨j0,j1,j2,-,o1,-,o3,o4,-,-,-,-,-,-⟩:=T4.out;have r0:=HN.out.c0;have r1:=HN.out.c1;have r2:=HN.out.c2;clear hn H2n ha0 ha1 ha2 ZA hr h45 hn5 hxs;rcases hs with rfl|rfl<;>cases ov
  all_goals
   go_wp2_with fail;refine(cO g n5 k5 xs _ _ a0 a1 _ (w.heap.size+4) (by exact HN.out.o2) (by have:=HA0.out;simp[CZ]at this;omega) (by have:=HA1.out;simp[Ki]at this;omega) (by rw[HLX.out];exact HR.out.1) (by rw[HLX.out];exact HR.out.2.1)).mono ?_;rintro e w5 ⟨rfl,ho5,Wd⟩;have T5:=Rb (T4.out.mod Wd Vs);have N5:=Rb (HN.out.mod Wd ho5);clear ho5 Wd j0 j1 j2 o1 o3 o4 r0 r1 r2 T4 HN;have j1:=T5.out.c1;have o1:=T5.out.m1;have r1:=N5.out.c1;obtain⟨hgi,VS,-,-⟩:=HI.out.gn V4;obtain⟨b,off,e2,Xv,hc⟩:=T5.out.rm.at_ V4;subst e2;have kx:=hc h V4;rw[hgi]at kx;have HGL:=Rb VS;clear hc hgi VS;go_wp2_with fail
   go_still_tail 9,qk
   have T5d:=Rb T5.out.drew;have N5d:=Rb (N5.out.call (Rh _ _).drew);clear j1 o1 r1 kx T5 N5;go_wp2_with fail;refine(cO g n5 k5 (bH xs a0 a1) _ _ a2 (gn mt h) _ (w.heap.size+4) (by exact N5d.out.o2) (by have:=HA2.out;simp[Ds]at this;omega) rfl (by rw[al,HLX.out];exact HR.out.2.2.1) (by rw[al,HLX.out];have:=HGL.out;have:=H45.out;omega)).mono ?_;rintro e w7 ⟨rfl,ho7,hm7⟩;have T7:=Rb (T5d.out.mod hm7 Vs);have N7:=Rb (N5d.out.mod hm7 ho7);clear ho7 hm7 T5d N5d;have o1:=T7.out.m1;have r1:=N7.out.c1;go_wp2_with fail;refine(cO g n5 k5 (bH (bH xs a0 a1) a2 (gn mt h)) _ _ h a3 _ (w.heap.size+4) (by exact N7.out.o2) rfl (by have:=HA3.out;simp[JK]at this;omega) (by rw[al,al,HLX.out];have:=H45.out;omega) (by rw[al,al,HLX.out];exact HR.out.2.2.2)).mono ?_;rintro e w8 ⟨rfl,ho8,hm8⟩;have T8:=Rb (T7.out.mod hm8 Vs);have N8:=Rb (N7.out.mod hm8 ho8);clear ho8 hm8 T7 N7 o1 r1;have r0:=N8.out.c0;have r1:=N8.out.c1;have r2:=N8.out.c2;obtain⟨y0,y1,y2,g0,g1,g2,-⟩:=T8.out.zb;obtain⟨z0,z1,z2,z3,z4,q0,q1,q2,q3,q4⟩:=T8.out.zm;go_wp2_with fail;refine RC (v:= .tuple #[.agg #[.slice A6 n6 k6,.slice (some ⟨g,0,none⟩) n5 k5,.int .i64 L],.agg #[.int .i64 2,.int .i64 (sg.length:Int),.int .i64 0,.int .i64 0,.bool false],.int .i64 0]) (by simp[results,Tryz.results19,go_sem,y0,y1,y2,z0,z1,z2,z3,z4]) rfl ?_
   refine⟨_,_,0,rfl,⟨⟨_,_,_,_,_,_,_,rfl⟩,_,_,_,_,_,rfl⟩,?_,fun _=>⟨_,_,_,_,_,rfl,Gt N8.out ?_,h,rfl,V4,HOB.out,h63,rfl,?_,rfl⟩⟩
   ·iterate 8 refine RM ?_ oJ _
    exact T8.out.bel
   {intro k hk;(iterate 8 rw[Rn _ _ _ k oJ])};{unfold JV;rw[HA0.out,HA1.out,HA2.out,HA3.out,<-HXS.out];rfl}
 ·have her2:(er !=0)=true:=by rw[RZ];exact her
  obtain⟨y0,y1,y2,g0,g1,g2,-⟩:=T1.out.zb;obtain⟨z0,z1,z2,z3,z4,q0,q1,q2,q3,q4⟩:=T1.out.zm;have HE:=Rb her;clear Z0 her;go_wp2_with fail;refine RC (v:= .tuple #[.agg #[.slice none 0 0,.slice none 0 0,.int .i64 0],.agg #[.int .i64 0,.int .i64 0,.int .i64 0,.int .i64 0,.bool false],.int .i64 er]) (by simp[results,Tryz.results19,go_sem,y0,y1,y2,z0,z1,z2,z3,z4]) rfl ?_;refine⟨_,_,er,rfl,⟨⟨_,_,_,_,_,_,_,rfl⟩,_,_,_,_,_,rfl⟩,?_,fun h=>absurd h HE.out⟩;(iterate 8 refine RM ?_ oJ _);exact T1.out.bel
theorem Br(A:Option Addr)(c:Nat)(xs:List Int)(v:Int)(w:World)(S:Nat->Prop)(hx:RI w S A xs)(hm:xs.length<=maxLen):
  Calls Tryz.prog 101 #[.slice A xs.length c,.int .i64 v] w fun e w'=>(∃k:Nat,k<xs.length/\gi xs k=v/\e= .returned (.int .i64 k)/\w=w')\/((∀k,k<xs.length->gi xs k≠v)/\e= .returned (.int .i64 (-1))/\w=w'):=by
 unfold maxLen at hm;have HX:=Rb hx;clear hx;go_enter Tryz.func101,Tryz.ntmps101
 go_wp2_with fail;go_loopw[5,8] (fun _ i wr=>∃k:Nat,k<=xs.length/\i= .int .i64 k/\w=wr/\Hid (∀j,j<k->gi xs j≠v)) (fun _ i _=>xs.length-(intOf i).toNat)
 case atStart=>exact⟨0,Rv _,rfl,rfl,fun j hj=>by omega⟩
 case round=>
  obtain⟨k,hk,rfl,rfl,HA⟩:=hrel;by_cases Vg:k<xs.length
  ·obtain⟨b,off,rfl,-,WS⟩:=HX.out.at_ Vg
   have c1:=WS k Vg;by_cases hq:gi xs k=v
   ·have hb:(v==gi xs k)=true:=by rw[SA];exact hq.symm
    have HQ:=Rb hq;obtain⟨y,hy⟩:∃y,gi xs k=y:=⟨_,rfl⟩
    rw[hy]at c1 hb;clear WS hq hy HA;go_wp2_with fail;go_ret;exact .inl ⟨k,Vg,HQ.out,rfl,rfl⟩
   ·have hb:(v==gi xs k)=false:=by rw[Rs];exact fun e=>hq e.symm
    have ZW:Hid (∀j,j<k+1->gi xs j≠v):=fun j hj=>by
     rcases Sl (SO hj)with h1|rfl
     {exact HA.out j h1};{exact hq}
    obtain⟨y,hy⟩:∃y,gi xs k=y:=⟨_,rfl⟩
    rw[hy]at c1 hb;clear WS hq hy HA;go_wp2_with fail;go_roundw
    case rel=>exact⟨k+1,oZ,by go_num,by trivial,ZW⟩
    case measure=>simp[intOf];omega
  {obtain rfl:xs.length=k:=oZ;go_wp2_with fail;go_ret;exact .inr ⟨HA.out,rfl,rfl⟩}
theorem nP(A:Option Addr)(c n:Nat)(xs:List Int)(v:Int)(w:World)(S:Nat->Prop)(hx:RI w S A xs)(hn:xs.length=n)(hm:n<=maxLen){r:Bool}(hr:decide (v∈xs)=r):
  Calls Tryz.prog 78 #[.slice A n c,.int .i64 v] w fun e w'=>e= .returned (.bool r)/\w=w':=by
 subst hn;have HC:=Rb (Br A c xs v w S hx hm);have HR:=Rb hr;clear hx hm hr;go_enter Tryz.func78,Tryz.ntmps78
 go_wp2_with fail;refine HC.out.mono ?_;rintro e w1 (⟨k,hk,hp,rfl,rfl⟩|⟨ha,rfl,rfl⟩)
 ·obtain rfl:r=true:=by
   rw[<-HR.out,RE,<-hp,fP hk];exact R7 hk
  have h0:(0:Int)<=(k:Int):=oZ;clear hp;go_wp2_with fail;go_ret;exact⟨rfl,rfl⟩
 ·obtain rfl:r=false:=by
   rw[<-HR.out,decide_eq_false_iff_not];intro hx;obtain⟨k,hk,e⟩:=List.mem_iff_getElem.1 hx;exact ha k hk (by rw[fP hk];exact e)
  clear ha;go_wp2_with fail;go_ret;exact⟨rfl,rfl⟩
def dV(gone sg:List Int):Nat->List Int
 |0=>[]
 |c+1=>dV gone sg c++if((c:Nat):Int)∈gone then[]else[gi sg c]
def zH(gone mt:List Int)(c j:Nat):List Int:=(List.range j).map fun s=>((AG gone (gn mt (4*c+s)):Nat):Int)
def dT(gone mt:List Int):Nat->List Int
 |0=>[]
 |c+1=>dT gone mt c++if((c:Nat):Int)∈gone then[]else zH gone mt c 4
theorem Fy(gone mt:List Int)(c j:Nat):zH gone mt c (j+1)=zH gone mt c j++[((AG gone (gn mt (4*c+j)):Nat):Int)]:=by unfold zH;rw[Sk,SB];rfl
theorem Ie(gone sg:List Int)(k:Nat):(dV gone sg k).length<=k:=by
 induction k with
 |zero=>exact Rf _
 |succ k ih=>rw[dV,Rz];split<;>simp<;>omega
theorem xJ(gone mt:List Int)(c j:Nat):(zH gone mt c j).length=j:=by simp[zH]
theorem Hx(gone mt:List Int)(k:Nat):(dT gone mt k).length<=4*k:=by
 induction k with
 |zero=>exact Rf _
 |succ k ih=>rw[dT,Rz];split<;>simp[xJ]<;>omega
structure nt(w wr:World)(v1 v2:Value)(xs ys:List Int)(L:Int):Prop where
 c0:wr.cell? ⟨w.heap.size+1,0,none⟩=some v1
 c1:wr.cell? ⟨w.heap.size+1,1,none⟩=some v2
 c2:wr.cell? ⟨w.heap.size+1,2,none⟩=some (.int .i64 L)
 f0:wr.frozen? ⟨w.heap.size+1,0,none⟩=false
 f1:wr.frozen? ⟨w.heap.size+1,1,none⟩=false
 o1:OI wr (w.heap.size+2) v1 xs
 o2:OI wr (w.heap.size+2) v2 ys
 ne:∀g,v1.ownBlock=some g->v2.ownBlock≠some g
 zb:fD wr w.heap.size
 lt:w.heap.size+2<=wr.heap.size
 bel:Below w.heap.size w wr
section
variable{w wr w':World}{v1 v2:Value}{xs ys:List Int}{L:Int}
theorem nt.call(h:nt w wr v1 v2 xs ys L)(hb:Below wr.heap.size wr w'):nt w w' v1 v2 xs ys L:=by
 have hl:=h.lt;have e:w'.heap[w.heap.size+1]?=wr.heap[w.heap.size+1]?:=hb.block _ oZ;exact⟨(Ri (a:=⟨w.heap.size+1,0,none⟩) e).trans h.c0,(Ri (a:=⟨w.heap.size+1,1,none⟩) e).trans h.c1,(Ri (a:=⟨w.heap.size+1,2,none⟩) e).trans h.c2,
  (Ro (a:=⟨w.heap.size+1,0,none⟩) e).trans h.f0,(Ro (a:=⟨w.heap.size+1,1,none⟩) e).trans h.f1,
  h.o1.below hb (Rf _),h.o2.below hb (Rf _),h.ne,h.zb.below hb,RQ hl hb.size,h.bel.trans (hb.mono h.bel.size)⟩
theorem nt.drew(h:nt w wr v1 v2 xs ys L):nt w wr.drew v1 v2 xs ys L:=h.call (Rh _ _).drew
theorem nt.alloc(h:nt w wr v1 v2 xs ys L)(o:Obj):nt w (wr.alloc o) v1 v2 xs ys L:=h.call ((Rh _ _).alloc (Rf _) _)
theorem nt.MV(h:nt w wr v1 v2 xs ys L)(hg:wr.grownBy w' v1.ownBlock):∀b,b<=w.heap.size+1->w'.heap[b]?=wr.heap[b]?:=
 fun b hb=>hg.block b (by have:=h.lt;omega) (fun e=>by have:=(h.o1.lt b e.symm).1;omega)
theorem nt.MZ(h:nt w wr v1 v2 xs ys L)(hg:wr.grownBy w' v2.ownBlock):∀b,b<=w.heap.size+1->w'.heap[b]?=wr.heap[b]?:=
 fun b hb=>hg.block b (by have:=h.lt;omega) (fun e=>by have:=(h.o2.lt b e.symm).1;omega)
theorem xW{b i j:Nat}(h:i≠j):(⟨b,i,none⟩:Addr)≠⟨b,j,none⟩:=fun e=>by injection e with _ e;exact h e
theorem nt.Pe(h:nt w wr v1 v2 xs ys L)(hg:wr.grownBy w' v1.ownBlock):w'.cell? ⟨w.heap.size+1,0,none⟩=some v1/\w'.frozen? ⟨w.heap.size+1,0,none⟩=false:=
 ⟨(Ri (a:=⟨w.heap.size+1,0,none⟩) (h.MV hg _ (Rf _))).trans h.c0,(Ro (a:=⟨w.heap.size+1,0,none⟩) (h.MV hg _ (Rf _))).trans h.f0⟩
theorem nt.NO(h:nt w wr v1 v2 xs ys L)(hg:wr.grownBy w' v2.ownBlock):w'.cell? ⟨w.heap.size+1,1,none⟩=some v2/\w'.frozen? ⟨w.heap.size+1,1,none⟩=false:=
 ⟨(Ri (a:=⟨w.heap.size+1,1,none⟩) (h.MZ hg _ (Rf _))).trans h.c1,(Ro (a:=⟨w.heap.size+1,1,none⟩) (h.MZ hg _ (Rf _))).trans h.f1⟩
theorem nt.NW{w6:World}{v6:Value}{xs6:List Int}(h:nt w wr v1 v2 xs ys L)(ho:OI w6 (w.heap.size+2) v6 xs6)(hg:wr.grownBy w6 v1.ownBlock)(Vu:v6.ownBlock=v1.ownBlock\/v6.ownBlock=some wr.heap.size):
  nt w (w6.setCell ⟨w.heap.size+1,0,none⟩ v6) v6 v2 xs6 ys L:=by
 have hl:=h.lt;have e:=h.MV hg;have hs:=hg.size;have c:∀o,w6.cell? ⟨w.heap.size+1,o,none⟩=wr.cell? ⟨w.heap.size+1,o,none⟩:=fun o=>Ri (a:=⟨w.heap.size+1,o,none⟩) (e _ (Rf _))
 have z:(w6.setCell ⟨w.heap.size+1,0,none⟩ v6).heap[w.heap.size]?=wr.heap[w.heap.size]?:=(Rn _ _ _ _ (by show w.heap.size≠w.heap.size+1;omega)).trans (e _ oZ);refine⟨Ss (h:=(c 0).trans h.c0) ..,(R4 (h:=xW oQ) ..).trans ((c 1).trans h.c1),(R4 (h:=xW oQ) ..).trans ((c 2).trans h.c2),?_,?_,?_,?_,?_,h.zb.ak z ?_,?_,?_⟩;{rw[Rp];exact(Ro (a:=⟨w.heap.size+1,0,none⟩) (e _ (Rf _))).trans h.f0};{rw[Rp];exact(Ro (a:=⟨w.heap.size+1,1,none⟩) (e _ (Rf _))).trans h.f1};{exact ho.ak fun g V8=>Rn _ _ _ _ (by have:=(ho.lt g V8).1;show g≠w.heap.size+1;omega)};{exact h.o2.ak fun g V8=>(Rn _ _ _ _ (by have:=(h.o2.lt g V8).1;show g≠w.heap.size+1;omega)).trans (hg.block g (h.o2.lt g V8).2 (fun e=>h.ne g e.symm V8))}
 ·intro g e1 e2
  rcases Vu with h1|h1
  {exact h.ne g (h1▸e1) e2};{rw[h1]at e1;injection e1 with e1;have:=(h.o2.lt g e2).2;omega}
 {rw[az];exact hs};{rw[az];omega};{exact(h.bel.grown hg h.bel.size (fun k hk=>by have:=(h.o1.lt k hk).1;omega)).setCell (by show w.heap.size<=w.heap.size+1;omega) _}
theorem nt.NS{w6:World}{v6:Value}{ys6:List Int}(h:nt w wr v1 v2 xs ys L)(ho:OI w6 (w.heap.size+2) v6 ys6)(hg:wr.grownBy w6 v2.ownBlock)(Vu:v6.ownBlock=v2.ownBlock\/v6.ownBlock=some wr.heap.size):
  nt w (w6.setCell ⟨w.heap.size+1,1,none⟩ v6) v1 v6 xs ys6 L:=by
 have hl:=h.lt;have e:=h.MZ hg;have hs:=hg.size;have c:∀o,w6.cell? ⟨w.heap.size+1,o,none⟩=wr.cell? ⟨w.heap.size+1,o,none⟩:=fun o=>Ri (a:=⟨w.heap.size+1,o,none⟩) (e _ (Rf _))
 have z:(w6.setCell ⟨w.heap.size+1,1,none⟩ v6).heap[w.heap.size]?=wr.heap[w.heap.size]?:=(Rn _ _ _ _ (by show w.heap.size≠w.heap.size+1;omega)).trans (e _ oZ);refine⟨(R4 (h:=xW oQ) ..).trans ((c 0).trans h.c0),Ss (h:=(c 1).trans h.c1) ..,(R4 (h:=xW oQ) ..).trans ((c 2).trans h.c2),?_,?_,?_,?_,?_,h.zb.ak z ?_,?_,?_⟩;{rw[Rp];exact(Ro (a:=⟨w.heap.size+1,0,none⟩) (e _ (Rf _))).trans h.f0};{rw[Rp];exact(Ro (a:=⟨w.heap.size+1,1,none⟩) (e _ (Rf _))).trans h.f1};{exact h.o1.ak fun g V8=>(Rn _ _ _ _ (by have:=(h.o1.lt g V8).1;show g≠w.heap.size+1;omega)).trans (hg.block g (h.o1.lt g V8).2 (fun e=>h.ne g V8 e.symm))};{exact ho.ak fun g V8=>Rn _ _ _ _ (by have:=(ho.lt g V8).1;show g≠w.heap.size+1;omega)}
 ·intro g e1 e2
  rcases Vu with h1|h1
  {exact h.ne g e1 (h1▸e2)};{rw[h1]at e2;injection e2 with e2;have:=(h.o1.lt g e1).2;omega}
 {rw[az];exact hs};{rw[az];omega};{exact(h.bel.grown hg h.bel.size (fun k hk=>by have:=(h.o2.lt k hk).1;omega)).setCell (by show w.heap.size<=w.heap.size+1;omega) _}
end
theorem mR(A1 A2 A3:Option Addr)(c1 c2 c3:Nat)(sg mt gone:List Int)(L:Int)(w:World)(S:Nat->Prop)(hx:RI w S A1 sg)(hy:RI w S A2 mt)(hz:RI w S A3 gone)(hS:∀b,S b->b<w.heap.size)
  (h2:mt.length=4*sg.length)(VO:sg.length<=64)(hcap:mt.length<=c2/\c2<=maxLen)(hrg:∀h,h<mt.length->gi mt h=(gn mt h:Int)/\gn mt h<=400000)(VS:gone.length<=1000)(Y':∀h:Nat,4*(gone.filter fun c=>decide (c<((h/4:Nat):Int))).length<=h):
  Calls Tryz.prog 47 #[.slice A1 sg.length c1,.slice A2 mt.length c2,.int .i64 L,.slice A3 gone.length c3] w (jR (dV gone sg sg.length) (dT gone mt sg.length) L w):=by
 have HX:=Rb hx;have HY:=Rb hy;have HZ:=Rb hz;have HS:=Rb hS;have H2:=Rb h2;have HRG:=Rb hrg;have HBY:=Rb Y';have HCP:=Rb hcap;have HU0:Hid (nt w ((w.alloc (.cells #[.slice none 0 0,.slice none 0 0,.int .i64 0] 24)).alloc (.cells #[.slice none 0 0,.slice none 0 0,.int .i64 L] 24)) (.slice none 0 0) (.slice none 0 0) [] [] L):=by
  have Vi:Below w.heap.size w (w.alloc (.cells #[.slice none 0 0,.slice none 0 0,.int .i64 0] 24)):=(Rh _ _).alloc (Rf _) _;have VV:(w.alloc (.cells #[.slice none 0 0,.slice none 0 0,.int .i64 0] 24)).heap.size=w.heap.size+1:=oX;have VU:=fD.new (Ru w (.cells #[.slice none 0 0,.slice none 0 0,.int .i64 0] 24)) oX;generalize w.alloc (.cells #[.slice none 0 0,.slice none 0 0,.int .i64 0] 24)=w1 at*;have hn:=Ru w1 (.cells #[.slice none 0 0,.slice none 0 0,.int .i64 L] 24);rw[VV]at hn;exact Rb ⟨by rw[Rt _ _ _ _ _ _ hn];rfl,by rw[Rt _ _ _ _ _ _ hn];rfl,by rw[Rt _ _ _ _ _ _ hn];rfl,RD _ _ _ _ _ hn,RD _ _ _ _ _ hn,OR.nil _ _,OR.nil _ _,fun g e=>by simp[Value.ownBlock]at e,
   VU.below ((Rh _ _).alloc (Rf _) _),by simp[VV],Vi.alloc oZ _⟩
 clear hx hy hz hS h2 hrg Y' hcap;go_enter Tryz.func47,Tryz.ntmps47
 go_wp2_with fail;go_loopw[18] (fun i wr=>∃(k:Nat)(v1 v2:Value),k<=sg.length/\i= .int .i64 k/\Hid (nt w wr v1 v2 (dV gone sg k) (dT gone mt k) L)) (fun i _=>sg.length-(intOf i).toNat)
 case atStart=>exact⟨0,_,_,Rv _,rfl,HU0⟩
 case round=>
  clear HU0;obtain⟨k,v1,v2,hk,rfl,HU⟩:=hrel;by_cases Vg:k<sg.length
  ·have hX:=HX.out.ak (w':=wr) fun b hb=>HU.out.bel.block b (HS.out b hb)
   obtain⟨b,off,rfl,Xv,hc⟩:=hX.at_ Vg;have kx:=hc k Vg;have hZ:=HZ.out.ak (w':=wr) fun b hb=>HU.out.bel.block b (HS.out b hb)
   have HZr:=Rb hZ;obtain⟨s,hs⟩:∃s,gi sg k=s:=⟨_,rfl⟩
   rw[hs]at kx;have Xy:=Rb hs;clear hc hX hZ hs;have h4k:k<=64:=oZ;by_cases Vn:(k:Int)∈gone
   ·have e1:dV gone sg (k+1)=dV gone sg k:=by rw[dV,Re Vn,S6]
    have e2:dT gone mt (k+1)=dT gone mt k:=by rw[dT,Re Vn,S6]
    have HU':Hid (nt w wr v1 v2 (dV gone sg (k+1)) (dT gone mt (k+1)) L):=by rw[e1,e2];exact HU.out
    have HD:=Rb (Rj Vn);clear Vn e1 e2;go_wp2_with fail;refine(nP A3 c3 gone.length gone _ wr S HZr.out rfl (by unfold maxLen;omega) HD.out).mono ?_;rintro e w1 ⟨rfl,rfl⟩;go_wp2_with fail;go_roundw
    case rel=>exact⟨k+1,_,_,oZ,by go_num,HU'⟩
    case measure=>simp[intOf];omega
   ·have HD:=Rb (Rl Vn)
    have Yl:=Rb Vn;clear Vn;go_wp2_with fail;refine(nP A3 c3 gone.length gone _ wr S HZr.out rfl (by unfold maxLen;omega) HD.out).mono ?_;rintro e w1 ⟨rfl,rfl⟩;have k0:=HU.out.c0;have g0:=HU.out.f0;have XK:Hid ((dV gone sg k).length<1099511627776):=Rb (by have:=Ie gone sg k;omega);have VZ:Hid (w.heap.size+2<=wr.heap.size):=Rb HU.out.lt;have hh1:4*k+4<=c2:=by have:=HCP.out;have:=H2.out;omega
    have hh2:4*k+4<=mt.length:=by have:=H2.out;omega
    have hh3:c2<=9223372036854775807:=by have:=HCP.out.2;unfold maxLen at this;exact this
    have hY:=HY.out.ak (w':=wr) fun b hb=>HU.out.bel.block b (HS.out b hb)
    obtain⟨b2,off2,rfl,hbs2,Xd⟩:=hY.at_ (k:=4*k) (by have:=H2.out;omega);have HC2:=Rb Xd;clear hY Xd;go_wp2_with(at_builtin;refine BV HU.out.o1 XK.out VZ.out rfl rfl Tryz.underlying22 rfl rfl ?_;intro v6 w6 YD Zf Ym;obtain⟨c6,f6⟩:=(HU.out.alloc _).Pe Zf;have Zg:=Rb ((HU.out.alloc _).NW YD Zf (by simpa using Ym));obtain⟨A5,k5,Wq,-,-,-⟩:=YD.shape;clear YD Zf Ym;(generalize List.length _=n5 at Wq);subst Wq);have e1:dV gone sg (k+1)=dV gone sg k++[s]:=by rw[dV,Rc Yl.out,Xy.out]
    have Zv:=Rb e1;have HU1:Hid (nt w (w6.setCell ⟨w.heap.size+1,0,none⟩ (Value.slice A5 n5 k5)) (Value.slice A5 n5 k5) v2 (dV gone sg (k+1)) (dT gone mt k++zH gone mt k 0) L):=by rw[e1];exact Rb (by simpa[zH]using Zg.out)
    clear e1 Zg c6 f6 k0 g0 HU;generalize w6.setCell ⟨w.heap.size+1,0,none⟩ (Value.slice A5 n5 k5)=w7 at*;rw[show 4*k+4-4*k=4 by omega];go_loopw[40] (fun i wr=>∃(j:Nat)(v2:Value),j<=4/\i= .int .i64 j/\Hid (nt w wr (Value.slice A5 n5 k5) v2 (dV gone sg (k+1)) (dT gone mt k++zH gone mt k j) L)) (fun i _=>4-(intOf i).toNat)
    case atStart=>exact⟨0,_,oZ,rfl,HU1⟩
    case round=>
     clear HU1;obtain⟨j,v2,hj,rfl,HU⟩:=hrel;by_cases WH:j<4
     ·have hY:=HY.out.ak (w':=wr) fun b hb=>HU.out.bel.block b (HS.out b hb)
      obtain⟨b3,off3,e3,-,hc3⟩:=hY.at_ (k:=4*k+j) oZ;injection e3 with e3
      injection e3 with e3 e4
      subst e3;subst e4;have hZ:=HZ.out.ak (w':=wr) fun b hb=>HU.out.bel.block b (HS.out b hb)
      have HZr:=Rb hZ;obtain⟨ZB,Xs⟩:=HRG.out (4*k+j) oZ;have ky:=hc3 (4*k+j) oZ;rw[ZB,<-TO]at ky;obtain⟨y,hy⟩:∃y,gn mt (4*k+j)=y:=⟨_,rfl⟩
      rw[hy]at ky Xs;have HYY:=Rb hy;have XK:Hid ((dT gone mt k++zH gone mt k j).length<1099511627776):=Rb (by have:=Hx gone mt k;rw[Rz,xJ];omega);have VZ:Hid (w.heap.size+2<=wr.drew.heap.size):=Rb HU.out.lt;have X5:dT gone mt k++zH gone mt k (j+1)=dT gone mt k++zH gone mt k j++[((AG gone y:Nat):Int)]:=by rw[Fy,HYY.out,<-U1]
      obtain⟨ys,W'⟩:∃ys,dT gone mt k++zH gone mt k j=ys:=⟨_,rfl⟩
      rw[W']at HU XK X5;have HNX:=Rb X5;clear W' X5;have k1:=HU.out.c1;have g1:=HU.out.f1;have VF:w.heap.size+1<wr.heap.size:=by have:=HU.out.lt;omega
      have HUd:=Rb HU.out.drew;obtain⟨A,c,rfl,-,-,-⟩:=HU.out.o2.shape;clear hY hZ hc3 ZB hy;go_wp2_with fail
      go_region_law(first
       |(go_simp;go_at_call 46;refine(lQ A3 c3 gone _ y _ S (by exact HZr.out) VS rfl Xs (HBY.out y)).mono ?_;rintro e w1 ⟨rfl,rfl⟩)
       |(refine oI (w:=wr.drew) fU rfl oQ rfl HUd.out.o2 XK.out VZ.out rfl rfl Tryz.underlying22 rfl rfl ?_;intro v6 w6 YD Zf Ym;obtain⟨c6,f6⟩:=(HUd.out.alloc _).NO Zf;have Zg:=Rb ((HUd.out.alloc _).NS YD Zf (Ym.imp id fun e=>e.trans oX));obtain⟨A6,k6,Wq,-,-,-⟩:=YD.shape;clear YD Zf Ym;(generalize List.length _=n6 at Wq);subst Wq))
      all_goals
       have HU':Hid (nt w (w6.setCell ⟨w.heap.size+1,1,none⟩ (Value.slice A6 n6 k6)) (Value.slice A5 n5 k5) (Value.slice A6 n6 k6) (dV gone sg (k+1)) (dT gone mt k++zH gone mt k (j+1)) L):=by rw[HNX.out];exact Zg
       clear Zg c6 f6 k1 g1 HU HUd;generalize w6.setCell ⟨w.heap.size+1,1,none⟩ (Value.slice A6 n6 k6)=w8 at*;go_wp2_with fail;go_roundw
       case rel=>exact⟨j+1,_,oZ,by go_num,HU'⟩
       case measure=>simp[intOf];omega
     ·obtain rfl:j=4:=oZ
      have HU':Hid (nt w wr (Value.slice A5 n5 k5) v2 (dV gone sg (k+1)) (dT gone mt (k+1)) L):=by rw[dT,Rc Yl.out];exact HU
      clear HU;go_wp2_with fail;go_roundw
      case rel=>exact⟨k+1,_,_,oZ,by go_num,HU'⟩
      case measure=>simp[intOf];omega
  ·obtain rfl:sg.length=k:=oZ
   obtain⟨y0,y1,y2,g0,g1,g2,-⟩:=HU.out.zb;have k0:=HU.out.c0;have k1:=HU.out.c1;have k2:=HU.out.c2;obtain⟨A5,k5,rfl,-,-,-⟩:=HU.out.o1.shape;obtain⟨A6,k6,rfl,-,-,-⟩:=HU.out.o2.shape;go_wp2_with fail;have hE:dz (((wr.setCell ⟨w.heap.size,0,none⟩ (.slice A5 (dV gone sg sg.length).length k5)).setCell ⟨w.heap.size,1,none⟩ (.slice A6 (dT gone mt sg.length).length k6)).setCell ⟨w.heap.size,2,none⟩ (.int .i64 L)) w.heap.size (.slice A5 (dV gone sg sg.length).length k5) (.slice A6 (dT gone mt sg.length).length k6) (dV gone sg sg.length) (dT gone mt sg.length):=by
    have hk:∀g,w.heap.size+2<=g->(((wr.setCell ⟨w.heap.size,0,none⟩ (.slice A5 (dV gone sg sg.length).length k5)).setCell ⟨w.heap.size,1,none⟩ (.slice A6 (dT gone mt sg.length).length k6)).setCell ⟨w.heap.size,2,none⟩ (.int .i64 L)).heap[g]?=wr.heap[g]?:=fun g hg=>by rw[Rn _ _ _ g (by show g≠w.heap.size;omega),Rn _ _ _ g (by show g≠w.heap.size;omega),Rn _ _ _ g (by show g≠w.heap.size;omega)]
    exact⟨(HU.out.o1.ak fun g hg=>hk g (HU.out.o1.lt g hg).1).mono oZ,(HU.out.o2.ak fun g hg=>hk g (HU.out.o2.lt g hg).1).mono oZ,HU.out.ne⟩
   refine RC (v:= .agg #[.slice A5 (dV gone sg sg.length).length k5,.slice A6 (dT gone mt sg.length).length k6,.int .i64 L]) (by simp[results,Tryz.results47,go_sem,y0,y1,y2]) rfl ?_;exact⟨_,_,rfl,hE,((HU.out.bel.setCell (by exact Rf _) _).setCell (by exact Rf _) _).setCell (by exact Rf _) _⟩
theorem xG{G P:Prop}(h:G->P)(g:G):P:=h g
theorem td{w w9 w':World}{N:Nat}{v1 v2:Value}{xs ys:List Int}(h:dz w9 N v1 v2 xs ys)(hN:w.heap.size+4<=N)(hk:∀g,w.heap.size+4<=g->w'.heap[g]?=w9.heap[g]?):dz w' w.heap.size v1 v2 xs ys:=
 ⟨(h.os.ak fun g hg=>hk g (by have:=(h.os.lt g hg).1;omega)).mono oZ,(h.om.ak fun g hg=>hk g (by have:=(h.om.lt g hg).1;omega)).mono oZ,h.ne⟩
theorem zI(g n c:Nat)(xs:List Int)(a' b' z:Int)(a b:Nat)(w:World)(B:Nat)(Vo:nE xs a b=z)(ho:OI w B (.slice (some ⟨g,0,none⟩) n c) xs)(ha:a'=a)(hb:b'=b)(Wo:a<xs.length)(VF:b<xs.length)
  (hA:gi xs a=(gn xs a:Int)/\gn xs a<xs.length)(hB:gi xs b=(gn xs b:Int)/\gn xs b<xs.length):
  Calls Tryz.prog 45 #[.slice (some ⟨g,0,none⟩) n c,.int .i64 a',.int .i64 b'] w fun e w'=>e= .returned (.int .i64 z)/\OI w' B (.slice (some ⟨g,0,none⟩) n c) (ic xs a b)/\Mod g w w':=by
 subst Vo;exact tR g n c xs a' b' a b w B ho ha hb Wo VF hA hB
theorem Nf(xs:List Int)(a b:Nat):nE xs a b=0\/nE xs a b=1:=by unfold nE;split;exact .inr rfl;exact .inl rfl
theorem AY(W:World)(x:Int):RI (W.alloc (.cells #[.int .i64 x] 3)) (·<W.heap.size+1) (some ⟨W.heap.size,0,none⟩) [x]:=fun _=>⟨W.heap.size,0,rfl,R9 _,fun k hk=>by
 obtain rfl:k=0:=by simp at hk;omega
 rw[Rt _ _ _ _ _ _ (Ru W (.cells #[.int .i64 x] 3))];rfl⟩
theorem Cc{c:Int}(hc:0<=c)(h:Nat):4*([c].filter fun c=>decide (c<((h/4:Nat):Int))).length<=h:=by by_cases hd:c<((h/4:Nat):Int);{rw[Sw (by simpa using hd)];simp;omega};{rw[Sx (by simpa using hd)];simp}
theorem F5{mt:List Int}(hI:cP mt)(hl:mt.length<=400000){a b:Nat}(ha:a<mt.length)(hb:b<mt.length):∀h,h<mt.length->gi (ic mt a b) h=(gn (ic mt a b) h:Int)/\gn (ic mt a b) h<=400000:=fun h hh=>by
 have key:∃k:Nat,gi (ic mt a b) h=(k:Int)/\k<mt.length:=by unfold ic;split;{exact⟨_,(hI.gn hh).1,(hI.gn hh).2.1⟩};{rw[pP (hI.gn ha).2.1 (hI.gn hb).2.1];split;{exact⟨_,rfl,(hI.gn ha).2.1⟩};{split;{exact⟨_,rfl,(hI.gn hb).2.1⟩};{exact⟨_,(hI.gn hh).1,(hI.gn hh).2.1⟩}}}
 obtain⟨k,e,hk⟩:=key;have:gn (ic mt a b) h=k:=by unfold gn;rw[e];simp
 rw[this];exact⟨e,oZ⟩
def Lt(w:World)(m:Nat)(x v:Int)(bo:Bool):Prop:=w.heap[m]?=some (.cells #[.int .i64 1,.int .i64 x,.int .i64 0,.int .i64 v,.bool bo] 26 (0,0))
theorem Lt.at_{w:World}{m:Nat}{x v:Int}{bo:Bool}(h:Lt w m x v bo):w.cell? ⟨m,0,none⟩=some (.int .i64 1)/\w.cell? ⟨m,1,none⟩=some (.int .i64 x)/\w.cell? ⟨m,2,none⟩=some (.int .i64 0)/\w.cell? ⟨m,3,none⟩=some (.int .i64 v)/\w.cell? ⟨m,4,none⟩=some (.bool bo):=by unfold Lt at h;refine⟨?_,?_,?_,?_,?_⟩<;>(rw[Rt _ _ _ _ _ _ h];rfl)
theorem Lt.call{w w':World}{m:Nat}{x v:Int}{bo:Bool}(h:Lt w m x v bo)(hb:Below w.heap.size w w'):Lt w' m x v bo:=(hb.block m (SL h)).trans h
theorem Cm(A1 A2:Option Addr)(c1 c2:Nat)(sg mt:List Int)(L kd X Y s:Int)(ov:Bool)(w:World)(S:Nat->Prop)(hx:RI w S A1 sg)(hy:RI w S A2 mt)(hS:∀b,S b->b<w.heap.size)(hd:cJ sg mt L)(hL:L=0)(hX:0<=X/\X<sg.length):
  Calls Tryz.prog 20 #[.agg #[.slice A1 sg.length c1,.slice A2 mt.length c2,.int .i64 L],.agg #[.int .i64 kd,.int .i64 X,.int .i64 Y,.int .i64 s,.bool ov]] w
   (Mq w fun sg' mt' L'=>∃o:Nat,ja sg mt X.toNat=some o/\L'=nE mt (ae o 2) (ae (gn mt o) 2)/\sg'=dV [X] sg sg.length/\mt'=dT [X] (ic mt (ae o 2) (ae (gn mt o) 2)) sg.length):=by
 subst hL;obtain⟨c,rfl⟩:∃c:Nat,X=c:=⟨X.toNat,oZ⟩
 have Vo:c<sg.length:=oZ;rw[show((c:Int)).toNat=c by simp];have T0:=Rb (oF.start (c1:=c1) (c2:=c2) (L:=0) (kd:=kd) (X:=(c:Int)) (Y:=Y) (s:=s) (ov:=ov) hx hy hS);have HD:=Rb hd;have VO:sg.length<=64:=hd.1;have VQ:mt.length<=256:=by have:=hd.2.1;omega
 have k0:=T0.out.c0;have k1:=T0.out.c1;have k2:=T0.out.c2;have n1:=T0.out.m1;clear hx hy hS hd hX;go_enter Tryz.func20,Tryz.ntmps20
 go_wp2_with fail;generalize hW:(((w.alloc (.cells #[.slice A1 sg.length c1,.slice A2 mt.length c2,.int .i64 0] 24)).alloc (.cells #[.int .i64 kd,.int .i64 (c:Int),.int .i64 Y,.int .i64 s,.bool ov] 26)).alloc (.cells #[.slice none 0 0,.slice none 0 0,.int .i64 0] 24)).alloc (.cells #[.int .i64 0,.int .i64 0,.int .i64 0,.int .i64 0,.bool false] 26)=wr at*;clear hW;refine(Gh A1 A2 c1 c2 sg mt 0 wr (·<wr.heap.size) (T0.out.rs.imp fun b hb=>by have:=T0.out.lt;omega) (T0.out.rm.imp fun b hb=>by have:=T0.out.lt;omega) (fun _ h=>h) HD.out _ c rfl Vo).mono ?_;rintro e w1 ⟨rfl,Vi⟩;have T1:=Rb (T0.out.call Vi);clear k0 k1 k2 n1 T0 Vi
 cases hko:ja sg mt c with
 |none=>have HKO:=Rb hko;clear hko;obtain⟨y0,y1,y2,g0,g1,g2,-⟩:=T1.out.zb;obtain⟨z0,z1,z2,z3,z4,q0,q1,q2,q3,q4⟩:=T1.out.zm;unfold Hb;go_wp2_with fail;refine RC (v:= .tuple #[.agg #[.slice none 0 0,.slice none 0 0,.int .i64 0],.agg #[.int .i64 0,.int .i64 0,.int .i64 0,.int .i64 0,.bool false],.int .i64 6]) (by simp[results,Tryz.results20,go_sem,y0,y1,y2,z0,z1,z2,z3,z4]) rfl ?_;refine⟨_,_,6,rfl,⟨⟨_,_,_,_,_,_,_,rfl⟩,_,_,_,_,_,rfl⟩,?_,fun h=>absurd h oQ⟩;(iterate 8 refine RM ?_ oJ _);exact T1.out.bel
 |some o=>
  have HKO:=Rb hko;obtain⟨Z1,-,hgo4⟩:=rS hko;have h2:=HD.out.2.1;have hI:=HD.out.2.2.2.2.2.1;have Ze:o<mt.length:=oZ;obtain⟨a,ha⟩:∃a,ae o 2=a:=⟨_,rfl⟩
  obtain⟨b,hb⟩:∃b,ae (gn mt o) 2=b:=⟨_,rfl⟩
  have Wo:a<mt.length:=by rw[<-ha];have:=af o 2;omega
  have VF:b<mt.length:=by rw[<-hb];have:=af (gn mt o) 2;omega
  have HAI:Hid (gi mt a=(gn mt a:Int)/\gn mt a<mt.length):=⟨(hI.gn Wo).1,(hI.gn Wo).2.1⟩;have HBI:Hid (gi mt b=(gn mt b:Int)/\gn mt b<mt.length):=⟨(hI.gn VF).1,(hI.gn VF).2.1⟩;have HAA:=Rb ha;have HBB:=Rb hb;unfold Hb;dsimp only;rw[ha,hb];have H2:=Rb h2;have HCC:Hid (a/4=c/\b/4=c):=by rw[<-ha,<-hb];exact⟨by rw[af];omega,by rw[af];omega⟩
  clear hko Z1 hgo4 h2 hI ha hb Ze;have k1:=T1.out.c1;have k2:=T1.out.c2;have HR1:=Rb T1.out.rm;have V5:=T1.out.lt;have HL1:Hid (w.heap.size+4<=w1.heap.size):=Rb T1.out.lt;have Zb:Hid (([]:List Int).length+mt.length<1099511627776):=Rb qj;go_wp2_with(at_builtin;refine J_ (xs:=[]) (ys:=mt) (B:=w.heap.size+4) (OR.nil _ _) HR1.out Zb.out HL1.out rfl rfl Tryz.underlying22 rfl rfl ?_;intro v4 w4 Z1 hg4 hob4;have T4:=Rb (T1.out.call ((Rh w1.heap.size w1).grown hg4 (Rf _) (fun k hk=>by simp[Value.ownBlock]at hk)));rw[List.nil_append]at Z1;obtain⟨g,cc,hv4,Vs,Vv,hcc1,hcc2,-,-⟩:=Z1.block oZ;have HO4:=Rb Z1;clear Z1 hg4 hob4 k1 k2 T1 HR1 HL1 Zb;subst hv4;have k2:=T4.out.c2);have HG1:=Rb Vs;have HCP:Hid (mt.length<=cc/\cc<=maxLen):=⟨hcc1,hcc2⟩;clear Vv hcc1 hcc2 Vs;rcases Nf mt a b with Vo|Vo
  ·have ZC:=Rb Vo
   clear Vo;apply xG
   case h=>
    intro key
    go_region_with(go_at_call 45;refine(zI g mt.length cc mt _ _ 0 a b _ (w.heap.size+4) ZC.out (by exact HO4.out) rfl rfl Wo VF HAI.out HBI.out).mono ?_;rintro e w5 ⟨rfl,ho5,Wd⟩;have T5:=Rb (T4.out.drew.mod Wd HG1.out);have HO5:=Rb ho5;clear ho5 Wd;have l2:=T5.out.c2)
    all_goals
     revert w5;exact key
   case g=>
    intro w5 T5 HO5 l2;obtain⟨bs,offs,e2,Xv,hc⟩:=T5.out.rs.at_ Vo;subst e2;have kx:=hc c Vo;obtain⟨v,hv⟩:∃v,gi sg c=v:=⟨_,rfl⟩
    rw[hv]at kx;have hlt5:=T5.out.lt;have h50:w.heap.size<w5.heap.size:=oZ;have l0:=T5.out.c0;have l1:=T5.out.c1;obtain⟨bm,offm,e2,YM,Wy⟩:=T5.out.rm.at_ Wo;subst e2;have ky:=Wy a Wo;rw[HAI.out.1]at ky;obtain⟨q,hq⟩:∃q,gn mt a=q:=⟨_,rfl⟩
    rw[hq]at ky;have HQ:Hid (gn mt a=q/\q<mt.length):=⟨hq,by rw[<-hq];exact HAI.out.2⟩;obtain⟨bo,hbo⟩:∃b:Bool,((a:Int)%2==1)=b:=⟨_,rfl⟩
    have hbm2:bm<w5.heap.size:=oZ;clear hc Wy hv hq;have hR:=AY (w5.alloc (.cells #[.int .i64 1,.int .i64 (-1),.int .i64 0,.int .i64 v,.bool bo] 26)) (c:Int);rw[show(w5.alloc (.cells #[.int .i64 1,.int .i64 (-1),.int .i64 0,.int .i64 v,.bool bo] 26)).heap.size=w5.heap.size+1 by simp]at hR;have HR:=Rb hR;clear hR;go_wp2_with fail;refine(lQ (some ⟨w5.heap.size+1,0,none⟩) 1 [(c:Int)] _ q _ _ HR.out oX rfl (by have:=HQ.out.2;omega) (Cc oZ q)).mono ?_;rintro e w7 ⟨rfl,rfl⟩;go_wp2_with fail;obtain⟨W,hW⟩:∃W,((w5.alloc (.cells #[.int .i64 1,.int .i64 ((AG [(c:Int)] q:Nat):Int),.int .i64 0,.int .i64 v,.bool bo] 26)).alloc (.cells #[.int .i64 (c:Int)] 3))=W:=⟨_,rfl⟩
    have WC:Below w5.heap.size w5 W:=by rw[<-hW];exact((Rh _ _).alloc (Rf _) _).alloc oX _
    have hmv:Lt W w5.heap.size ((AG [(c:Int)] q:Nat):Int) v bo:=by rw[<-hW];exact(Rx _ _ _ oX).trans (Ru w5 _)
    have T6:=Rb (T5.out.call WC);have HO6:=Rb (HO5.out.below WC (Rf _));rw[hW];obtain⟨m,hm⟩:∃m,w5.heap.size=m:=⟨_,rfl⟩
    rw[hm]at hmv⊢;have HMV:=Rb hmv;have hmW:m<W.heap.size:=SL hmv;have hm4:w.heap.size+4<=m:=oZ;have Wd:¬w.heap.size+2=m:=oZ;have hm6:¬m=w.heap.size+2:=oZ;have hm7:¬w.heap.size+1+1=m:=oZ;have hm8:¬m=w.heap.size+1+1:=oZ;have h6lt:=T6.out.lt;have h60:w.heap.size<W.heap.size:=oZ;obtain⟨ys,W'⟩:∃ys,ic mt a b=ys:=⟨_,rfl⟩
    have VJ:ys.length=mt.length:=by rw[<-W',gm]
    have hyr:∀h,h<mt.length->gi ys h=(gn ys h:Int)/\gn ys h<=400000:=by rw[<-W'];exact F5 HD.out.2.2.2.2.2.1 oZ Wo VF
    rw[W']at HO6;have HYS:=Rb W';clear hW WC hm hmv W' kx ky l0 l1 l2 hbm2 h50 hlt5 T5 HO5 HR
    have Zh:=mR (some ⟨bs,offs,none⟩) (some ⟨g,0,none⟩) (some ⟨W.heap.size,0,none⟩) c1 cc 1 sg ys [(c:Int)] 0 (W.alloc (.cells #[.int .i64 (c:Int)] 3)).drew (·<W.heap.size+1)
     (by exact(T6.out.rs.ak fun b hb=>Rx _ _ b (RB hb T6.out.bel.size)).imp fun b hb=>U2 (RQ (Uv hb) T6.out.bel.size))
     (by
      have ho:OI W (w.heap.size+4) (.slice (some ⟨g,0,none⟩) ys.length cc) ys:=by rw[VJ];exact HO6.out
      obtain⟨A',c',e',-,-,Wi⟩:=ho.reads;injection e' with e1 e2 e3
      subst e1;exact(Wi.ak fun b hb=>Rx _ _ b hb.2).imp fun b hb=>by omega)
     (by exact AY W (c:Int)) (fun b hb=>by
                            have:(W.alloc (.cells #[.int .i64 (c:Int)] 3)).drew.heap.size=W.heap.size+1:=oX;omega) (by rw[VJ];exact H2.out) VO (by rw[VJ];exact HCP.out) (by rw[VJ];exact hyr) oX (Cc oZ)
    rw[VJ]at Zh;have HSK:Hid (Calls Tryz.prog 47 #[.slice (some ⟨bs,offs,none⟩) sg.length c1,.slice (some ⟨g,0,none⟩) mt.length cc,.int .i64 0,.slice (some ⟨W.heap.size,0,none⟩) 1 1] (W.alloc (.cells #[.int .i64 (c:Int)] 3)).drew (jR (dV [(c:Int)] sg sg.length) (dT [(c:Int)] ys sg.length) 0 (W.alloc (.cells #[.int .i64 (c:Int)] 3)).drew)):=Rb Zh;have l0:=T6.out.c0;obtain⟨m0,m1,m2,m3,m4⟩:=HMV.out.at_;clear Zh VJ hyr;apply xG
    case h=>
     intro key
     go_region_with(go_at_call 47;refine HSK.out.mono ?_;rintro e w9 ⟨v1,v2,rfl,hf,hb9⟩;obtain⟨A5,k5,WK,-,-,-⟩:=hf.os.shape;obtain⟨A6,k6,Wq,-,-,-⟩:=hf.om.shape;(generalize List.length _=n5 at WK);(generalize List.length _=n6 at Wq);have XA:Below W.heap.size W (W.alloc (.cells #[.int .i64 (c:Int)] 3)).drew:=((Rh _ _).alloc (Rf _) _).drew;have Wz:=XA.trans (hb9.mono XA.size);have T9:=Rb (T6.out.call Wz);have hmv9:=HMV.out.call Wz;have HFR:=Rb hf;subst WK;subst Wq;obtain⟨p0,p1,p2,p3,p4⟩:=hmv9.at_;have y0:=T9.out.zb.z0;have y1:=T9.out.zb.z1;have y2:=T9.out.zb.z2;have g0:=T9.out.zb.f0;have g1:=T9.out.zb.f1;have g2:=T9.out.zb.f2;have z0:=T9.out.zm.z0;have z1:=T9.out.zm.z1;have z2:=T9.out.zm.z2;have z3:=T9.out.zm.z3;have z4:=T9.out.zm.z4;have q0:=T9.out.zm.f0;have q1:=T9.out.zm.f1;have q2:=T9.out.zm.f2;have q3:=T9.out.zm.f3;have q4:=T9.out.zm.f4;clear hf hb9 XA Wz hmv9)
     all_goals
      revert w9;revert A5 k5 A6 k6 n5 n6;exact key
    case g=>
     intro A5 k5 A6 k6 n5 n6 w9 T9 HFR p0 p1 p2 p3 p4 y0 y1 y2 g0 g1 g2 z0 z1 z2 z3 z4 q0 q1 q2 q3 q4;go_wp2_with fail;refine RC (v:= .tuple #[.agg #[.slice A5 n5 k5,.slice A6 n6 k6,.int .i64 0],.agg #[.int .i64 1,.int .i64 ((AG [(c:Int)] q:Nat):Int),.int .i64 0,.int .i64 v,.bool bo],.int .i64 0]) (by simp[results,Tryz.results20,go_sem,y0,y1,y2,z0,z1,z2,z3,z4]) rfl ?_;refine⟨_,_,0,rfl,⟨⟨_,_,_,_,_,_,_,rfl⟩,_,_,_,_,_,rfl⟩,?_,fun _=>⟨_,_,_,_,_,rfl,td HFR.out qj ?_,o,HKO.out,?_,rfl,?_⟩⟩
     ·iterate 8 refine RM ?_ oJ _
      exact T9.out.bel
     {intro k hk;(iterate 8 rw[Rn _ _ _ k oJ])};{rw[HAA.out,HBB.out,ZC.out]};{rw[HAA.out,HBB.out,HYS.out]}
  ·have ZC:=Rb Vo
   clear Vo;apply xG
   case h=>
    intro key
    go_region_with(go_at_call 45;refine(zI g mt.length cc mt _ _ 1 a b _ (w.heap.size+4) ZC.out (by exact HO4.out) rfl rfl Wo VF HAI.out HBI.out).mono ?_;rintro e w5 ⟨rfl,ho5,Wd⟩;have T5:=Rb (T4.out.drew.mod Wd HG1.out);have HO5:=Rb ho5;clear ho5 Wd;have l2:=T5.out.c2)
    all_goals
     revert w5;exact key
   case g=>
    intro w5 T5 HO5 l2;obtain⟨bs,offs,e2,Xv,hc⟩:=T5.out.rs.at_ Vo;subst e2;have kx:=hc c Vo;obtain⟨v,hv⟩:∃v,gi sg c=v:=⟨_,rfl⟩
    rw[hv]at kx;have hlt5:=T5.out.lt;have h50:w.heap.size<w5.heap.size:=oZ;have l0:=T5.out.c0;have l1:=T5.out.c1;obtain⟨bm,offm,e2,YM,Wy⟩:=T5.out.rm.at_ Wo;subst e2;have ky:=Wy a Wo;rw[HAI.out.1]at ky;obtain⟨q,hq⟩:∃q,gn mt a=q:=⟨_,rfl⟩
    rw[hq]at ky;have HQ:Hid (gn mt a=q/\q<mt.length):=⟨hq,by rw[<-hq];exact HAI.out.2⟩;obtain⟨bo,hbo⟩:∃b:Bool,((a:Int)%2==1)=b:=⟨_,rfl⟩
    have hbm2:bm<w5.heap.size:=oZ;clear hc Wy hv hq;go_wp2_with fail;obtain⟨W,hW⟩:∃W,(w5.alloc (.cells #[.int .i64 1,.int .i64 (-1),.int .i64 0,.int .i64 v,.bool bo] 26))=W:=⟨_,rfl⟩
    have WC:Below w5.heap.size w5 W:=by rw[<-hW];exact((Rh _ _).alloc (Rf _) _)
    have hmv:Lt W w5.heap.size (-1) v bo:=by rw[<-hW];exact Ru w5 _
    have T6:=Rb (T5.out.call WC);have HO6:=Rb (HO5.out.below WC (Rf _));rw[hW];obtain⟨m,hm⟩:∃m,w5.heap.size=m:=⟨_,rfl⟩
    rw[hm]at hmv⊢;have HMV:=Rb hmv;have hmW:m<W.heap.size:=SL hmv;have hm4:w.heap.size+4<=m:=oZ;have Wd:¬w.heap.size+2=m:=oZ;have hm6:¬m=w.heap.size+2:=oZ;have hm7:¬w.heap.size+1+1=m:=oZ;have hm8:¬m=w.heap.size+1+1:=oZ;have h6lt:=T6.out.lt;have h60:w.heap.size<W.heap.size:=oZ;obtain⟨ys,W'⟩:∃ys,ic mt a b=ys:=⟨_,rfl⟩
    have VJ:ys.length=mt.length:=by rw[<-W',gm]
    have hyr:∀h,h<mt.length->gi ys h=(gn ys h:Int)/\gn ys h<=400000:=by rw[<-W'];exact F5 HD.out.2.2.2.2.2.1 oZ Wo VF
    rw[W']at HO6;have HYS:=Rb W';clear hW WC hm hmv W' kx ky l0 l1 l2 hbm2 h50 hlt5 T5 HO5
    have Zh:=mR (some ⟨bs,offs,none⟩) (some ⟨g,0,none⟩) (some ⟨W.heap.size,0,none⟩) c1 cc 1 sg ys [(c:Int)] 1 (W.alloc (.cells #[.int .i64 (c:Int)] 3)).drew (·<W.heap.size+1)
     (by exact(T6.out.rs.ak fun b hb=>Rx _ _ b (RB hb T6.out.bel.size)).imp fun b hb=>U2 (RQ (Uv hb) T6.out.bel.size))
     (by
      have ho:OI W (w.heap.size+4) (.slice (some ⟨g,0,none⟩) ys.length cc) ys:=by rw[VJ];exact HO6.out
      obtain⟨A',c',e',-,-,Wi⟩:=ho.reads;injection e' with e1 e2 e3
      subst e1;exact(Wi.ak fun b hb=>Rx _ _ b hb.2).imp fun b hb=>by omega)
     (by exact AY W (c:Int)) (fun b hb=>by
                            have:(W.alloc (.cells #[.int .i64 (c:Int)] 3)).drew.heap.size=W.heap.size+1:=oX;omega) (by rw[VJ];exact H2.out) VO (by rw[VJ];exact HCP.out) (by rw[VJ];exact hyr) oX (Cc oZ)
    rw[VJ]at Zh;have HSK:Hid (Calls Tryz.prog 47 #[.slice (some ⟨bs,offs,none⟩) sg.length c1,.slice (some ⟨g,0,none⟩) mt.length cc,.int .i64 1,.slice (some ⟨W.heap.size,0,none⟩) 1 1] (W.alloc (.cells #[.int .i64 (c:Int)] 3)).drew (jR (dV [(c:Int)] sg sg.length) (dT [(c:Int)] ys sg.length) 1 (W.alloc (.cells #[.int .i64 (c:Int)] 3)).drew)):=Rb Zh;have l0:=T6.out.c0;obtain⟨m0,m1,m2,m3,m4⟩:=HMV.out.at_;clear Zh VJ hyr;apply xG
    case h=>
     intro key
     go_region_with(go_at_call 47;refine HSK.out.mono ?_;rintro e w9 ⟨v1,v2,rfl,hf,hb9⟩;obtain⟨A5,k5,WK,-,-,-⟩:=hf.os.shape;obtain⟨A6,k6,Wq,-,-,-⟩:=hf.om.shape;(generalize List.length _=n5 at WK);(generalize List.length _=n6 at Wq);have XA:Below W.heap.size W (W.alloc (.cells #[.int .i64 (c:Int)] 3)).drew:=((Rh _ _).alloc (Rf _) _).drew;have Wz:=XA.trans (hb9.mono XA.size);have T9:=Rb (T6.out.call Wz);have hmv9:=HMV.out.call Wz;have HFR:=Rb hf;subst WK;subst Wq;obtain⟨p0,p1,p2,p3,p4⟩:=hmv9.at_;have y0:=T9.out.zb.z0;have y1:=T9.out.zb.z1;have y2:=T9.out.zb.z2;have g0:=T9.out.zb.f0;have g1:=T9.out.zb.f1;have g2:=T9.out.zb.f2;have z0:=T9.out.zm.z0;have z1:=T9.out.zm.z1;have z2:=T9.out.zm.z2;have z3:=T9.out.zm.z3;have z4:=T9.out.zm.z4;have q0:=T9.out.zm.f0;have q1:=T9.out.zm.f1;have q2:=T9.out.zm.f2;have q3:=T9.out.zm.f3;have q4:=T9.out.zm.f4;clear hf hb9 XA Wz hmv9)
     all_goals
      revert w9;revert A5 k5 A6 k6 n5 n6;exact key
    case g=>
     intro A5 k5 A6 k6 n5 n6 w9 T9 HFR p0 p1 p2 p3 p4 y0 y1 y2 g0 g1 g2 z0 z1 z2 z3 z4 q0 q1 q2 q3 q4;go_wp2_with fail;refine RC (v:= .tuple #[.agg #[.slice A5 n5 k5,.slice A6 n6 k6,.int .i64 1],.agg #[.int .i64 1,.int .i64 (-1),.int .i64 0,.int .i64 v,.bool bo],.int .i64 0]) (by simp[results,Tryz.results20,go_sem,y0,y1,y2,z0,z1,z2,z3,z4]) rfl ?_;refine⟨_,_,0,rfl,⟨⟨_,_,_,_,_,_,_,rfl⟩,_,_,_,_,_,rfl⟩,?_,fun _=>⟨_,_,_,_,_,rfl,td HFR.out qj ?_,o,HKO.out,?_,rfl,?_⟩⟩
     ·iterate 8 refine RM ?_ oJ _
      exact T9.out.bel
     {intro k hk;(iterate 8 rw[Rn _ _ _ k oJ])};{rw[HAA.out,HBB.out,ZC.out]};{rw[HAA.out,HBB.out,HYS.out]}
def LH(w:World)(e:Ending)(w':World):Prop:=∃z:Int,e= .returned (.int .i64 z)/\Below w.heap.size w w'
theorem GY(W:World)(x y:Int):RI (W.alloc (.cells #[.int .i64 x,.int .i64 y] 3)) (·<W.heap.size+1) (some ⟨W.heap.size,0,none⟩) [x,y]:=fun _=>⟨W.heap.size,0,rfl,R9 _,fun k hk=>by
 have hk2:k=0\/k=1:=by simp at hk;omega
 rcases hk2 with rfl|rfl<;>(rw[Rt _ _ _ _ _ _ (Ru W (.cells #[.int .i64 x,.int .i64 y] 3))];rfl)⟩
theorem GC{x y:Int}(hx:0<=x)(Vw:x<y)(h:Nat):4*([x,y].filter fun c=>decide (c<((h/4:Nat):Int))).length<=h:=by by_cases hd:y<((h/4:Nat):Int);{rw[Sw qj,Sw (by simpa using hd)];simp;omega};{by_cases Xe:x<((h/4:Nat):Int);{rw[Sw (by simpa using Xe),Sx (by simpa using hd)];simp;omega};{rw[Sx (by simpa using Xe),Sx (by simpa using hd)];simp}}
theorem rD{A1 A2:Option Addr}{c1 c2:Nat}{sg mt:List Int}{L:Int}{bd:Nat}(a:Int)(h:Nat)(w:World)(hd:bI w bd A1 A2 c1 c2 sg mt L)(VO:sg.length<=64)(ha:a=h)(hh:h<4*sg.length):
  Calls Tryz.prog 81 #[.int .i64 a,.pointer (some ⟨bd,0,none⟩)] w (LH w):=by
 subst ha;have HD:=Rb hd;have k0:=hd.c0;have k1:=hd.c1;have k2:=hd.c2;clear hd;go_enter Tryz.func81,Tryz.ntmps81
 go_wp2_with fail;refine(iG A1 A2 c1 c2 mt.length sg L _ h w (·<w.heap.size) HD.out.rs (fun _ h=>h) oZ rfl hh).mono ?_;rintro e w1 ⟨rfl,Vi⟩;have HB:=Rb Vi;clear Vi k0 k1 k2
 cases Vu:ai sg h
 all_goals
  clear Vu;go_wp2_with fail;go_ret;exact⟨_,rfl,HB.out⟩
structure Ko(wr w':World):Prop where
 sz:wr.heap.size<=w'.heap.size
 eq:∀g,g<wr.heap.size->w'.heap[g]?=wr.heap[g]?
theorem Ko.refl(w:World):Ko w w:=⟨Rf _,fun _ _=>rfl⟩
theorem Ko.drew{wr w':World}(h:Ko wr w'):Ko wr w'.drew:=⟨h.sz,h.eq⟩
theorem Ko.call{wr X W:World}(h:Ko wr X)(hb:Below X.heap.size X W):Ko wr W:=⟨RQ h.sz hb.size,fun g hg=>(hb.block g (RB hg h.sz)).trans (h.eq g hg)⟩
theorem Ko.alloc{wr X:World}(h:Ko wr X)(o:Obj):Ko wr (X.alloc o):=h.call ((Rh _ _).alloc (Rf _) o)
theorem Ko.cell{b k:Nat}{wr X:World}{v:Value}(h:Ko wr X)(hc:wr.cell? ⟨b,k,none⟩=some v):X.cell? ⟨b,k,none⟩=some v:=
 (Ri (a:=⟨b,k,none⟩) (h.eq b (RX _ _ hc))).trans hc
theorem O9{wr w':World}{b1 b2 b3 b4 k1 k2 k3 k4:Nat}{v1 v2 v3 v4:Value}(h1:wr.cell? ⟨b1,k1,none⟩=some v1)(h2:wr.cell? ⟨b2,k2,none⟩=some v2)(h3:wr.cell? ⟨b3,k3,none⟩=some v3)(h4:wr.cell? ⟨b4,k4,none⟩=some v4)(h:Ko wr w'):
  w'.cell? ⟨b1,k1,none⟩=some v1/\w'.cell? ⟨b2,k2,none⟩=some v2/\w'.cell? ⟨b3,k3,none⟩=some v3/\w'.cell? ⟨b4,k4,none⟩=some v4:=⟨h.cell h1,h.cell h2,h.cell h3,h.cell h4⟩
theorem rJ{A1 A2:Option Addr}{c1 c2:Nat}{sg mt:List Int}{L:Int}{bd bm:Nat}{X Y:Int}(a:Int)(h:Nat)(w:World)(hd:bI w bd A1 A2 c1 c2 sg mt L)(hI:cP mt)(VL:w.cell? ⟨bm,1,none⟩=some (.int .i64 X))(Wb:w.cell? ⟨bm,2,none⟩=some (.int .i64 Y))(hX:0<=X)(hXY:X<Y)(hl:mt.length<=400000)(ha:a=h)(hh:h<mt.length):
  Calls Tryz.prog 82 #[.int .i64 a,.pointer (some ⟨bd,0,none⟩),.pointer (some ⟨bm,0,none⟩)] w (LH w):=by
 subst ha;have k1:=hd.c1;obtain⟨b,off,rfl,Xv,hc⟩:=hd.rm.at_ hh;have kh:=hc h hh;obtain⟨g1,g2,-,-⟩:=hI.gn hh;rw[g1]at kh;obtain⟨m,hm⟩:∃m,gn mt h=m:=⟨_,rfl⟩
 rw[hm]at kh g2;have HS:=Rb ((lQ (some ⟨w.heap.size,0,none⟩) 2 [X,Y] (m:Int) m (w.alloc (.cells #[.int .i64 X,.int .i64 Y] 3)).drew (·<w.heap.size+1) (by exact GY w X Y) oX rfl oZ (GC hX hXY m)).mono (R':=fun e w'=>∃z:Int,e= .returned (.int .i64 z)/\(w.alloc (.cells #[.int .i64 X,.int .i64 Y] 3)).drew=w') fun e w' h=>⟨_,h.1,h.2⟩);have HB:Hid (Below w.heap.size w (w.alloc (.cells #[.int .i64 X,.int .i64 Y] 3)).drew):=Rb ((Rh _ _).alloc (Rf _) _).drew;have P1:=Rb k1;have P2:=Rb kh;have P3:=Rb VL;have P4:=Rb Wb;clear hc g1 hm hd hI;go_enter Tryz.func82,Tryz.ntmps82
 go_wp2_with fail
 go_region_held3 (fun w'=>w'.cell? ⟨bd,1,none⟩=some (.slice (some ⟨b,off,none⟩) mt.length c2)/\w'.cell? ⟨b,off+h,none⟩=some (.int .i64 (m:Int))/\w'.cell? ⟨bm,1,none⟩=some (.int .i64 X)/\w'.cell? ⟨bm,2,none⟩=some (.int .i64 Y))
  (((with_reducible refine O9 P1.out P2.out P3.out P4.out ?_);(repeat (first|with_reducible exact Ko.refl _|with_reducible refine Ko.drew ?_|with_reducible refine Ko.alloc ?_ _))))
  ((go_at_call 46;refine HS.out.mono ?_;rintro e w1 ⟨z,rfl,rfl⟩))
 (all_goals go_wp2_with fail);(all_goals go_ret);(all_goals exact⟨_,rfl,HB.out⟩)
def OW(w:World)(e:Ending)(w':World):Prop:=∃(kd X Y s:Int)(ov:Bool),e= .returned (.agg #[.int .i64 kd,.int .i64 X,.int .i64 Y,.int .i64 s,.bool ov])/\Below w.heap.size w w'
def Di(w:World)(b:Nat)(x y s:Int)(o:Bool):Prop:=w.heap[b]?=some (.cells #[.int .i64 3,.int .i64 x,.int .i64 y,.int .i64 s,.bool o] 26 (0,0))
section
variable{w w':World}{b:Nat}{x y s:Int}{o:Bool}
theorem Di.lt(h:Di w b x y s o):b<w.heap.size:=SL h
theorem Di.at_(h:Di w b x y s o):w.cell? ⟨b,0,none⟩=some (.int .i64 3)/\w.cell? ⟨b,1,none⟩=some (.int .i64 x)/\w.cell? ⟨b,2,none⟩=some (.int .i64 y)/\w.cell? ⟨b,3,none⟩=some (.int .i64 s)/\w.cell? ⟨b,4,none⟩=some (.bool o):=by unfold Di at h;refine⟨?_,?_,?_,?_,?_⟩<;>(rw[Rt _ _ _ _ _ _ h];rfl)
theorem Di.fz(h:Di w b x y s o)(k:Nat):w.frozen? ⟨b,k,none⟩=false:=RD _ _ _ _ _ h
theorem Di.set{k:Nat}{v:Value}{x' y' s':Int}(h:Di w b x y s o)(e:#[Value.int .i64 3,.int .i64 x,.int .i64 y,.int .i64 s,.bool o].set! k v=#[.int .i64 3,.int .i64 x',.int .i64 y',.int .i64 s',.bool o]):Di (w.setCell ⟨b,k,none⟩ v) b x' y' s' o:=by
 have h':w.heap[b]'h.lt= .cells #[.int .i64 3,.int .i64 x,.int .i64 y,.int .i64 s,.bool o] 26 (0,0):=by have:=h;unfold Di at this;simpa[R8 h.lt]using this
 show(w.heap.modify b _)[b]?=_;rw[R8 (by simpa using h.lt),SU,h'];show some (Obj.cells (#[Value.int .i64 3,.int .i64 x,.int .i64 y,.int .i64 s,.bool o].set! k v) _ _)=_;rw[e]
end
structure Eh(w wr:World)(A1 A2:Option Addr)(c1 c2:Nat)(sg mt:List Int)(L:Int)(a2 a3 b0 b3:Nat)(X Y:Int):Prop where
 c0:wr.cell? ⟨w.heap.size,0,none⟩=some (.slice A1 sg.length c1)
 c1:wr.cell? ⟨w.heap.size,1,none⟩=some (.slice A2 mt.length c2)
 c2:wr.cell? ⟨w.heap.size,2,none⟩=some (.int .i64 L)
 l2:wr.cell? ⟨w.heap.size+1,2,none⟩=some (.int .i64 (a2:Int))
 l3:wr.cell? ⟨w.heap.size+1,3,none⟩=some (.int .i64 (a3:Int))
 l4:wr.cell? ⟨w.heap.size+1,4,none⟩=some (.int .i64 (b0:Int))
 l7:wr.cell? ⟨w.heap.size+1,7,none⟩=some (.int .i64 (b3:Int))
 m1:wr.cell? ⟨w.heap.size+2,1,none⟩=some (.int .i64 X)
 m2:wr.cell? ⟨w.heap.size+2,2,none⟩=some (.int .i64 Y)
 zm:mD wr (w.heap.size+3)
 iv:∃x y s o,Di wr (w.heap.size+4) x y s o
 rs:RI wr (·<w.heap.size) A1 sg
 rm:RI wr (·<w.heap.size) A2 mt
 lt:w.heap.size+5<=wr.heap.size
 bel:Below w.heap.size w wr
structure Kq(N:Nat)(wr w':World):Prop where
 bel:Below (N+4) wr w'
 eq:∀g,g<wr.heap.size->g≠N+4->w'.heap[g]?=wr.heap[g]?
 iv:∃x y s o,Di w' (N+4) x y s o
section
variable{w wr w' X':World}{A1 A2:Option Addr}{c1 c2:Nat}{sg mt:List Int}{L:Int}{a2 a3 b0 b3:Nat}{X Y:Int}{N:Nat}
theorem Kq.refl(h:∃x y s o,Di wr (N+4) x y s o):Kq N wr wr:=⟨Rh _ _,fun _ _ _=>rfl,h⟩
theorem Kq.drew(h:Kq N wr w'):Kq N wr w'.drew:=⟨h.bel.drew,h.eq,h.iv⟩
theorem Kq.drewN(h:Kq N wr w')(n:Nat):Kq N wr (w'.drewN n):=⟨RJ h.bel n,h.eq,h.iv⟩
theorem Kq.call(h:Kq N wr X')(hb:Below X'.heap.size X' w'):Kq N wr w':=⟨h.bel.trans (hb.mono (by obtain⟨x,y,s,o,hi⟩:=h.iv;exact Uv hi.lt)),fun g hg hn=>(hb.block g (RB hg h.bel.size)).trans (h.eq g hg hn),by
 obtain⟨x,y,s,o,hi⟩:=h.iv;exact⟨x,y,s,o,(hb.block _ hi.lt).trans hi⟩⟩
theorem Kq.gR(h:Kq N wr w')(z:Int):Kq N wr (w'.setCell ⟨N+4,1,none⟩ (.int .i64 z)):=⟨h.bel.setCell (Rf _) _,fun g hg hn=>(Rn _ _ _ _ hn).trans (h.eq g hg hn),by
 obtain⟨x,y,s,o,hi⟩:=h.iv;exact⟨z,y,s,o,hi.set (by rfl)⟩⟩
theorem Kq.nV(h:Kq N wr w')(z:Int):Kq N wr (w'.setCell ⟨N+4,2,none⟩ (.int .i64 z)):=⟨h.bel.setCell (Rf _) _,fun g hg hn=>(Rn _ _ _ _ hn).trans (h.eq g hg hn),by
 obtain⟨x,y,s,o,hi⟩:=h.iv;exact⟨x,z,s,o,hi.set (by rfl)⟩⟩
theorem Eh.kq(h:Eh w wr A1 A2 c1 c2 sg mt L a2 a3 b0 b3 X Y)(hk:Kq w.heap.size wr w'):Eh w w' A1 A2 c1 c2 sg mt L a2 a3 b0 b3 X Y:=by
 have hs:=hk.bel.size;have hl:=h.lt;have o:∀b i,b<w.heap.size+4->w'.cell? ⟨b,i,none⟩=wr.cell? ⟨b,i,none⟩:=fun b i hb=>Ri (a:=⟨b,i,none⟩) (hk.eq b oZ oZ)
 exact⟨(o _ _ oZ).trans h.c0,(o _ _ oZ).trans h.c1,(o _ _ oZ).trans h.c2,(o _ _ oZ).trans h.l2,(o _ _ oZ).trans h.l3,(o _ _ oZ).trans h.l4,(o _ _ oZ).trans h.l7,(o _ _ oZ).trans h.m1,(o _ _ oZ).trans h.m2,
  h.zm.ak (hk.eq _ oZ oZ),hk.iv,h.rs.ak fun b hb=>hk.eq b oZ oZ,h.rm.ak fun b hb=>hk.eq b oZ oZ,oZ,h.bel.trans (hk.bel.mono oZ)⟩
theorem Eh.call(h:Eh w wr A1 A2 c1 c2 sg mt L a2 a3 b0 b3 X Y)(hb:Below wr.heap.size wr w'):Eh w w' A1 A2 c1 c2 sg mt L a2 a3 b0 b3 X Y:=h.kq ((Kq.refl h.iv).call hb)
theorem Eh.drewN(h:Eh w wr A1 A2 c1 c2 sg mt L a2 a3 b0 b3 X Y)(n:Nat):Eh w (wr.drewN n) A1 A2 c1 c2 sg mt L a2 a3 b0 b3 X Y:=h.kq ((Kq.refl h.iv).drewN n)
theorem Eh.db(h:Eh w wr A1 A2 c1 c2 sg mt L a2 a3 b0 b3 X Y):bI wr w.heap.size A1 A2 c1 c2 sg mt L:=⟨h.c0,h.c1,h.c2,by have:=h.lt;omega,h.rs.imp fun b hb=>by have:=h.lt;omega,h.rm.imp fun b hb=>by have:=h.lt;omega⟩
end
theorem Ob{N x3 x4:Nat}{wr w':World}(h3:wr.cell? ⟨N+1,3,none⟩=some (.int .i64 (x3:Int)))(h4:wr.cell? ⟨N+1,4,none⟩=some (.int .i64 (x4:Int)))(h:Kq N wr w'):
  w'.cell? ⟨N+1,3,none⟩=some (.int .i64 (x3:Int))/\w'.cell? ⟨N+1,4,none⟩=some (.int .i64 (x4:Int)):=
 ⟨(Ri (a:=⟨N+1,3,none⟩) (h.eq _ (RX _ _ h3) oJ)).trans h3,(Ri (a:=⟨N+1,4,none⟩) (h.eq _ (RX _ _ h4) oJ)).trans h4⟩
theorem EZ{P:World->Prop}{w:World}(R:World->Prop)(hR:R w)(h:∀Z,R Z->P Z):P w:=h w hR
theorem aN{w:World}{S:Nat->Prop}{b off:Nat}{xs:List Int}(h:RI w S (some ⟨b,off,none⟩) xs){k:Nat}(hk:k<xs.length):w.cell? ⟨b,off+k,none⟩=some (.int .i64 (gi xs k)):=by
 obtain⟨b',o',e,-,hc⟩:=h.at_ hk;injection e with e
 injection e with e1 e2 _
 subst e1 e2;exact hc k hk
theorem MJ(w:World)(o0 o1 o2 o3 o4:Obj):(((((w.alloc o0).alloc o1).alloc o2).alloc o3).alloc o4).heap[w.heap.size]?=some o0/\(((((w.alloc o0).alloc o1).alloc o2).alloc o3).alloc o4).heap[w.heap.size+1]?=some o1/\
  (((((w.alloc o0).alloc o1).alloc o2).alloc o3).alloc o4).heap[w.heap.size+2]?=some o2/\(((((w.alloc o0).alloc o1).alloc o2).alloc o3).alloc o4).heap[w.heap.size+3]?=some o3/\(((((w.alloc o0).alloc o1).alloc o2).alloc o3).alloc o4).heap[w.heap.size+4]?=some o4/\
  (((((w.alloc o0).alloc o1).alloc o2).alloc o3).alloc o4).heap.size=w.heap.size+5/\Below w.heap.size w (((((w.alloc o0).alloc o1).alloc o2).alloc o3).alloc o4):=by
 refine⟨?_,?_,?_,?_,?_,oX,(((((Rh _ _).alloc (Rf _) _).alloc oX _).alloc (by first|(simp;done)|(simp;omega)) _).alloc (by first|(simp;done)|(simp;omega)) _).alloc (by first|(simp;done)|(simp;omega)) _⟩;{rw[Rx _ _ _ (by first|(simp;done)|(simp;omega)),Rx _ _ _ (by first|(simp;done)|(simp;omega)),Rx _ _ _ (by first|(simp;done)|(simp;omega)),Rx _ _ _ oX];exact Ru _ _};{rw[Rx _ _ _ (by first|(simp;done)|(simp;omega)),Rx _ _ _ (by first|(simp;done)|(simp;omega)),Rx _ _ _ oX,show w.heap.size+1=(w.alloc o0).heap.size by simp];exact Ru _ _};{rw[Rx _ _ _ (by first|(simp;done)|(simp;omega)),Rx _ _ _ oX,show w.heap.size+2=((w.alloc o0).alloc o1).heap.size by simp];exact Ru _ _};{rw[Rx _ _ _ oX,show w.heap.size+3=(((w.alloc o0).alloc o1).alloc o2).heap.size by simp];exact Ru _ _};{rw[show w.heap.size+4=((((w.alloc o0).alloc o1).alloc o2).alloc o3).heap.size by simp];exact Ru _ _}
theorem BO(A1 A2:Option Addr)(c1 c2:Nat)(sg mt:List Int)(L kd X Y s:Int)(ov:Bool)(a0 a1 a2 a3 b0 b1 b2 b3:Nat)(w:World)(S:Nat->Prop)(hx:RI w S A1 sg)(hy:RI w S A2 mt)(hS:∀b,S b->b<w.heap.size)(hI:cP mt)(h2:mt.length=4*sg.length)(VO:sg.length<=64)(hX:0<=X)(hXY:X<Y)
  (ha2:a2<mt.length)(ZA:a3<mt.length)(Wn:b0<mt.length)(Vt:b3<mt.length):
  Calls Tryz.prog 55 #[.agg #[.slice A1 sg.length c1,.slice A2 mt.length c2,.int .i64 L],.agg #[.int .i64 (a0:Int),.int .i64 (a1:Int),.int .i64 (a2:Int),.int .i64 (a3:Int),.int .i64 (b0:Int),.int .i64 (b1:Int),.int .i64 (b2:Int),.int .i64 (b3:Int)],.agg #[.int .i64 kd,.int .i64 X,.int .i64 Y,.int .i64 s,.bool ov]] w (OW w):=by
 have VQ:mt.length<=256:=oZ;obtain⟨bo,hbo⟩:∃b:Bool,((b1:Int)%2==1)=b:=⟨_,rfl⟩
 have T0:Hid (Eh w (((((w.alloc (.cells #[.slice A1 sg.length c1,.slice A2 mt.length c2,.int .i64 L] 24)).alloc (.cells #[.int .i64 (a0:Int),.int .i64 (a1:Int),.int .i64 (a2:Int),.int .i64 (a3:Int),.int .i64 (b0:Int),.int .i64 (b1:Int),.int .i64 (b2:Int),.int .i64 (b3:Int)] 85)).alloc (.cells #[.int .i64 kd,.int .i64 X,.int .i64 Y,.int .i64 s,.bool ov] 26)).alloc (.cells #[.int .i64 0,.int .i64 0,.int .i64 0,.int .i64 0,.bool false] 26)).alloc (.cells #[.int .i64 3,.int .i64 0,.int .i64 0,.int .i64 0,.bool bo] 26)) A1 A2 c1 c2 sg mt L a2 a3 b0 b3 X Y):=by obtain⟨e0,e1,e2,e3,e4,e5,e6⟩:=MJ w (.cells #[.slice A1 sg.length c1,.slice A2 mt.length c2,.int .i64 L] 24) (.cells #[.int .i64 (a0:Int),.int .i64 (a1:Int),.int .i64 (a2:Int),.int .i64 (a3:Int),.int .i64 (b0:Int),.int .i64 (b1:Int),.int .i64 (b2:Int),.int .i64 (b3:Int)] 85) (.cells #[.int .i64 kd,.int .i64 X,.int .i64 Y,.int .i64 s,.bool ov] 26) (.cells #[.int .i64 0,.int .i64 0,.int .i64 0,.int .i64 0,.bool false] 26) (.cells #[.int .i64 3,.int .i64 0,.int .i64 0,.int .i64 0,.bool bo] 26);refine Rb ⟨?_,?_,?_,?_,?_,?_,?_,?_,?_,mD.new e3,⟨0,0,0,bo,e4⟩,(hx.ak fun b hb=>e6.block b (hS b hb)).imp fun b hb=>hS b hb,(hy.ak fun b hb=>e6.block b (hS b hb)).imp fun b hb=>hS b hb,oZ,e6⟩<;>first|(rw[Rt _ _ _ _ _ _ e0];rfl)|(rw[Rt _ _ _ _ _ _ e1];rfl)|(rw[Rt _ _ _ _ _ _ e2];rfl)
 have HI:=Rb hI;have H2:=Rb h2;clear hx hy hS hI h2;go_enter Tryz.func55,Tryz.ntmps55
 go_wp2_with fail;obtain⟨wr,hW⟩:∃wr,(((((w.alloc (.cells #[.slice A1 sg.length c1,.slice A2 mt.length c2,.int .i64 L] 24)).alloc (.cells #[.int .i64 (a0:Int),.int .i64 (a1:Int),.int .i64 (a2:Int),.int .i64 (a3:Int),.int .i64 (b0:Int),.int .i64 (b1:Int),.int .i64 (b2:Int),.int .i64 (b3:Int)] 85)).alloc (.cells #[.int .i64 kd,.int .i64 X,.int .i64 Y,.int .i64 s,.bool ov] 26)).alloc (.cells #[.int .i64 0,.int .i64 0,.int .i64 0,.int .i64 0,.bool false] 26)).alloc (.cells #[.int .i64 3,.int .i64 0,.int .i64 0,.int .i64 0,.bool bo] 26))=wr:=⟨_,rfl⟩
 rw[hW]at T0⊢;clear hW hbo;obtain⟨b,off,e9,-,-⟩:=T0.out.rm.at_ Vt;subst e9;obtain⟨gA2,gA2',-,-⟩:=HI.out.gn ha2;obtain⟨gA3,gA3',-,-⟩:=HI.out.gn ZA;obtain⟨gB0,gB0',-,-⟩:=HI.out.gn Wn;obtain⟨gB3,gB3',-,-⟩:=HI.out.gn Vt;obtain⟨v2,WA⟩:∃v,gn mt a2=v:=⟨_,rfl⟩
 obtain⟨v3,hv3⟩:∃v,gn mt a3=v:=⟨_,rfl⟩
 obtain⟨u0,hu0⟩:∃v,gn mt b0=v:=⟨_,rfl⟩
 obtain⟨u3,hu3⟩:∃v,gn mt b3=v:=⟨_,rfl⟩
 rw[WA]at gA2;rw[hv3]at gA3;rw[hu0]at gB0;rw[hu3]at gB3;have GA2:=Rb gA2;have GA3:=Rb gA3;have GB0:=Rb gB0;have GB3:=Rb gB3;clear gA2 gA3 gB0 gB3 gA2' gA3' gB0' gB3' WA hv3 hu0 hu3;obtain⟨t1,ht1⟩:∃t,((u3:Int)==(b0:Int))=t:=⟨_,rfl⟩
 obtain⟨t2,ht2⟩:∃t,((v2:Int)==(a3:Int))=t:=⟨_,rfl⟩
 obtain⟨t3,ht3⟩:∃t,((v3:Int)==(b3:Int))=t:=⟨_,rfl⟩
 obtain⟨t4,ht4⟩:∃t,((u0:Int)==(a2:Int))=t:=⟨_,rfl⟩
 obtain⟨-,c1_,-,l2_,l3_,l4_,l7_,-,-,-,-,-,-,-,-⟩:=T0.out;have XT:=aN T0.out.rm ha2;rw[GA2.out]at XT;have XU:=aN T0.out.rm ZA;rw[GA3.out]at XU;have XV:=aN T0.out.rm Wn;rw[GB0.out]at XV;have XW:=aN T0.out.rm Vt;rw[GB3.out]at XW;go_wp2_with fail
 go_quiet(fail)
 revert nq;intro n1;go_wp2_with fail
 go_quiet(fail)
 obtain⟨W,hW⟩:∃W,(wr.drewN n1).drewN nq=W:=⟨_,rfl⟩
 (first|rw[hW]|(rw[xU]at hW;rw[hW]));have T1:Hid (Eh w W A1 (some ⟨b,off,none⟩) c1 c2 sg mt L a2 a3 b0 b3 X Y):=by rw[<-hW];first|exact Rb ((T0.out.drewN _).drewN _)|exact Rb (T0.out.drewN _)
 clear hW T0 c1_ l2_ l3_ l4_ l7_ XT XU XV XW;clear n1 nq;clear wr;have HT1:=Rb ht1;have HT2:=Rb ht2;clear ht1 ht2;obtain⟨-,c1_,-,l2_,l3_,l4_,l7_,-,-,-,-,-,-,-,-⟩:=T1.out;have XT:=aN T1.out.rm ha2;rw[GA2.out]at XT;have XU:=aN T1.out.rm ZA;rw[GA3.out]at XU;have XV:=aN T1.out.rm Wn;rw[GB0.out]at XV;have XW:=aN T1.out.rm Vt;rw[GB3.out]at XW
 cases t1<;>cases t2
 ·
  have HKW:=Rb (Kq.refl T1.out.iv);have L3:=Rb T1.out.l3;have L4:=Rb T1.out.l4;go_wp2_with fail;clear c1_ l2_ l3_ l4_ l7_ XT XU XV XW;have HT3:=Rb ht3;have HT4:=Rb ht4;clear ht3 ht4
  go_region_held3 (fun w'=>w'.cell? ⟨w.heap.size+1,3,none⟩=some (.int .i64 (a3:Int))/\w'.cell? ⟨w.heap.size+1,4,none⟩=some (.int .i64 (b0:Int)))
   (((with_reducible refine Ob L3.out L4.out ?_);(repeat (first|with_reducible exact Wj.out|with_reducible exact HKW.out|with_reducible refine Kq.drew ?_|with_reducible refine Kq.gR ?_ _|with_reducible refine Kq.nV ?_ _))))
   (first|(go_at_call 82;(with_reducible (show Calls _ _ #[.int .i64 (a3:Int),_,_] _ _));refine(rJ _ a3 _ (T1.out.kq (by(repeat (first|with_reducible exact Wj.out|with_reducible exact HKW.out|with_reducible refine Kq.drew ?_|with_reducible refine Kq.gR ?_ _|with_reducible refine Kq.nV ?_ _)))).db HI.out (T1.out.kq (by(repeat (first|with_reducible exact Wj.out|with_reducible exact HKW.out|with_reducible refine Kq.drew ?_|with_reducible refine Kq.gR ?_ _|with_reducible refine Kq.nV ?_ _)))).m1 (T1.out.kq (by(repeat (first|with_reducible exact Wj.out|with_reducible exact HKW.out|with_reducible refine Kq.drew ?_|with_reducible refine Kq.gR ?_ _|with_reducible refine Kq.nV ?_ _)))).m2 hX hXY oZ rfl ZA).mono ?_;rintro e w2 ⟨x2,rfl,Vj⟩;have Wj:Hid (Kq w.heap.size W w2):=Rb (Kq.call (by(repeat (first|with_reducible exact Wj.out|with_reducible exact HKW.out|with_reducible refine Kq.drew ?_|with_reducible refine Kq.gR ?_ _|with_reducible refine Kq.nV ?_ _))) Vj);have T2:=Rb (T1.out.kq Wj.out);clear Vj;obtain⟨ix,iy,is,io,Vy⟩:=T2.out.iv;obtain⟨-,i1,i2,-,-⟩:=Vy.at_;have j1:=Vy.fz 1;have j2:=Vy.fz 2;clear Vy)|(go_at_call 82;(with_reducible (show Calls _ _ #[.int .i64 (b0:Int),_,_] _ _));refine(rJ _ b0 _ (T1.out.kq (by(repeat (first|with_reducible exact Wj.out|with_reducible exact HKW.out|with_reducible refine Kq.drew ?_|with_reducible refine Kq.gR ?_ _|with_reducible refine Kq.nV ?_ _)))).db HI.out (T1.out.kq (by(repeat (first|with_reducible exact Wj.out|with_reducible exact HKW.out|with_reducible refine Kq.drew ?_|with_reducible refine Kq.gR ?_ _|with_reducible refine Kq.nV ?_ _)))).m1 (T1.out.kq (by(repeat (first|with_reducible exact Wj.out|with_reducible exact HKW.out|with_reducible refine Kq.drew ?_|with_reducible refine Kq.gR ?_ _|with_reducible refine Kq.nV ?_ _)))).m2 hX hXY oZ rfl Wn).mono ?_;rintro e w2 ⟨x2,rfl,Vj⟩;have Wj:Hid (Kq w.heap.size W w2):=Rb (Kq.call (by(repeat (first|with_reducible exact Wj.out|with_reducible exact HKW.out|with_reducible refine Kq.drew ?_|with_reducible refine Kq.gR ?_ _|with_reducible refine Kq.nV ?_ _))) Vj);have T2:=Rb (T1.out.kq Wj.out);clear Vj;obtain⟨ix,iy,is,io,Vy⟩:=T2.out.iv;obtain⟨-,i1,i2,-,-⟩:=Vy.at_;have j1:=Vy.fz 1;have j2:=Vy.fz 2;clear Vy))
  all_goals
   refine EZ (Kq w.heap.size W) (by(repeat (first|with_reducible exact Wj.out|with_reducible refine Kq.drew ?_|with_reducible refine Kq.drewN ?_ _|with_reducible refine Kq.gR ?_ _|with_reducible refine Kq.nV ?_ _))) (fun Z3 HZ3=>?_);have WT:=Rb HZ3;have T3:=Rb (T1.out.kq HZ3);clear HZ3;have ht3:=HT3.out;have ht4:=HT4.out;obtain⟨-,c1_,-,l2_,l3_,l4_,l7_,-,-,-,-,-,-,-,-⟩:=T3.out;have XT:=aN T3.out.rm ha2;rw[GA2.out]at XT;have XU:=aN T3.out.rm ZA;rw[GA3.out]at XU;have XV:=aN T3.out.rm Wn;rw[GB0.out]at XV;have XW:=aN T3.out.rm Vt;rw[GB3.out]at XW;go_wp2_with fail
   go_quiet(fail)
   refine EZ (Kq w.heap.size W) (by(repeat (first|with_reducible exact WT.out|with_reducible refine Kq.drew ?_|with_reducible refine Kq.drewN ?_ _|with_reducible refine Kq.gR ?_ _|with_reducible refine Kq.nV ?_ _))) (fun Z4 HZ4=>?_);have Xa:=Rb HZ4;have T4:=Rb (T1.out.kq HZ4);clear HZ4;clear c1_ l2_ l3_ l4_ l7_ XT XU XV XW;obtain⟨-,c1_,-,l2_,l3_,l4_,l7_,-,-,-,-,-,-,-,-⟩:=T4.out;have XT:=aN T4.out.rm ha2;rw[GA2.out]at XT;have XU:=aN T4.out.rm ZA;rw[GA3.out]at XU;have XV:=aN T4.out.rm Wn;rw[GB0.out]at XV;have XW:=aN T4.out.rm Vt;rw[GB3.out]at XW;clear ht4
   cases t3
   ·have ht4:=HT4.out
    go_wp2_with fail
    go_quiet(fail)
    refine EZ (Kq w.heap.size W) (by(repeat (first|with_reducible exact Xa.out|with_reducible refine Kq.drew ?_|with_reducible refine Kq.drewN ?_ _|with_reducible refine Kq.gR ?_ _|with_reducible refine Kq.nV ?_ _))) (fun Z5 HZ5=>?_);have YE:=Rb HZ5;have T5:=Rb (T1.out.kq HZ5);clear HZ5;clear c1_ l2_ l3_ l4_ l7_ XT XU XV XW;have ht4:=HT4.out;obtain⟨-,c1_,-,l2_,l3_,l4_,l7_,-,-,-,-,-,-,-,-⟩:=T5.out;have XT:=aN T5.out.rm ha2;rw[GA2.out]at XT;have XU:=aN T5.out.rm ZA;rw[GA3.out]at XU;have XV:=aN T5.out.rm Wn;rw[GB0.out]at XV;have XW:=aN T5.out.rm Vt;rw[GB3.out]at XW
    cases t4
    {obtain⟨ix,iy,is,io,Vy⟩:=T5.out.iv;obtain⟨i0,i1,i2,i3,i4⟩:=Vy.at_;have j0:=Vy.fz 0;have j1:=Vy.fz 1;have j2:=Vy.fz 2;have j3:=Vy.fz 3;have j4:=Vy.fz 4;obtain⟨z0,z1,z2,z3,z4,q0,q1,q2,q3,q4⟩:=T5.out.zm;have Vg:=T5.out.lt;clear Vy;go_wp2_with fail;refine RC (v:= .agg #[.int .i64 3,.int .i64 ix,.int .i64 iy,.int .i64 is,.bool io]) (by simp[results,Tryz.results55,go_sem,z0,z1,z2,z3,z4]) rfl ?_;refine⟨_,_,_,_,_,rfl,?_⟩;(repeat (with_reducible refine RM ?_ oJ _));exact T5.out.bel};{go_wp2_with fail;refine(rD _ b0 _ T5.out.db VO rfl (by have:=H2.out;omega)).mono ?_;rintro e w6 ⟨x6,rfl,hb6⟩;have HK6:Hid (Kq w.heap.size W w6):=Rb (Kq.call YE.out hb6);have T6:=Rb (T1.out.kq HK6.out);clear hb6;clear c1_ l2_ l3_ l4_ l7_ XT XU XV XW;obtain⟨ix,iy,is,io,Vy⟩:=T6.out.iv;obtain⟨i0,i1,i2,i3,i4⟩:=Vy.at_;have j0:=Vy.fz 0;have j1:=Vy.fz 1;have j2:=Vy.fz 2;have j3:=Vy.fz 3;have j4:=Vy.fz 4;obtain⟨z0,z1,z2,z3,z4,q0,q1,q2,q3,q4⟩:=T6.out.zm;have Vg:=T6.out.lt;clear Vy;go_wp2_with fail;refine RC (v:= .agg #[.int .i64 3,.int .i64 ix,.int .i64 x6,.int .i64 is,.bool io]) (by simp[results,Tryz.results55,go_sem,z0,z1,z2,z3,z4]) rfl ?_;refine⟨_,_,_,_,_,rfl,?_⟩;(repeat (with_reducible refine RM ?_ oJ _));exact T6.out.bel}
   ·clear ht3
    go_wp2_with fail;refine(rD _ a3 _ T4.out.db VO rfl (by have:=H2.out;omega)).mono ?_;rintro e w5 ⟨x5,rfl,WI⟩;have YE:Hid (Kq w.heap.size W w5):=Rb (Kq.call Xa.out WI);have T5:=Rb (T1.out.kq YE.out);clear WI;clear c1_ l2_ l3_ l4_ l7_ XT XU XV XW;obtain⟨ix,iy,is,io,Vy⟩:=T5.out.iv;obtain⟨-,i1,i2,-,-⟩:=Vy.at_;have j1:=Vy.fz 1;have j2:=Vy.fz 2;clear Vy;go_wp2_with fail;refine EZ (Kq w.heap.size W) (by(repeat (first|with_reducible exact YE.out|with_reducible refine Kq.drew ?_|with_reducible refine Kq.drewN ?_ _|with_reducible refine Kq.gR ?_ _|with_reducible refine Kq.nV ?_ _))) (fun Z6 HZ6=>?_);have HK6:=Rb HZ6;have T6:=Rb (T1.out.kq HZ6);clear HZ6;clear i1 i2 j1 j2;obtain⟨-,c1_,-,l2_,l3_,l4_,l7_,-,-,-,-,-,-,-,-⟩:=T6.out;have XT:=aN T6.out.rm ha2;rw[GA2.out]at XT;have XU:=aN T6.out.rm ZA;rw[GA3.out]at XU;have XV:=aN T6.out.rm Wn;rw[GB0.out]at XV;have XW:=aN T6.out.rm Vt;rw[GB3.out]at XW;have ht4:=HT4.out;go_wp2_with fail
    go_quiet(fail)
    refine EZ (Kq w.heap.size W) (by(repeat (first|with_reducible exact HK6.out|with_reducible refine Kq.drew ?_|with_reducible refine Kq.drewN ?_ _|with_reducible refine Kq.gR ?_ _|with_reducible refine Kq.nV ?_ _))) (fun Z7 HZ7=>?_);have HK7:=Rb HZ7;have T7:=Rb (T1.out.kq HZ7);clear HZ7;clear c1_ l2_ l3_ l4_ l7_ XT XU XV XW;have ht4:=HT4.out;obtain⟨-,c1_,-,l2_,l3_,l4_,l7_,-,-,-,-,-,-,-,-⟩:=T7.out;have XT:=aN T7.out.rm ha2;rw[GA2.out]at XT;have XU:=aN T7.out.rm ZA;rw[GA3.out]at XU;have XV:=aN T7.out.rm Wn;rw[GB0.out]at XV;have XW:=aN T7.out.rm Vt;rw[GB3.out]at XW
    cases t4
    {obtain⟨ix,iy,is,io,Vy⟩:=T7.out.iv;obtain⟨i0,i1,i2,i3,i4⟩:=Vy.at_;have j0:=Vy.fz 0;have j1:=Vy.fz 1;have j2:=Vy.fz 2;have j3:=Vy.fz 3;have j4:=Vy.fz 4;obtain⟨z0,z1,z2,z3,z4,q0,q1,q2,q3,q4⟩:=T7.out.zm;have Vg:=T7.out.lt;clear Vy;go_wp2_with fail;refine RC (v:= .agg #[.int .i64 3,.int .i64 ix,.int .i64 iy,.int .i64 is,.bool io]) (by simp[results,Tryz.results55,go_sem,z0,z1,z2,z3,z4]) rfl ?_;refine⟨_,_,_,_,_,rfl,?_⟩;(repeat (with_reducible refine RM ?_ oJ _));exact T7.out.bel};{go_wp2_with fail;refine(rD _ b0 _ T7.out.db VO rfl (by have:=H2.out;omega)).mono ?_;rintro e w8 ⟨x8,rfl,hb8⟩;have HK8:Hid (Kq w.heap.size W w8):=Rb (Kq.call HK7.out hb8);have T8:=Rb (T1.out.kq HK8.out);clear hb8;clear c1_ l2_ l3_ l4_ l7_ XT XU XV XW;obtain⟨ix,iy,is,io,Vy⟩:=T8.out.iv;obtain⟨i0,i1,i2,i3,i4⟩:=Vy.at_;have j0:=Vy.fz 0;have j1:=Vy.fz 1;have j2:=Vy.fz 2;have j3:=Vy.fz 3;have j4:=Vy.fz 4;obtain⟨z0,z1,z2,z3,z4,q0,q1,q2,q3,q4⟩:=T8.out.zm;have Vg:=T8.out.lt;clear Vy;go_wp2_with fail;refine RC (v:= .agg #[.int .i64 3,.int .i64 ix,.int .i64 x8,.int .i64 is,.bool io]) (by simp[results,Tryz.results55,go_sem,z0,z1,z2,z3,z4]) rfl ?_;refine⟨_,_,_,_,_,rfl,?_⟩;(repeat (with_reducible refine RM ?_ oJ _));exact T8.out.bel}
 ·
  go_wp2_with fail;refine(rJ _ b0 _ T1.out.db HI.out T1.out.m1 T1.out.m2 hX hXY oZ rfl Wn).mono ?_;rintro e w2 ⟨x2,rfl,Vj⟩;have T2:=Rb (T1.out.call Vj);clear Vj;obtain⟨ix,iy,is,io,Vy⟩:=T2.out.iv;obtain⟨i0,i1,i2,i3,i4⟩:=Vy.at_;have j0:=Vy.fz 0;have j1:=Vy.fz 1;have j2:=Vy.fz 2;have j3:=Vy.fz 3;have j4:=Vy.fz 4;obtain⟨z0,z1,z2,z3,z4,q0,q1,q2,q3,q4⟩:=T2.out.zm;have Vg:=T2.out.lt;clear Vy;go_wp2_with fail;refine RC (v:= .agg #[.int .i64 3,.int .i64 x2,.int .i64 x2,.int .i64 (-1),.bool io]) (by simp[results,Tryz.results55,go_sem,z0,z1,z2,z3,z4]) rfl ?_;refine⟨_,_,_,_,_,rfl,?_⟩;(iterate 8 refine RM ?_ oJ _);exact T2.out.bel
 ·
  go_wp2_with fail;refine(rJ _ a3 _ T1.out.db HI.out T1.out.m1 T1.out.m2 hX hXY oZ rfl ZA).mono ?_;rintro e w2 ⟨x2,rfl,Vj⟩;have T2:=Rb (T1.out.call Vj);clear Vj;obtain⟨ix,iy,is,io,Vy⟩:=T2.out.iv;obtain⟨i0,i1,i2,i3,i4⟩:=Vy.at_;have j0:=Vy.fz 0;have j1:=Vy.fz 1;have j2:=Vy.fz 2;have j3:=Vy.fz 3;have j4:=Vy.fz 4;obtain⟨z0,z1,z2,z3,z4,q0,q1,q2,q3,q4⟩:=T2.out.zm;have Vg:=T2.out.lt;clear Vy;go_wp2_with fail;refine RC (v:= .agg #[.int .i64 3,.int .i64 x2,.int .i64 x2,.int .i64 1,.bool io]) (by simp[results,Tryz.results55,go_sem,z0,z1,z2,z3,z4]) rfl ?_;refine⟨_,_,_,_,_,rfl,?_⟩;(iterate 8 refine RM ?_ oJ _);exact T2.out.bel
 ·
  go_wp2_with fail;refine(rD _ a3 _ T1.out.db VO rfl (by have:=H2.out;omega)).mono ?_;rintro e w2 ⟨x2,rfl,Vj⟩;have T2:=Rb (T1.out.call Vj);clear Vj;obtain⟨ix,iy,is,io,Vy⟩:=T2.out.iv;obtain⟨i0,i1,i2,i3,i4⟩:=Vy.at_;have j0:=Vy.fz 0;have j1:=Vy.fz 1;have j2:=Vy.fz 2;have j3:=Vy.fz 3;have j4:=Vy.fz 4;obtain⟨z0,z1,z2,z3,z4,q0,q1,q2,q3,q4⟩:=T2.out.zm;have Vg:=T2.out.lt;clear Vy;go_wp2_with fail;refine RC (v:= .agg #[.int .i64 3,.int .i64 x2,.int .i64 x2,.int .i64 1,.bool io]) (by simp[results,Tryz.results55,go_sem,z0,z1,z2,z3,z4]) rfl ?_;refine⟨_,_,_,_,_,rfl,?_⟩;(iterate 8 refine RM ?_ oJ _);exact T2.out.bel
def ao(c f s:Nat):Nat:=4*c+(s+4-f)%4
theorem iC(c' f' s':Int)(c f s:Nat)(w:World)(XX:c'=c)(hf':f'=f)(hs':s'=s)(hc:c<=1000)(hf:f<=3)(hs:s<=3):
  Calls Tryz.prog 51 #[.int .i64 c',.int .i64 f',.int .i64 s'] w fun e w'=>e= .returned (.int .i64 (ao c f s:Nat))/\w=w':=by
 subst XX hf' hs';go_enter Tryz.func51,Tryz.ntmps51
 go_wp2_with fail;go_ret;exact⟨cE (by unfold ao;omega),rfl⟩
theorem mS(bn bf n f s:Nat)(s':Int)(w:World)(h1:w.cell? ⟨bn,0,none⟩=some (.int .i64 (n:Int)))(h2:w.cell? ⟨bf,0,none⟩=some (.int .i64 (f:Int)))(hs':s'=s)(hn:n<=999)(hf:f<=3)(hs:s<=3):
  Calls Tryz.prog 50 #[.int .i64 s',.pointer (some ⟨bn,0,none⟩),.pointer (some ⟨bf,0,none⟩)] w fun e w'=>e= .returned (.int .i64 (ao n f s:Nat))/\w=w':=by
 subst hs';go_enter Tryz.func50,Tryz.ntmps50
 go_wp2_with fail;refine(iC _ _ _ n f s _ rfl rfl rfl oZ hf hs).mono ?_;rintro e w1 ⟨rfl,rfl⟩;go_wp2_with fail;go_ret;exact⟨rfl,rfl⟩
theorem m_(bn bf n f s:Nat)(s':Int)(w:World)(h1:w.cell? ⟨bn,0,none⟩=some (.int .i64 (n:Int)))(h2:w.cell? ⟨bf,1,none⟩=some (.int .i64 (f:Int)))(hs':s'=s)(hn:n<=999)(hf:f<=3)(hs:s<=3):
  Calls Tryz.prog 52 #[.int .i64 s',.pointer (some ⟨bn,0,none⟩),.pointer (some ⟨bf,0,none⟩)] w fun e w'=>e= .returned (.int .i64 (ao (n+1) f s:Nat))/\w=w':=by
 subst hs';go_enter Tryz.func52,Tryz.ntmps52
 go_wp2_with fail;refine(iC _ _ _ (n+1) f s _ oZ rfl rfl oZ hf hs).mono ?_;rintro e w1 ⟨rfl,rfl⟩;go_wp2_with fail;go_ret;exact⟨rfl,rfl⟩
theorem qD(A1 A2:Option Addr)(c1 c2 ml:Nat)(sg:List Int)(L a:Int)(h:Nat)(w:World)(S:Nat->Prop)(hx:RI w S A1 sg)(hS:∀b,S b->b<w.heap.size)(hm:sg.length<=1099511627776)(ha:a=h)(hh:h<4*sg.length):
  Calls Tryz.prog 80 #[.agg #[.slice A1 sg.length c1,.slice A2 ml c2,.int .i64 L],.int .i64 a] w fun e w'=>e= .returned (.bool (ai sg h))/\Below w.heap.size w w':=by
 subst ha;have hb:Below w.heap.size w (w.alloc (.cells #[.slice A1 sg.length c1,.slice A2 ml c2,.int .i64 L] 24)):=(Rh _ _).alloc (Rf _) _;have hX:=(hx.ak fun b Vz=>hb.block b (hS b Vz)).imp (T:=(·<(w.alloc (.cells #[.slice A1 sg.length c1,.slice A2 ml c2,.int .i64 L] 24)).heap.size)) fun b Vz=>by have:=hS b Vz;simp;omega
 have HB:=Rb hb;have HX:=Rb hX;have h0:(0:Int)<=(h:Int):=oZ;have h1:((h:Int)== -1)=false:=by rw[Rs];omega
 clear hx hS hb hX;go_enter Tryz.func80,Tryz.ntmps80
 go_wp2_with fail;refine(iG A1 A2 c1 c2 ml sg L _ h _ _ HX.out (fun _ h=>h) hm rfl hh).mono ?_;rintro e w1 ⟨rfl,Vi⟩;have Vr:=Rb (HB.out.trans (Vi.mono HB.out.size));clear Vi;go_wp2_with fail;go_ret;exact⟨rfl,Vr.out⟩
def jG(lf mt:List Int)(x y:Nat):Bool:=decide (gi lf x=gi lf y)&&decide (gn mt x≠y)
theorem Hp(A1 A2 A3 A4:Option Addr)(c1 c2 c3 c4:Nat)(sg mt lf:List Int)(L a b:Int)(x y:Nat)(w:World)(S:Nat->Prop)(hy:RI w S A2 mt)(hl:RI w S A3 lf)(hp:RI w S A4 (List.replicate sg.length 0))(hS:∀b,S b->b<w.heap.size)
  (h2:mt.length=4*sg.length)(VO:sg.length<=64)(W7:lf.length=mt.length)(ha:a=x)(hb:b=y)(hx:x<mt.length)(VJ:y<mt.length)(hg:gi mt x=(gn mt x:Int)):
  Calls Tryz.prog 79 #[.agg #[.slice A1 sg.length c1,.slice A2 mt.length c2,.int .i64 L,.slice A3 mt.length c3,.slice A4 sg.length c4],.int .i64 a,.int .i64 b] w fun e w'=>e= .returned (.bool (jG lf mt x y))/\Below w.heap.size w w':=by
 subst ha hb;have hb:Below w.heap.size w (w.alloc (.cells #[.slice A1 sg.length c1,.slice A2 mt.length c2,.int .i64 L,.slice A3 mt.length c3,.slice A4 sg.length c4] 52)):=(Rh _ _).alloc (Rf _) _;have k:=Ru w (.cells #[.slice A1 sg.length c1,.slice A2 mt.length c2,.int .i64 L,.slice A3 mt.length c3,.slice A4 sg.length c4] 52);have HB:=Rb hb;obtain⟨b3,o3,rfl,hs3,hc3⟩:=hl.at_ (k:=x) oZ;have p1:=hc3 x oZ;have p2:=hc3 y oZ;obtain⟨b2,o2,rfl,Xp,Xd⟩:=hy.at_ hx;have p3:=Xd x hx;rw[hg]at p3;obtain⟨b4,o4,rfl,hs4,XJ⟩:=hp.at_ (k:=x/4) (by rw[Sd];omega);have p4:=XJ (x/4) (by rw[Sd];omega);have p5:=XJ (y/4) (by rw[Sd];omega);rw[ir oZ]at p4 p5;have l2:=hS _ Xp;have l3:=hS _ hs3;have l4:=hS _ hs4;obtain⟨m,hm⟩:∃m,gn mt x=m:=⟨_,rfl⟩
 obtain⟨u,hu⟩:∃u,gi lf x=u:=⟨_,rfl⟩
 obtain⟨v,hv⟩:∃v,gi lf y=v:=⟨_,rfl⟩
 have e:jG lf mt x y=(decide (u=v)&&decide (m≠y)):=by unfold jG;rw[hm,hu,hv]
 rw[e];rw[hm]at p3;rw[hu]at p1;rw[hv]at p2;have VQ:mt.length<=256:=oZ;have hx4:x/4<sg.length:=oZ;have YF:y/4<sg.length:=oZ;clear Xd hc3 XJ hS hy hl hp hm hu hv e hg hb W7 h2;by_cases huv:u=v
 ·have t1:(u==v)=true:=by rw[SA];exact huv
  rw[Rj huv,Bool.true_and];by_cases hmy:m=y
  ·have t2:((m:Int)!=(y:Int))=false:=by rw[RK];omega
   rw[Rl (fun h=>h hmy)];clear huv hmy;go_enter Tryz.func79,Tryz.ntmps79
   go_wp2_with fail
   go_quiet(fail)
   go_wp2_with fail;go_ret;exact⟨rfl,RJ HB.out _⟩
  ·have t2:((m:Int)!=(y:Int))=true:=by rw[RZ];omega
   rw[Rj hmy];clear huv hmy;go_enter Tryz.func79,Tryz.ntmps79
   go_wp2_with fail
   go_quiet(fail)
   go_wp2_with fail;go_ret;exact⟨rfl,RJ HB.out _⟩
 ·have t1:(u==v)=false:=by rw[Rs];exact huv
  rw[Rl huv,UU];obtain⟨qx,hqx⟩:∃q,x/4=q:=⟨_,rfl⟩
  obtain⟨qy,hqy⟩:∃q,y/4=q:=⟨_,rfl⟩
  rw[hqx]at p4 hx4;rw[hqy]at p5 YF;have e1:((x:Nat):Int).tdiv 4=(qx:Int):=by rw[<-hqx];exact SZ x 4
  have e2:((y:Nat):Int).tdiv 4=(qy:Int):=by rw[<-hqy];exact SZ y 4
  have e3:IntKind.i64.wrap (qx:Int)=(qx:Int):=SF _ oZ;have e4:IntKind.i64.wrap (qy:Int)=(qy:Int):=SF _ oZ;clear huv hqx hqy;go_enter Tryz.func79,Tryz.ntmps79
  go_wp2_with fail
  go_quiet(fail)
  go_wp2_with fail;go_ret;exact⟨rfl,RJ HB.out _⟩
def yA(n:Nat)(lf mt:List Int)(X Y s:Int):Int:=
 if X<0\/(Y<0/\s=0)\/(0<=X/\0<=Y/\X≠Y/\jG lf mt X.toNat Y.toNat=false)then 6 else if 62<n then 5 else 0
theorem xI(A1 A2 A3 A4:Option Addr)(c1 c2 c3 c4:Nat)(sg mt lf:List Int)(kd X Y s:Int)(ov:Bool)(w:World)(S:Nat->Prop)(hy:RI w S A2 mt)(hl:RI w S A3 lf)(hp:RI w S A4 (List.replicate sg.length 0))(hS:∀b,S b->b<w.heap.size)
  (h2:mt.length=4*sg.length)(VO:sg.length<=64)(W7:lf.length=mt.length)(hI:cP mt)(hX: -2<=X/\X<mt.length)(hY: -2<=Y/\Y<mt.length)(hs:X≠Y->s=0):
  Calls Tryz.prog 48 #[.agg #[.slice A1 sg.length c1,.slice A2 mt.length c2,.int .i64 0,.slice A3 mt.length c3,.slice A4 sg.length c4],.agg #[.int .i64 kd,.int .i64 X,.int .i64 Y,.int .i64 s,.bool ov]] w fun e w'=>e= .returned (.int .i64 (yA sg.length lf mt X Y s))/\Below w.heap.size w w':=by
 have Vi:Below w.heap.size w (w.alloc (.cells #[.slice A1 sg.length c1,.slice A2 mt.length c2,.int .i64 0,.slice A3 mt.length c3,.slice A4 sg.length c4] 52)):=(Rh _ _).alloc (Rf _) _;have Vj:Below w.heap.size w ((w.alloc (.cells #[.slice A1 sg.length c1,.slice A2 mt.length c2,.int .i64 0,.slice A3 mt.length c3,.slice A4 sg.length c4] 52)).alloc (.cells #[.int .i64 kd,.int .i64 X,.int .i64 Y,.int .i64 s,.bool ov] 26)):=Vi.alloc oX _;have HB:=Rb Vj
 have HH:Hid (RI ((w.alloc (.cells #[.slice A1 sg.length c1,.slice A2 mt.length c2,.int .i64 0,.slice A3 mt.length c3,.slice A4 sg.length c4] 52)).alloc (.cells #[.int .i64 kd,.int .i64 X,.int .i64 Y,.int .i64 s,.bool ov] 26)) S A2 mt/\
   RI ((w.alloc (.cells #[.slice A1 sg.length c1,.slice A2 mt.length c2,.int .i64 0,.slice A3 mt.length c3,.slice A4 sg.length c4] 52)).alloc (.cells #[.int .i64 kd,.int .i64 X,.int .i64 Y,.int .i64 s,.bool ov] 26)) S A3 lf/\
   RI ((w.alloc (.cells #[.slice A1 sg.length c1,.slice A2 mt.length c2,.int .i64 0,.slice A3 mt.length c3,.slice A4 sg.length c4] 52)).alloc (.cells #[.int .i64 kd,.int .i64 X,.int .i64 Y,.int .i64 s,.bool ov] 26)) S A4 (List.replicate sg.length 0)):=
  Rb ⟨hy.ak fun b hb=>Vj.block b (hS b hb),hl.ak fun b hb=>Vj.block b (hS b hb),hp.ak fun b hb=>Vj.block b (hS b hb)⟩
 have HC0:Hid (((w.alloc (.cells #[.slice A1 sg.length c1,.slice A2 mt.length c2,.int .i64 0,.slice A3 mt.length c3,.slice A4 sg.length c4] 52)).alloc (.cells #[.int .i64 kd,.int .i64 X,.int .i64 Y,.int .i64 s,.bool ov] 26)).cell? ⟨w.heap.size,0,none⟩=some (.slice A1 sg.length c1)):=by have h:=(Rx (w.alloc (.cells #[.slice A1 sg.length c1,.slice A2 mt.length c2,.int .i64 0,.slice A3 mt.length c3,.slice A4 sg.length c4] 52)) (.cells #[.int .i64 kd,.int .i64 X,.int .i64 Y,.int .i64 s,.bool ov] 26) w.heap.size oX).trans (Ru w _);apply Rb;rw[Rt _ _ _ _ _ _ h];rfl
 have HS:=Rb hS;have HI:=Rb hI;have H2:=Rb h2;have WR:=Rb W7;have hX1:=hX.1;have hX2:=hX.2;have hY1:=hY.1;have hY2:=hY.2;have VQ:mt.length<=256:=oZ;clear Vi Vj hy hl hp hS hI h2 W7 hX hY;by_cases XI:X<0
 ·have e:yA sg.length lf mt X Y s=6:=by unfold yA;rw[Re (.inl XI)]
  rw[e];clear e;by_cases hyn:Y<0
  ·by_cases WO:s=0
   ·subst WO
    clear hs;go_enter Tryz.func48,Tryz.ntmps48
    go_wp2_with fail;go_ret;exact⟨rfl,HB.out⟩
   ·have VV:(s==0)=false:=by rw[Rs];exact WO
    clear hs WO;go_enter Tryz.func48,Tryz.ntmps48
    go_wp2_with fail;go_ret;exact⟨rfl,HB.out⟩
  ·have hyd:decide (Y<0)=false:=Rl hyn
   clear hs;go_enter Tryz.func48,Tryz.ntmps48
   go_wp2_with fail;go_ret;exact⟨rfl,HB.out⟩
 ·by_cases hyn:Y<0
  ·have WO:s=0:=hs oZ
   subst WO;have e:yA sg.length lf mt X Y 0=6:=by unfold yA;rw[Re (.inr (.inl ⟨hyn,rfl⟩))]
   rw[e];clear e hs;go_enter Tryz.func48,Tryz.ntmps48
   go_wp2_with fail;go_ret;exact⟨rfl,HB.out⟩
  ·obtain⟨x,rfl⟩:∃x:Nat,X=x:=⟨X.toNat,oZ⟩
   obtain⟨y,rfl⟩:∃y:Nat,Y=y:=⟨Y.toNat,oZ⟩
   have VK:(0:Int)<=(x:Int):=oZ;have hy0:(0:Int)<=(y:Int):=oZ;have Ya:Hid (x<mt.length/\y<mt.length):=⟨oZ,oZ⟩;clear hX1 hX2 hY1 hY2 XI hyn;by_cases Vw:x=y
   ·subst Vw
    have e:yA sg.length lf mt (x:Int) (x:Int) s=if 62<sg.length then 5 else 0:=by unfold yA;rw[Rc oZ]
    rw[e];clear e hs;by_cases h62:62<sg.length
    ·rw[Re h62]
     go_enter Tryz.func48,Tryz.ntmps48
     go_wp2_with fail;go_ret;exact⟨rfl,HB.out⟩
    ·rw[Rc h62]
     go_enter Tryz.func48,Tryz.ntmps48
     go_wp2_with fail;go_ret;exact⟨rfl,HB.out⟩
   ·have WO:s=0:=hs oZ
    subst WO;have Vh:((x:Int)!=(y:Int))=true:=by rw[RZ];omega
    have e:yA sg.length lf mt (x:Int) (y:Int) 0=if jG lf mt x y=false then 6 else if 62<sg.length then 5 else 0:=by
     unfold yA;by_cases hn:jG lf mt x y=false;{rw[Re hn,Re (.inr (.inr ⟨VK,hy0,oZ,by simpa using hn⟩))]}
     ·rw[Rc hn,Rc (by
       rintro(h|⟨h,-⟩|⟨-,-,-,h⟩);{omega};{omega}
       ·exact hn (by simpa using h))]
    rw[e];clear e hs Vw
    cases hn:jG lf mt x y
    case' false=>have HN:=Rb hn;rw[Re rfl];clear hn
    case' true=>have HN:=Rb hn;rw[Rc oQ];clear hn
    case' true=>by_cases h62:62<sg.length
    case' pos=>rw[Re h62]
    case' neg=>rw[Rc h62]
    all_goals
     go_enter Tryz.func48,Tryz.ntmps48
     go_wp2_with fail;refine(Hp A1 A2 A3 A4 c1 c2 c3 c4 sg mt lf 0 _ _ x y _ S HH.out.1 HH.out.2.1 HH.out.2.2 (fun b hb=>by have:=HS.out b hb;simp;omega) H2.out VO WR.out rfl rfl Ya.out.1 Ya.out.2 (HI.out.gn Ya.out.1).1).mono ?_;rintro e w1 ⟨rfl,Vi⟩;have Vr:=Rb (HB.out.trans (Vi.mono HB.out.size));have hc:=(Vi.cell (p:=⟨w.heap.size,0,none⟩) qj).trans HC0.out;rw[HN.out];clear Vi;go_wp2_with fail;go_ret;exact⟨rfl,Vr.out⟩
theorem bO{xs:List Int}{a b:Nat}(ha:a<xs.length)(hb:b<xs.length)(k:Nat):gn (bH xs a b) k=if k=b then a else if k=a then b else gn xs k:=by unfold gn;rw[pP ha hb];split;{simp};{split<;>simp}
theorem sJ{xs ys:List Int}{k:Nat}(hk:k<xs.length):gn (xs++ys) k=gn xs k:=by unfold gn;rw[cX hk]
theorem gF{xs ys:List Int}(j:Nat):gi (xs++ys) (xs.length+j)=gi ys j:=by unfold gi;simp[Uc]
theorem sO{m:Nat->Nat}{a b k:Nat}:(if k=b then a else if k=a then b else m k)=fe m a b k:=by unfold fe;by_cases e:k=a;{subst e;by_cases e':k=b;{subst e';simp};{simp[e']}};{by_cases e':k=b;{subst e';simp[e]};{simp[e,e']}}
theorem bG(n i k:Nat)(hi:i<4):ae (4*n+i) k=4*n+(i+k)%4:=by unfold ae;omega
theorem yy(n i:Nat):eta (4*n+i)=eta i:=by unfold eta;rw[show(4*n+i)%2=i%2 by omega]
theorem JB{mt:List Int}{n a b c e h:Nat}(h2:mt.length=4*n)(hI:cP mt)(hh:h<mt.length)(ha:a/4=n)(hb:b/4=n)(hc:c/4=n)(he:e/4=n)(hab:a≠b)(hac:a≠c)(hae:a≠e)(hbc:b≠c)(YV:b≠e)(hce:c≠e):
  gn (bH (bH (bH (mt++List.replicate 4 0) a b) c (gn mt h)) h e) a=b/\gn (bH (bH (bH (mt++List.replicate 4 0) a b) c (gn mt h)) h e) b=a/\
  gn (bH (bH (bH (mt++List.replicate 4 0) a b) c (gn mt h)) h e) c=gn mt h/\gn (bH (bH (bH (mt++List.replicate 4 0) a b) c (gn mt h)) h e) (gn mt h)=c/\
  gn (bH (bH (bH (mt++List.replicate 4 0) a b) c (gn mt h)) h e) h=e/\gn (bH (bH (bH (mt++List.replicate 4 0) a b) c (gn mt h)) h e) e=h/\
  ∀k,k<mt.length->k≠h->k≠gn mt h->gn (bH (bH (bH (mt++List.replicate 4 0) a b) c (gn mt h)) h e) k=gn mt k:=by
 obtain⟨-,g1,g2,g3⟩:=hI.gn hh;have hl:(mt++List.replicate 4 0).length=mt.length+4:=by rw[Rz,Sd]
 have e1:∀k,gn (bH (bH (bH (mt++List.replicate 4 0) a b) c (gn mt h)) h e) k=if k=e then h else if k=h then e else if k=gn mt h then c else if k=c then gn mt h else if k=b then a else if k=a then b else gn (mt++List.replicate 4 0) k:=by intro k;rw[bO (by simp only[al,hl];omega) (by simp only[al,hl];omega),bO (by simp only[al,hl];omega) (by simp only[al,hl];omega),bO (by simp only[hl];omega) (by simp only[hl];omega)]
 refine⟨?_,?_,?_,?_,?_,?_,?_⟩;{rw[e1,Rc oZ,Rc oZ,Rc oZ,Rc oZ,Rc oZ,Re rfl]};{rw[e1,Rc oZ,Rc oZ,Rc oZ,Rc oZ,Re rfl]};{rw[e1,Rc oZ,Rc oZ,Rc oZ,Re rfl]};{rw[e1,Rc oZ,Rc oZ,Re rfl]};{rw[e1,Rc oZ,Re rfl]};{rw[e1,Re rfl]};{intro k hk k1 k2;rw[e1,Rc oZ,Rc k1,Rc k2,Rc oZ,Rc oZ,Rc oZ,sJ hk]}
theorem Ny{sg mt:List Int}{L:Int}(hd:cJ sg mt L){h:Nat}(hh:h<mt.length){s:Int}(hs:s=1\/s= -1)(ov:Bool):
  ∃o u,Qg sg (sg++[s]) mt (JV mt sg.length s ov h) o u:=by
 have h2:mt.length=4*sg.length:=hd.2.1;have hI:cP mt:=hd.2.2.2.2.2.1;obtain⟨-,g1,g2,g3⟩:=hI.gn hh;have ll:∀a b c d e:Nat,(bH (bH (bH (mt++List.replicate 4 0) a b) c (gn mt h)) d e).length=4*(sg.length+1):=by intro a b c d e;simp only[al,Rz,Sd];omega
 have so:∀c,c<sg.length->gi (sg++[s]) c=gi sg c:=fun c hc=>cX hc
 have sn:gi (sg++[s]) sg.length=s:=nS _ _;have key:∀a b c e:Nat,a<4->b<4->c<4->e<4->a≠b->a≠c->a≠e->b≠c->b≠e->c≠e->_:=fun a b c e ha hb hc he hab hac hae hbc YV hce=>JB (a:=4*sg.length+a) (b:=4*sg.length+b) (c:=4*sg.length+c) (e:=4*sg.length+e) h2 hI hh oZ oZ oZ oZ oZ oZ oZ oZ oZ oZ
 rcases hs with rfl|rfl
 ·cases ov with
  |false=>obtain⟨k1,k2,k3,k4,k5,k6,k7⟩:=key 2 3 1 0 oQ oQ oQ oQ oQ oQ oQ oQ oQ oQ;refine⟨4*sg.length+2,h,⟨oX,ll _ _ _ _ _,oZ,hh,?_,?_,?_,?_,?_,?_,fun k hk a b=>k7 k hk a b,so,?_⟩⟩;{rw[bG _ _ _ oQ];exact k1};{rw[bG _ _ _ oQ];exact k2};{rw[bG _ _ _ oQ];exact k6};{rw[bG _ _ _ oQ];exact k5};{rw[bG _ _ _ oQ];exact k3};{rw[bG _ _ _ oQ];exact k4};{rw[sn,yy];rfl}
  |true=>obtain⟨k1,k2,k3,k4,k5,k6,k7⟩:=key 1 0 2 3 oQ oQ oQ oQ oQ oQ oQ oQ oQ oQ;refine⟨4*sg.length+0,gn mt h,⟨oX,ll _ _ _ _ _,oZ,g1,?_,?_,?_,?_,?_,?_,fun k hk a b=>k7 k hk (by rw[g3]at b;exact b) a,so,?_⟩⟩;{rw[bG _ _ _ oQ];exact k2};{rw[bG _ _ _ oQ];exact k1};{rw[bG _ _ _ oQ];exact k3};{rw[bG _ _ _ oQ];exact k4};{rw[bG _ _ _ oQ,g3];exact k6};{rw[bG _ _ _ oQ,g3];exact k5};{rw[sn,yy];rfl}
 ·cases ov with
  |false=>obtain⟨k1,k2,k3,k4,k5,k6,k7⟩:=key 2 1 3 0 oQ oQ oQ oQ oQ oQ oQ oQ oQ oQ;refine⟨4*sg.length+1,gn mt h,⟨oX,ll _ _ _ _ _,oZ,g1,?_,?_,?_,?_,?_,?_,fun k hk a b=>k7 k hk (by rw[g3]at b;exact b) a,so,?_⟩⟩;{rw[bG _ _ _ oQ];exact k2};{rw[bG _ _ _ oQ];exact k1};{rw[bG _ _ _ oQ];exact k3};{rw[bG _ _ _ oQ];exact k4};{rw[bG _ _ _ oQ,g3];exact k6};{rw[bG _ _ _ oQ,g3];exact k5};{rw[sn,yy];rfl}
  |true=>obtain⟨k1,k2,k3,k4,k5,k6,k7⟩:=key 3 0 2 1 oQ oQ oQ oQ oQ oQ oQ oQ oQ oQ;refine⟨4*sg.length+3,h,⟨oX,ll _ _ _ _ _,oZ,hh,?_,?_,?_,?_,?_,?_,fun k hk a b=>k7 k hk a b,so,?_⟩⟩;{rw[bG _ _ _ oQ];exact k1};{rw[bG _ _ _ oQ];exact k2};{rw[bG _ _ _ oQ];exact k6};{rw[bG _ _ _ oQ];exact k5};{rw[bG _ _ _ oQ];exact k3};{rw[bG _ _ _ oQ];exact k4};{rw[sn,yy];rfl}
end Go.Proofs.YtdbhigmklejicaaGreat
