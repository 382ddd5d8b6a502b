/- Lemmas, each under its own premises. -/
import Derived.Test.YtdbhigmklejicaaGreatZ11
import Derived.Laws.Externs
namespace Go.Proofs.YtdbhigmklejicaaGreat
set_option maxHeartbeats 16000000
set_option maxRecDepth 100000
open Go.RowKit Go.Maps
structure CF(w wr:World)(A1 A2:Option Addr)(c1 c2:Nat)(sg mt:List Int):Prop where
 d:bI wr w.heap.size A1 A2 c1 c2 sg mt 0
 rs:RI wr (·<w.heap.size) A1 sg
 rm:RI wr (·<w.heap.size) A2 mt
 z0:wr.cell? ⟨w.heap.size+1,0,none⟩=some (.int .i64 0)
 z1:wr.cell? ⟨w.heap.size+1,1,none⟩=some (.slice none 0 0)
 f0:wr.frozen? ⟨w.heap.size+1,0,none⟩=false
 f1:wr.frozen? ⟨w.heap.size+1,1,none⟩=false
 lt:w.heap.size+2<=wr.heap.size
 bl:Below w.heap.size w wr
section
variable{w wr w':World}{A1 A2:Option Addr}{c1 c2:Nat}{sg mt:List Int}
theorem CF.ak(h:CF w wr A1 A2 c1 c2 sg mt)(hk:∀b,b<w.heap.size+2->w'.heap[b]?=wr.heap[b]?)(hs:wr.heap.size<=w'.heap.size)(hb:Below w.heap.size w w'):CF w w' A1 A2 c1 c2 sg mt:=by
 have o:∀i,w'.cell? ⟨w.heap.size,i,none⟩=wr.cell? ⟨w.heap.size,i,none⟩:=fun i=>Ri (a:=⟨w.heap.size,i,none⟩) (hk _ oJ)
 have o1:∀i,w'.cell? ⟨w.heap.size+1,i,none⟩=wr.cell? ⟨w.heap.size+1,i,none⟩:=fun i=>Ri (a:=⟨w.heap.size+1,i,none⟩) (hk _ oJ)
 have o2:∀i,w'.frozen? ⟨w.heap.size+1,i,none⟩=wr.frozen? ⟨w.heap.size+1,i,none⟩:=fun i=>Ro (a:=⟨w.heap.size+1,i,none⟩) (hk _ oJ)
 have hl:=h.lt;have rs:=h.rs.ak (w':=w') fun b hb=>hk b oZ
 have rm:=h.rm.ak (w':=w') fun b hb=>hk b oZ
 exact⟨⟨(o _).trans h.d.c0,(o _).trans h.d.c1,(o _).trans h.d.c2,oZ,rs.imp fun b hb=>by omega,rm.imp fun b hb=>by omega⟩,rs,rm,(o1 _).trans h.z0,(o1 _).trans h.z1,(o2 _).trans h.f0,(o2 _).trans h.f1,oZ,hb⟩
theorem CF.call(h:CF w wr A1 A2 c1 c2 sg mt)(hb:Below wr.heap.size wr w'):CF w w' A1 A2 c1 c2 sg mt:=
 h.ak (fun b hl=>hb.block b (by have:=h.lt;omega)) hb.size (h.bl.trans (hb.mono (by have:=h.lt;omega)))
theorem CF.new{S:Nat->Prop}(hx:RI w S A1 sg)(hy:RI w S A2 mt)(hS:∀b,S b->b<w.heap.size):CF w ((w.alloc (.cells #[.slice A1 sg.length c1,.slice A2 mt.length c2,.int .i64 0] 24)).alloc (.cells #[.int .i64 0,.slice none 0 0] 42)) A1 A2 c1 c2 sg mt:=by have k:=Ru (w.alloc (.cells #[.slice A1 sg.length c1,.slice A2 mt.length c2,.int .i64 0] 24)) (.cells #[.int .i64 0,.slice none 0 0] 42);rw[show(w.alloc (.cells #[.slice A1 sg.length c1,.slice A2 mt.length c2,.int .i64 0] 24)).heap.size=w.heap.size+1 by simp]at k;have hb:Below w.heap.size w ((w.alloc (.cells #[.slice A1 sg.length c1,.slice A2 mt.length c2,.int .i64 0] 24)).alloc (.cells #[.int .i64 0,.slice none 0 0] 42)):=((Rh _ _).alloc (Rf _) _).alloc oX _;refine⟨(bI.start (c1:=c1) (c2:=c2) (L:=0) S hx hy hS).below ((Rh _ _).alloc (Rf _) _),(hx.ak fun b h=>hb.block b (hS b h)).imp hS,(hy.ak fun b h=>hb.block b (hS b h)).imp hS,?_,?_,RD _ _ _ _ _ k,RD _ _ _ _ _ k,oX,hb⟩<;>(rw[Rt _ _ _ _ _ _ k];rfl)
end
section
variable{w wr:World}{A1 A2:Option Addr}{c1 c2:Nat}{sg mt:List Int}{p:Nat->Int}{x0 bm Sn:Nat}{idx:Nat->Nat}
theorem Nh{wr w':World}{b:Nat}{v0 v1 v2:Value}(d0:wr.cell? ⟨b,0,none⟩=some v0)(d1:wr.cell? ⟨b,1,none⟩=some v1)(d2:wr.cell? ⟨b,2,none⟩=some v2)(h:Below wr.heap.size wr w'):
  w'.cell? ⟨b,0,none⟩=some v0/\w'.cell? ⟨b,1,none⟩=some v1/\w'.cell? ⟨b,2,none⟩=some v2:=
 ⟨(h.cell (p:=⟨b,0,none⟩) (RX _ _ d0)).trans d0,(h.cell (p:=⟨b,1,none⟩) (RX _ _ d1)).trans d1,(h.cell (p:=⟨b,2,none⟩) (RX _ _ d2)).trans d2⟩
theorem Oh(T:CF w wr A1 A2 c1 c2 sg mt)(YM:bm<wr.heap.size)(hf:yC wr bm mt.length (dU mt))(H:Bd sg mt 0)(V:BS sg mt p x0)(V2:∀j,j<(aD sg mt).length->idx j<(aD sg mt).length/\jl sg mt p x0 (idx j)=j)(Xu:(aD sg mt).length=Sn){X:World}(hk:Below wr.heap.size wr X):
  Calls Tryz.prog 68 #[.agg #[.slice A1 sg.length c1,.slice A2 mt.length c2,.int .i64 0],.map (some bm)] X fun e w'=>∃Ac cc,e= .returned (.slice Ac Sn cc)/\Below wr.heap.size wr w'/\RL w' (fun b=>wr.heap.size<=b/\b<w'.heap.size) Ac (rows (yz sg mt Sn idx)):=by
 have h1:=T.lt;have h2:=hk.size;refine(Gq (c1:=c1) (c2:=c2) X (·<w.heap.size) (T.rs.ak fun b hb=>hk.block b oZ) (T.rm.ak fun b hb=>hk.block b oZ) (fun b hb=>by omega) oZ (hf.same (hk.block bm YM)) H V V2).mono ?_;rintro e w7 ⟨v,rfl,hr,hb⟩;obtain⟨A,c,rfl,hl⟩:=hr.reads;rw[Xu]at hl⊢;rw[ri];exact⟨A,c,rfl,hk.trans (hb.mono h2),hl.imp fun b hb=>⟨oZ,hb.2⟩⟩
theorem OX(T:CF w wr A1 A2 c1 c2 sg mt)(YM:bm<wr.heap.size)(hf:yC wr bm mt.length (dU mt))(H:Bd sg mt 0)(V:BS sg mt p x0)(V2:∀j,j<(aD sg mt).length->idx j<(aD sg mt).length/\jl sg mt p x0 (idx j)=j)(Xu:(aD sg mt).length=Sn)(hS1:0<Sn)(hS2:Sn<=256){w7 X:World}{Ac:Option Addr}{cc:Nat}(hk:Below wr.heap.size wr w7)(hr:RL w7 (fun b=>wr.heap.size<=b/\b<w7.heap.size) Ac (rows (yz sg mt Sn idx)))(hx:Below w7.heap.size w7 X):
  Calls Tryz.prog 67 #[.agg #[.slice A1 sg.length c1,.slice A2 mt.length c2,.int .i64 0],.slice Ac Sn cc,.map (some bm)] X fun e w'=>∃gc kc ch,e= .returned (.slice (some ⟨gc,0,none⟩) Sn kc)/\Below wr.heap.size wr w'/\wr.heap.size<=gc/\gc<w'.heap.size/\Kl sg mt idx ch Sn/\OI w' wr.heap.size (.slice (some ⟨gc,0,none⟩) Sn kc) ch:=by
 have h1:=T.lt;have h2:=hk.size;have h3:=hx.size;have h4:=hk.trans (hx.mono h2);refine(Fs (c1:=c1) (c2:=c2) (cc:=cc) X (·<w.heap.size) (fun b=>wr.heap.size<=b/\b<w7.heap.size) (fun b hb=>by rcases hb with hb|hb|hb<;>omega) (T.rm.ak fun b hb=>h4.block b oZ) (hr.ak fun b hb=>hx.block b hb.2) (hf.same (h4.block bm YM)) H V Xu.symm hS2 (fun j hj=>by rw[<-Xu]at hj⊢;exact V2 j hj)).mono ?_;rintro e w8 ⟨v,ch,hch,rfl,ho,hb⟩;have hl:=hch.1;obtain⟨A,c,hv,-,-,Vh⟩:=ho.shape;obtain⟨g,rfl⟩:=Vh (by rintro rfl;simp at hl;omega);rw[hl]at hv;subst hv;obtain⟨a,b⟩:=ho.lt g rfl;exact⟨g,c,ch,rfl,h4.trans (hb.mono oZ),oZ,b,hch,ho.mono oZ⟩
end
def Q5(sg mt:List Int)(w:World)(e:Ending)(w':World):Prop:=Below w.heap.size w w'/\
  ((10<(aD sg mt).length/\e= .returned (.tuple #[.agg #[.int .i64 0,.slice none 0 0],.int .i64 5]))\/
   ((aD sg mt).length<=10/\∃p x0 st l v,BS sg mt p x0/\Cut sg mt p x0 (aD sg mt).length st/\Rg sg mt (aD sg mt).length st l/\l.length=sg.length/\e= .returned (.tuple #[.agg #[.int .i64 ((aD sg mt).length:Nat),v],.int .i64 0])/\OI w' w.heap.size v (b_ sg l)))
theorem Dz{A1 A2:Option Addr}{c1 c2:Nat}{sg mt:List Int}(w:World)(S:Nat->Prop)(hx:RI w S A1 sg)(hy:RI w S A2 mt)(hS:∀b,S b->b<w.heap.size)(H:Bd sg mt 0)(hn:iZ sg mt mt.length=[]):
  Calls Tryz.prog 34 #[.agg #[.slice A1 sg.length c1,.slice A2 mt.length c2,.int .i64 0]] w (Q5 sg mt w):=by
 have T0:=Rb (CF.new (c1:=c1) (c2:=c2) hx hy hS);have HH:=Rb H;have HN:=Rb hn;have VQ:mt.length<=256:=by have:=H.d.1;have:=H.d.2.1;omega
 have Xg:=H.pos;clear hx hy hS hn H;go_enter Tryz.func34,Tryz.ntmps34
 go_wp2_with fail;obtain⟨W,hW⟩:∃W,(w.alloc (.cells #[.slice A1 sg.length c1,.slice A2 mt.length c2,.int .i64 0] 24)).alloc (.cells #[.int .i64 0,.slice none 0 0] 42)=W:=⟨_,rfl⟩
 rw[hW]at T0⊢;clear hW;refine(sB A1 A2 c1 c2 sg mt W (·<W.heap.size) T0.out.d.rs T0.out.d.rm (fun _ h=>h) HH.out.d HH.out.one).mono ?_;rintro e w1 ⟨rfl,hb⟩;have T1:=Rb (T0.out.call hb);clear T0 hb;obtain⟨k0,k1,k2,-,-,-⟩:=T1.out.d;go_wp2_with fail;refine(xM A1 A2 c1 c2 sg mt 0 w1 (·<w1.heap.size) T1.out.d.rs T1.out.d.rm (fun _ h=>h) HH.out.d VQ).mono ?_;rintro e w2 ⟨v,rfl,ho,hb⟩;obtain⟨A9,c9,rfl,-,-⟩:=ho.shape;rw[HN.out];have T2:=Rb (T1.out.call hb);clear T1 hb ho k0 k1 k2;obtain⟨k0,k1,k2,-,-,-⟩:=T2.out.d;go_wp2_with fail;refine(u_ A1 A2 c1 c2 sg mt 0 w2 (·<w2.heap.size) T2.out.d.rs T2.out.d.rm (fun _ h=>h) HH.out.d).mono ?_;rintro e w3 ⟨v,rfl,ho,hb⟩;obtain⟨A8,c8,rfl,-,-⟩:=ho.shape;rw[R6];obtain⟨n8,hn8⟩:∃n,(fV sg mt sg.length).length=n:=⟨_,rfl⟩
 rw[hn8];have T3:=Rb (T2.out.call hb);clear T2 hb ho k0 k1 k2 hn8;obtain⟨Sn,Xu⟩:∃n,(aD sg mt).length=n:=⟨_,rfl⟩
 have hS256:Sn<=256:=by have:=dM (aP sg mt) mt.length (ai sg) mt.length;rw[aE]at this;unfold aD at Xu;omega
 have Wk:=Rb Xu;have hS1:0<Sn:=by rw[<-Xu];obtain⟨p,x0,V⟩:=HH.out.Ho;exact S9 (Rv _) (HH.out.fw V.lt V.o)
 rw[Xu];clear Xu;obtain⟨k0,k1,k2,-,-,-⟩:=T3.out.d;have z0:=T3.out.z0;have z1:=T3.out.z1;have q0:=T3.out.f0;have q1:=T3.out.f1;by_cases h10:10<Sn;{go_wp2_with fail;refine RC (v:= .tuple #[.agg #[.int .i64 0,.slice none 0 0],.int .i64 5]) (by simp[results,Tryz.results34,go_sem,z0,z1]) rfl ?_;refine⟨?_,.inl ⟨by rw[Wk.out];exact h10,rfl⟩⟩;(iterate 2 refine RM ?_ oJ _);exact T3.out.bl}
 ·have hmm:=@run_makeMap Tryz.prog
  have T4:=Rb (T3.out.call ((Rh _ w3).alloc (Rf _) (.map #[] 0)));have O4:=Rb (World.ownsMap_made (P:=Tryz.prog) (k:=3) (R:=plainElem (H:=Unit) Tryz.prog 3) w3);have hlt3:=T3.out.lt;have hs4:(w3.alloc (.map #[] 0)).heap.size=w3.heap.size+1:=oX;clear z0 z1 q0 q1 T3;obtain⟨p0,p1,p2,-,-,-⟩:=T4.out.d;go_wp2_with fail;clear hmm p0 p1 p2 k0 k1 k2;obtain⟨bm,YM⟩:∃b,w3.heap.size=b:=⟨_,rfl⟩
  obtain⟨w4,hw4⟩:∃x,w3.alloc (.map #[] 0)=x:=⟨_,rfl⟩
  rw[hw4]at T4 O4 hs4⊢;rw[YM]at O4 hs4 hlt3⊢;clear hw4 YM;refine(nQ A1 A2 c1 c2 sg mt 0 w4 (·<w4.heap.size) T4.out.d.rs T4.out.d.rm (fun _ h=>h) HH.out.d).mono ?_;rintro e w5 ⟨v,rfl,hr,hb⟩;obtain⟨Af,cf,rfl,-,-,-⟩:=hr.shape;rw[aE];have T5:=Rb (T4.out.call hb);have O5:=Rb (gO O4.out (hb.block bm oZ));have HR:=Rb hr;have hs5:=hb.size;clear T4 O4 hb hr;obtain⟨nf,hnf⟩:∃n,(aC mt).length=n:=⟨_,rfl⟩
  have hnf2:nf<=256:=by have:=dM (au mt) mt.length il mt.length;rw[aE]at this;unfold aC at hnf;omega
  rw[hnf];have HNF:=Rb hnf;have HQ0:Hid (zN (.map []) mt.length (dU mt) (zY mt 0 0)):=Rb ((zN.nil _ _).congr fun x _=>Gd x);clear hnf;go_wp2_with fail;go_loopg[49] nf (fun g v wx=>∃(i km:Nat)(D:DataW Unit),i+g=nf/\v= .int .i64 i/\km<=256*i/\Hid (IZ bm w5 wx)/\Hid (wx.ownsMap Tryz.prog 3 (plainElem Tryz.prog 3) bm km D)/\Hid (zN D mt.length (dU mt) (zY mt i 0)))
  case atStart=>exact⟨0,0,_,oZ,rfl,oZ,Rb (IZ.refl _ _),O5,HQ0⟩
  case round=>
   clear HQ0 O5;obtain⟨i,km,D,hig,rfl,hkm,HK,HO,HQ⟩:=hrel
   cases gk with
   |zero=>
    obtain rfl:i=nf:=oZ;have HF:Hid (yC wr bm mt.length (dU mt)):=Rb (zN.full HH.out.d HO.out (by rw[HNF.out];exact HQ.out));have T6:Hid (CF w wr A1 A2 c1 c2 sg mt):=Rb (T5.out.ak (fun b hb=>HK.out.PL oZ oZ) HK.out.g.size (T5.out.bl.grown HK.out.g T5.out.bl.size (fun k hk=>by injection hk;omega)));have hs6:=HK.out.g.size;clear HQ HO HK T5 HR hkm km D;obtain⟨p,x0,V⟩:=HH.out.Ho;have HV:=Rb V;obtain⟨idx,V2⟩:=HH.out.M_ V;have HIX:=Rb V2;have hbmw:bm<wr.heap.size:=oZ;have HSEQ:=Rb fun(X:World) (hk:Below wr.heap.size wr X)=>Oh (A1:=A1) (A2:=A2) (c1:=c1) (c2:=c2) T6.out hbmw HF.out HH.out V V2 Wk.out hk
    have HCUT:=Rb fun(w7 X:World) (Ac:Option Addr) (cc:Nat) (hk:Below wr.heap.size wr w7) (hr:RL w7 (fun b=>wr.heap.size<=b/\b<w7.heap.size) Ac (rows (yz sg mt Sn idx))) (hx:Below w7.heap.size w7 X)=>OX (A1:=A1) (A2:=A2) (c1:=c1) (c2:=c2) (cc:=cc) T6.out hbmw HF.out HH.out V V2 Wk.out hS1 hS256 hk hr hx
    clear V V2;obtain⟨k0,k1,k2,-,-,-⟩:=T6.out.d;have P0:=Rb k0;have P1:=Rb k1;have P2:=Rb k2;go_wp2_with fail;clear k0 k1 k2
    go_region_held3 (fun w'=>w'.cell? ⟨w.heap.size,0,none⟩=some (.slice A1 sg.length c1)/\w'.cell? ⟨w.heap.size,1,none⟩=some (.slice A2 mt.length c2)/\w'.cell? ⟨w.heap.size,2,none⟩=some (.int .i64 0))
     (((with_reducible refine Nh P0.out P1.out P2.out ?_);(repeat (first|with_reducible exact HK8.out|with_reducible exact HK7.out|with_reducible exact Rh _ _|with_reducible refine Td ?_))))
     (first|(go_at_call 68;refine(HSEQ.out _ (by(repeat (first|with_reducible exact Rh _ _|with_reducible refine Td ?_)))).mono ?_;rintro e w7 ⟨Ac,cc,rfl,hk7,hr7⟩;have HK7:=Rb hk7;have HR7:=Rb hr7;clear hk7 hr7)|(go_at_call 67;refine(HCUT.out w7 _ _ _ HK7.out HR7.out (by(repeat (first|with_reducible exact Rh _ _|with_reducible refine Td ?_)))).mono ?_;rintro e w8 ⟨gc,kc,ch,rfl,hk8,Vs,Vv,hch,hoi⟩;have HK8:=Rb hk8;have HCH:=Rb hch;have HOI:=Rb hoi;have HG1:=Rb Vs;have HG2:=Rb Vv;clear hk8 hch hoi Vs Vv))
    have T8:=Rb (T6.out.call HK8.out);clear HSEQ HCUT P0 P1 P2 HR7 HK7;have CU:=HH.out.Mi HV.out HIX.out (by rw[Wk.out];exact HCH.out);rw[Wk.out]at CU;have HCU:=Rb CU;clear CU;have hs8:=HK8.out.size;obtain⟨k0,k1,k2,-,-,-⟩:=T8.out.d;go_wp2_with fail;refine(xe (A1:=A1) (A2:=A2) (c1:=c1) (c2:=c2) (kc:=kc) w8 (·<w.heap.size) T8.out.rs T8.out.rm (fun b hb=>by have:=HG1.out;omega) HOI.out HG2.out HH.out HV.out HCU.out.1 Wk.out.symm HCU.out.2 hS1 hS256).mono ?_;rintro e w9 ⟨l,v,hrg,W7,rfl,ho,hb9,hkp⟩;have Vs:=HG1.out;have T9:Hid (CF w w9 A1 A2 c1 c2 sg mt):=Rb (T8.out.ak (fun b hb=>hkp b oZ oZ) hb9.size (T8.out.bl.trans (hb9.mono oZ)));obtain⟨Av,cv,hv,-,-,-⟩:=ho.shape;obtain⟨nv,hnv⟩:∃n,(b_ sg l).length=n:=⟨_,rfl⟩
    rw[hnv]at hv;subst hv;have HO9:=Rb ho;have HRG:=Rb hrg;have WR:=Rb W7;clear ho hrg W7 hnv hb9 hkp k0 k1 k2 T6 T8 Vs;have z0:=T9.out.z0;have z1:=T9.out.z1;have q0:=T9.out.f0;have q1:=T9.out.f1;have hl9:=T9.out.lt;go_wp2_with fail;refine RC (v:= .tuple #[.agg #[.int .i64 Sn,.slice Av nv cv],.int .i64 0]) (by simp[results,Tryz.results34,go_sem,z0,z1]) rfl ?_;refine⟨?_,.inr ⟨by rw[Wk.out];omega,p,x0,gn ch,l,.slice Av nv cv,HV.out,by rw[Wk.out];exact HCU.out.1,by rw[Wk.out];exact HRG.out,WR.out,by rw[Wk.out],?_⟩⟩
    ·iterate 2 refine RM ?_ oJ _
     exact T9.out.bl
    {refine(HO9.out.ak fun g hg=>?_).mono oZ;have VS:=(HO9.out.lt g hg).1;exact(Rn _ _ _ g oJ).trans (Rn _ _ _ g oJ)}
   |succ g=>
    have hi:i<nf:=oZ;obtain⟨gf,cf2,Ak,ck,hv,Vs,Vv,Vk,VB,-⟩:=HR.out.at_ (k:=i) (by rw[aE];show i<(aC mt).length;rw[HNF.out];exact hi);injection hv with e1 e2 e3
    subst e1;have e9:(rows (bR (au mt) mt.length il mt.length)).getD i []=ints ((aC mt).getD i []):=by show(rows (aC mt)).getD i []=_;rw[jN (by rw[HNF.out];exact hi),Rw,RH (by rw[HNF.out];exact hi)];rfl
    rw[show(rows (aC mt)).getD i []=ints ((aC mt).getD i [])from e9]at Vk VB;rw[aH]at Vk;have WD:=Nl HH.out.d (i:=i) (by rw[HNF.out];exact hi);obtain⟨row,hro⟩:∃r,(aC mt).getD i []=r:=⟨_,rfl⟩
    rw[hro]at Vk VB WD;have HRO:=Rb hro;have kc:=(Ri (a:=⟨gf,i,none⟩) (HK.out.PL Vv oJ)).trans Vk;have X3:Hid (RI w5 (fun b=>w4.heap.size<=b/\b<w5.heap.size) Ak (ints row)):=Rb VB;clear hro Vk e9 VB e2 e3;have Xo:=HQ;go_wp2_with fail;go_loopg[56] row.length (fun g v wx=>∃(j km:Nat)(D:DataW Unit),j+g=row.length/\v= .int .i64 j/\km<=256*i+j/\Hid (IZ bm w5 wx)/\Hid (wx.ownsMap Tryz.prog 3 (plainElem Tryz.prog 3) bm km D)/\Hid (zN D mt.length (dU mt) (zY mt i j)))
    case atStart=>exact⟨0,km,_,oZ,rfl,oZ,HK,HO,HQ⟩
    case round=>
     clear HK HO HQ kc Xo hkm;obtain⟨j,km,D,hjg,rfl,hkm,HK,HO,HQ⟩:=hrel
     cases gk with
     |zero=>
      obtain rfl:j=row.length:=oZ;have Zp:Hid (zN D mt.length (dU mt) (zY mt (i+1) 0)):=Rb (HQ.out.congr fun x hx=>by rw[Jz HH.out.d (by rw[HNF.out];exact hi) hx,HRO.out]);go_wp2_with fail;go_roundg g
      case rel=>exact⟨i+1,km,_,oZ,by go_num,oZ,HK,HO,Zp⟩
      case measure=>omega
     |succ g2=>
      have hj:j<row.length:=oZ;obtain⟨bk,ok,ek,hbk,ZE⟩:=X3.out.at_ (k:=j) (by rw[aH];exact hj);have kj:=(Ri (a:=⟨bk,ok+j,none⟩) (HK.out.PL hbk.2 oJ)).trans (ZE j (by rw[aH];exact hj));rw[je hj]at kj;subst ek;obtain⟨h,hh⟩:∃h,gN row j=h:=⟨_,rfl⟩
      have hiF:i<(aC mt).length:=by rw[HNF.out];exact hi
      have Vm:h∈(aC mt).getD i []:=by rw[HRO.out,<-hh];unfold gN;rw[Rw,RH hj];exact R7 hj
      have V4:=FA HH.out.d hiF Vm;have hfi:=(B_ HH.out.d hiF V4).1 Vm;have Zp:Hid (zN (D.put (.int .i64 (h:Int)) (.lit (.int .i64 (i:Int)))) mt.length (dU mt) (zY mt i (j+1))):=by have:=(HQ.out.put V4).congr (ps':=zY mt i (j+1)) (fun x _=>Gl HH.out.d hiF (by rw[HRO.out];exact hj) (by rw[HRO.out];exact hh) x);rw[hfi]at this;exact Rb this
      rw[hh]at kj;have Yw:keyOf Tryz.prog 3 (.int .i64 (h:Int))=some (.int .i64 (h:Int)):=keyOf_int_mk Tryz.underlying3 (pR oZ);have HKEY:=Rb Yw;clear Vm hfi ZE hbk hh hiF Yw
      go_wp2_with(first
       |(at_mapUpdate;refine wpList_mapUpdate_own _ rfl _ _ _ 105 rfl 3 3 Bx Tryz.underlying105 _ bm km _ rfl HO.out (by unfold maxLen;omega) _ _ _ rfl rfl HKEY.out _ [] (plainElem_int Tryz.underlying3 (pR oZ)) ?_;intro w6 Y9 XH;have HO3:=Rb Y9;have HG3:=Rb XH;clear Y9 XH))
      have WT:=Rb (HK.out.grown HG3.out);go_roundg g2
      case rel=>exact⟨j+1,km+1,_,oZ,by go_num,oZ,WT,HO3,Zp⟩
      case measure=>omega
def yI(ps:List (Int×Int)):List Value:=ps.flatMap fun p=>[.int .i64 3,.int .i64 p.1,.int .i64 p.2,.int .i64 0,.bool true]
theorem xS(ps:List (Int×Int))(p:Int×Int):yI (ps++[p])=yI ps++[.int .i64 3,.int .i64 p.1,.int .i64 p.2,.int .i64 0,.bool true]:=by simp[yI]
def tQ(w:World)(B:Nat)(v:Value)(ps:List (Int×Int)):Prop:=w.ownsRow B 26 5 v ps.length (yI ps)
theorem Ec:(Tryz.prog.info? 26).map (fun i=>(i.zero,i.size,i.bytes))=some (some (.agg #[.int .i64 0,.int .i64 0,.int .i64 0,.int .i64 0,.bool false]),5,40):=by kernel_rfl
section
variable{w w':World}{B:Nat}{v:Value}{ps:List (Int×Int)}
theorem tQ.nil(w:World)(B:Nat):tQ w B (.slice none 0 0) []:=Ur w B _ _
theorem tQ.shape(h:tQ w B v ps):∃A c,v= .slice A ps.length c:=by
 rcases h.2 with⟨rfl,hn⟩|⟨g,c,cur,rfl,hb,hh,hnc,Wy,VE,ht⟩
 {exact⟨none,0,by rw[hn]⟩};{exact⟨_,c,rfl⟩}
theorem tQ.lt(h:tQ w B v ps):∀g,v.ownBlock=some g->B<=g/\g<w.heap.size:=UC h
theorem tQ.ak(h:tQ w B v ps)(hg:∀g,v.ownBlock=some g->w'.heap[g]?=w.heap[g]?):tQ w' B v ps:=by
 refine⟨h.1,?_⟩;rcases h.2 with h2|⟨g,c,cur,rfl,hb,hh,hr⟩
 {exact .inl h2};{exact .inr ⟨g,c,cur,rfl,hb,by rw[hg g rfl];exact hh,hr⟩}
theorem tQ.below{C:Nat}(h:tQ w B v ps)(hb:Below C w w')(hC:w.heap.size<=C):tQ w' B v ps:=
 h.ak fun g hg=>hb.block g (by have:=(h.lt g hg).2;omega)
theorem tQ.eL{W:World}(h:tQ w B v ps)(hb:Below B W w)(hB:B<=w.heap.size)(o:Obj)(hg:(w.alloc o).grownBy w' v.ownBlock):Below B W w':=
 (hb.alloc hB o).grown hg qj fun k hk=>(h.lt k hk).1
theorem DG{o:Oper}{a:Act}{K:Act->World->Prop}{Q:Exit->Act->World->Prop}{s x:Operand}{t:TypeId}{y z:Int}
  (Vq:tQ w B v ps)(hl:ps.length<1099511627)(hB:B<=w.heap.size)
  (ho:o.op= .call {callee:= .builtin .append,args:=#[s,x],argTypes:=#[t,t]})
  (ht:Tryz.prog.underlying t=some (.slice 26))(hs:a.eval s=v)(hx:a.eval x= .slice (some ⟨w.heap.size,0,none⟩) 1 1)
  (h:∀v' w',tQ w' B v' (ps++[(y,z)])->(w.alloc (.cells #[.int .i64 3,.int .i64 y,.int .i64 z,.int .i64 0,.bool true] 26)).grownBy w' v.ownBlock->(v'.ownBlock=v.ownBlock\/v'.ownBlock=some (w.heap.size+1))->K (a.put o.dst v') w'):
  o.wp Tryz.prog a (w.alloc (.cells #[.int .i64 3,.int .i64 y,.int .i64 z,.int .i64 0,.bool true] 26)) K Q:=by
 obtain⟨i0,hi,V6,VU,VN⟩:=S7 Ec;have YI:(w.alloc (.cells #[.int .i64 3,.int .i64 y,.int .i64 z,.int .i64 0,.bool true] 26)).ownsRow B 26 5 v ps.length (yI ps):=UN Vq _;have V0:∀(j:Nat)(u:Value),[Value.int .i64 3,Value.int .i64 y,Value.int .i64 z,Value.int .i64 0,Value.bool true][j]?=some u->(w.alloc (.cells #[.int .i64 3,.int .i64 y,.int .i64 z,.int .i64 0,.bool true] 26)).cell? ((⟨w.heap.size,0,none⟩:Addr).add j)=some u:=by
  intro j u hu;have e:((⟨w.heap.size,0,none⟩:Addr).add j)=⟨w.heap.size,j,none⟩:=by unfold Addr.add;split;{rename_i h0;subst h0;rfl};{simp}
  rw[e,Rt _ _ _ _ _ _ (Ru w _)];simpa using hu
 obtain⟨v',w',VG,h2,h3,_,h5⟩:=Tp (P:=Tryz.prog) (w.alloc (.cells #[.int .i64 3,.int .i64 y,.int .i64 z,.int .i64 0,.bool true] 26)) B t o.type 26 i0 _ 5 40 ht hi V6 VU VN rfl oQ v ps.length _ YI
  ⟨w.heap.size,0,none⟩ 1 1 [.int .i64 3,.int .i64 y,.int .i64 z,.int .i64 0,.bool true] rfl V0 (by intro u hu;simp at hu;rcases hu with rfl|rfl|rfl|rfl|rfl<;>rfl) (by unfold maxLen;omega) oZ qj
 unfold Oper.wp execOp;simp only[ho,resolve,invoke,builtin,TI,TJ,SV,S_,Tk,Tw,hs,hx,VG];refine h v' w' ?_ h3 (by simpa using h5);unfold tQ;rw[xS,Rz];exact h2
theorem Mr{ops:Array Oper}{rest:List Oper}{o:Oper}{a:Act}{Q:Exit->Act->World->Prop}{s x:Operand}{t:TypeId}{y z:Int}
  (Vq:tQ w B v ps)(hl:ps.length<1099511627)(hB:B<=w.heap.size)
  (XO:o.guard=none)(ho:o.op= .call {callee:= .builtin .append,args:=#[s,x],argTypes:=#[t,t]})
  (ht:Tryz.prog.underlying t=some (.slice 26))(hs:a.eval s=v)(hx:a.eval x= .slice (some ⟨w.heap.size,0,none⟩) 1 1)
  (h:∀v' w',tQ w' B v' (ps++[(y,z)])->(w.alloc (.cells #[.int .i64 3,.int .i64 y,.int .i64 z,.int .i64 0,.bool true] 26)).grownBy w' v.ownBlock->(v'.ownBlock=v.ownBlock\/v'.ownBlock=some (w.heap.size+1))->
   wpList Tryz.prog ops Q rest (a.put o.dst v') w'):
  wpList Tryz.prog ops Q (o::rest) a (w.alloc (.cells #[.int .i64 3,.int .i64 y,.int .i64 z,.int .i64 0,.bool true] 26)):=
 Ut XO fun _ hK=>DG Vq hl hB ho ht hs hx fun v' w' h2 h3 h5=>hK _ _ (h v' w' h2 h3 h5)
end
def Bb(sg mt sg' mt':List Int):Prop:=∀K,cA sg mt K->∃K',cA sg' mt' K'/\∀n,jE sg mt K n->jE sg' mt' K' n
theorem Bb.refl(sg mt:List Int):Bb sg mt sg mt:=fun K h=>⟨K,h,fun _ h=>h⟩
theorem Bb.trans{a b c d e f:List Int}(h:Bb a b c d)(k:Bb c d e f):Bb a b e f:=fun K hK=>by obtain⟨K',h1,h2⟩:=h K hK;obtain⟨K2,h3,h4⟩:=k K' h1;exact⟨K2,h3,fun n hn=>h4 n (h2 n hn)⟩
structure I2(sg mt:List Int):Prop where
 d:cJ sg mt 0
 one:av mt sg.length sg.length=1
 pos:0<sg.length
def PX(sg mt:List Int)(w:World)(e:Ending)(w':World):Prop:=
 ∃(er:Int)(A1 A2:Option Addr)(n1 k1 n2 k2:Nat)(L a b c d:Int)(o:Bool),e= .returned (.tuple #[.agg #[.slice A1 n1 k1,.slice A2 n2 k2,.int .i64 L],.agg #[.int .i64 a,.int .i64 b,.int .i64 c,.int .i64 d,.bool o],.int .i64 er])/\(er=0\/er=5)/\Below w.heap.size w w'/\
  (er=0->∃sg' mt',L=0/\n1=sg'.length/\n2=mt'.length/\dz w' w.heap.size (.slice A1 n1 k1) (.slice A2 n2 k2) sg' mt'/\I2 sg' mt'/\sg'.length=sg.length+2/\Bb sg mt sg' mt')
theorem JY{A1 A2:Option Addr}{c1 c2:Nat}{sg mt:List Int}{x y:Nat}(w:World)(S:Nat->Prop)(hx:RI w S A1 sg)(hy:RI w S A2 mt)(hS:∀b,S b->b<w.heap.size)(V:I2 sg mt)(V7:x<mt.length)(VJ:y<mt.length)(hib:mC sg mt x y=true):
  Calls Tryz.prog 9 #[.agg #[.slice A1 sg.length c1,.slice A2 mt.length c2,.int .i64 0],.agg #[.int .i64 3,.int .i64 (x:Int),.int .i64 (y:Int),.int .i64 0,.bool true]] w (PX sg mt w):=by
 obtain⟨f1,f2,f3⟩:=vg V.d V7 hib;have h2:=V.d.2.1;have Vn:pk sg.length 3 (x:Int) (y:Int) 0 true:= .inr (.inr (.inr (.inr ⟨rfl,oZ,oZ,oZ,oZ,.inl ⟨oZ,rfl⟩⟩)));have hpk:∀lf:List Int,AL mt (aC mt).length 0 lf->yA sg.length lf mt (x:Int) (y:Int) 0=if 62<sg.length then 5 else 0:=fun lf hf=>by unfold yA;rw[Rc];rintro(h|⟨h,-⟩|⟨-,-,-,h⟩);{omega};{omega};{rw[Si,Si]at h;unfold jG at h;rw[Rj ((oN (aU V.d.2.2.2.2.2.1 V.d.2.1) hf V7 VJ).2 f1),Rj f3]at h;exact absurd h oQ}
 refine(tT A1 A2 c1 c2 sg mt (x:Int) (y:Int) 0 true w S hx hy hS V.d V.one V.pos (fun sg' mt' L'=>L'=0/\I2 sg' mt'/\sg'.length=sg.length+2/\Bb sg mt sg' mt') ?_).mono ?_
 ·rintro-lf-hf hz sg' mt' L' ⟨x',y',ex,ey,-,-,hL,hs,hm⟩
  obtain rfl:x=x':=oZ;obtain rfl:y=y':=oZ;rw[hpk lf hf]at hz;have h62:sg.length+2<=64:=by split at hz<;>omega
  obtain⟨a,b,c,d⟩:=Fb V.d V.one h62 true V7 VJ hib hs hm;exact⟨hL,⟨a,b,oZ⟩,c,d⟩
 ·rintro e w' ⟨er,he,dv,mv,rfl,⟨⟨A1',A2',n1,k1,n2,k2,L,rfl⟩,a,b,c,d,o,rfl⟩,hb,h0⟩
  obtain⟨lf,-,hf,Yd⟩:=he Vn;rw[hpk lf hf]at Yd;refine⟨er,A1',A2',n1,k1,n2,k2,L,a,b,c,d,o,rfl,by split at Yd<;>omega,hb,fun hz=>?_⟩;obtain⟨v1,v2,sg',mt',L',hv,WU,hL,hV,hl,ht⟩:=h0 hz;injection hv with hv
  simp only[Array.mk.injEq,List.cons.injEq,UZ]at hv;obtain⟨rfl,rfl,h3⟩:=hv;injection h3 with _ h3
  subst h3;obtain⟨A,c9,e1,-,-,-⟩:=WU.os.shape;obtain⟨A',c9',e2,-,-,-⟩:=WU.om.shape;injection e1 with _ e1 _
  injection e2 with _ e2 _
  exact⟨sg',mt',hL,e1,e2,WU,hV,hl,ht⟩
theorem yW{w:World}{g:Nat}{a b c d:Int}{o:Bool}(h:w.heap[g]?=some (.cells #[.int .i64 a,.int .i64 b,.int .i64 c,.int .i64 d,.bool o] 26 (0,0))):
  w.cell? ⟨g,0,none⟩=some (.int .i64 a)/\w.cell? ⟨g,1,none⟩=some (.int .i64 b)/\w.cell? ⟨g,2,none⟩=some (.int .i64 c)/\w.cell? ⟨g,3,none⟩=some (.int .i64 d)/\w.cell? ⟨g,4,none⟩=some (.bool o):=by
 refine⟨?_,?_,?_,?_,?_⟩<;>(rw[Rt _ _ _ _ _ _ h];rfl)
structure I0(w wx:World)(A1 A2:Option Addr)(c1 c2:Nat)(sg mt:List Int)(v:Value)(ms:List (Int×Int)):Prop where
 k0:wx.cell? ⟨w.heap.size,0,none⟩=some (.slice A1 sg.length c1)
 k1:wx.cell? ⟨w.heap.size,1,none⟩=some (.slice A2 mt.length c2)
 k2:wx.cell? ⟨w.heap.size,2,none⟩=some (.int .i64 0)
 g0:wx.frozen? ⟨w.heap.size,0,none⟩=false
 g1:wx.frozen? ⟨w.heap.size,1,none⟩=false
 g2:wx.frozen? ⟨w.heap.size,2,none⟩=false
 fr:dz wx (w.heap.size+2) (.slice A1 sg.length c1) (.slice A2 mt.length c2) sg mt
 zb:fD wx (w.heap.size+1)
 mo:tQ wx (w.heap.size+2) v ms
 ap:∀g,v.ownBlock=some g->(Value.slice A1 sg.length c1).ownBlock≠some g/\(Value.slice A2 mt.length c2).ownBlock≠some g
 lt:w.heap.size+2<=wx.heap.size
 bl:Below w.heap.size w wx
section
variable{w wx w':World}{A1 A2 A1' A2':Option Addr}{c1 c2 c1' c2':Nat}{sg mt sg' mt':List Int}{v v':Value}{ms ms':List (Int×Int)}
theorem dz.reads{B:Nat}(h:dz w B (.slice A1 sg.length c1) (.slice A2 mt.length c2) sg mt):RI w (·<w.heap.size) A1 sg/\RI w (·<w.heap.size) A2 mt:=by
 obtain⟨A,c,e,-,-,hr⟩:=h.os.reads;obtain⟨A',c',e',-,-,Wi⟩:=h.om.reads;injection e with e _ _
 injection e' with e' _ _
 subst e e';exact⟨hr.imp fun b hb=>hb.2,Wi.imp fun b hb=>hb.2⟩
theorem dz.Ni{B:Nat}(h:dz w B (.slice A1 sg.length c1) (.slice A2 mt.length c2) sg mt):RI w (fun b=>B<=b/\b<w.heap.size) A1 sg/\RI w (fun b=>B<=b/\b<w.heap.size) A2 mt:=by
 obtain⟨A,c,e,-,-,hr⟩:=h.os.reads;obtain⟨A',c',e',-,-,Wi⟩:=h.om.reads;injection e with e _ _
 injection e' with e' _ _
 subst e e';exact⟨hr,Wi⟩
theorem C4{g:Nat}{A:Option Addr}{xs:List Int}{x y z:Value}(h:RI w (fun b=>g+1<=b/\b<w.heap.size) A xs):RI (((w.setCell ⟨g,0,none⟩ x).setCell ⟨g,1,none⟩ y).setCell ⟨g,2,none⟩ z) (·<(((w.setCell ⟨g,0,none⟩ x).setCell ⟨g,1,none⟩ y).setCell ⟨g,2,none⟩ z).heap.size) A xs:=
 (h.ak fun b hb=>((Rn _ _ _ b oJ).trans (Rn _ _ _ b oJ)).trans (Rn _ _ _ b oJ)).imp fun b hb=>by simpa using hb.2
theorem I0.call(h:I0 w wx A1 A2 c1 c2 sg mt v ms)(hb:Below wx.heap.size wx w'):I0 w w' A1 A2 c1 c2 sg mt v ms:=by
 have hl:=h.lt;have o:∀i,w'.cell? ⟨w.heap.size,i,none⟩=wx.cell? ⟨w.heap.size,i,none⟩:=fun i=>hb.cell (p:=⟨w.heap.size,i,none⟩) oJ
 have o2:∀i,w'.frozen? ⟨w.heap.size,i,none⟩=wx.frozen? ⟨w.heap.size,i,none⟩:=fun i=>hb.frozen (p:=⟨w.heap.size,i,none⟩) oJ
 exact⟨(o _).trans h.k0,(o _).trans h.k1,(o _).trans h.k2,(o2 _).trans h.g0,(o2 _).trans h.g1,(o2 _).trans h.g2,h.fr.below hb (Rf _),h.zb.below hb,h.mo.below hb (Rf _),h.ap,RQ hl hb.size,h.bl.trans (hb.mono oZ)⟩
theorem xi{w:World}{p:Addr}{u v:Value}(h:w.cell? p=some u):(w.setCell p v).cell? p=some v:=Ss (h:=h) ..
theorem jL{w:World}{p q:Addr}{v:Value}(h:p≠q):(w.setCell p v).cell? q=w.cell? q:=R4 (h:=h) ..
structure Kg(w wx:World)(v:Value)(ms:List (Int×Int)):Prop where
 k0:∃u,wx.cell? ⟨w.heap.size,0,none⟩=some u
 k1:∃u,wx.cell? ⟨w.heap.size,1,none⟩=some u
 k2:∃u,wx.cell? ⟨w.heap.size,2,none⟩=some u
 g0:wx.frozen? ⟨w.heap.size,0,none⟩=false
 g1:wx.frozen? ⟨w.heap.size,1,none⟩=false
 g2:wx.frozen? ⟨w.heap.size,2,none⟩=false
 zb:fD wx (w.heap.size+1)
 mo:tQ wx (w.heap.size+2) v ms
 lt:w.heap.size+2<=wx.heap.size
 bl:Below w.heap.size w wx
theorem I0.b(h:I0 w wx A1 A2 c1 c2 sg mt v ms):Kg w wx v ms:=⟨⟨_,h.k0⟩,⟨_,h.k1⟩,⟨_,h.k2⟩,h.g0,h.g1,h.g2,h.zb,h.mo,h.lt,h.bl⟩
theorem Kg.call(h:Kg w wx v ms)(hb:Below wx.heap.size wx w'):Kg w w' v ms:=by
 have hl:=h.lt;have o:∀i,w'.cell? ⟨w.heap.size,i,none⟩=wx.cell? ⟨w.heap.size,i,none⟩:=fun i=>hb.cell (p:=⟨w.heap.size,i,none⟩) oJ
 have o2:∀i,w'.frozen? ⟨w.heap.size,i,none⟩=wx.frozen? ⟨w.heap.size,i,none⟩:=fun i=>hb.frozen (p:=⟨w.heap.size,i,none⟩) oJ
 exact⟨by rw[o];exact h.k0,by rw[o];exact h.k1,by rw[o];exact h.k2,(o2 _).trans h.g0,(o2 _).trans h.g1,(o2 _).trans h.g2,h.zb.below hb,h.mo.below hb (Rf _),RQ hl hb.size,h.bl.trans (hb.mono oZ)⟩
theorem Kg.new(d:Array Value)(hd:d.size=3):Kg w ((w.alloc (.cells d 24)).alloc (.cells #[.slice none 0 0,.slice none 0 0,.int .i64 0] 24)) (.slice none 0 0) []:=by
 have h0:((w.alloc (.cells d 24)).alloc (.cells #[.slice none 0 0,.slice none 0 0,.int .i64 0] 24)).heap[w.heap.size]?=some (.cells d 24 (0,0)):=(Rx _ _ _ oX).trans (Ru w _);have h1:=Ru (w.alloc (.cells d 24)) (.cells #[.slice none 0 0,.slice none 0 0,.int .i64 0] 24);rw[show(w.alloc (.cells d 24)).heap.size=w.heap.size+1 by simp]at h1;have o:∀i,i<3->∃u,((w.alloc (.cells d 24)).alloc (.cells #[.slice none 0 0,.slice none 0 0,.int .i64 0] 24)).cell? ⟨w.heap.size,i,none⟩=some u:=fun i hi=>by rw[Rt _ _ _ _ _ _ h0];exact⟨_,R8 oZ⟩
 exact⟨o 0 oQ,o 1 oQ,o 2 oQ,RD _ _ _ _ _ h0,RD _ _ _ _ _ h0,RD _ _ _ _ _ h0,fD.new h1 oX,tQ.nil _ _,oX,((Rh _ _).alloc (Rf _) _).alloc oX _⟩
theorem Kg.put(h:Kg w wx v ms)(hf:dz wx (w.heap.size+2) (.slice A1' sg'.length c1') (.slice A2' mt'.length c2') sg' mt')(hap:∀g,v.ownBlock=some g->(Value.slice A1' sg'.length c1').ownBlock≠some g/\(Value.slice A2' mt'.length c2').ownBlock≠some g):
  I0 w (((wx.setCell ⟨w.heap.size,0,none⟩ (.slice A1' sg'.length c1')).setCell ⟨w.heap.size,1,none⟩ (.slice A2' mt'.length c2')).setCell ⟨w.heap.size,2,none⟩ (.int .i64 0)) A1' A2' c1' c2' sg' mt' v ms:=by
 have hl:=h.lt;have hk:∀b,b≠w.heap.size->(((wx.setCell ⟨w.heap.size,0,none⟩ (.slice A1' sg'.length c1')).setCell ⟨w.heap.size,1,none⟩ (.slice A2' mt'.length c2')).setCell ⟨w.heap.size,2,none⟩ (.int .i64 0)).heap[b]?=wx.heap[b]?:=fun b hb=>
  ((Rn _ _ _ b hb).trans (Rn _ _ _ b hb)).trans (Rn _ _ _ b hb)
 have hb:Below w.heap.size w (((wx.setCell ⟨w.heap.size,0,none⟩ (.slice A1' sg'.length c1')).setCell ⟨w.heap.size,1,none⟩ (.slice A2' mt'.length c2')).setCell ⟨w.heap.size,2,none⟩ (.int .i64 0)):=by (iterate 3 refine RM ?_ oJ _);exact h.bl
 refine⟨?_,?_,?_,?_,?_,?_,⟨hf.os.ak fun g hg=>hk g (by have:=(hf.os.lt g hg).1;omega),hf.om.ak fun g hg=>hk g (by have:=(hf.om.lt g hg).1;omega),hf.ne⟩,h.zb.ak (hk _ oZ) oX,h.mo.ak fun g hg=>hk g (by have:=(h.mo.lt g hg).1;omega),hap,by simpa using hl,hb⟩;{rw[jL oX,jL oX,xi h.k0.choose_spec]};{rw[jL oX,xi ((jL oX).trans h.k1.choose_spec)]};{rw[xi ((jL oX).trans ((jL oX).trans h.k2.choose_spec))]};{simpa using h.g0};{simpa using h.g1};{simpa using h.g2}
theorem I0.push{y z:Int}(h:I0 w wx A1 A2 c1 c2 sg mt v ms)(ho:tQ w' (w.heap.size+2) v' ms')(hg:(wx.alloc (.cells #[.int .i64 3,.int .i64 y,.int .i64 z,.int .i64 0,.bool true] 26)).grownBy w' v.ownBlock)(Vu:v'.ownBlock=v.ownBlock\/v'.ownBlock=some (wx.heap.size+1)):I0 w w' A1 A2 c1 c2 sg mt v' ms':=by
 have hl:=h.lt;have hb:Below (w.heap.size+2) wx w':=h.mo.eL (Rh _ _) hl _ hg;have hk:∀b,b<wx.heap.size->v.ownBlock≠some b->w'.heap[b]?=wx.heap[b]?:=fun b h1 h2=>(hg.block b qj (fun e=>h2 e.symm)).trans (Rx _ _ b h1)
 have o:∀i,w'.cell? ⟨w.heap.size,i,none⟩=wx.cell? ⟨w.heap.size,i,none⟩:=fun i=>hb.cell (p:=⟨w.heap.size,i,none⟩) oJ
 have o2:∀i,w'.frozen? ⟨w.heap.size,i,none⟩=wx.frozen? ⟨w.heap.size,i,none⟩:=fun i=>hb.frozen (p:=⟨w.heap.size,i,none⟩) oJ
 exact⟨(o _).trans h.k0,(o _).trans h.k1,(o _).trans h.k2,(o2 _).trans h.g0,(o2 _).trans h.g1,(o2 _).trans h.g2,⟨h.fr.os.ak fun g hg=>hk g (h.fr.os.lt g hg).2 (fun e=>(h.ap g e).1 hg),h.fr.om.ak fun g hg=>hk g (h.fr.om.lt g hg).2 (fun e=>(h.ap g e).2 hg),h.fr.ne⟩,h.zb.ak (hb.block _ oZ) hb.size,ho,fun g hg=>by
  rcases Vu with e|e
  {exact h.ap g (by rw[<-e];exact hg)}
  ·rw[e]at hg
   injection hg with hg
   subst hg;exact⟨fun e1=>by have:=(h.fr.os.lt _ e1).2;omega,fun e1=>by have:=(h.fr.om.lt _ e1).2;omega⟩,RQ hl hb.size,h.bl.trans (hb.mono oZ)⟩
end
def iw(gone:List Int):Nat->Nat
 |0=>0
 |k+1=>iw gone k+if((k:Nat):Int)∈gone then 0 else 1
theorem Ep(gone:List Int){a b:Nat}(h:a<=b):iw gone a<=iw gone b:=by
 induction b with
 |zero=>obtain rfl:a=0:=oZ;exact Rf _
 |succ b ih=>by_cases e:a=b+1;{rw[e];exact Rf _};{have:=ih oZ;show _<=iw gone b+_;omega}
theorem CB(gone:List Int){a b:Nat}(h:a<b)(ha:((a:Nat):Int)∉gone):iw gone a<iw gone b:=by
 have h1:=Ep gone (a:=a+1) (b:=b) oZ;have h2:iw gone (a+1)=iw gone a+1:=by show iw gone a+_=_;rw[Rc ha]
 omega
theorem gU(gone sg:List Int):∀k,(dV gone sg k).length=iw gone k
 |0=>rfl
 |k+1=>by show(dV gone sg k++_).length=iw gone k+_;rw[Rz,gU gone sg k];split<;>rfl
theorem lr(gone mt:List Int):∀k,(dT gone mt k).length=4*iw gone k
 |0=>rfl
 |k+1=>by show(dT gone mt k++_).length=4*(iw gone k+_);rw[Rz,lr gone mt k];split;{simp};{rw[xJ];omega}
theorem wN{gone sg:List Int}{c:Nat}(hc:((c:Nat):Int)∉gone):∀n,c<n->gi (dV gone sg n) (iw gone c)=gi sg c
 |0,h=>absurd h (RG _)
 |n+1,h=>by show gi (dV gone sg n++_) _=_;by_cases e:c=n;{subst e;rw[Rc hc];have:=gF (xs:=dV gone sg c) (ys:=[gi sg c]) 0;rw[gU]at this;exact this};{rw[cX (by rw[gU];exact CB gone oZ hc)];exact wN hc n oZ}
theorem NA{gone mt:List Int}{c j i:Nat}(hi:i<j):gi (zH gone mt c j) i=((AG gone (gn mt (4*c+i)):Nat):Int):=by unfold zH;rw[fP (by simpa using hi)];simp
theorem Dl{gone mt:List Int}{c:Nat}(hc:((c:Nat):Int)∉gone){i:Nat}(hi:i<4):∀n,c<n->gi (dT gone mt n) (4*iw gone c+i)=((AG gone (gn mt (4*c+i)):Nat):Int)
 |0,h=>absurd h (RG _)
 |n+1,h=>by show gi (dT gone mt n++_) _=_;by_cases e:c=n;{subst e;rw[Rc hc];have:=gF (xs:=dT gone mt c) (ys:=zH gone mt c 4) i;rw[lr]at this;rw[this,NA hi]};{rw[cX (by rw[lr];have:=CB gone (show c<n by omega) hc;omega)];exact Dl hc hi n oZ}
theorem Dg{gone mt:List Int}{c n i:Nat}(hc:((c:Nat):Int)∉gone)(hi:i<4)(hn:c<n):gn (dT gone mt n) (4*iw gone c+i)=AG gone (gn mt (4*c+i)):=by unfold gn;rw[Dl hc hi n hn];rfl
theorem sT{g:Nat}:∀k,iw [(g:Int)] k=if g<k then k-1 else k
 |0=>by rw[Rc oZ];rfl
 |k+1=>by show iw [(g:Int)] k+_=_;rw[sT k];by_cases e:k=g;{subst e;rw[Rc oZ,Re oX,Re oZ];omega};{rw[Rc (show¬(k:Int)∈[(g:Int)] by simp;omega)];by_cases h:g<k;{rw[Re h,Re oZ];omega};{rw[Rc h,Rc oZ]}}
theorem J4(g h:Nat):AG [(g:Int)] h=nA g h:=by unfold AG nA;by_cases e:g<h/4;{rw[Sw qj,Re e];rfl};{rw[Sx qj,Rc e];rfl}
theorem Ht{sg mt:List Int}{L:Int}(hd:cJ sg mt L){o:Nat}(ho:o<mt.length)(oo:ai sg o=true)(hk:gn mt o/4=o/4):
  ∃o':Nat,o'/4=o/4/\gn mt o'=ae o' 1/\gi sg (o/4)=eta o'/\((ae o' 2=ae o 2/\ae o' 3=ae (gn mt o) 2)\/(ae o' 3=ae o 2/\ae o' 2=ae (gn mt o) 2)):=by
 obtain⟨K,hK⟩:=xQ hd;have h2:mt.length=4*sg.length:=hd.2.1;obtain⟨-,g1,g2,g3⟩:=hd.2.2.2.2.2.1.gn ho;have hout:=hd.2.2.2.2.2.2.1 o ho;rw[oo]at hout;have Vn:ai sg (gn mt o)=false:=by revert hout;cases ai sg (gn mt o)<;>simp
 obtain⟨c1,-,-⟩:=fJ hd hK ho;have a1:=hK.alt o (Rm.2 oZ);have a2:=hK.alt (ae o 1) (by rw[af];exact Rm.2 oZ);rw[ar,a1]at a2;have hs:gi sg (o/4)=1\/gi sg (o/4)= -1:=hd.2.2.2.2.1 _ oZ;have ne2:gn mt o≠ae o 2:=by intro e;rw[e,show ae o 2=ae o (1+1)from rfl,a2]at c1;revert c1;cases K o<;>simp
 have four:gn mt o=ae o 1\/gn mt o=ae o 3:=by
  rcases aw (o:=o) (h:=gn mt o) hk with e|e|e|e
  {exact absurd e g2};{exact .inl e};{exact absurd e ne2};{exact .inr e}
 have e31:ae (ae o 3) 1=o:=by rw[ar,bC]
 have e32:ae (ae o 3) 2=ae o 1:=by rw[ar,show 3+2=1+4 from rfl,bF]
 have e33:ae (ae o 3) 3=ae o 2:=by rw[ar,show 3+3=2+4 from rfl,bF]
 have jS:ai sg o=true->ai sg (ae o 1)=false->gi sg (o/4)=eta o:=by intro x y;unfold ai at x y;rw[af,fF]at y;have:o%4=0\/o%4=1\/o%4=2\/o%4=3:=oZ;unfold eta;rcases this with m|m|m|m<;>rcases hs with s|s<;>rw[m,s]at x y<;>simp at x y<;>rw[s]<;>first|rw[Re oZ]|rw[Rc oZ]
 have sg3:ai sg o=true->ai sg (ae o 3)=false->gi sg (o/4)=eta (ae o 3):=by intro x y;unfold ai at x y;rw[af,fF]at y;have:o%4=0\/o%4=1\/o%4=2\/o%4=3:=oZ;have hp:=bQ o 3;unfold eta;rcases this with m|m|m|m<;>rcases hs with s|s<;>rw[m,s]at x y<;>simp at x y<;>rw[s]<;>first|rw[Re oZ]|rw[Rc oZ]
 rcases four with e|e
 {refine⟨o,rfl,e,jS oo (by rw[<-e];exact Vn),.inl ⟨rfl,?_⟩⟩;rw[e,ar]};{refine⟨ae o 3,af _ _,?_,sg3 oo (by rw[<-e];exact Vn),.inr ⟨e33,?_⟩⟩;{rw[<-e,g3,e,e31]};{rw[e]}}
theorem MO{sg mt:List Int}(hd:cJ sg mt 0){c o:Nat}(hc:c<sg.length)(hk:ja sg mt c=some o)(hL:nE mt (ae o 2) (ae (gn mt o) 2)=0):
  ∃o',M5 sg (dV [(c:Int)] sg sg.length) mt (dT [(c:Int)] (ic mt (ae o 2) (ae (gn mt o) 2)) sg.length) o':=by
 obtain⟨k1,k2,k3⟩:=rS hk;have h2:mt.length=4*sg.length:=hd.2.1;have hI:=hd.2.2.2.2.2.1;have ho:o<mt.length:=oZ;obtain⟨o',q1,q2,q3,q4⟩:=Ht hd ho k2 (by rw[k3,k1]);have Ze:o'<mt.length:=oZ;have t2:ae o 2<mt.length:=by have:=af o 2;omega
 have t3:ae (gn mt o) 2<mt.length:=by have:=af (gn mt o) 2;omega
 obtain⟨a0,a1,a2,a3⟩:=hI.gn t2;obtain⟨b0,b1,b2,b3⟩:=hI.gn t3;have Vh:gn mt (ae o 2)≠ae (gn mt o) 2:=by intro e;unfold nE at hL;rw[Re (by rw[a0,e])]at hL;omega
 have Vo:ic mt (ae o 2) (ae (gn mt o) 2)=bH mt (gn mt (ae o 2)) (gn mt (ae (gn mt o) 2)):=by unfold ic;rw[Rc (by rw[a0];omega)]
 have hab:ae o 2≠ae (gn mt o) 2:=by
  rcases q4 with⟨x,y⟩|⟨x,y⟩
  {rw[<-x,<-y];exact aB oQ oQ oQ};{rw[<-x,<-y];exact aB oQ oQ oQ}
 have hng:∀k:Nat,k≠c->((k:Nat):Int)∉[(c:Int)]:=fun k hkc=>by simp;omega
 have Xg:∀k:Nat,iw [(c:Int)] k=sQ c k:=fun k=>by rw[sT];rfl
 refine⟨o',Ze,?_,q2,?_,?_,?_,?_⟩;{rw[gU,sT,Re hc];omega}
 ·rcases q4 with⟨x,y⟩|⟨x,y⟩
  {rw[x,y];exact Vh};{rw[x,y];intro e;exact Vh (by rw[<-e,b3])}
 ·intro h hh hhc
  rw[q1,k1]at hhc⊢;have e1:nA c h=4*iw [(c:Int)] (h/4)+h%4:=by rw[Xg];unfold nA sQ;split<;>omega
  rw[e1,Dg (hng _ hhc) oZ oZ,J4,show 4*(h/4)+h%4=h by omega,Vo,bO a1 b1];congr 1;unfold fe;have huv:gn mt (ae o 2)≠gn mt (ae (gn mt o) 2):=fun e=>hab (dZ hI t2 t3 e)
  rcases q4 with⟨x,y⟩|⟨x,y⟩
  {rw[x,y];by_cases u:h=gn mt (ae o 2);{rw[Rc (by rw[u];exact huv),Re u,Re u]};{rw[Rc u,Rc u]}};{rw[x,y]}
 {intro k hk hkc;rw[q1,k1]at hkc⊢;rw[<-Xg];exact wN (hng _ hkc) _ hk};{rw[q1];exact q3}
def mF(g k h:Nat):Nat:=nA g (nA k h)
def uU(g k h:Nat):Nat:=AI k (AI g h)
def zX(g k c:Nat):Nat:=sQ g (sQ k c)
theorem E5{g k h:Nat}(Wv:g<k)(_:h/4≠g)(_:h/4≠k):mF g k h=if k<h/4 then h-8 else if g<h/4 then h-4 else h:=by unfold mF nA;by_cases e:k<h/4;{rw[Re e,Re e,Re oZ];omega};{rw[Rc e,Rc e]}
theorem lC{g k c:Nat}(Wv:g<k)(_:c≠g)(_:c≠k):zX g k c=if k<c then c-2 else if g<c then c-1 else c:=by unfold zX sQ;by_cases e:k<c;{rw[Re e,Re e,Re oZ];omega};{rw[Rc e,Rc e]}
theorem rB{g k h:Nat}:mF g k h/4=zX g k (h/4):=by unfold mF zX;rw[rC,rC]
theorem iK(g k h i:Nat):mF g k (ae h i)=ae (mF g k h) i:=by unfold mF;rw[lR,lR]
theorem CP{g k h:Nat}(Wv:g<k)(h1:h/4≠g)(h2:h/4≠k):uU g k (mF g k h)=h:=by unfold uU mF;rw[ji (by rw[rC];unfold sQ;split<;>omega),ji h2]
theorem CD{g k c d:Nat}(Wv:g<k)(hc:c≠g)(XX:c≠k)(hd:d≠g)(Xe:d≠k)(e:zX g k c=zX g k d):c=d:=by rw[lC Wv hc XX,lC Wv hd Xe]at e;split at e<;>split at e<;>(try split at e)<;>(try split at e)<;>omega
theorem JR(g k h:Nat):mF g k h%2=h%2:=by unfold mF;rw[xY,xY]
abbrev aY(n g k:Nat):List Nat:=(List.range n).filter fun c=>decide (c≠g)&&decide (c≠k)
theorem dD{n g k c:Nat}:c∈aY n g k↔c<n/\c≠g/\c≠k:=by rw[R3,Rm];simp
theorem tU{n g k:Nat}(Wv:g<k)(hk:k<n):((aY n g k).map (zX g k)).Perm (List.range (n-2)):=by
 have Yz:((aY n g k).map (zX g k)).Nodup:=by
  rw[List.Nodup,Tq];refine((SD (n:=n)).filter _).imp_of_mem fun{a b} ha hb hab e=>?_
  have a1:=dD.1 ha;have b1:=dD.1 hb;exact hab (CD Wv a1.2.1 a1.2.2 b1.2.1 b1.2.2 e)
 refine(SJ Yz SD).2 fun y=>?_
 rw[So,Rm];constructor;{rintro⟨c,hc,rfl⟩;have:=dD.1 hc;rw[lC Wv this.2.1 this.2.2];split;{omega};{split<;>omega}};{intro hy;by_cases e1:y<g;{exact⟨y,dD.2 oZ,by rw[lC Wv oZ oZ,Rc oZ,Rc oZ]⟩};{by_cases e2:y+1<k;{exact⟨y+1,dD.2 oZ,by rw[lC Wv oZ oZ,Rc oZ,Re oZ];omega⟩};{exact⟨y+2,dD.2 oZ,by rw[lC Wv oZ oZ,Re oZ];omega⟩}}}
theorem Ih{n g k:Nat}(Wv:g<k)(hk:k<n){K:Nat->Bool}{m m':Nat->Nat}{s s':Nat->Int}(halt:∀h,h/4∈aY n g k->K (ae h 1)= !K h)(Y2:∀h,h/4∈aY n g k->K (ae (m h) 3)=K h)
  (hm:∀h,h/4∈aY n g k->m' (mF g k h)=mF g k (m h)/\m h/4∈aY n g k)(hs:∀c∈aY n g k,s' (zX g k c)=s c):
  DT (List.range (n-2)) (fun z=>K (uU g k z)) m'/\∀t,fH (aY n g k) K m s t->fH (List.range (n-2)) (fun z=>K (uU g k z)) m' s' t:=by
 have un:∀h,h/4∈aY n g k->uU g k (mF g k h)=h:=fun h hh=>by have:=dD.1 hh;exact CP Wv this.2.1 this.2.2
 have H:yR (aY n g k) K (fun z=>K (uU g k z)) m m' (zX g k) (mF g k) 1:=by refine⟨fun c hc d hd e=>?_,fun h _=>rB,fun h i _=>iK g k h i,fun h hh=>(hm h hh).1,fun h hh=>(hm h hh).2,fun h hh=>?_,fun h _=>?_,halt⟩;{have a1:=dD.1 hc;have b1:=dD.1 hd;exact CD Wv a1.2.1 a1.2.2 b1.2.1 b1.2.2 e};{show K (uU g k (mF g k h))=K h;rw[un h hh]};{unfold eta;rw[JR];omega}
 have hp:=tU Wv hk;refine⟨⟨fun z hz=>?_,fun z hz=>?_⟩,fun t ht=>?_⟩;{obtain⟨h,hh,rfl⟩:=H.oS (z:=z) (hp.mem_iff.2 hz);show K (uU g k (ae (mF g k h) 1))= !K (uU g k (mF g k h));rw[<-iK,un _ (by rw[af];exact hh),un h hh];exact halt h hh};{obtain⟨h,hh,rfl⟩:=H.oS (z:=z) (hp.mem_iff.2 hz);obtain⟨e1,e2⟩:=hm h hh;show K (uU g k (ae (m' (mF g k h)) 3))=K (uU g k (mF g k h));rw[e1,<-iK,un _ (by rw[af];exact e2),un h hh];exact Y2 h hh}
 ·have:=H.sg (s:=s) (s':=s') (.inl rfl) (fun c hc=>by
   unfold cT;rw[hs c hc,SH];have h4:4*c/4∈aY n g k:=by rw[show 4*c/4=c by omega];exact hc
   have e:K (uU g k (4*zX g k c))=K (4*c):=by
    have hr:=dD.1 hc;have:4*zX g k c=mF g k (4*c):=by rw[E5 Wv oZ oZ,lC Wv hr.2.1 hr.2.2,show 4*c/4=c by omega];split;{omega};{split<;>omega}
    rw[this,un _ h4]
   show(if s c=1 then(if K (uU g k (4*zX g k c))=true then 1 else 0)else if K (uU g k (4*zX g k c))=true then 0 else-1)=_;rw[e]) ht
  rw[SH]at this;exact this.perm hp
def uF(mt:List Int)(p q:Nat):Nat->Nat:=fe (gn mt) (gn mt (ae p 2)) (gn mt q)
def mG(mt:List Int)(p q:Nat):Nat->Nat:=fe (uF mt p q) (uF mt p q (ae p 3)) (uF mt p q (ae q 3))
structure uh(sg sg' mt mt':List Int)(L':Int)(p q:Nat):Prop where
 hp:p<mt.length
 hq:q<mt.length
 hPQ:p/4≠q/4
 par:p%2=q%2
 nn:gn mt (ae p 1)=ae q 1
 ew:gn mt p=ae q 2
 ne1:gn mt (ae p 2)≠q
 ne2:uF mt p q (ae p 3)≠ae q 3
 ls:sg'.length+2=sg.length
 tab:∀h,h<mt.length->h/4≠p/4->h/4≠q/4->gn mt' (mF (min (p/4) (q/4)) (max (p/4) (q/4)) h)=mF (min (p/4) (q/4)) (max (p/4) (q/4)) (mG mt p q h)
 so:∀c,c<sg.length->c≠p/4->c≠q/4->gi sg' (zX (min (p/4) (q/4)) (max (p/4) (q/4)) c)=gi sg c
 y:cJ sg' mt' L'
 one:av mt' sg'.length sg'.length=1
theorem DF{sg mt:List Int}{L:Int}(hd:cJ sg mt L){p q:Nat}(hp:p<mt.length)(hq:q<mt.length)(par:p%2=q%2)(nn:gn mt (ae p 1)=ae q 1)(ew:gn mt p=ae q 2):(gi sg (p/4)=1/\gi sg (q/4)= -1)\/(gi sg (p/4)= -1/\gi sg (q/4)=1):=by have hn:=hd.2.1;have hs:=hd.2.2.2.2.1;have sp:=hs (p/4) oZ;have sq:=hs (q/4) oZ;have d1:=af p 1;have e1:=af q 1;have e2:=af q 2;have o1:=hd.2.2.2.2.2.2.1 p hp;have o2:=hd.2.2.2.2.2.2.1 (ae p 1) oZ;rw[ew]at o1;rw[nn]at o2;unfold ai at o1 o2;rw[e2,fF]at o1;rw[d1,e1,fF,fF]at o2;have hp4:p%4=0\/p%4=1\/p%4=2\/p%4=3:=oZ;have hq4:q%4=0\/q%4=1\/q%4=2\/q%4=3:=oZ;rcases hp4 with c1|c1|c1|c1<;>rcases hq4 with c2|c2|c2|c2<;>(first|(exfalso;omega)|skip)<;>rw[c1,c2]at o1 o2<;>rcases sp with s1|s1<;>rcases sq with s2|s2<;>rw[s1,s2]at o1 o2⊢<;>simp at o1 o2⊢
section
variable{sg sg' mt mt':List Int}{p q:Nat}{L L':Int}(hd:cJ sg mt L)(h:uh sg sg' mt mt' L' p q)
include hd h
theorem uh.facts:gn mt (ae q 1)=ae p 1/\gn mt (ae q 2)=p/\p/4<sg.length/\q/4<sg.length:=by have hI:=hd.2.2.2.2.2.1;have hn:=hd.2.1;have hp:=h.hp;have hq:=h.hq;have a:=(hI.gn hp).2.2.2;have b:=(hI.gn (show ae p 1<mt.length by have:=af p 1;omega)).2.2.2;rw[h.ew]at a;rw[h.nn]at b;exact⟨b,a,oZ,oZ⟩
end
section
variable{sg sg' mt mt':List Int}{p q:Nat}{L L':Int}(hd:cJ sg mt L)(h:uh sg sg' mt mt' L' p q)
include hd h
theorem uh.gk:min (p/4) (q/4)<max (p/4) (q/4)/\max (p/4) (q/4)<sg.length:=by obtain⟨-,-,f3,f4⟩:=h.facts hd;have:=h.hPQ;omega
omit hd in
theorem uh.mem{c:Nat}:c∈aY sg.length (min (p/4) (q/4)) (max (p/4) (q/4))↔c<sg.length/\c≠p/4/\c≠q/4:=by rw[dD];have:=h.hPQ;omega
theorem uh.perm:(List.range sg.length).Perm (p/4::q/4::aY sg.length (min (p/4) (q/4)) (max (p/4) (q/4))):=by
 obtain⟨-,-,f3,f4⟩:=h.facts hd;have hPQ:=h.hPQ;refine(SJ SD (SC.2 ⟨fun hh=>?_,SC.2 ⟨fun hh=>?_,SD.filter _⟩⟩)).2 fun c=>?_
 ·rcases RV.1 hh with e|e
  {exact hPQ e};{exact(h.mem.1 e).2.1 rfl}
 {exact(h.mem.1 hh).2.2 rfl};{rw[Rm,RV,RV,h.mem];omega}
theorem uh.NL{K:Nat->Bool}(hK:cA sg mt K):uu (aY sg.length (min (p/4) (q/4)) (max (p/4) (q/4))) K (gn mt) (mG mt p q) (gi sg) p q:=by obtain⟨f1,f2,f3,f4⟩:=h.facts hd;have hn:=hd.2.1;have VM:=h.perm hd;refine⟨fun hh=>(h.mem.1 hh).2.1 rfl,fun hh=>(h.mem.1 hh).2.2 rfl,h.hPQ,⟨fun z hz=>hK.alt z (VM.mem_iff.2 hz),fun z hz=>hK.cF z (VM.mem_iff.2 hz)⟩,h.par,h.nn,f1,h.ew,f2,fun z hz z' XZ e=>?_,DF hd h.hp h.hq h.par h.nn h.ew⟩;have a:=Rm.1 (VM.mem_iff.2 hz);have b:=Rm.1 (VM.mem_iff.2 XZ);exact dZ hd.2.2.2.2.2.1 oZ oZ e
theorem uh.out{e:Nat}(he:e<mt.length)(WB:e≠p)(he1:e≠ae p 1)(WG:e≠ae q 1)(YB:e≠ae q 2)(n1:gn mt e≠ae p 2)(n2:gn mt e≠ae p 3)(n3:gn mt e≠q)(n4:gn mt e≠ae q 3):gn mt e/4∈aY sg.length (min (p/4) (q/4)) (max (p/4) (q/4)):=by
 have hI:=hd.2.2.2.2.2.1;have hn:=hd.2.1;have hg:=hI.gn he;obtain⟨f1,f2,f3,f4⟩:=h.facts hd;refine h.mem.2 ⟨by have:=hg.2.1;omega,fun e1=>?_,fun e1=>?_⟩
 ·rcases aw e1 with e2|e2|e2|e2
  {rw[e2,h.ew]at hg;exact YB hg.2.2.2.symm};{rw[e2,h.nn]at hg;exact WG hg.2.2.2.symm};{exact n1 e2};{exact n2 e2}
 ·rcases aw e1 with e2|e2|e2|e2
  {exact n3 e2};{rw[e2,f1]at hg;exact he1 hg.2.2.2.symm};{rw[e2,f2]at hg;exact WB hg.2.2.2.symm};{exact n4 e2}
theorem uh.cF{K:Nat->Bool}(hK:cA sg mt K){u v w z:Nat}(hu:gn mt (ae p 2)=u)(hv:gn mt q=v)(hw:gn mt (ae p 3)=w)(hz:gn mt (ae q 3)=z)
  (cu:u/4∈aY sg.length (min (p/4) (q/4)) (max (p/4) (q/4)))(cv:v/4∈aY sg.length (min (p/4) (q/4)) (max (p/4) (q/4)))(cw:w/4∈aY sg.length (min (p/4) (q/4)) (max (p/4) (q/4)))(cz:z/4∈aY sg.length (min (p/4) (q/4)) (max (p/4) (q/4)))
  (mu:mG mt p q u=v)(mv:mG mt p q v=u)(mw:mG mt p q w=z)(mz:mG mt p q z=w)(mo:∀e,e/4∈aY sg.length (min (p/4) (q/4)) (max (p/4) (q/4))->e≠u->e≠v->e≠w->e≠z->mG mt p q e=gn mt e/\gn mt e/4∈aY sg.length (min (p/4) (q/4)) (max (p/4) (q/4)))
  (hk:K p=true){x:bB}(hx:PG (aY sg.length (min (p/4) (q/4)) (max (p/4) (q/4))) K (mG mt p q) x):x v=x w:=by
 have hI:=hd.2.2.2.2.2.1;have hn:=hd.2.1;have hF:=dE hd;obtain⟨f1,f2,f3,f4⟩:=h.facts hd;obtain⟨Wv,Zl⟩:=h.gk hd;obtain⟨k1,k2,k3,k4,k5,k6,k7⟩:=(h.NL hd hK).pL;have hp:=h.hp;have hq:=h.hq;have dp1:=af p 1;have dp2:=af p 2;have dp3:=af p 3;have dq1:=af q 1;have dq2:=af q 2;have dq3:=af q 3;have gu:=hI.gn (show ae p 2<mt.length by omega);have gv:=hI.gn hq;have gw:=hI.gn (show ae p 3<mt.length by omega);have gz:=hI.gn (show ae q 3<mt.length by omega);rw[hu]at gu;rw[hv]at gv;rw[hw]at gw;rw[hz]at gz;have mem:=fun{c:Nat}=>h.mem (c:=c)
 have cu':=mem.1 cu;have cv':=mem.1 cv;have cw':=mem.1 cw;have cz':=mem.1 cz;have Fu:au mt u=ae p 1:=by unfold au;rw[gu.2.2.2];exact(tt _).2.1
 have Fv:au mt v=ae q 3:=by unfold au;rw[gv.2.2.2]
 have Fw:au mt w=ae p 2:=by unfold au;rw[gw.2.2.2];exact(tt _).2.2.1
 have Fz:au mt z=ae q 2:=by unfold au;rw[gz.2.2.2];exact(tt _).2.2.1
 have Fpn:au mt (ae p 1)=q:=by unfold au;rw[h.nn];exact(tt _).1
 have Fqw:au mt (ae q 2)=ae p 3:=by unfold au;rw[f2]
 have Fp:au mt p=ae q 1:=by unfold au;rw[h.ew];exact(tt _).2.1
 have Fqn:au mt (ae q 1)=p:=by unfold au;rw[f1];exact(tt _).1
 have XE:∀a,a<mt.length->au mt a∈bJ (au mt) mt.length a:=fun a ha=>bU hF ha (bE hF ha)
 have big:∀a,a∈bJ (au mt) mt.length p->a=p\/a=ae q 1:=fun a ha=>by
  obtain⟨k,rfl⟩:=(aG hF hp).1 ha;clear ha
  induction k with
  |zero=>exact .inl rfl
  |succ k ih=>
   rcases ih with e|e
   {right;show au mt (it (au mt) k p)=_;rw[e,Fp]};{left;show au mt (it (au mt) k p)=_;rw[e,Fqn]}
 have step1:ae q 3∉bJ (au mt) mt.length (ae p 2):=fun hqs=>by
  have hpw:ae p 2<mt.length:=oZ;have YJ:=h.y.2.1;have hls:=h.ls;have hF':=aU h.y.2.2.2.2.2.1 YJ;have hpr:=tU Wv Zl;have Yy:∀a b,a<mt.length->b∈bJ (au mt) mt.length a->fu (au mt) mt.length b=fu (au mt) mt.length a:=fun a b ha hb=>iE hF ha hb
  have key:∀e,e/4∈aY sg.length (min (p/4) (q/4)) (max (p/4) (q/4))->fu (au mt) mt.length (ae (mG mt p q e) 3)=fu (au mt) mt.length e:=fun e he=>by
   have Xi:e<mt.length:=by have:=(mem.1 he).1;omega
   by_cases e1:e=u
   ·subst e1
    rw[mu];have WG:ae p 1<mt.length:=oZ;have a1:=Yy e _ Xi (XE e Xi);rw[Fu]at a1;have a2:=Yy _ _ WG (XE _ WG);rw[Fpn]at a2;have a3:=Yy _ _ hq (XE _ hq);have a4:au mt q=ae v 3:=by unfold au;rw[hv]
    rw[a4]at a3;omega
   ·by_cases e2:e=v
    ·subst e2
     rw[mv];have a1:=Yy e _ Xi (XE e Xi);rw[Fv]at a1;have a2:=Yy _ _ hpw hqs;have a3:=Yy _ _ hpw (XE _ hpw);have a4:au mt (ae p 2)=ae u 3:=by unfold au;rw[hu]
     rw[a4]at a3;omega
    ·by_cases e3:e=w
     ·subst e3
      rw[mw];have a1:=Yy e _ Xi (XE e Xi);rw[Fw]at a1;have a2:=Yy _ _ hpw hqs;have hq3:ae q 3<mt.length:=oZ;have a3:=Yy _ _ hq3 (XE _ hq3);have a4:au mt (ae q 3)=ae z 3:=by unfold au;rw[hz]
      rw[a4]at a3;omega
     ·by_cases e4:e=z
      ·subst e4
       rw[mz];have YB:ae q 2<mt.length:=oZ;have hp3:ae p 3<mt.length:=oZ;have a1:=Yy e _ Xi (XE e Xi);rw[Fz]at a1;have a2:=Yy _ _ YB (XE _ YB);rw[Fqw]at a2;have a3:=Yy _ _ hp3 (XE _ hp3);have a4:au mt (ae p 3)=ae w 3:=by unfold au;rw[hw]
       rw[a4]at a3;omega
      {rw[(mo e he e1 e2 e3 e4).1];exact Yy e _ Xi (XE e Xi)}
  have un:∀e,e/4∈aY sg.length (min (p/4) (q/4)) (max (p/4) (q/4))->uU (min (p/4) (q/4)) (max (p/4) (q/4)) (mF (min (p/4) (q/4)) (max (p/4) (q/4)) e)=e:=fun e he=>by have:=dD.1 he;exact CP Wv this.2.1 this.2.2
  have oS:∀y,y<mt'.length->∃e,e/4∈aY sg.length (min (p/4) (q/4)) (max (p/4) (q/4))/\mF (min (p/4) (q/4)) (max (p/4) (q/4)) e=y:=fun y hy=>by
   have YF:y/4∈(aY sg.length (min (p/4) (q/4)) (max (p/4) (q/4))).map (zX (min (p/4) (q/4)) (max (p/4) (q/4))):=hpr.mem_iff.2 (Rm.2 oZ);obtain⟨c,hc,e⟩:=So.1 YF;have h0:4*c/4∈aY sg.length (min (p/4) (q/4)) (max (p/4) (q/4)):=by rw[show 4*c/4=c by omega];exact hc
   have e4:y/4=mF (min (p/4) (q/4)) (max (p/4) (q/4)) (4*c)/4:=by rw[rB,show 4*c/4=c by omega,e]
   rcases aw e4 with e1|e1|e1|e1
   {exact⟨_,h0,e1.symm⟩};{exact⟨ae (4*c) 1,by rw[af];exact h0,by rw[iK,e1]⟩};{exact⟨ae (4*c) 2,by rw[af];exact h0,by rw[iK,e1]⟩};{exact⟨ae (4*c) 3,by rw[af];exact h0,by rw[iK,e1]⟩}
  have clm:∀e,e/4∈aY sg.length (min (p/4) (q/4)) (max (p/4) (q/4))->mG mt p q e/4∈aY sg.length (min (p/4) (q/4)) (max (p/4) (q/4)):=fun e he=>by by_cases e1:e=u;{rw[e1,mu];exact cv};{by_cases e2:e=v;{rw[e2,mv];exact cu};{by_cases e3:e=w;{rw[e3,mw];exact cz};{by_cases e4:e=z;{rw[e4,mz];exact cw};{rw[(mo e he e1 e2 e3 e4).1];exact(mo e he e1 e2 e3 e4).2}}}}
  have inv:∀y,y<mt'.length->(fun y=>fu (au mt) mt.length (uU (min (p/4) (q/4)) (max (p/4) (q/4)) y)) (au mt' y)=(fun y=>fu (au mt) mt.length (uU (min (p/4) (q/4)) (max (p/4) (q/4)) y)) y:=fun y hy=>by obtain⟨e,he,rfl⟩:=oS y hy;have WB:=mem.1 he;show fu _ _ (uU _ _ (ae (gn mt' _) 3))=fu _ _ (uU _ _ (mF _ _ e));rw[h.tab e oZ WB.2.1 WB.2.2,<-iK,un _ (by rw[af];exact clm e he),un e he];exact key e he
  have rem:∀a,∃e,a<mt.length->a∉bJ (au mt) mt.length p->e/4∈aY sg.length (min (p/4) (q/4)) (max (p/4) (q/4))/\fu (au mt) mt.length e=fu (au mt) mt.length a:=fun a=>by
   by_cases hc:a/4∈aY sg.length (min (p/4) (q/4)) (max (p/4) (q/4));{exact⟨a,fun _ _=>⟨hc,rfl⟩⟩}
   ·by_cases ha:a<mt.length/\a∉bJ (au mt) mt.length p
    ·have hu':u<mt.length:=gu.2.1
     have hv':v<mt.length:=gv.2.1;have hw':w<mt.length:=gw.2.1;have XZ:z<mt.length:=gz.2.1;have l1:=Yy u _ hu' (XE u hu');rw[Fu]at l1;have V3:ae p 1<mt.length:=oZ;have l2:=Yy _ _ V3 (XE _ V3);rw[Fpn]at l2;have l3:=Yy v _ hv' (XE v hv');rw[Fv]at l3;have l4:=Yy w _ hw' (XE w hw');rw[Fw]at l4;have l5:=Yy z _ XZ (XE z XZ);rw[Fz]at l5;have YB:ae q 2<mt.length:=oZ;have l6:=Yy _ _ YB (XE _ YB);rw[Fqw]at l6;have hPQ4:a/4=p/4\/a/4=q/4:=by by_cases c1:a/4=p/4;{exact .inl c1};{by_cases c2:a/4=q/4;{exact .inr c2};{exact absurd (mem.2 ⟨oZ,c1,c2⟩) hc}}
     rcases hPQ4 with c1|c1
     ·rcases aw c1 with rfl|rfl|rfl|rfl
      {exact absurd (bE hF hp) ha.2};{exact⟨u,fun _ _=>⟨cu,oZ⟩⟩};{exact⟨w,fun _ _=>⟨cw,oZ⟩⟩};{exact⟨z,fun _ _=>⟨cz,oZ⟩⟩}
     ·rcases aw c1 with rfl|rfl|rfl|rfl
      {exact⟨u,fun _ _=>⟨cu,oZ⟩⟩};{have:=XE p hp;rw[Fp]at this;exact absurd this ha.2};{exact⟨z,fun _ _=>⟨cz,oZ⟩⟩};{exact⟨v,fun _ _=>⟨cv,oZ⟩⟩}
    {exact⟨0,fun a1 a2=>absurd ⟨a1,a2⟩ ha⟩}
  obtain⟨rm,hrm⟩:=Sp rem;have hdec:∀a,(a_ (au mt) mt.length a&& !decide (a∈bJ (au mt) mt.length p))=true->a_ (au mt) mt.length a=true/\a∉bJ (au mt) mt.length p:=fun a ha=>by rw[RA,U5,decide_eq_false_iff_not]at ha;exact ha
  have Yf:=zO hF' (fun y=>fu (au mt) mt.length (uU (min (p/4) (q/4)) (max (p/4) (q/4)) y)) inv (A:=fun a=>a_ (au mt) mt.length a&& !decide (a∈bJ (au mt) mt.length p)) (M:=mt.length) (fun a=>mF (min (p/4) (q/4)) (max (p/4) (q/4)) (rm a)) (fun a ha aa=>by
   obtain⟨b1,b2⟩:=hdec a aa;obtain⟨r1,-⟩:=hrm a ha b2;have:mF (min (p/4) (q/4)) (max (p/4) (q/4)) (rm a)/4∈List.range (sg.length-2):=by rw[rB];exact hpr.mem_iff.1 (Sb r1)
   have:=Rm.1 this;omega) (fun a b ha hb aa ab e=>by
   obtain⟨a1,a2⟩:=hdec a aa;obtain⟨b1,b2⟩:=hdec b ab;obtain⟨r1,r2⟩:=hrm a ha a2;obtain⟨s1,s2⟩:=hrm b hb b2;rw[un _ r1,un _ s1,r2,s2,iQ hF ha a1,iQ hF hb b1]at e;exact e)
  have hsp:=mA (a_ (au mt) mt.length) (fun a=>decide (a∈bJ (au mt) mt.length p)) mt.length;have h1:cW (fun a=>a_ (au mt) mt.length a&&decide (a∈bJ (au mt) mt.length p)) mt.length<=1:=mX fun a b ha hb pa pb=>by rw[RA,RE]at pa pb;have hm:=aM hF ha (aL hF hp pa.2) pb.2;exact T_ (dG.1 pa.1 _ hm) (dG.1 pb.1 _ (aL hF ha hm))
  have he:=jJ hd;have hy:=jJ h.y;rw[h.one]at hy;have V_:1<=av mt sg.length sg.length:=by have h0:=sR hd.2.2.2.2.2.1 hn (c:=0) oZ;have h00:gN (eH mt sg.length) 0=0:=oZ;have:=j_ (eH mt sg.length) (a:=0) (b:=sg.length) oZ h00;unfold av;omega
  omega
 have hpw:ae p 2<mt.length:=oZ;obtain⟨P0,-,PE,PM⟩:=bz hF hpw;obtain⟨T,hT⟩:∃T,eC (au mt) mt.length (ae p 2)=T:=⟨_,rfl⟩
 rw[hT]at P0 PE PM;have onf:∀j,it (au mt) j (ae p 2)∈bJ (au mt) mt.length (ae p 2):=fun j=>(aG hF hpw).2 ⟨j,rfl⟩
 have kf:∀j,K (it (au mt) j (ae p 2))=true:=fun j=>by rw[(jZ hd hK (x:=fun _=>0) (fun _ _ _=>rfl) hpw (onf j)).1,k2,hk]
 have inr:∀j,0<j->j<T->it (au mt) j (ae p 2)/4∈aY sg.length (min (p/4) (q/4)) (max (p/4) (q/4)):=fun j hj0 hj=>by
  have hl:=hF.bL j hpw;have ha:=onf j;have hkj:=kf j;refine mem.2 ⟨oZ,fun e=>?_,fun e=>?_⟩
  ·rcases aw e with e|e|e|e
   ·rw[e]at ha
    have:=big _ (aL hF hpw ha);rcases this with e2|e2
    {exact an oQ oQ e2};{omega}
   {rw[e,k1,hk]at hkj;cases hkj};{exact PM j hj0 hj e};{rw[e,k3,hk]at hkj;cases hkj}
  ·rcases aw e with e|e|e|e
   {rw[e,k4,hk]at hkj;cases hkj}
   ·rw[e]at ha
    have h2:=XE (ae q 1) oZ;rw[Fqn]at h2;have:=big _ (aL hF hpw (aM hF hpw ha h2));rcases this with e2|e2
    {exact an oQ oQ e2};{omega}
   {rw[e,k6,hk]at hkj;cases hkj};{rw[e]at ha;exact step1 ha}
 have hT2:2<=T:=by
  rcases SN T 2 with Vg|Yf
  ·have e1:T=1:=oZ
   rw[e1]at PE;have:au mt w=au mt (ae p 2):=by rw[Fw];exact PE.symm
   have:=hF.2 w (ae p 2) gw.2.1 hpw this;rw[this]at cw';omega
  {exact Yf}
 have last:it (au mt) (T-1) (ae p 2)=w:=by refine hF.2 _ _ (hF.bL _ hpw) gw.2.1 ?_;rw[Fw];show it (au mt) (T-1+1) (ae p 2)=_;rw[show T-1+1=T by omega,PE]
 have run:∀j,j+1<T->x (it (au mt) (j+1) (ae p 2))=x (au mt (ae p 2)):=fun j=>by
  induction j with
  |zero=>intro _;rfl
  |succ j ih=>
   intro hj;obtain⟨a,ha⟩:∃a,it (au mt) (j+1) (ae p 2)=a:=⟨_,rfl⟩
   have i1:=ih oZ;have c1:=inr (j+1) oZ oZ;have ka:=kf (j+1);have c2:=inr (j+1+1) oZ hj;have on2:=onf (j+1+1);have nx:it (au mt) (j+1+1) (ae p 2)=au mt a:=by show au mt (it (au mt) (j+1) (ae p 2))=_;rw[ha]
   rw[nx]at c2 on2;rw[ha]at i1 c1 ka;rw[nx,<-i1];have n1:a≠u:=fun e=>by rw[e,Fu]at c2;have:=mem.1 c2;omega
   have n2:a≠v:=fun e=>by rw[e,Fv]at c2;have:=mem.1 c2;omega
   have n3:a≠w:=fun e=>by rw[e,Fw]at c2;have:=mem.1 c2;omega
   have n4:a≠z:=fun e=>by rw[e,Fz]at c2;have:=mem.1 c2;omega
   have:=hx a c1 ka;rw[(mo a c1 n1 n2 n3 n4).1]at this;exact this.symm
 have kv:K v=true:=by have:=hK.cF v (Rm.2 cv'.1);rw[gv.2.2.2,k7,hk]at this;exact this.symm
 have h1:=hx v cv kv;rw[mv]at h1;have h2:au mt (ae p 2)=ae u 3:=by unfold au;rw[hu]
 rw[h1,<-h2,<-run (T-1-1) oZ,show T-1-1+1=T-1 by omega,last]
omit hd in
theorem uh.cr(i j:Nat):ae p i≠ae q j:=fun e=>h.hPQ (by rw[<-af p i,<-af q j,e])
omit hd in
theorem uh.NB(i:Nat):ae p i≠q:=fun e=>h.cr i 0 (by rw[eG,e])
omit hd in
theorem uh.Pn(j:Nat):p≠ae q j:=fun e=>h.cr 0 j (by rw[eG];exact e)
theorem uh.lt(i:Nat):ae p i<mt.length/\ae q i<mt.length:=by have hn:=hd.2.1;have hp:=h.hp;have hq:=h.hq;have:=af p i;have:=af q i;omega
omit h in
theorem fj{K:Nat->Bool}(hK:cA sg mt K){e:Nat}(he:e<mt.length):K (ae (gn mt e) 3)=K e:=hK.cF e (Rm.2 (by have:=hd.2.1;omega))
theorem uh.jo{e:Nat}(he:e/4∈aY sg.length (min (p/4) (q/4)) (max (p/4) (q/4)))(e1:e≠gn mt (ae p 2))(e2:e≠gn mt q)(e3:e≠gn mt (ae p 3))(e4:e≠gn mt (ae q 3)):gn mt e/4∈aY sg.length (min (p/4) (q/4)) (max (p/4) (q/4)):=by
 have WB:=h.mem.1 he;have Xi:e<mt.length:=by have:=hd.2.1;omega
 have g:=(hd.2.2.2.2.2.1.gn Xi).2.2.2;refine h.out hd Xi (fun c=>WB.2.1 (by rw[c])) (fun c=>WB.2.1 (by rw[c,af])) (fun c=>WB.2.2 (by rw[c,af])) (fun c=>WB.2.2 (by rw[c,af])) (fun c=>e1 (by rw[<-c,g])) (fun c=>e3 (by rw[<-c,g])) (fun c=>e2 (by rw[<-c,g])) (fun c=>e4 (by rw[<-c,g]))
theorem uh.fin{K:Nat->Bool}(hK:cA sg mt K)(Vo:∀e,e/4∈aY sg.length (min (p/4) (q/4)) (max (p/4) (q/4))->mG mt p q e/4∈aY sg.length (min (p/4) (q/4)) (max (p/4) (q/4))/\K (ae (mG mt p q e) 3)=K e)
  (hb:∀n,fH (aY sg.length (min (p/4) (q/4)) (max (p/4) (q/4))) K (mG mt p q) (gi sg) n->fH (p/4::q/4::aY sg.length (min (p/4) (q/4)) (max (p/4) (q/4))) K (gn mt) (gi sg) n):∃K',cA sg' mt' K'/\∀n,jE sg mt K n->jE sg' mt' K' n:=by
 obtain⟨Wv,Zl⟩:=h.gk hd;have key:=Ih Wv Zl (K:=K) (m:=mG mt p q) (m':=gn mt') (s:=gi sg) (s':=gi sg') (fun e he=>hK.alt e (Rm.2 (h.mem.1 he).1)) (fun e he=>(Vo e he).2) (fun e he=>by
  have WB:=h.mem.1 he;exact⟨h.tab e (by have:=hd.2.1;omega) WB.2.1 WB.2.2,(Vo e he).1⟩) (fun c hc=>by have:=h.mem.1 hc;exact h.so c this.1 this.2.1 this.2.2)
 rw[show sg.length-2=sg'.length by have:=h.ls;omega]at key;exact⟨_,key.1,fun n Yo=>key.2 n (fH.back hb (fH.perm (h.perm hd) Yo))⟩
theorem uh.Qx{K:Nat->Bool}(hK:cA sg mt K):gn mt (ae p 2)≠ae q 3:=fun e=>by
 obtain⟨k1,k2,k3,k4,k5,k6,k7⟩:=(h.NL hd hK).pL;have:=fj hd hK (h.lt hd 2).1;rw[e,(tt _).2.2.1,k6,k2]at this
 cases hh:K p<;>rw[hh]at this<;>cases this
theorem uh.QE{K:Nat->Bool}(hK:cA sg mt K):gn mt (ae p 3)≠q:=fun e=>by
 obtain⟨k1,k2,k3,k4,k5,k6,k7⟩:=(h.NL hd hK).pL;have:=fj hd hK (h.lt hd 3).1;rw[e,k7,k3]at this
 cases hh:K p<;>rw[hh]at this<;>cases this
omit h in
theorem mH{e f:Nat}(he:e<mt.length)(x:gn mt e=f):f<mt.length/\gn mt f=e/\f≠e:=by have:=hd.2.2.2.2.2.1.gn he;rw[x]at this;exact⟨this.2.1,this.2.2.2,this.2.2.1⟩
theorem uh.Qf{K:Nat->Bool}(hK:cA sg mt K)(hC:gn mt (ae p 2)=ae p 3):∃K',cA sg' mt' K'/\∀n,jE sg mt K n->jE sg' mt' K' n:=by
 have B:=h.NL hd hK;obtain⟨k1,k2,k3,k4,k5,k6,k7⟩:=B.pL;obtain⟨v,hv⟩:∃v,gn mt q=v:=⟨_,rfl⟩
 obtain⟨z,hz⟩:∃z,gn mt (ae q 3)=z:=⟨_,rfl⟩
 have gps:=(mH hd (h.lt hd 2).1 hC).2.1;obtain⟨lv,gv,vq⟩:=mH hd h.hq hv;obtain⟨lz,gz,zq⟩:=mH hd (h.lt hd 3).2 hz;have np23:=aB (h:=p) (i:=2) (j:=3) oQ oQ oQ;have nq3:=an (h:=q) (j:=3) oQ oQ;have ne2:=h.ne2;unfold uF fe at ne2;rw[hC,hv,Re rfl]at ne2;have nvp3:v≠ae p 3:=fun e=>by rw[e,gps]at gv;exact h.NB 2 gv
 have nvp2:v≠ae p 2:=fun e=>by rw[e,hC]at gv;exact h.NB 3 gv
 have nzq:z≠q:=fun e=>by rw[e,hv]at gz;exact ne2 gz
 have nzp3:z≠ae p 3:=fun e=>by rw[e,gps]at gz;exact h.cr 2 3 gz
 have nzp2:z≠ae p 2:=fun e=>by rw[e,hC]at gz;exact h.cr 3 3 gz
 have cv:v/4∈aY sg.length (min (p/4) (q/4)) (max (p/4) (q/4)):=by rw[<-hv];exact h.out hd h.hq (fun e=>h.Pn 0 (by rw[eG];exact e.symm)) (fun e=>h.NB 1 e.symm) (an oQ oQ).symm (an oQ oQ).symm (by rw[hv];exact nvp2) (by rw[hv];exact nvp3) (by rw[hv];exact vq) (by rw[hv];exact ne2)
 have cz:z/4∈aY sg.length (min (p/4) (q/4)) (max (p/4) (q/4)):=by rw[<-hz];exact h.out hd (h.lt hd 3).2 (fun e=>h.Pn 3 e.symm) (fun e=>h.cr 1 3 e.symm) (aB oQ oQ oQ) (aB oQ oQ oQ) (by rw[hz];exact nzp2) (by rw[hz];exact nzp3) (by rw[hz];exact nzq) (by rw[hz];exact zq)
 have vz:v≠z:=fun e=>nq3 (dZ hd.2.2.2.2.2.1 h.hq (h.lt hd 3).2 (by rw[hv,hz,e])).symm
 have l1:∀e,uF mt p q e=if e=ae p 3 then v else if e=v then ae p 3 else gn mt e:=fun e=>by unfold uF fe;rw[hC,hv]
 have s1:uF mt p q (ae p 3)=v:=by rw[l1,Re rfl]
 have s2:uF mt p q (ae q 3)=z:=by rw[l1,Rc (fun e=>h.cr 3 3 e.symm),Rc (fun e=>ne2 e.symm),hz]
 have l2:∀e,mG mt p q e=if e=v then z else if e=z then v else uF mt p q e:=fun e=>by unfold mG;rw[s1,s2];rfl
 have mv:mG mt p q v=z:=by rw[l2,Re rfl]
 have mz:mG mt p q z=v:=by rw[l2,Rc vz.symm,Re rfl]
 have nw:∀e,e/4∈aY sg.length (min (p/4) (q/4)) (max (p/4) (q/4))->e≠ae p 3/\e≠ae p 2:=fun e he=>by have WB:=h.mem.1 he;exact⟨fun c=>WB.2.1 (by rw[c,af]),fun c=>WB.2.1 (by rw[c,af])⟩
 have mo:∀e,e/4∈aY sg.length (min (p/4) (q/4)) (max (p/4) (q/4))->e≠v->e≠z->mG mt p q e=gn mt e:=fun e he e1 e2=>by rw[l2,Rc e1,Rc e2,l1,Rc (nw e he).1,Rc e1]
 have jo:∀e,e/4∈aY sg.length (min (p/4) (q/4)) (max (p/4) (q/4))->e≠v->e≠z->gn mt e/4∈aY sg.length (min (p/4) (q/4)) (max (p/4) (q/4)):=fun e he e1 e2=>h.jo hd he (by rw[hC];exact(nw e he).1) (by rw[hv];exact e1) (by rw[gps];exact(nw e he).2) (by rw[hz];exact e2)
 have kv:=fj hd hK lv;rw[gv,k7]at kv;have kz:=fj hd hK lz;rw[gz,(tt _).2.2.1,k6]at kz;have tv:=fj hd hK h.hq;rw[hv,k4]at tv;have tz:=fj hd hK (h.lt hd 3).2;rw[hz,k7]at tz;refine h.fin hd hK (fun e he=>?_) fun n Yo=>B.Lg (v:=v) (v':=z) hv cv gv mv hz cz gz mz hC gps (fun e he e1 e2=>⟨mo e he e1 e2,jo e he e1 e2⟩) Yo
 by_cases e1:e=v;{rw[e1,mv];exact⟨cz,by rw[tz,kv]⟩};{by_cases e2:e=z;{rw[e2,mz];exact⟨cv,by rw[tv,<-kz]⟩};{rw[mo e he e1 e2];exact⟨jo e he e1 e2,fj hd hK (by have:=(h.mem.1 he).1;have:=hd.2.1;omega)⟩}}
theorem uh.PC{K:Nat->Bool}(hK:cA sg mt K)(hC:gn mt (ae p 2)≠ae p 3)(hB:gn mt q=ae q 3):∃K',cA sg' mt' K'/\∀n,jE sg mt K n->jE sg' mt' K' n:=by
 have B:=h.NL hd hK;obtain⟨k1,k2,k3,k4,k5,k6,k7⟩:=B.pL;obtain⟨u,hu⟩:∃u,gn mt (ae p 2)=u:=⟨_,rfl⟩
 obtain⟨w,hw⟩:∃w,gn mt (ae p 3)=w:=⟨_,rfl⟩
 have gqs:=(mH hd h.hq hB).2.1;obtain⟨lu,gu,up⟩:=mH hd (h.lt hd 2).1 hu;obtain⟨lw,gw,wp⟩:=mH hd (h.lt hd 3).1 hw;have np23:=aB (h:=p) (i:=2) (j:=3) oQ oQ oQ;have ne1:=h.ne1;have x1:=h.Qx hd hK;have x2:=h.QE hd hK;rw[hu]at ne1 x1 hC;rw[hw]at x2;have nwp2:w≠ae p 2:=fun e=>by rw[e,hu]at gw;exact hC gw
 have nwq:w≠ae q 3:=fun e=>by rw[e,gqs]at gw;exact h.NB 3 gw.symm
 have cu:u/4∈aY sg.length (min (p/4) (q/4)) (max (p/4) (q/4)):=by rw[<-hu];exact h.out hd (h.lt hd 2).1 (an oQ oQ) (aB oQ oQ oQ) (h.cr 2 1) (h.cr 2 2) (by rw[hu];exact up) (by rw[hu];exact hC) (by rw[hu];exact ne1) (by rw[hu];exact x1)
 have cw:w/4∈aY sg.length (min (p/4) (q/4)) (max (p/4) (q/4)):=by rw[<-hw];exact h.out hd (h.lt hd 3).1 (an oQ oQ) (aB oQ oQ oQ) (h.cr 3 1) (h.cr 3 2) (by rw[hw];exact nwp2) (by rw[hw];exact wp) (by rw[hw];exact x2) (by rw[hw];exact nwq)
 have uw:u≠w:=fun e=>np23 (dZ hd.2.2.2.2.2.1 (h.lt hd 2).1 (h.lt hd 3).1 (by rw[hu,hw,e]))
 have l1:∀e,uF mt p q e=if e=u then ae q 3 else if e=ae q 3 then u else gn mt e:=fun e=>by unfold uF fe;rw[hu,hB]
 have s1:uF mt p q (ae p 3)=w:=by rw[l1,Rc (fun e=>hC e.symm),Rc (h.cr 3 3),hw]
 have s2:uF mt p q (ae q 3)=u:=by rw[l1,Rc (fun e=>x1 e.symm),Re rfl]
 have l2:∀e,mG mt p q e=if e=w then u else if e=u then w else uF mt p q e:=fun e=>by unfold mG;rw[s1,s2];rfl
 have mw:mG mt p q w=u:=by rw[l2,Re rfl]
 have mu:mG mt p q u=w:=by rw[l2,Rc uw,Re rfl]
 have nz:∀e,e/4∈aY sg.length (min (p/4) (q/4)) (max (p/4) (q/4))->e≠ae q 3/\e≠q:=fun e he=>by have WB:=h.mem.1 he;exact⟨fun c=>WB.2.2 (by rw[c,af]),fun c=>WB.2.2 (by rw[c])⟩
 have mo:∀e,e/4∈aY sg.length (min (p/4) (q/4)) (max (p/4) (q/4))->e≠u->e≠w->mG mt p q e=gn mt e:=fun e he e1 e2=>by rw[l2,Rc e2,Rc e1,l1,Rc e1,Rc (nz e he).1]
 have jo:∀e,e/4∈aY sg.length (min (p/4) (q/4)) (max (p/4) (q/4))->e≠u->e≠w->gn mt e/4∈aY sg.length (min (p/4) (q/4)) (max (p/4) (q/4)):=fun e he e1 e2=>h.jo hd he (by rw[hu];exact e1) (by rw[hB];exact(nz e he).1) (by rw[hw];exact e2) (by rw[gqs];exact(nz e he).2)
 have ku:=fj hd hK lu;rw[gu,(tt _).2.1,k1]at ku;have kw:=fj hd hK lw;rw[gw,(tt _).2.2.1,k2]at kw;have tu:=fj hd hK (h.lt hd 2).1;rw[hu,k2]at tu;have tw:=fj hd hK (h.lt hd 3).1;rw[hw,k3]at tw;refine h.fin hd hK (fun e he=>?_) fun n Yo=>B.Lw (u:=u) (u':=w) hu cu gu mu hw cw gw mw gqs hB (fun e he e1 e2=>⟨mo e he e1 e2,jo e he e1 e2⟩) Yo
 by_cases e1:e=u;{rw[e1,mu];exact⟨cw,by rw[tw,<-ku]⟩};{by_cases e2:e=w;{rw[e2,mw];exact⟨cu,by rw[tu,kw]⟩};{rw[mo e he e1 e2];exact⟨jo e he e1 e2,fj hd hK (by have:=(h.mem.1 he).1;have:=hd.2.1;omega)⟩}}
theorem uh.Qk{K:Nat->Bool}(hK:cA sg mt K)(hC:gn mt (ae p 2)≠ae p 3)(hB:gn mt q≠ae q 3):∃K',cA sg' mt' K'/\∀n,jE sg mt K n->jE sg' mt' K' n:=by
 have B:=h.NL hd hK;obtain⟨k1,k2,k3,k4,k5,k6,k7⟩:=B.pL;obtain⟨u,hu⟩:∃u,gn mt (ae p 2)=u:=⟨_,rfl⟩
 obtain⟨v,hv⟩:∃v,gn mt q=v:=⟨_,rfl⟩
 obtain⟨w,hw⟩:∃w,gn mt (ae p 3)=w:=⟨_,rfl⟩
 obtain⟨z,hz⟩:∃z,gn mt (ae q 3)=z:=⟨_,rfl⟩
 obtain⟨lu,gu,up⟩:=mH hd (h.lt hd 2).1 hu;obtain⟨lv,gv,vq⟩:=mH hd h.hq hv;obtain⟨lw,gw,wp⟩:=mH hd (h.lt hd 3).1 hw;obtain⟨lz,gz,zq⟩:=mH hd (h.lt hd 3).2 hz;have hPQ:=h.hPQ;have np23:=aB (h:=p) (i:=2) (j:=3) oQ oQ oQ;have nq3:=an (h:=q) (j:=3) oQ oQ;have ne1:=h.ne1;have ne2:=h.ne2;have x1:=h.Qx hd hK;have x2:=h.QE hd hK;rw[hu]at ne1 x1 hC;rw[hv]at hB;rw[hw]at x2;have l1:∀e,uF mt p q e=if e=u then v else if e=v then u else gn mt e:=fun e=>by unfold uF fe;rw[hu,hv]
 have nvp2:v≠ae p 2:=fun e=>by rw[e,hu]at gv;exact ne1 gv
 have nvp3:v≠ae p 3:=fun e=>by rw[e,hw]at gv;exact x2 gv
 have nwp2:w≠ae p 2:=fun e=>by rw[e,hu]at gw;exact hC gw
 have s1:uF mt p q (ae p 3)=w:=by rw[l1,Rc (fun e=>hC e.symm),Rc (fun e=>nvp3 e.symm),hw]
 rw[s1]at ne2;have nzp2:z≠ae p 2:=fun e=>by rw[e,hu]at gz;exact x1 gz
 have nzp3:z≠ae p 3:=fun e=>by rw[e,hw]at gz;exact ne2 gz
 have nzq:z≠q:=fun e=>by rw[e,hv]at gz;exact hB gz
 have cu:u/4∈aY sg.length (min (p/4) (q/4)) (max (p/4) (q/4)):=by rw[<-hu];exact h.out hd (h.lt hd 2).1 (an oQ oQ) (aB oQ oQ oQ) (h.cr 2 1) (h.cr 2 2) (by rw[hu];exact up) (by rw[hu];exact hC) (by rw[hu];exact ne1) (by rw[hu];exact x1)
 have cv:v/4∈aY sg.length (min (p/4) (q/4)) (max (p/4) (q/4)):=by rw[<-hv];exact h.out hd h.hq (fun e=>h.Pn 0 (by rw[eG];exact e.symm)) (fun e=>h.NB 1 e.symm) (an oQ oQ).symm (an oQ oQ).symm (by rw[hv];exact nvp2) (by rw[hv];exact nvp3) (by rw[hv];exact vq) (by rw[hv];exact hB)
 have cw:w/4∈aY sg.length (min (p/4) (q/4)) (max (p/4) (q/4)):=by rw[<-hw];exact h.out hd (h.lt hd 3).1 (an oQ oQ) (aB oQ oQ oQ) (h.cr 3 1) (h.cr 3 2) (by rw[hw];exact nwp2) (by rw[hw];exact wp) (by rw[hw];exact x2) (by rw[hw];exact ne2)
 have cz:z/4∈aY sg.length (min (p/4) (q/4)) (max (p/4) (q/4)):=by rw[<-hz];exact h.out hd (h.lt hd 3).2 (fun e=>h.Pn 3 e.symm) (fun e=>h.cr 1 3 e.symm) (aB oQ oQ oQ) (aB oQ oQ oQ) (by rw[hz];exact nzp2) (by rw[hz];exact nzp3) (by rw[hz];exact nzq) (by rw[hz];exact zq)
 have inj:=fun{a b:Nat} (ha:a<mt.length) (hb:b<mt.length) (e:gn mt a=gn mt b)=>dZ hd.2.2.2.2.2.1 ha hb e
 have uv:u≠v:=fun e=>h.NB 2 (inj (h.lt hd 2).1 h.hq (by rw[hu,hv,e]))
 have uw:u≠w:=fun e=>np23 (inj (h.lt hd 2).1 (h.lt hd 3).1 (by rw[hu,hw,e]))
 have uz:u≠z:=fun e=>h.cr 2 3 (inj (h.lt hd 2).1 (h.lt hd 3).2 (by rw[hu,hz,e]))
 have vw:v≠w:=fun e=>h.NB 3 (inj (h.lt hd 3).1 h.hq (by rw[hv,hw,e]))
 have vz:v≠z:=fun e=>nq3 (inj (h.lt hd 3).2 h.hq (by rw[hv,hz,e]))
 have wz:w≠z:=fun e=>h.cr 3 3 (inj (h.lt hd 3).1 (h.lt hd 3).2 (by rw[hw,hz,e]))
 have s2:uF mt p q (ae q 3)=z:=by rw[l1,Rc (fun e=>x1 e.symm),Rc (fun e=>hB e.symm),hz]
 have l2:∀e,mG mt p q e=if e=w then z else if e=z then w else uF mt p q e:=fun e=>by unfold mG;rw[s1,s2];rfl
 have mu:mG mt p q u=v:=by rw[l2,Rc uw,Rc uz,l1,Re rfl]
 have mv:mG mt p q v=u:=by rw[l2,Rc vw,Rc vz,l1,Rc uv.symm,Re rfl]
 have mw:mG mt p q w=z:=by rw[l2,Re rfl]
 have mz:mG mt p q z=w:=by rw[l2,Rc wz.symm,Re rfl]
 have mo:∀e,e/4∈aY sg.length (min (p/4) (q/4)) (max (p/4) (q/4))->e≠u->e≠v->e≠w->e≠z->mG mt p q e=gn mt e/\gn mt e/4∈aY sg.length (min (p/4) (q/4)) (max (p/4) (q/4)):=fun e he e1 e2 e3 e4=>⟨by rw[l2,Rc e3,Rc e4,l1,Rc e1,Rc e2],h.jo hd he (by rw[hu];exact e1) (by rw[hv];exact e2) (by rw[hw];exact e3) (by rw[hz];exact e4)⟩
 have ku:=fj hd hK lu;rw[gu,(tt _).2.1,k1]at ku;have kv:=fj hd hK lv;rw[gv,k7]at kv;have kw:=fj hd hK lw;rw[gw,(tt _).2.2.1,k2]at kw;have kz:=fj hd hK lz;rw[gz,(tt _).2.2.1,k6]at kz;have tu:=fj hd hK (h.lt hd 2).1;rw[hu,k2]at tu;have tv:=fj hd hK h.hq;rw[hv,k4]at tv;have tw:=fj hd hK (h.lt hd 3).1;rw[hw,k3]at tw;have tz:=fj hd hK (h.lt hd 3).2;rw[hz,k7]at tz;refine h.fin hd hK (fun e he=>?_) fun n Yo=>B.KK (u:=u) (v:=v) (u':=w) (v':=z) hu cu gu mu hv cv gv mv hw cw gw mw hz cz gz mz mo (fun hk x hx=>h.cF hd hK hu hv hw hz cu cv cw cz mu mv mw mz mo hk hx) Yo
 by_cases e1:e=u;{rw[e1,mu];exact⟨cv,by rw[tv,<-ku]⟩};{by_cases e2:e=v;{rw[e2,mv];exact⟨cu,by rw[tu,kv]⟩};{by_cases e3:e=w;{rw[e3,mw];exact⟨cz,by rw[tz,kw]⟩};{by_cases e4:e=z;{rw[e4,mz];exact⟨cw,by rw[tw,<-kz]⟩};{rw[(mo e he e1 e2 e3 e4).1];exact⟨(mo e he e1 e2 e3 e4).2,fj hd hK (by have:=(h.mem.1 he).1;have:=hd.2.1;omega)⟩}}}}
theorem uh.num{K:Nat->Bool}(hK:cA sg mt K):∃K',cA sg' mt' K'/\∀n,jE sg mt K n->jE sg' mt' K' n:=by by_cases hC:gn mt (ae p 2)=ae p 3;{exact h.Qf hd hK hC};{by_cases hB:gn mt q=ae q 3;{exact h.PC hd hK hC hB};{exact h.Qk hd hK hC hB}}
end
theorem tL{x y:Nat}(Vw:x<y):∀k,iw [(x:Int),(y:Int)] k=if y<k then k-2 else if x<k then k-1 else k
 |0=>by rw[Rc oZ,Rc oZ];rfl
 |k+1=>by show iw [(x:Int),(y:Int)] k+_=_;rw[tL Vw k];by_cases e:k=x;{subst e;rw[Rc oZ,Rc oZ,Re oX,Rc oZ,Re oZ];omega};{by_cases e':k=y;{subst e';rw[Rc oZ,Re Vw,Re oX,Re oZ];omega};{rw[Rc (show¬(k:Int)∈[(x:Int),(y:Int)] by simp;omega)];by_cases h:y<k;{rw[Re h,Re oZ];omega};{rw[Rc h];by_cases h':x<k;{rw[Re h',Rc oZ,Re oZ];omega};{rw[Rc h',Rc oZ,Rc oZ]}}}}
theorem JQ{x y:Nat}(Vw:x<y)(z:Nat):AG [(x:Int),(y:Int)] z=mF x y z:=by unfold AG mF nA;by_cases e:y<z/4;{rw[Sw qj,Sw qj,Re e,Re oZ];show z-4*2=z-4-4;omega};{rw[Rc e];by_cases e':x<z/4;{rw[Sw qj,Sx qj,Re e'];rfl};{rw[Sx qj,Sx qj,Rc e'];rfl}}
theorem Dw{x y c:Nat}(Vw:x<y)(h1:c≠x)(h2:c≠y):zX x y c=iw [(x:Int),(y:Int)] c:=by rw[tL Vw,lC Vw h1 h2]
theorem zZ{xs:List Int}(hn:∀k,k<xs.length->gi xs k=(gn xs k:Int)/\gn xs k<xs.length){a b:Nat}(ha:a<xs.length)(hb:b<xs.length)(h0:nE xs a b=0):
  gn xs a≠b/\(∀k,gn (ic xs a b) k=fe (gn xs) (gn xs a) (gn xs b) k)/\∀k,k<(ic xs a b).length->gi (ic xs a b) k=(gn (ic xs a b) k:Int)/\gn (ic xs a b) k<(ic xs a b).length:=by
 have Vh:gn xs a≠b:=by intro e;unfold nE at h0;rw[Re (by rw[(hn a ha).1,e])]at h0;omega
 have e1:ic xs a b=bH xs (gn xs a) (gn xs b):=by unfold ic;rw[Rc (by rw[(hn a ha).1];omega)]
 have ga:=(hn a ha).2;have gb:=(hn b hb).2;refine⟨Vh,fun k=>?_,fun k hk=>?_⟩;{rw[e1,bO ga gb,sO]};{rw[e1]at hk⊢;rw[al]at hk⊢;rw[bO ga gb,pP ga gb];split;{exact⟨rfl,ga⟩};{split;{exact⟨rfl,gb⟩};{exact hn k hk}}}
theorem LP{sg mt:List Int}(hd:cJ sg mt 0){x y h o:Nat}{L':Int}(Vw:x<y)(hy:y<sg.length)(hp:(h/4=x/\o=y)\/(h/4=y/\o=x))(hl:By mt h o=true)
  (l1:nE mt (ae h 2) (ae (gn mt h) 2)=0)(l2:nE (ic mt (ae h 2) (ae (gn mt h) 2)) (ae (gn mt (au mt h)) 2) (ae (au mt h) 2)=0)
  (Xe:cJ (dV [(x:Int),(y:Int)] sg sg.length) (dT [(x:Int),(y:Int)] (ic (ic mt (ae h 2) (ae (gn mt h) 2)) (ae (gn mt (au mt h)) 2) (ae (au mt h) 2)) sg.length) L')
  (h1:av (dT [(x:Int),(y:Int)] (ic (ic mt (ae h 2) (ae (gn mt h) 2)) (ae (gn mt (au mt h)) 2) (ae (au mt h) 2)) sg.length) (dV [(x:Int),(y:Int)] sg sg.length).length (dV [(x:Int),(y:Int)] sg sg.length).length=1):
  uh sg (dV [(x:Int),(y:Int)] sg sg.length) mt (dT [(x:Int),(y:Int)] (ic (ic mt (ae h 2) (ae (gn mt h) 2)) (ae (gn mt (au mt h)) 2) (ae (au mt h) 2)) sg.length) L' h (ae (gn mt h) 2):=by
 have h2:mt.length=4*sg.length:=hd.2.1;have hI:=hd.2.2.2.2.2.1;have hh:h<mt.length:=oZ;unfold By at hl;rw[RA,RA]at hl;obtain⟨c1,c2,c3⟩:=hl;have c1:=RU c1;have c2:=RU c2;have c3:=RU c3;obtain⟨-,m1,m2,m3⟩:=hI.gn hh;have hg:au mt h=ae (gn mt h) 3:=rfl;have VS:au mt h<mt.length:=by rw[hg];have:=af (gn mt h) 3;omega
 have hup:gn mt (au mt h)=ae h 1:=by
  have:ae (gn mt (au mt h)) 3=ae (ae h 1) 3:=by rw[ar,bC];exact c2
  exact dC this
 have Yq:ae (gn mt (au mt h)) 2=ae h 3:=by rw[hup,ar]
 have hqs:ae (au mt h) 2=ae (ae (gn mt h) 2) 3:=by rw[hg,ar,ar]
 rw[Yq,hqs]at l2 Xe h1⊢;have hq4:ae (gn mt h) 2/4=o:=by rw[af,<-c1,hg,af]
 have Xf:ae (gn mt h) 2<mt.length:=oZ;have Ze:o<sg.length:=oZ;have t2:ae h 2<mt.length:=by have:=af h 2;omega
 have t3:ae h 3<mt.length:=by have:=af h 3;omega
 have u3:ae (ae (gn mt h) 2) 3<mt.length:=by have:=af (ae (gn mt h) 2) 3;omega
 have Zr:min (h/4) (ae (gn mt h) 2/4)=x:=by rw[hq4];omega
 have hmax:max (h/4) (ae (gn mt h) 2/4)=y:=by rw[hq4];omega
 obtain⟨n1,j1,r1⟩:=zZ (fun k hk=>⟨(hI.gn hk).1,(hI.gn hk).2.1⟩) t2 Xf l1;obtain⟨n2,j2,r2⟩:=zZ r1 (by rw[gm];exact t3) (by rw[gm];exact u3) l2;have e1:∀k,gn (ic mt (ae h 2) (ae (gn mt h) 2)) k=uF mt h (ae (gn mt h) 2) k:=j1
 have e2:∀k,gn (ic (ic mt (ae h 2) (ae (gn mt h) 2)) (ae h 3) (ae (ae (gn mt h) 2) 3)) k=mG mt h (ae (gn mt h) 2) k:=by intro k;rw[j2,e1,e1];unfold mG;unfold fe;rw[e1]
 have hng:∀c:Nat,c≠x->c≠y->((c:Nat):Int)∉[(x:Int),(y:Int)]:=fun c a b=>by simp;omega
 refine⟨hh,Xf,by rw[hq4];omega,?_,?_,?_,n1,by rw[<-e1];exact n2,?_,?_,?_,Xe,h1⟩;{rw[bQ];omega};{rw[ar,<-hg,<-hup,(hI.gn VS).2.2.2]};{rw[ar,bC]};{rw[gU,tL Vw,Re hy];omega}
 ·intro k hk k1 k2
  have k1':k/4≠x:=oZ;have k2':k/4≠y:=oZ;rw[Zr,hmax];have es:mF x y k=4*iw [(x:Int),(y:Int)] (k/4)+k%4:=by rw[<-Dw Vw k1' k2',<-rB,<-show mF x y k%4=k%4 by rw[E5 Vw k1' k2'];split<;>(try split)<;>omega];omega
  rw[es,Dg (hng _ k1' k2') oZ oZ,JQ Vw,show 4*(k/4)+k%4=k by omega,e2]
 {intro c hc a b;have a':c≠x:=oZ;have b':c≠y:=oZ;rw[Zr,hmax,Dw Vw a' b'];exact wN (hng _ a' b') _ hc}
def Ou(sg mt sg' mt':List Int)(L':Int):Prop:=cJ sg' mt' 0->av mt' sg'.length sg'.length=1->L'=0->Bb sg mt sg' mt'
def PW(sg mt:List Int)(w:World)(e:Ending)(w':World):Prop:=
 ∃(er:Int)(A1 A2:Option Addr)(n1 k1 n2 k2:Nat)(L a b c d:Int)(o:Bool),e= .returned (.tuple #[.agg #[.slice A1 n1 k1,.slice A2 n2 k2,.int .i64 L],.agg #[.int .i64 a,.int .i64 b,.int .i64 c,.int .i64 d,.bool o],.int .i64 er])/\Below w.heap.size w w'/\
  (er=0->∃sg' mt',n1=sg'.length/\n2=mt'.length/\RI w' (·<w'.heap.size) A1 sg'/\RI w' (·<w'.heap.size) A2 mt'/\sg'.length<=maxLen/\mt'.length<=maxLen/\Ou sg mt sg' mt' L)
theorem Gv{sg mt:List Int}{w w':World}{er:Int}{e:Ending}(h:Qc w er (fun sg' mt' L'=>Ou sg mt sg' mt' L') e w'):PW sg mt w e w':=by
 obtain⟨dv,mv,rfl,⟨⟨A1',A2',n1,k1,n2,k2,L,rfl⟩,a,b,c,d,o,rfl⟩,hb,h0⟩:=h;refine⟨er,A1',A2',n1,k1,n2,k2,L,a,b,c,d,o,rfl,hb,fun hz=>?_⟩;obtain⟨v1,v2,sg',mt',L',hv,WU,hP⟩:=h0 hz;injection hv with hv
 simp only[Array.mk.injEq,List.cons.injEq,UZ]at hv;obtain⟨rfl,rfl,h3⟩:=hv;injection h3 with _ h3
 subst h3;obtain⟨A,c9,e1,-,-,hr⟩:=WU.os.reads;obtain⟨A',c9',e2,-,-,Wi⟩:=WU.om.reads;injection e1 with e1 e3 _
 injection e2 with e2 e4 _
 subst e1 e2;exact⟨sg',mt',e3,e4,hr.imp fun b hb=>hb.2,Wi.imp fun b hb=>hb.2,WU.os.len,WU.om.len,hP⟩
theorem Hd{sg mt:List Int}{w w':World}{e:Ending}(h:Mq w (fun sg' mt' L'=>Ou sg mt sg' mt' L') e w'):PW sg mt w e w':=by obtain⟨dv,mv,er,h1,h2,h3,h4⟩:=h;exact Gv ⟨dv,mv,h1,h2,h3,h4⟩
theorem GI(xs:List Int)(a b:Nat):0<=nE xs a b:=by unfold nE;split<;>omega
section
variable{A1 A2:Option Addr}{c1 c2:Nat}{sg mt:List Int}(kd X Y s:Int)(ov:Bool)(w:World)(S:Nat->Prop)(hx:RI w S A1 sg)(hy:RI w S A2 mt)(hS:∀b,S b->b<w.heap.size)(V:I2 sg mt)
include hx hy hS V
theorem EG:Calls Tryz.prog 9 #[.agg #[.slice A1 sg.length c1,.slice A2 mt.length c2,.int .i64 0],.agg #[.int .i64 kd,.int .i64 X,.int .i64 Y,.int .i64 s,.bool ov]] w (PW sg mt w):=by
 by_cases hk:kd<1\/5<kd;{exact(Bq A1 A2 c1 c2 sg mt kd X Y s ov w S hx hy hS V.d hk _).mono fun _ _=>Hd};by_cases h3:kd=3
 ·subst h3
  refine(tT A1 A2 c1 c2 sg mt X Y s ov w S hx hy hS V.d V.one V.pos (fun sg' mt' L'=>Ou sg mt sg' mt' L') ?_).mono fun _ _ h=>by obtain⟨er,-,h⟩:=h;exact Gv h
  rintro Vn lf-hf hz sg' mt' L' ⟨x,y,rfl,rfl,V7,VJ,rfl,rfl,rfl⟩- - -K hK;have VN:¬(0<=(x:Int)/\0<=(y:Int)/\(x:Int)≠(y:Int)/\jG lf mt (x:Int).toNat (y:Int).toNat=false):=fun h=>by unfold yA at hz;rw[Re (.inr (.inr h))]at hz;exact absurd hz oQ
  unfold pk at Vn;by_cases Vw:x=y
  ·subst Vw
   have hs:s=1\/s= -1:=oZ;rcases hs with rfl|rfl
   {exact⟨_,((K3 V.d (ai sg x) (ai sg x) ov V7).num V.d hK (fH.ex _ _ _ _).choose_spec).1,fun n hn=>((K3 V.d (ai sg x) (ai sg x) ov V7).num V.d hK hn).2⟩};{exact⟨_,((LD V.d (ai sg x) (ai sg x) ov V7).num V.d hK (fH.ex _ _ _ _).choose_spec).1,fun n hn=>((LD V.d (ai sg x) (ai sg x) ov V7).num V.d hK hn).2⟩}
  ·have hs:s=0:=oZ
   subst hs;have hn:jG lf mt x y=true:=by
    cases hb:jG lf mt x y with
    |true=>rfl
    |false=>exact absurd ⟨oZ,oZ,oZ,by rw[Si,Si];exact hb⟩ VN
   unfold jG at hn;rw[RA]at hn;have f1:=(oN (aU V.d.2.2.2.2.2.1 V.d.2.1) hf V7 VJ).1 (RU hn.1);have f3:=RU hn.2;have P:=GQ V.d (ai sg x) (ai sg y) ov V7 VJ Vw f3;exact⟨_,(P.num V.d hK f1 (fH.ex _ _ _ _).choose_spec).1,fun n hn=>(P.num V.d hK f1 hn).2⟩
 ·refine(BK A1 A2 c1 c2 sg mt kd X Y s ov w S hx hy hS V.d oZ (fun sg' mt' L'=>Ou sg mt sg' mt' L') ?_ ?_ ?_ ?_).mono fun _ _=>Hd
  ·rintro rfl Vn sg' mt' L' ⟨h,rfl,hh,ho,VO,rfl,rfl,rfl⟩- - -K hK
   have hs:s=1\/s= -1:=by unfold pk at Vn;omega
   obtain⟨o,u,hc⟩:=Ny V.d hh hs ov;exact⟨_,hc.num V.d hK⟩
  ·rintro rfl Vn sg' mt' L' ⟨o,ho,rfl,rfl,rfl⟩- -hL K hK
   have hX:0<=X/\X<sg.length:=by unfold pk at Vn;omega
   obtain⟨c,rfl⟩:∃c:Nat,X=c:=⟨X.toNat,oZ⟩
   rw[Si]at ho;obtain⟨o',hu⟩:=MO V.d oZ ho hL;exact hu.num V.d hK
  {rintro rfl Vn sg' mt' L' ⟨x,y,h,o,rfl,rfl,Vw,VJ,hp,hl,rfl,rfl,rfl⟩ Xe h1 hL K hK;have n1:=GI mt (ae h 2) (ae (gn mt h) 2);have n2:=GI (ic mt (ae h 2) (ae (gn mt h) 2)) (ae (gn mt (au mt h)) 2) (ae (au mt h) 2);have hu:=LP V.d Vw VJ hp hl oZ oZ Xe h1;exact hu.num V.d hK};{rintro rfl Vn sg' mt' L' ⟨a,b,c,rfl,ha,hb,hc,hl,hab,hbc,hca,par,rfl,rfl,rfl⟩- - -K hK;exact(No V.d ha hb hc hl hab hbc hca par).num V.d hK}
end
theorem Ia(w:World)(xs:List Int)(S:Nat->Prop)(hS:S w.heap.size)(cs:Array Value)(VE:cs=(xs.map (Value.int .i64)).toArray):RI (w.alloc (.cells cs 3)) S (some ⟨w.heap.size,0,none⟩) xs:=fun _=>by subst VE;refine⟨w.heap.size,0,rfl,hS,fun k hk=>?_⟩;rw[Rt _ _ _ _ _ _ (Ru w _),Sr];have:=xu hk;simpa using this
theorem RI.alloc{w:World}{S:Nat->Prop}{A:Option Addr}{xs:List Int}(h:RI w S A xs)(hS:∀b,S b->b<w.heap.size)(o:Obj):RI (w.alloc o) S A xs:=h.ak fun b hb=>Rx w o b (hS b hb)
theorem BY{mt:List Int}(hI:cP mt){n:Nat}(hn:mt.length=4*n)(h1:(dq mt n).length=1):av mt n n=1/\0<n:=by
 have e:=iV hI hn;have hl:(dq mt n).length=av mt n n:=by rw[<-e];simp
 refine⟨by rw[<-hl,h1],?_⟩;rcases Se n with h|h
 {subst h;rw[hl]at h1;exact absurd (show 0=1 from h1) oQ};{exact h}
def qP(sg mt:List Int)(L:Int):Bool:=decide (cJ sg mt L)&&decide ((dq mt sg.length).length=1)&&decide (L=0)
theorem yJ{sg mt:List Int}{L:Int}(h:qP sg mt L=true):L=0/\I2 sg mt:=by unfold qP at h;rw[RA,RA]at h;obtain⟨⟨h1,h2⟩,h3⟩:=h;have h1:=RU h1;have h2:=RU h2;have h3:=RU h3;subst h3;obtain⟨a,b⟩:=BY h1.2.2.2.2.2.1 h1.2.1 h2;exact⟨rfl,h1,a,b⟩
theorem Ju(w:World)(xs ys:List Int)(L:Int)(cs ds:Array Value)(VE:cs=(xs.map (Value.int .i64)).toArray)(hds:ds=(ys.map (Value.int .i64)).toArray):
  bI (((w.alloc (.cells cs 3)).alloc (.cells ds 3)).alloc (.cells #[.slice (some ⟨w.heap.size,0,none⟩) xs.length xs.length,.slice (some ⟨w.heap.size+1,0,none⟩) ys.length ys.length,.int .i64 L] 24)) (w.heap.size+1+1)
   (some ⟨w.heap.size,0,none⟩) (some ⟨w.heap.size+1,0,none⟩) xs.length ys.length xs ys L/\
  Below w.heap.size w (((w.alloc (.cells cs 3)).alloc (.cells ds 3)).alloc (.cells #[.slice (some ⟨w.heap.size,0,none⟩) xs.length xs.length,.slice (some ⟨w.heap.size+1,0,none⟩) ys.length ys.length,.int .i64 L] 24)):=by
 have h1:=((Ia w xs (·<w.heap.size+1) oZ cs VE).alloc (fun b hb=>by simpa using hb) (.cells ds 3)).imp (T:=(·<w.heap.size+1+1)) fun b hb=>by omega
 have h2:=Ia (w.alloc (.cells cs 3)) ys (·<w.heap.size+1+1) oX ds hds;have e1:(w.alloc (.cells cs 3)).heap.size=w.heap.size+1:=oX;have hb:Below w.heap.size w ((w.alloc (.cells cs 3)).alloc (.cells ds 3)):=((Rh _ _).alloc (Rf _) _).alloc oX _;rw[e1]at h2;generalize hW:(w.alloc (.cells cs 3)).alloc (.cells ds 3)=W at*;have hs:W.heap.size=w.heap.size+1+1:=by rw[<-hW];simp
 have:=bI.start (c1:=xs.length) (c2:=ys.length) (L:=L) (w:=W) (·<w.heap.size+1+1) h1 h2 (fun b hb=>by omega);rw[hs]at this;exact⟨this,hb.alloc oZ _⟩
abbrev JG:List Int:=[1]
abbrev I3:List Int:=[1,0,3,2]
theorem GM:cJ JG I3 0:=by decide+kernel
theorem Jg:rows (aC I3)=[[0],[1,3],[2]]:=by decide+kernel
theorem LY:(iR JG I3).length=1:=by decide+kernel
theorem GO(w:World):Calls Tryz.prog 4 #[] w fun e w'=>e= .returned (.bool true)/\Below w.heap.size w w':=by
 have Wx:=Ju w JG I3 0 #[.int .i64 1] #[.int .i64 1,.int .i64 0,.int .i64 3,.int .i64 2] rfl rfl;have HX:=Rb Wx;clear Wx;go_enter Tryz.func4,Tryz.ntmps4
 go_wp2_with fail;obtain⟨W,hW⟩:∃W,((w.alloc (.cells #[.int .i64 1] 3)).alloc (.cells #[.int .i64 1,.int .i64 0,.int .i64 3,.int .i64 2] 3)).alloc (.cells #[.slice (some ⟨w.heap.size,0,none⟩) 1 1,.slice (some ⟨w.heap.size+1,0,none⟩) 4 4,.int .i64 0] 24)=W:=⟨_,rfl⟩
 have hD:bI W (w.heap.size+1+1) (some ⟨w.heap.size,0,none⟩) (some ⟨w.heap.size+1,0,none⟩) 1 4 JG I3 0:=by rw[<-hW];exact HX.out.1
 have hB:Below w.heap.size w W:=by rw[<-hW];exact HX.out.2
 rw[hW];have HD:=Rb hD;have HB:=Rb hB;clear hW hD hB HX;refine(eP (sg:=JG) (mt:=I3) (c1:=1) (c2:=4) (·<W.heap.size) true HD.out.rs HD.out.rm (fun _ h=>h) oQ oQ (Rj GM)).mono ?_;rintro e w1 ⟨rfl,Vi⟩;have Vp:=Rb (HD.out.below Vi);have Vr:=Rb (HB.out.trans (Vi.mono HB.out.size));have k0:=Vp.out.c0;have k1:=Vp.out.c1;have k2:=Vp.out.c2;simp only[show JG.length=1 from rfl]at k0;simp only[show I3.length=4 from rfl]at k1;clear Vi HD HB;go_wp2_with fail;refine(uL _ _ 1 4 JG I3 0 w1 (·<w1.heap.size) Vp.out.rs Vp.out.rm (fun _ h=>h) GM).mono ?_;rintro e w2 ⟨rfl,Vj⟩;rw[LY];have Ws:=Rb (Vp.out.below Vj);have VD:=Rb (Vr.out.trans (Vj.mono Vr.out.size));clear Vj Vp Vr k0 k1 k2;have k0:=Ws.out.c0;have k1:=Ws.out.c1;have k2:=Ws.out.c2;simp only[show JG.length=1 from rfl]at k0;simp only[show I3.length=4 from rfl]at k1;go_wp2_with fail;refine(nQ _ _ 1 4 JG I3 0 w2 (·<w2.heap.size) Ws.out.rs Ws.out.rm (fun _ h=>h) GM).mono ?_;rintro e w3 ⟨v,rfl,hr,Vt⟩;obtain⟨Av,cv,rfl,-,-,-⟩:=hr.shape;rw[Jg];have XY:=Rb (VD.out.trans (Vt.mono VD.out.size));clear Vt hr VD Ws k0 k1 k2;go_wp2_with fail;go_ret;exact⟨rfl,XY.out⟩
theorem gM(e:Int)(w:World):Calls Tryz.prog 8 #[.int .i64 e] w fun r w'=>r= .returned (.bool (decide (e=5\/e=9)))/\w'=w:=by
 by_cases h5:e=5
 ·subst h5
  go_enter Tryz.func8,Tryz.ntmps8
  go_wp2_with fail;go_ret;exact⟨rfl,rfl⟩
 ·have q5:(e==5)=false:=by rw[Rs];exact h5
  by_cases h9:e=9
  ·subst h9
   go_enter Tryz.func8,Tryz.ntmps8
   go_wp2_with fail;go_ret;exact⟨rfl,rfl⟩
  ·have q9:(e==9)=false:=by rw[Rs];exact h9
   have hd:decide (e=5\/e=9)=false:=Rl oZ;go_enter Tryz.func8,Tryz.ntmps8
   go_wp2_with fail;go_ret;exact⟨by rw[hd];rfl,rfl⟩
section
variable{A1 A2:Option Addr}{c1 c2:Nat}{sg mt:List Int}{L:Int}(w:World)(S:Nat->Prop)(hx:RI w S A1 sg)(hy:RI w S A2 mt)(hS:∀b,S b->b<w.heap.size)
include hx hy hS
theorem rU(VL:sg.length<=maxLen)(Wb:mt.length<=maxLen):
  Calls Tryz.prog 5 #[.agg #[.slice A1 sg.length c1,.slice A2 mt.length c2,.int .i64 L]] w fun e w'=>e= .returned (.bool (qP sg mt L))/\Below w.heap.size w w':=by
 have HD:=Rb (bI.start (c1:=c1) (c2:=c2) (L:=L) S hx hy hS);have VW:Hid (Below w.heap.size w (w.alloc (.cells #[.slice A1 sg.length c1,.slice A2 mt.length c2,.int .i64 L] 24))):=Rb ((Rh _ _).alloc (Rf _) _);clear hx hy hS;go_enter Tryz.func5,Tryz.ntmps5
 go_wp2_with fail;obtain⟨W,hW⟩:∃W,w.alloc (.cells #[.slice A1 sg.length c1,.slice A2 mt.length c2,.int .i64 L] 24)=W:=⟨_,rfl⟩
 rw[hW]at HD VW⊢;clear hW;refine(gl A1 A2 c1 c2 sg mt L W (·<W.heap.size) HD.out.rs HD.out.rm (fun _ h=>h) VL Wb).mono ?_;rintro e w1 ⟨rfl,hb⟩;have Vp:=Rb (HD.out.below hb);have Vr:=Rb (VW.out.trans (hb.mono VW.out.size));clear HD VW hb;have k0:=Vp.out.c0;have k1:=Vp.out.c1;have k2:=Vp.out.c2;by_cases hd:cJ sg mt L
 ·rw[Rj hd]
  have HV:=Rb hd;have hl256:(dq mt sg.length).length<=1000:=by
   have e:=iV hd.2.2.2.2.2.1 hd.2.1;have hl:(dq mt sg.length).length=av mt sg.length sg.length:=by rw[<-e];simp
   have h1:=hd.1;have h2:av mt sg.length sg.length<=sg.length:=rE _ _;omega
  clear hd;go_wp2_with fail;refine(rT A1 A2 c1 c2 sg mt L w1 (·<w1.heap.size) Vp.out.rs Vp.out.rm (fun _ h=>h) HV.out).mono ?_;rintro e w2 ⟨v,rfl,hr,hb⟩;obtain⟨Ag,cg,rfl,-,-,-⟩:=hr.shape;rw[show(rows (dq mt sg.length)).length=(dq mt sg.length).length by unfold rows;rw[Sa]];have Ws:=Rb (Vp.out.below hb);have VD:=Rb (Vr.out.trans (hb.mono Vr.out.size));clear hr hb k0 k1 k2 Vp Vr;have k2:=Ws.out.c2;obtain⟨g,hg⟩:∃g,(dq mt sg.length).length=g:=⟨_,rfl⟩
  rw[hg]at hl256⊢;have HG:=Rb hg;clear hg;by_cases h1:g=1
  ·subst h1
   by_cases hL:L=0;{subst hL;go_wp2_with fail;go_ret;exact⟨by unfold qP;rw[Rj HV.out,HG.out];rfl,VD.out⟩}
   ·have q:(L==0)=false:=by rw[Rs];exact hL
    have hq:=Rl hL;go_wp2_with fail;go_ret;exact⟨by unfold qP;rw[hq,UX];rfl,VD.out⟩
  ·have q:((g:Int)==1)=false:=by rw[Rs];omega
   have hq:=Rl h1;go_wp2_with fail;go_ret;exact⟨by unfold qP;rw[HG.out,hq,UX,UU];rfl,VD.out⟩
 {rw[Rl hd];have HQ:=Rb (Rl hd);clear hd;go_wp2_with fail;go_ret;exact⟨by unfold qP;rw[HQ.out,UU,UU];rfl,Vr.out⟩}
end

open Classical



theorem mg(x y b:Nat)(hb:b<=1)(w:World):(callFunc 107 #[.int .u64 x,.int .u64 y,.int .u64 b]).run Tryz.prog w=
  .ok (.value (.tuple #[.int .u64 (((x+18446744073709551616-y-b)%18446744073709551616:Nat):Int),.int .u64 ((if x<y+b then 1 else 0:Nat):Int)])) w:=by
 rw[run_callFunc_extern Tryz.func107 qk qk qk (e:=(Extern.MathBitsCarry.rows[1]).2) qk];have:b=0\/b=1:=oZ;rcases this with rfl|rfl<;>rfl
theorem AR(h l h1 l1 b1:Nat)(e1:(18446744073709551616-l)%18446744073709551616=l1)(e2:(if 0<l then 1 else 0)=b1)(e3:(18446744073709551616-h-b1)%18446744073709551616=h1)(w:World):
  Calls Tryz.prog 108 #[.int .u64 h,.int .u64 l] w fun e w'=>e= .returned (.tuple #[.int .u64 h1,.int .u64 l1])/\w=w':=by
 have s1:∀w,(callFunc 107 #[.int .u64 0,.int .u64 (l:Int),.int .u64 0]).run Tryz.prog w= .ok (.value (.tuple #[.int .u64 (l1:Int),.int .u64 (b1:Int)])) w:=fun w=>by have:=mg 0 l 0 oZ w;rw[show 0+18446744073709551616-l-0=18446744073709551616-l by omega,e1,show(if 0<l+0 then 1 else 0)=b1 from e2]at this;exact this
 obtain⟨b2,Vj⟩:∃x,(if 0<h+b1 then 1 else 0:Nat)=x:=⟨_,rfl⟩
 have s2:∀w,(callFunc 107 #[.int .u64 0,.int .u64 (h:Int),.int .u64 (b1:Int)]).run Tryz.prog w= .ok (.value (.tuple #[.int .u64 (h1:Int),.int .u64 (b2:Int)])) w:=fun w=>by have:=mg 0 h b1 (by rw[<-e2];split<;>omega) w;rw[show 0+18446744073709551616-h-b1=18446744073709551616-h-b1 by omega,e3,Vj]at this;exact this
 clear e1 e2 e3 Vj;go_enter Tryz.func108,Tryz.ntmps108
 go_wp2_with(simp only[s1,s2]);go_ret2;exact⟨rfl,rfl⟩
def kK(h l:Nat)(v:Int):Prop:=h<18446744073709551616/\l<18446744073709551616/\(h:Int)*18446744073709551616+l=if v<0 then v+340282366920938463463374607431768211456 else v
theorem kK.neg{h l:Nat}{v:Int}(hp:kK h l v)(hv:v.natAbs<170141183460469231731687303715884105728)(w:World):
  Calls Tryz.prog 108 #[.int .u64 h,.int .u64 l] w fun e w'=>∃h' l':Nat,e= .returned (.tuple #[.int .u64 h',.int .u64 l'])/\w=w'/\kK h' l' (-v):=by
 refine(AR h l _ _ _ rfl rfl rfl w).mono ?_;rintro e w' ⟨rfl,rfl⟩;refine⟨_,_,rfl,rfl,?_⟩;obtain⟨h1,h2,h3⟩:=hp;unfold kK;refine⟨RY _ oQ,RY _ oQ,?_⟩;by_cases hl:0<l;{rw[Re hl];split at h3<;>split<;>omega};{rw[Rc hl];split at h3<;>split<;>omega}
theorem zF(a b:Int)(x y:Nat)(hx:(if a< -a then-a else a)=x)(hy:(if b< -b then-b else b)=y)(xl:x<9223372036854775808)(yl:y<9223372036854775808)
    (wa:IntKind.i64.wrap (-a)= -a)(wb:IntKind.i64.wrap (-b)= -b)(v:Int)(hv:(x:Int)*y=v)(sa sb:Bool)(hsa:decide (a<0)=sa)(hsb:decide (b<0)=sb)(w:World):
    Calls Tryz.prog 106 #[.int .i64 a,.int .i64 b] w fun e w'=>∃h l:Nat,e= .returned (.tuple #[.int .u64 h,.int .u64 l])/\w=w'/\kK h l (if(sa !=sb)=true then-v else v):=by
  have wx:IntKind.u64.wrap (x:Int)=(x:Int):=bN _ oZ;have wy:IntKind.u64.wrap (y:Int)=(y:Int):=bN _ oZ;have XL:=Rb (show x<18446744073709551616 by omega);have YL:=Rb (show y<18446744073709551616 by omega);have hb:x*y<=9223372036854775807*9223372036854775807:=S4 oZ oZ;have hm:=xm x y;rw[hv]at hm;have HP:Hid (kK (x*y/18446744073709551616) (x*y%18446744073709551616) v):=by
    refine⟨Nat.div_lt_of_lt_mul oZ,RY _ oQ,?_⟩;generalize x*y=m at hb hm⊢;rw[Rc oZ];omega
  have HV:Hid (v.natAbs<170141183460469231731687303715884105728):=Rb oZ;obtain⟨h,hh⟩:∃z,x*y/18446744073709551616=z:=⟨_,rfl⟩
  obtain⟨l,hl⟩:∃z,x*y%18446744073709551616=z:=⟨_,rfl⟩
  rw[hh,hl]at HP;have HH:=Rb hh;have HL:=Rb hl;clear hb hm hh hl xl yl hv;go_enter Tryz.func106,Tryz.ntmps106
  go_wp2_with(simp only[hx,hy]);refine(vp x y XL.out YL.out w).mono ?_;rintro e w1 ⟨rfl,rfl⟩;rw[HH.out,HL.out]
  cases sa<;>cases sb
  (all_goals go_wp2_with fail)
  all_goals first
    |(
       refine(HP.out.neg HV.out w).mono ?_;rintro e w1 ⟨h',l',rfl,rfl,hp⟩;have X7:=Rb hp;clear hp;go_wp2_with fail;go_ret2;exact⟨h',l',rfl,rfl,X7.out⟩)
    |(
       go_ret2;exact⟨_,_,rfl,rfl,HP.out⟩)
theorem qu(a b:Int)(ha:a.natAbs<4611686018427387904)(hb:b.natAbs<4611686018427387904)(w:World):
  Calls Tryz.prog 106 #[.int .i64 a,.int .i64 b] w fun e w'=>∃h l:Nat,e= .returned (.tuple #[.int .u64 h,.int .u64 l])/\w=w'/\kK h l (a*b):=by
 have hx:(if a< -a then-a else a)=(a.natAbs:Int):=by split<;>omega
 have hy:(if b< -b then-b else b)=(b.natAbs:Int):=by split<;>omega
 refine(zF a b a.natAbs b.natAbs hx hy oZ oZ (by rw[Sg];omega) (by rw[Sg];omega) _ rfl _ _ rfl rfl w).mono ?_;rintro e w' ⟨h,l,rfl,hw,hp⟩;refine⟨h,l,rfl,hw,?_⟩;have:(if(decide (a<0)!=decide (b<0))=true then-((a.natAbs:Int)*b.natAbs)else(a.natAbs:Int)*b.natAbs)=a*b:=by by_cases h1:a<0<;>by_cases h2:b<0;{rw[Rj h1,Rj h2,Rc oQ,show(a.natAbs:Int)= -a by omega,show(b.natAbs:Int)= -b by omega,UM]};{rw[Rj h1,Rl h2,Re oQ,show(a.natAbs:Int)= -a by omega,show(b.natAbs:Int)=b by omega,SG,Ue]};{rw[Rl h1,Rj h2,Re oQ,show(a.natAbs:Int)=a by omega,show(b.natAbs:Int)= -b by omega,SX,Ue]};{rw[Rl h1,Rl h2,Rc oQ,show(a.natAbs:Int)=a by omega,show(b.natAbs:Int)=b by omega]}
 rw[this]at hp;exact hp
theorem kK.sub{h1 l1 h2 l2:Nat}{v1 v2:Int}(p1:kK h1 l1 v1)(p2:kK h2 l2 v2)(Yx:v1.natAbs<85070591730234615865843651857942052864)(WA:v2.natAbs<85070591730234615865843651857942052864):
  kK ((h1+18446744073709551616-h2-(if l1<l2+0 then 1 else 0))%18446744073709551616) ((l1+18446744073709551616-l2-0)%18446744073709551616) (v1-v2):=by
 obtain⟨a1,a2,a3⟩:=p1;obtain⟨b1,b2,b3⟩:=p2;unfold kK;refine⟨RY _ oQ,RY _ oQ,?_⟩;by_cases hl:l1<l2+0;{rw[Re hl];split at a3<;>split at b3<;>split<;>omega};{rw[Rc hl];split at a3<;>split at b3<;>split<;>omega}
theorem kK.top{h l:Nat}{v:Int}(p:kK h l v)(hv:v.natAbs<170141183460469231731687303715884105728):((h:Int)/9223372036854775808==1)=decide (v<0):=by obtain⟨a1,a2,a3⟩:=p;by_cases h0:v<0;{rw[Re h0]at a3;rw[Rj h0,SA];omega};{rw[Rc h0]at a3;rw[Rl h0,Rs];omega}
theorem rp{h l E R:Nat}{v:Int}(p:kK h l v)(hv:v=(R:Int)*E)(h0:E≠0)(hR:R<4611686018427387904):h<E/\(h*18446744073709551616+l)/E=R:=by obtain⟨a1,a2,a3⟩:=p;rw[hv,xm]at a3;rw[Rc oZ]at a3;have e:h*18446744073709551616+l=R*E:=oZ;have hRE:R*E<=4611686018427387903*E:=To _ oZ;refine⟨oZ,?_⟩;rw[e];exact Nat.mul_div_cancel _ oZ
theorem wR(a b c d e r:Int)(ha:a.natAbs<=9007199254740992)(hb:b.natAbs<=9007199254740992)(hc:c.natAbs<=9007199254740992)(hd:d.natAbs<=9007199254740992)(he:e.natAbs<=9007199254740992)
  (h0:e≠0)(hr:a*b-c*d=r*e)(hrb:r.natAbs<4611686018427387904)(w:World):
  Calls Tryz.prog 97 #[.int .i64 a,.int .i64 b,.int .i64 c,.int .i64 d,.int .i64 e] w fun x w'=>x= .returned (.int .i64 r)/\∃n,w'=w.drewN n:=by
 have HA:=Rb (show a.natAbs<4611686018427387904 by omega);have HB:=Rb (show b.natAbs<4611686018427387904 by omega);have HC:=Rb (show c.natAbs<4611686018427387904 by omega);have HD:=Rb (show d.natAbs<4611686018427387904 by omega);have b1:(a*b).natAbs<=9007199254740992*9007199254740992:=by rw[Ud];exact S4 ha hb
 have b2:(c*d).natAbs<=9007199254740992*9007199254740992:=by rw[Ud];exact S4 hc hd
 have HS:=Rb (fun h1 l1 h2 l2 (p1:kK h1 l1 (a*b)) (p2:kK h2 l2 (c*d))=>kK.sub p1 p2 oZ oZ);have hvb:(a*b-c*d).natAbs<170141183460469231731687303715884105728:=oZ;have HVB:=Rb hvb;have HTOP:=Rb (fun h l (p:kK h l (a*b-c*d))=>p.top hvb);have HR:=Rb hr;have HRB:=Rb hrb;have HE:=Rb he;have Xq:=Rb h0;have HAB:=Rb (Ud r e);clear ha hb hc hd b1 b2 hvb hr hrb he h0;go_enter Tryz.func97,Tryz.ntmps97
 go_wp2_with fail;refine(qu a b HA.out HB.out w).mono ?_;rintro x w1 ⟨h1,l1,rfl,rfl,hp⟩;have P1:=Rb hp;clear hp;go_wp2_with fail;refine(qu c d HC.out HD.out w).mono ?_;rintro x w1 ⟨h2,l2,rfl,rfl,hp⟩;have P2:=Rb hp;clear hp;have p3:=HS.out _ _ _ _ P1.out P2.out;obtain⟨br,ZF⟩:∃x,(if l1<l2+0 then 1 else 0:Nat)=x:=⟨_,rfl⟩
 obtain⟨l3,hl3⟩:∃x,(l1+18446744073709551616-l2-0)%18446744073709551616=x:=⟨_,rfl⟩
 have s1:∀w,(callFunc 107 #[.int .u64 (l1:Int),.int .u64 (l2:Int),.int .u64 0]).run Tryz.prog w= .ok (.value (.tuple #[.int .u64 (l3:Int),.int .u64 (br:Int)])) w:=fun w=>by have:=mg l1 l2 0 oZ w;rw[hl3,ZF]at this;exact this
 rw[hl3,ZF]at p3;obtain⟨h3,hh3⟩:∃x,(h1+18446744073709551616-h2-br)%18446744073709551616=x:=⟨_,rfl⟩
 rw[hh3]at p3;obtain⟨bo,hbo⟩:∃x,(if h1<h2+br then 1 else 0:Nat)=x:=⟨_,rfl⟩
 have s2:∀w,(callFunc 107 #[.int .u64 (h1:Int),.int .u64 (h2:Int),.int .u64 (br:Int)]).run Tryz.prog w= .ok (.value (.tuple #[.int .u64 (h3:Int),.int .u64 (bo:Int)])) w:=fun w=>by have:=mg h1 h2 br (by rw[<-ZF];split<;>omega) w;rw[hh3,hbo]at this;exact this
 have t1:=HTOP.out _ _ p3;have t2:((h3:Int)/2^63==1)=decide (a*b-c*d<0):=t1;have P3:=Rb p3;clear p3 ZF hl3 hh3 hbo;obtain⟨v,hv⟩:∃x,a*b-c*d=x:=⟨_,rfl⟩
 rw[hv]at t1 t2 P3 HVB HR;clear hv HTOP HS;by_cases hv0:v<0
 ·rw[Rj hv0]at t1 t2
  by_cases e0:e<0
  ·obtain⟨E,hE⟩:∃E:Nat,e= -(E:Int):=⟨e.natAbs,oZ⟩
   obtain⟨R,hR⟩:∃R:Nat,r=(R:Int):=⟨r.natAbs,by
    have hh:=HR.out;have hn:=Xq.out;have:0<=r:=Rq fun hr=>by have:=TW (show 0<=-r by omega) (show 0<=-e by omega);rw[UM]at this;omega
    omega⟩
   have HM:=Rb (show-v=(R:Int)*E by rw[HR.out,hR,hE,SX,Ue]);have Vi:=HE.out;have Vj:=Xq.out;have Vt:=HRB.out;have Zv:=Rb (show E≠0 by omega);have HRR:=Rb (show R<4611686018427387904 by omega);have HEL:=Rb (show E<18446744073709551616 by omega);have we:IntKind.i64.wrap (-e)=(E:Int):=by rw[Sg];omega
   have te:decide (e<0)=true:=Rj e0;have wu:IntKind.u64.wrap (E:Int)=(E:Int):=bN _ oZ;have wr:IntKind.i64.wrap (R:Int)=(R:Int):=by rw[Sg];omega
   have wn:IntKind.i64.wrap (-(R:Int))= -(R:Int):=by rw[Sg];omega
   clear e0 Vi Vj Vt hE hv0;go_wp2_with(first|rw[s1]|rw[s2]);refine(P3.out.neg HVB.out w).mono ?_;rintro x w1 ⟨h4,l4,rfl,rfl,hp⟩;obtain⟨q1,q2⟩:=rp hp HM.out Zv.out HRR.out;have HL4:=Rb hp.2.1;have g1:decide ((E:Int)<=(h4:Int))=false:=Rl oZ;have g2:decide (E<=h4)=false:=Rl oZ;have Xo:=Rb q1;have Zp:=Rb q2;clear q1 q2 hp;go_wp2_with fail;refine(jV h4 l4 E HEL.out Zv.out Xo.out HL4.out w).mono ?_;rintro x w1 ⟨rfl,n,hw⟩;have HW:=Rb hw;clear hw;rw[Zp.out];generalize(((h4*18446744073709551616+l4)%E:Nat):Int)=rm;subst hR;go_wp2_with fail;go_ret;exact⟨rfl,n,HW.out⟩
  ·obtain⟨E,hE⟩:∃E:Nat,e=(E:Int):=⟨e.natAbs,oZ⟩
   obtain⟨R,hR⟩:∃R:Nat,r= -(R:Int):=⟨r.natAbs,by
    have hh:=HR.out;have hn:=Xq.out;have:r<=0:=Rq fun hr=>by have:=TW (show 0<=r by omega) (show 0<=e by omega);omega
    omega⟩
   have HM:=Rb (show-v=(R:Int)*E by rw[HR.out,hR,hE,SG,Ue]);have Vi:=HE.out;have Vj:=Xq.out;have Vt:=HRB.out;have Zv:=Rb (show E≠0 by omega);have HRR:=Rb (show R<4611686018427387904 by omega);have HEL:=Rb (show E<18446744073709551616 by omega);subst hE;have te:decide ((E:Int)<0)=false:=Rl e0;have wu:IntKind.u64.wrap (E:Int)=(E:Int):=bN _ oZ;have wr:IntKind.i64.wrap (R:Int)=(R:Int):=by rw[Sg];omega
   have wn:IntKind.i64.wrap (-(R:Int))= -(R:Int):=by rw[Sg];omega
   clear e0 Vi Vj Vt hv0;go_wp2_with(first|rw[s1]|rw[s2]);refine(P3.out.neg HVB.out w).mono ?_;rintro x w1 ⟨h4,l4,rfl,rfl,hp⟩;obtain⟨q1,q2⟩:=rp hp HM.out Zv.out HRR.out;have HL4:=Rb hp.2.1;have g1:decide ((E:Int)<=(h4:Int))=false:=Rl oZ;have g2:decide (E<=h4)=false:=Rl oZ;have Xo:=Rb q1;have Zp:=Rb q2;clear q1 q2 hp;go_wp2_with fail;refine(jV h4 l4 E HEL.out Zv.out Xo.out HL4.out w).mono ?_;rintro x w1 ⟨rfl,n,hw⟩;have HW:=Rb hw;clear hw;rw[Zp.out];generalize(((h4*18446744073709551616+l4)%E:Nat):Int)=rm;subst hR;go_wp2_with fail;go_ret;exact⟨rfl,n,HW.out⟩
 ·rw[Rl hv0]at t1 t2
  by_cases e0:e<0
  ·obtain⟨E,hE⟩:∃E:Nat,e= -(E:Int):=⟨e.natAbs,oZ⟩
   obtain⟨R,hR⟩:∃R:Nat,r= -(R:Int):=⟨r.natAbs,by
    have hh:=HR.out;have hn:=Xq.out;have:r<=0:=Rq fun hr=>by have:=TA (show 0<r by omega) (show 0< -e by omega);rw[SX]at this;omega
    omega⟩
   have HM:=Rb (show v=(R:Int)*E by rw[HR.out,hR,hE,UM]);have Vi:=HE.out;have Vj:=Xq.out;have Vt:=HRB.out;have Zv:=Rb (show E≠0 by omega);have HRR:=Rb (show R<4611686018427387904 by omega);have HEL:=Rb (show E<18446744073709551616 by omega);have we:IntKind.i64.wrap (-e)=(E:Int):=by rw[Sg];omega
   have te:decide (e<0)=true:=Rj e0;have wu:IntKind.u64.wrap (E:Int)=(E:Int):=bN _ oZ;have wr:IntKind.i64.wrap (R:Int)=(R:Int):=by rw[Sg];omega
   have wn:IntKind.i64.wrap (-(R:Int))= -(R:Int):=by rw[Sg];omega
   clear e0 Vi Vj Vt hE hv0;obtain⟨q1,q2⟩:=rp P3.out HM.out Zv.out HRR.out;have HL4:=Rb P3.out.2.1;have g1:decide ((E:Int)<=(h3:Int))=false:=Rl oZ;have g2:decide (E<=h3)=false:=Rl oZ;have Xo:=Rb q1;have Zp:=Rb q2;clear q1 q2;go_wp2_with(first|rw[s1]|rw[s2]);refine(jV h3 l3 E HEL.out Zv.out Xo.out HL4.out w).mono ?_;rintro x w1 ⟨rfl,n,hw⟩;have HW:=Rb hw;clear hw;rw[Zp.out];generalize(((h3*18446744073709551616+l3)%E:Nat):Int)=rm;subst hR;go_wp2_with fail;go_ret;exact⟨rfl,n,HW.out⟩
  ·obtain⟨E,hE⟩:∃E:Nat,e=(E:Int):=⟨e.natAbs,oZ⟩
   obtain⟨R,hR⟩:∃R:Nat,r=(R:Int):=⟨r.natAbs,by
    have hh:=HR.out;have hn:=Xq.out;have:0<=r:=Rq fun hr=>by have:=TA (show 0< -r by omega) (show 0<e by omega);rw[SG]at this;omega
    omega⟩
   have HM:=Rb (show v=(R:Int)*E by rw[HR.out,hR,hE]);have Vi:=HE.out;have Vj:=Xq.out;have Vt:=HRB.out;have Zv:=Rb (show E≠0 by omega);have HRR:=Rb (show R<4611686018427387904 by omega);have HEL:=Rb (show E<18446744073709551616 by omega);subst hE;have te:decide ((E:Int)<0)=false:=Rl e0;have wu:IntKind.u64.wrap (E:Int)=(E:Int):=bN _ oZ;have wr:IntKind.i64.wrap (R:Int)=(R:Int):=by rw[Sg];omega
   have wn:IntKind.i64.wrap (-(R:Int))= -(R:Int):=by rw[Sg];omega
   clear e0 Vi Vj Vt hv0;obtain⟨q1,q2⟩:=rp P3.out HM.out Zv.out HRR.out;have HL4:=Rb P3.out.2.1;have g1:decide ((E:Int)<=(h3:Int))=false:=Rl oZ;have g2:decide (E<=h3)=false:=Rl oZ;have Xo:=Rb q1;have Zp:=Rb q2;clear q1 q2;go_wp2_with(first|rw[s1]|rw[s2]);refine(jV h3 l3 E HEL.out Zv.out Xo.out HL4.out w).mono ?_;rintro x w1 ⟨rfl,n,hw⟩;have HW:=Rb hw;clear hw;rw[Zp.out];generalize(((h3*18446744073709551616+l3)%E:Nat):Int)=rm;subst hR;go_wp2_with fail;go_ret;exact⟨rfl,n,HW.out⟩
structure Ly where
 (ba bd bb bp bq bA bD:Nat)
 (bs cp:Nat->Nat)
 (P Q:Option Addr)
structure EW(w:World)(L:Ly)(n:Nat)(a:Mx)(dn:Nat->Bool)(b:Int)(p q:Nat):Prop where
 ca:w.cell? ⟨L.ba,0,none⟩=some (.slice L.P n n)
 cd:w.cell? ⟨L.bd,0,none⟩=some (.slice L.Q n n)
 cb:w.cell? ⟨L.bb,0,none⟩=some (.int .i64 b)
 cp:w.cell? ⟨L.bp,0,none⟩=some (.int .i64 p)
 cq:w.cell? ⟨L.bq,0,none⟩=some (.int .i64 q)
 fb:w.frozen? ⟨L.bb,0,none⟩=false
 fp:w.frozen? ⟨L.bp,0,none⟩=false
 fq:w.frozen? ⟨L.bq,0,none⟩=false
 tp:0<n->L.P=some ⟨L.bA,0,none⟩/\L.Q=some ⟨L.bD,0,none⟩
 hd:∀i,i<n->w.cell? ⟨L.bA,i,none⟩=some (.slice (some ⟨L.bs i,0,none⟩) n (L.cp i))
 en:∀i j,i<n->j<n->w.cell? ⟨L.bs i,j,none⟩=some (.int .i64 (a i j))
 fr:∀i j,i<n->j<n->w.frozen? ⟨L.bs i,j,none⟩=false
 dc:∀i,i<n->w.cell? ⟨L.bD,i,none⟩=some (.bool (dn i))
 fd:∀i,i<n->w.frozen? ⟨L.bD,i,none⟩=false
 od:L.bp<L.bq/\L.bq<L.bA/\L.bA<L.ba/\L.ba<L.bD/\L.bD<L.bd/\L.bd<L.bb/\L.bb<w.heap.size
 os:∀i,i<n->L.ba<L.bs i/\L.bs i<L.bD
 oi:∀i j,i<j->j<n->L.bs i<L.bs j
theorem aJ{w:World}{b c j k:Nat}{v:Value}(h:b≠c):(w.setCell ⟨b,j,none⟩ v).cell? ⟨c,k,none⟩=w.cell? ⟨c,k,none⟩:=aW fun e=>by injection e with e;exact h e
theorem iP{w:World}{b j k:Nat}{v:Value}(h:j≠k):(w.setCell ⟨b,j,none⟩ v).cell? ⟨b,k,none⟩=w.cell? ⟨b,k,none⟩:=aW fun e=>by injection e with _ e;exact h e
section
variable{w w':World}{L:Ly}{n:Nat}{a:Mx}{dn:Nat->Bool}{b:Int}{p q:Nat}
theorem EW.heap(h:EW w L n a dn b p q)(e:w'.heap=w.heap):EW w' L n a dn b p q:=by
 have c:∀x,w'.cell? x=w.cell? x:=fun x=>Ri (by rw[e])
 have f:∀x,w'.frozen? x=w.frozen? x:=fun x=>Ro (by rw[e])
 exact⟨by rw[c];exact h.ca,by rw[c];exact h.cd,by rw[c];exact h.cb,by rw[c];exact h.cp,by rw[c];exact h.cq,by rw[f];exact h.fb,by rw[f];exact h.fp,by rw[f];exact h.fq,h.tp,fun i hi=>by rw[c];exact h.hd i hi,
  fun i j hi hj=>by rw[c];exact h.en i j hi hj,fun i j hi hj=>by rw[f];exact h.fr i j hi hj,fun i hi=>by rw[c];exact h.dc i hi,fun i hi=>by rw[f];exact h.fd i hi,by rw[e];exact h.od,h.os,h.oi⟩
theorem EW.congr{a':Mx}{dn':Nat->Bool}(h:EW w L n a dn b p q)(he:∀i j,i<n->j<n->a i j=a' i j)(hd:∀i,i<n->dn i=dn' i):EW w L n a' dn' b p q:=
 {h with en:=fun i j hi hj=>by rw[<-he i j hi hj];exact h.en i j hi hj,dc:=fun i hi=>by rw[<-hd i hi];exact h.dc i hi}
theorem EW.Qs(h:EW w L n a dn b p q){i j:Nat}(hi:i<n)(hj:j<n)(Vh:i≠j):L.bs i≠L.bs j:=by
 rcases US Vh with k|k
 {have:=h.oi i j k hj;omega};{have:=h.oi j i k hi;omega}
theorem EW.store(h:EW w L n a dn b p q){i j:Nat}(hi:i<n)(hj:j<n)(v:Int):
  EW (w.setCell ⟨L.bs i,j,none⟩ (.int .i64 v)) L n (fun x y=>if x=i/\y=j then v else a x y) dn b p q:=by
 obtain⟨o1,o2,o3,o4,o5,o6,o7⟩:=h.od;obtain⟨s1,s2⟩:=h.os i hi;refine⟨by rw[aJ oZ];exact h.ca,by rw[aJ oZ];exact h.cd,by rw[aJ oZ];exact h.cb,by rw[aJ oZ];exact h.cp,by rw[aJ oZ];exact h.cq,by rw[Rp];exact h.fb,
  by rw[Rp];exact h.fp,by rw[Rp];exact h.fq,h.tp,fun x hx=>by rw[aJ oZ];exact h.hd x hx,fun x y hx hy=>?_,fun x y hx hy=>by rw[Rp];exact h.fr x y hx hy,
  fun x hx=>by rw[aJ oZ];exact h.dc x hx,fun x hx=>by rw[Rp];exact h.fd x hx,by rw[RS];exact h.od,h.os,h.oi⟩
 by_cases e:x=i/\y=j;{obtain⟨rfl,rfl⟩:=e;rw[Re ⟨rfl,rfl⟩];exact bV (h.en x y hx hy)};{rw[Rc e];by_cases ex:x=i;{subst ex;rw[iP oZ];exact h.en x y hx hy};{rw[aJ (h.Qs hi hx (TM ex))];exact h.en x y hx hy}}
theorem EW.PT(h:EW w L n a dn b p q){i:Nat}(hi:i<n)(v:Bool):EW (w.setCell ⟨L.bD,i,none⟩ (.bool v)) L n a (fun x=>if x=i then v else dn x) b p q:=by
 obtain⟨o1,o2,o3,o4,o5,o6,o7⟩:=h.od;refine⟨by rw[aJ oZ];exact h.ca,by rw[aJ oZ];exact h.cd,by rw[aJ oZ];exact h.cb,by rw[aJ oZ];exact h.cp,by rw[aJ oZ];exact h.cq,by rw[Rp];exact h.fb,
  by rw[Rp];exact h.fp,by rw[Rp];exact h.fq,h.tp,fun x hx=>by rw[aJ oZ];exact h.hd x hx,fun x y hx hy=>by have:=h.os x hx;rw[aJ oZ];exact h.en x y hx hy,
  fun x y hx hy=>by rw[Rp];exact h.fr x y hx hy,fun x hx=>?_,fun x hx=>by rw[Rp];exact h.fd x hx,by rw[RS];exact h.od,h.os,h.oi⟩
 by_cases e:x=i;{subst e;rw[Re rfl];exact bV (h.dc x hx)};{rw[Rc e,iP (TM e)];exact h.dc x hx}
theorem EW.PV(h:EW w L n a dn b p q)(v:Int):EW (w.setCell ⟨L.bb,0,none⟩ (.int .i64 v)) L n a dn v p q:=by
 obtain⟨o1,o2,o3,o4,o5,o6,o7⟩:=h.od;exact⟨by rw[aJ oZ];exact h.ca,by rw[aJ oZ];exact h.cd,bV h.cb,by rw[aJ oZ];exact h.cp,by rw[aJ oZ];exact h.cq,by rw[Rp];exact h.fb,
  by rw[Rp];exact h.fp,by rw[Rp];exact h.fq,h.tp,fun x hx=>by rw[aJ oZ];exact h.hd x hx,fun x y hx hy=>by have:=h.os x hx;rw[aJ oZ];exact h.en x y hx hy,
  fun x y hx hy=>by rw[Rp];exact h.fr x y hx hy,fun x hx=>by rw[aJ oZ];exact h.dc x hx,fun x hx=>by rw[Rp];exact h.fd x hx,by rw[RS];exact h.od,h.os,h.oi⟩
theorem EW.Qq(h:EW w L n a dn b p q)(v:Nat):EW (w.setCell ⟨L.bp,0,none⟩ (.int .i64 v)) L n a dn b v q:=by
 obtain⟨o1,o2,o3,o4,o5,o6,o7⟩:=h.od;exact⟨by rw[aJ oZ];exact h.ca,by rw[aJ oZ];exact h.cd,by rw[aJ oZ];exact h.cb,bV h.cp,by rw[aJ oZ];exact h.cq,by rw[Rp];exact h.fb,
  by rw[Rp];exact h.fp,by rw[Rp];exact h.fq,h.tp,fun x hx=>by rw[aJ oZ];exact h.hd x hx,fun x y hx hy=>by have:=h.os x hx;rw[aJ oZ];exact h.en x y hx hy,
  fun x y hx hy=>by rw[Rp];exact h.fr x y hx hy,fun x hx=>by rw[aJ oZ];exact h.dc x hx,fun x hx=>by rw[Rp];exact h.fd x hx,by rw[RS];exact h.od,h.os,h.oi⟩
theorem EW.Pz(h:EW w L n a dn b p q)(v:Nat):EW (w.setCell ⟨L.bq,0,none⟩ (.int .i64 v)) L n a dn b p v:=by
 obtain⟨o1,o2,o3,o4,o5,o6,o7⟩:=h.od;exact⟨by rw[aJ oZ];exact h.ca,by rw[aJ oZ];exact h.cd,by rw[aJ oZ];exact h.cb,by rw[aJ oZ];exact h.cp,bV h.cq,by rw[Rp];exact h.fb,
  by rw[Rp];exact h.fp,by rw[Rp];exact h.fq,h.tp,fun x hx=>by rw[aJ oZ];exact h.hd x hx,fun x y hx hy=>by have:=h.os x hx;rw[aJ oZ];exact h.en x y hx hy,
  fun x y hx hy=>by rw[Rp];exact h.fr x y hx hy,fun x hx=>by rw[aJ oZ];exact h.dc x hx,fun x hx=>by rw[Rp];exact h.fd x hx,by rw[RS];exact h.od,h.os,h.oi⟩
end
theorem x_{w:World}{L:Ly}{n:Nat}{a:Mx}{dn:Nat->Bool}{b:Int}{p q:Nat}(h:EW w L n a dn b p q)(hn:n<=64):
  Calls Tryz.prog 98 #[.slice L.P n n,.slice L.Q n n] w fun e w'=>w=w'/\((∃i,i<n/\dn i=false/\a i i≠0/\e= .returned (.tuple #[.int .i64 i,.bool true]))\/((∀i,i<n->dn i=false->a i i=0)/\e= .returned (.tuple #[.int .i64 0,.bool false]))):=by
 have HE:=Rb h;clear h;go_enter Tryz.func98,Tryz.ntmps98
 go_wp2_with fail;go_loopw[9] (fun i' wr=>∃i:Nat,i'= .int .i64 i/\i<=n/\w=wr/\Hid (∀j,j<i->dn j=false->a j j=0)) (fun i _=>n-(intOf i).toNat)
 case atStart=>exact⟨0,rfl,Rv _,rfl,Rb fun j hj=>absurd hj (RG _)⟩
 case round=>
  obtain⟨i,rfl,Vn,rfl,HZ⟩:=hrel;by_cases Vg:i<n
  ·obtain⟨t1,t2⟩:=HE.out.tp oZ
   rw[t1,t2];have h1:=HE.out.hd i Vg;have h2:=HE.out.en i i Vg Vg;have h3:=HE.out.dc i Vg;clear t1 t2;obtain⟨v,hv⟩:∃v,a i i=v:=⟨_,rfl⟩
   rw[hv]at h2;have HV:=Rb hv;clear hv
   cases hd:dn i
   ·rw[hd]at h3
    have HD:=Rb hd;clear hd;by_cases hz:v=0
    ·subst hz
     have HN:Hid (∀j,j<i+1->dn j=false->a j j=0):=Rb fun j hj hd=>by by_cases e:j=i;{rw[e];exact HV.out};{exact HZ.out j oZ hd}
     go_wp2_with fail;go_roundw
     case rel=>exact⟨i+1,by go_num,oZ,by trivial,HN⟩
     case measure=>simp[intOf];omega
    ·have hv':(v !=0)=true:=by rw[RZ];exact hz
     have HZV:=Rb hz;clear hz;go_wp2_with fail;go_ret2;exact⟨rfl,Or.inl ⟨i,Vg,HD.out,by rw[HV.out];exact HZV.out,rfl⟩⟩
   ·rw[hd]at h3
    have HD:=Rb hd;clear hd;have HN:Hid (∀j,j<i+1->dn j=false->a j j=0):=Rb fun j hj hd=>by by_cases e:j=i;{rw[e,HD.out]at hd;exact absurd hd oQ};{exact HZ.out j oZ hd}
    go_wp2_with fail;go_roundw
    case rel=>exact⟨i+1,by go_num,oZ,by trivial,HN⟩
    case measure=>simp[intOf];omega
  {obtain rfl:i=n:=oZ;go_wp2_with fail;go_ret2;exact⟨rfl,Or.inr ⟨HZ.out,rfl⟩⟩}
theorem Ff{w:World}{L:Ly}{n:Nat}{a:Mx}{dn:Nat->Bool}{b:Int}{p q:Nat}(h:EW w L n a dn b p q)(hn:n<=64):
  Calls Tryz.prog 99 #[.slice L.P n n,.slice L.Q n n] w fun e w'=>w=w'/\((∃i j,i<n/\j<n/\dn i=false/\dn j=false/\a i j≠0/\e= .returned (.tuple #[.int .i64 i,.int .i64 j,.bool true]))\/
   ((∀i j,i<n->j<n->dn i=false->dn j=false->a i j=0)/\e= .returned (.tuple #[.int .i64 0,.int .i64 0,.bool false]))):=by
 have HE:=Rb h;clear h;go_enter Tryz.func99,Tryz.ntmps99
 go_wp2_with fail;go_loopw[11] (fun i' wr=>∃i:Nat,i'= .int .i64 i/\i<=n/\w=wr/\Hid (∀x j,x<i->j<n->dn x=false->dn j=false->a x j=0)) (fun i _=>n-(intOf i).toNat)
 case atStart=>exact⟨0,rfl,Rv _,rfl,Rb fun x j hj=>absurd hj (RG _)⟩
 case round=>
  obtain⟨i,rfl,Vn,rfl,HZ⟩:=hrel;by_cases Vg:i<n
  ·go_wp2_with fail
   go_loopw[16] (fun j' wr=>∃j:Nat,j'= .int .i64 j/\j<=n/\w=wr/\Hid (∀y,y<j->dn i=false->dn y=false->a i y=0)) (fun j _=>n-(intOf j).toNat)
   case atStart=>exact⟨0,rfl,Rv _,rfl,Rb fun y hj=>absurd hj (RG _)⟩
   case round=>
    obtain⟨j,rfl,hjn,rfl,HY⟩:=hrel;by_cases WH:j<n
    ·obtain⟨t1,t2⟩:=HE.out.tp oZ
     rw[t1,t2];have h1:=HE.out.hd i Vg;have h2:=HE.out.en i j Vg WH;have h3:=HE.out.dc i Vg;have h4:=HE.out.dc j WH;clear t1 t2;obtain⟨v,hv⟩:∃v,a i j=v:=⟨_,rfl⟩
     rw[hv]at h2;have HV:=Rb hv;clear hv;obtain⟨d1,XR⟩:∃d,dn i=d:=⟨_,rfl⟩
     obtain⟨d2,hd2⟩:∃d,dn j=d:=⟨_,rfl⟩
     rw[XR]at h3;rw[hd2]at h4;have Vp:=Rb XR;have Ws:=Rb hd2;clear XR hd2;by_cases V8:d1=false/\d2=false/\v≠0
     ·obtain⟨rfl,rfl,hz⟩:=V8
      have hv':(v !=0)=true:=by rw[RZ];exact hz
      have HZV:=Rb hz;clear hz;go_wp2_with fail
      go_ret3
      exact⟨rfl,Or.inl ⟨i,j,Vg,WH,Vp.out,Ws.out,by rw[HV.out];exact HZV.out,rfl⟩⟩
     ·have HN:Hid (∀y,y<j+1->dn i=false->dn y=false->a i y=0):=Rb fun y hy e1 e2=>by
       by_cases e:y=j;{subst e;rw[Vp.out]at e1;rw[Ws.out]at e2;rw[HV.out];exact Rq fun hz=>V8 ⟨e1,e2,hz⟩};{exact HY.out y oZ e1 e2}
      cases d1
      ·cases d2
       ·obtain rfl:v=0:=Rq fun hz=>V8 ⟨rfl,rfl,hz⟩
        clear V8;go_wp2_with fail;go_roundw
        case rel=>exact⟨j+1,by go_num,oZ,by trivial,HN⟩
        case measure=>simp[intOf];omega
       ·clear V8
        go_wp2_with fail;go_roundw
        case rel=>exact⟨j+1,by go_num,oZ,by trivial,HN⟩
        case measure=>simp[intOf];omega
      ·clear V8
       go_wp2_with fail;go_roundw
       case rel=>exact⟨j+1,by go_num,oZ,by trivial,HN⟩
       case measure=>simp[intOf];omega
    ·obtain rfl:j=n:=oZ
     have HN:Hid (∀x y,x<i+1->y<j->dn x=false->dn y=false->a x y=0):=Rb fun x y hx hy e1 e2=>by by_cases e:x=i;{subst e;exact HY.out y hy e1 e2};{exact HZ.out x y oZ hy e1 e2}
     go_wp2_with fail;go_roundw
     case rel=>exact⟨i+1,by go_num,oZ,by trivial,HN⟩
     case measure=>simp[intOf];omega
  ·obtain rfl:i=n:=oZ
   go_wp2_with fail
   go_ret3
   exact⟨rfl,Or.inr ⟨HZ.out,rfl⟩⟩
def zn(i j t:Nat)(a:Mx):Mx:=fun x y=>if x=i/\y<t then IntKind.i64.wrap (a i y+a j y)else a x y
def AJ(i j t:Nat)(a:Mx):Mx:=fun x y=>if y=i/\x<t then IntKind.i64.wrap (a x i+a x j)else a x y
theorem Jc{w:World}{L:Ly}{n:Nat}{a:Mx}{dn:Nat->Bool}{b:Int}{p q:Nat}(h:EW w L n a dn b p q)(hn:n<=64){i j:Nat}(hi:i<n)(hj:j<n):
  Calls Tryz.prog 95 #[.int .i64 i,.int .i64 j,.pointer (some ⟨L.ba,0,none⟩)] w fun e w'=>e= .returned (.tuple #[])/\EW w' L n (AJ i j n (zn i j n a)) dn b p q/\Below L.bp w w':=by
 have HE:=Rb h;obtain⟨t1,t2⟩:=h.tp oZ;have hca:=h.ca;rw[t1]at hca;have HT:=Rb t1;have hle:L.bp<=w.heap.size:=by have:=h.od;omega
 have Xb:=Rb hle;clear h t1 t2 hle;go_enter Tryz.func95,Tryz.ntmps95
 go_wp2_with fail;go_loopw[9] (fun k' wr=>∃k:Nat,k'= .int .i64 k/\k<=n/\Hid (EW wr L n (zn i j k a) dn b p q)/\Hid (Below L.bp w wr)) (fun k _=>n-(intOf k).toNat)
 case atStart=>exact⟨0,rfl,Rv _,Rb (HE.out.congr (fun x y _ _=>by unfold zn;rw[Rc oZ]) fun _ _=>rfl),Rb (Rh _ _)⟩
 case round=>
  obtain⟨k,rfl,Zl,HX,HB⟩:=hrel;have hca:=HX.out.ca;rw[HT.out]at hca;by_cases Vg:k<n
  ·have h1:=HX.out.hd i hi
   have h2:=HX.out.hd j hj;have h3:=HX.out.en i k hi Vg;have h4:=HX.out.en j k hj Vg;have h5:=HX.out.fr i k hi Vg;have e1:zn i j k a i k=a i k:=Rc oZ;have e2:zn i j k a j k=a j k:=Rc oZ;rw[e1]at h3;rw[e2]at h4;obtain⟨v1,Yx⟩:∃v,a i k=v:=⟨_,rfl⟩
   obtain⟨v2,WA⟩:∃v,a j k=v:=⟨_,rfl⟩
   obtain⟨v3,hv3⟩:∃v,IntKind.i64.wrap (v1+v2)=v:=⟨_,rfl⟩
   rw[Yx]at h3;rw[WA]at h4;have HN:Hid (EW (wr.setCell ⟨L.bs i,k,none⟩ (.int .i64 v3)) L n (zn i j (k+1) a) dn b p q):=Rb ((HX.out.store hi Vg v3).congr (fun x y _ _=>by
    unfold zn;by_cases e:x=i/\y=k;{rw[Re e,Re ⟨e.1,oZ⟩,e.2,Yx,WA,hv3]}
    ·rw[Rc e]
     by_cases e3:x=i/\y<k;{rw[Re e3,Re ⟨e3.1,oZ⟩]}
     ·rw[Rc e3,Rc oZ]) fun _ _=>rfl)
   have Y_:L.bp<=L.bs i:=by have:=HX.out.od;have:=HX.out.os i hi;omega
   have HNB:Hid (Below L.bp w (wr.setCell ⟨L.bs i,k,none⟩ (.int .i64 v3))):=Rb (HB.out.setCell (p:=⟨L.bs i,k,none⟩) Y_ _);clear e1 e2 Yx WA Y_;go_wp2_with fail;go_region
   all_goals
    go_wp2_with fail;go_roundw
    case rel=>exact⟨k+1,by go_num,oZ,Rb (HN.out.heap rfl),Rb (HNB.out.trans ⟨rfl,rfl,rfl,Rf _,fun _ _=>rfl⟩)⟩
    case measure=>simp[intOf];omega
  ·obtain rfl:k=n:=oZ
   have HX0:Hid (EW wr L k (AJ i j 0 (zn i j k a)) dn b p q):=Rb (HX.out.congr (fun x y _ _=>by unfold AJ;rw[Rc oZ]) fun _ _=>rfl);clear HX;obtain⟨a1,ha1⟩:∃z,zn i j k a=z:=⟨_,rfl⟩
   rw[ha1]at HX0;have HA1:=Rb ha1;clear ha1;go_wp2_with fail;go_loopw[31] (fun t' wr=>∃t:Nat,t'= .int .i64 t/\t<=k/\Hid (EW wr L k (AJ i j t a1) dn b p q)/\Hid (Below L.bp w wr)) (fun t _=>k-(intOf t).toNat)
   case atStart=>exact⟨0,rfl,Rv _,HX0,HB⟩
   case round=>
    clear HX0 HB;obtain⟨t,rfl,htn,HX,HB⟩:=hrel;have hca:=HX.out.ca;rw[HT.out]at hca;by_cases Vg:t<k
    ·have h1:=HX.out.hd t Vg
     have h3:=HX.out.en t i Vg hi;have h4:=HX.out.en t j Vg hj;have h5:=HX.out.fr t i Vg hi;have e1:AJ i j t a1 t i=a1 t i:=Rc oZ;have e2:AJ i j t a1 t j=a1 t j:=Rc oZ;rw[e1]at h3;rw[e2]at h4;obtain⟨v1,Yx⟩:∃v,a1 t i=v:=⟨_,rfl⟩
     obtain⟨v2,WA⟩:∃v,a1 t j=v:=⟨_,rfl⟩
     obtain⟨v3,hv3⟩:∃v,IntKind.i64.wrap (v1+v2)=v:=⟨_,rfl⟩
     rw[Yx]at h3;rw[WA]at h4;have HN:Hid (EW (wr.setCell ⟨L.bs t,i,none⟩ (.int .i64 v3)) L k (AJ i j (t+1) a1) dn b p q):=Rb ((HX.out.store Vg hi v3).congr (fun x y _ _=>by
      unfold AJ;by_cases e:x=t/\y=i;{rw[Re e,Re ⟨e.2,oZ⟩,e.1,Yx,WA,hv3]}
      ·rw[Rc e]
       by_cases e3:y=i/\x<t;{rw[Re e3,Re ⟨e3.1,oZ⟩]}
       ·rw[Rc e3,Rc oZ]) fun _ _=>rfl)
     have Y_:L.bp<=L.bs t:=by have:=HX.out.od;have:=HX.out.os t Vg;omega
     have HNB:Hid (Below L.bp w (wr.setCell ⟨L.bs t,i,none⟩ (.int .i64 v3))):=Rb (HB.out.setCell (p:=⟨L.bs t,i,none⟩) Y_ _);clear e1 e2 Yx WA Y_;go_wp2_with fail;go_region
     all_goals
      go_wp2_with fail;go_roundw
      case rel=>exact⟨t+1,by go_num,oZ,Rb (HN.out.heap rfl),Rb (HNB.out.trans ⟨rfl,rfl,rfl,Rf _,fun _ _=>rfl⟩)⟩
      case measure=>simp[intOf];omega
    {obtain rfl:t=k:=oZ;go_wp2_with fail;refine UP (UQ rfl _ _ _) rfl ?_;rw[HA1.out];exact⟨rfl,HX.out,HB.out⟩}
def CC(dn:Nat->Bool)(r:Mx)(s t:Nat)(a:Mx):Mx:=fun x y=>if dn x=false/\dn y=false/\(x<s\/x=s/\y<t)then r x y else a x y
def Dx(dn:Nat->Bool)(r a:Mx):Mx:=fun x y=>if dn x=false/\dn y=false then r x y else a x y
def mB(p0:Nat)(dn:Nat->Bool):Nat->Bool:=fun x=>if x=p0 then true else dn x
structure QD(a:Mx)(b:Int)(r:Mx)(p0 i j:Nat):Prop where
 h1:(a i j).natAbs<=9007199254740992
 h2:(a i p0).natAbs<=9007199254740992
 h3:(a p0 j).natAbs<=9007199254740992
 eq:a p0 p0*a i j-a i p0*a p0 j=r i j*b
 hr:(r i j).natAbs<4611686018427387904
theorem sP{w:World}{L:Ly}{n:Nat}{a r:Mx}{dn:Nat->Bool}{b:Int}{p q:Nat}(h:EW w L n a dn b p q)(hn:n<=64)(hp:p<=64)(hq:q<=64){p0:Nat}(Yc:p0<n)(hb:b.natAbs<=9007199254740992)(Wn:b≠0)(hpv:(a p0 p0).natAbs<=9007199254740992)
    (hQ:∀i j,i<n->j<n->mB p0 dn i=false->mB p0 dn j=false->QD a b r p0 i j):
    Calls Tryz.prog 96 #[.int .i64 p0,.pointer (some ⟨L.bd,0,none⟩),.pointer (some ⟨L.ba,0,none⟩),.pointer (some ⟨L.bb,0,none⟩),.pointer (some ⟨L.bp,0,none⟩),.pointer (some ⟨L.bq,0,none⟩)] w
      fun e w'=>e= .returned (.tuple #[])/\EW w' L n (Dx (mB p0 dn) r a) (mB p0 dn) (a p0 p0) (p+if(0<a p0 p0↔0<b)then 1 else 0) (q+if(0<a p0 p0↔0<b)then 0 else 1)/\Below L.bp w w':=by
  have HE:=Rb h;have HQ:=Rb hQ;have VW:=Rb hb;have HBZ:=Rb Wn;have HPV:=Rb hpv;obtain⟨t1,t2⟩:=h.tp oZ;have hca:=h.ca;have YR:=h.cd;rw[t1]at hca;rw[t2]at YR;have HT:=Rb (And.intro t1 t2);have hle:L.bp<=w.heap.size:=by have:=h.od;omega
  have Xb:=Rb hle;have HO:=Rb h.od;have hdp:=h.dc p0 Yc;have ZV:=h.fd p0 Yc;have Z':=h.PT Yc true;have HW1:Hid (EW (w.setCell ⟨L.bD,p0,none⟩ (.bool true)) L n a (mB p0 dn) b p q):=Rb Z';have HBL1:Hid (Below L.bp w (w.setCell ⟨L.bD,p0,none⟩ (.bool true))):=Rb ((Rh _ w).setCell (p:=⟨L.bD,p0,none⟩) (by have:=HO.out;show L.bp<=L.bD;omega) _);obtain⟨pv,hpv'⟩:∃v,a p0 p0=v:=⟨_,rfl⟩
  have c1:=Z'.ca;have c2:=Z'.hd p0 Yc;have c3:=Z'.en p0 p0 Yc Yc;have c4:=Z'.cb;rw[t1]at c1;rw[hpv']at c3;have HPE:=Rb hpv';clear h hQ hb Wn hpv t1 t2 hle Z' hpv' hca;obtain⟨s1,VV⟩:∃x,decide (0<pv)=x:=⟨_,rfl⟩
  obtain⟨s2,Xp⟩:∃x,decide (0<b)=x:=⟨_,rfl⟩
  have Xy:Hid ((0<a p0 p0↔0<b)↔s1=s2):=by
    rw[HPE.out,<-VV,<-Xp];exact⟨fun h=>Sj.2 h,fun h=>Sj.1 h⟩
  go_enter Tryz.func96,Tryz.ntmps96
  go_upto_if 24 with fail
  generalize w.setCell ⟨L.bD,p0,none⟩ (.bool true)=w1 at c1 c2 c3 c4 HW1 HBL1⊢;clear YR hdp ZV VV Xp
  go_cut []from 24 to 28 (fun wx=>Hid (EW wx L n a (mB p0 dn) b (p+if s1=s2 then 1 else 0) (q+if s1=s2 then 0 else 1))/\Hid (Below L.bp w wx))
  case first=>
    obtain⟨-,-,-,c5,c6,-,f5,f6,-,-,-,-,-,-,-,-,-⟩:=HW1.out;have X7:=Rb (HW1.out.Qq (p+1));have ZT:=Rb (HW1.out.Pz (q+1));have B5:=Rb (HBL1.out.setCell (p:=⟨L.bp,0,none⟩) (Rf _) (.int .i64 ((p+1:Nat):Int)));have B6:=Rb (HBL1.out.setCell (p:=⟨L.bq,0,none⟩) (by have:=HO.out;show L.bp<=L.bq;omega) (.int .i64 ((q+1:Nat):Int)))
    cases s1<;>cases s2
    all_goals
      go_wp2_with fail
      go_meet
    · case rel=>exact⟨Rb (X7.out.heap rfl),Rb (B5.out.trans ⟨rfl,rfl,rfl,Rf _,fun _ _=>rfl⟩)⟩
    · case rel=>exact⟨Rb (ZT.out.heap rfl),Rb (B6.out.trans ⟨rfl,rfl,rfl,Rf _,fun _ _=>rfl⟩)⟩
    · case rel=>exact⟨Rb (ZT.out.heap rfl),Rb (B6.out.trans ⟨rfl,rfl,rfl,Rf _,fun _ _=>rfl⟩)⟩
    · case rel=>exact⟨Rb (X7.out.heap rfl),Rb (B5.out.trans ⟨rfl,rfl,rfl,Rf _,fun _ _=>rfl⟩)⟩
  case rest=>
    obtain⟨HX,HB⟩:=hcut;obtain⟨P',Xl⟩:∃x,(p+if s1=s2 then 1 else 0)=x:=⟨_,rfl⟩
    obtain⟨Q',hQ'⟩:∃x,(q+if s1=s2 then 0 else 1)=x:=⟨_,rfl⟩
    rw[Xl,hQ']at HX;have X7:=Rb Xl;have ZT:=Rb hQ';obtain⟨dp,hdp⟩:∃x,mB p0 dn=x:=⟨_,rfl⟩
    have HDP:Hid (dp p0=true):=by rw[<-hdp];exact Re rfl
    rw[hdp]at HX HQ;have HDE:=Rb hdp;clear c1 c2 c3 c4 HW1 HBL1 HE Xl hQ' hdp;have hca:=HX.out.ca;rw[HT.out.1]at hca;have HX0:Hid (EW wc L n (CC dp r 0 0 a) dp b P' Q'):=Rb (HX.out.congr (fun x y _ _=>by unfold CC;rw[Rc oZ]) fun _ _=>rfl);clear HX;go_wp2_with fail;go_loopw[31] (fun i' wr=>∃i:Nat,i'= .int .i64 i/\i<=n/\Hid (EW wr L n (CC dp r i 0 a) dp b P' Q')/\Hid (Below L.bp w wr)) (fun i _=>n-(intOf i).toNat)
    case atStart=>exact⟨0,rfl,Rv _,HX0,HB⟩
    case round=>
      clear HX0 HB hca;obtain⟨i,rfl,Vn,HX,HB⟩:=hrel;have hca:=HX.out.ca;rw[HT.out.1]at hca;by_cases Vg:i<n
      · go_wp2_with fail
        go_loopw[36] (fun j' wr=>∃j:Nat,j'= .int .i64 j/\j<=n/\Hid (EW wr L n (CC dp r i j a) dp b P' Q')/\Hid (Below L.bp w wr)) (fun j _=>n-(intOf j).toNat)
        case atStart=>exact⟨0,rfl,Rv _,HX,HB⟩
        case round=>
          clear HX HB hca;obtain⟨j,rfl,hjn,HX,HB⟩:=hrel;have hca:=HX.out.ca;have YR:=HX.out.cd;rw[HT.out.1]at hca;rw[HT.out.2]at YR;by_cases WH:j<n
          · have d1:=HX.out.dc i Vg
            have d2:=HX.out.dc j WH;by_cases V8:dp i=false/\dp j=false
            · have HGO:=Rb V8
              rw[V8.1]at d1;rw[V8.2]at d2;have h1:=HX.out.hd i Vg;have h2:=HX.out.hd p0 Yc;have h3:=HX.out.en i j Vg WH;have h4:=HX.out.en i p0 Vg Yc;have h5:=HX.out.en p0 j Yc WH;have h6:=HX.out.cb;have h7:=HX.out.fr i j Vg WH;have e1:CC dp r i j a i j=a i j:=Rc oZ;have e2:CC dp r i j a i p0=a i p0:=Rc (by rw[HDP.out];simp);have e3:CC dp r i j a p0 j=a p0 j:=Rc (by rw[HDP.out];simp);rw[e1]at h3;rw[e2]at h4;rw[e3]at h5;have hqd:=HQ.out i j Vg WH V8.1 V8.2;obtain⟨v,hv⟩:∃v,r i j=v:=⟨_,rfl⟩
              have HQU:Hid (∀w,Calls Tryz.prog 97 #[.int .i64 pv,.int .i64 (a i j),.int .i64 (a i p0),.int .i64 (a p0 j),.int .i64 b] w fun x w'=>x= .returned (.int .i64 v)/\∃n,w'=w.drewN n):=Rb fun w=>by
                have q1:=hqd.eq;rw[HPE.out,hv]at q1;exact wR _ _ _ _ _ v (by rw[<-HPE.out];exact HPV.out) hqd.h1 hqd.h2 hqd.h3 VW.out HBZ.out q1 (by rw[<-hv];exact hqd.hr) w
              have HN:Hid (EW (wr.setCell ⟨L.bs i,j,none⟩ (.int .i64 v)) L n (CC dp r i (j+1) a) dp b P' Q'):=Rb ((HX.out.store Vg WH v).congr (fun x y _ _=>by
                unfold CC;by_cases e:x=i/\y=j
                · rw[Re e,Re ⟨by rw[e.1];exact V8.1,by rw[e.2];exact V8.2,oZ⟩,e.1,e.2,hv]
                · rw[Rc e]
                  by_cases e3:dp x=false/\dp y=false/\(x<i\/x=i/\y<j)
                  · rw[Re e3,Re ⟨e3.1,e3.2.1,oZ⟩]
                  · rw[Rc e3,Rc (fun h=>e3 ⟨h.1,h.2.1,oZ⟩)]) fun _ _=>rfl)
              have Y_:L.bp<=L.bs i:=by have:=HX.out.od;have:=HX.out.os i Vg;omega
              have HNB:Hid (Below L.bp w (wr.setCell ⟨L.bs i,j,none⟩ (.int .i64 v))):=Rb (HB.out.setCell (p:=⟨L.bs i,j,none⟩) Y_ _);generalize a i j=x1 at h3 HQU;generalize a i p0=x2 at h4 HQU;generalize a p0 j=x3 at h5 HQU;clear e1 e2 e3 hqd hv Y_ V8 HX HB;go_wp2_with fail;refine aV 29 qk qk ?_;simp only[Sy,SR,Sz,S5];(repeat (go_big_quiet_step (exact Uz (HQU.out _))));refine TB ?_;rintro _ ⟨nq,rfl⟩
              all_goals
                go_wp2_with fail;go_roundw
                case rel=>exact⟨j+1,by go_num,oZ,Rb (HN.out.heap rfl),Rb (HNB.out.trans ⟨rfl,rfl,rfl,Rf _,fun _ _=>rfl⟩)⟩
                case measure=>simp[intOf];omega
            · have HN:Hid (EW wr L n (CC dp r i (j+1) a) dp b P' Q'):=Rb (HX.out.congr (fun x y _ _=>by
                unfold CC;by_cases e3:dp x=false/\dp y=false/\(x<i\/x=i/\y<j)
                · rw[Re e3,Re ⟨e3.1,e3.2.1,oZ⟩]
                · rw[Rc e3,Rc (fun h=>by
                    by_cases e:x=i/\y=j
                    · rw[e.1,e.2]at h
                      exact V8 ⟨h.1,h.2.1⟩
                    · exact e3 ⟨h.1,h.2.1,oZ⟩)]) fun _ _=>rfl)
              cases XR:dp i
              · cases hd2:dp j
                · exact absurd ⟨XR,hd2⟩ V8
                · rw[XR]at d1
                  rw[hd2]at d2;clear V8 XR hd2 HX;go_wp2_with fail;go_roundw
                  case rel=>exact⟨j+1,by go_num,oZ,HN,HB⟩
                  case measure=>simp[intOf];omega
              · rw[XR]at d1
                clear V8 XR HX;go_wp2_with fail;go_roundw
                case rel=>exact⟨j+1,by go_num,oZ,HN,HB⟩
                case measure=>simp[intOf];omega
          · obtain rfl:j=n:=oZ
            have HN:Hid (EW wr L j (CC dp r (i+1) 0 a) dp b P' Q'):=Rb (HX.out.congr (fun x y _ hy=>by
              unfold CC;by_cases e3:dp x=false/\dp y=false/\(x<i\/x=i/\y<j)
              · rw[Re e3,Re ⟨e3.1,e3.2.1,oZ⟩]
              · rw[Rc e3,Rc (fun h=>e3 ⟨h.1,h.2.1,oZ⟩)]) fun _ _=>rfl)
            go_wp2_with fail;go_roundw
            case rel=>exact⟨i+1,by go_num,oZ,HN,HB⟩
            case measure=>simp[intOf];omega
      · obtain rfl:i=n:=oZ
        have c4:=HX.out.cb;have f4:=HX.out.fb;have HN:=Rb (((HX.out.congr (a':=Dx dp r a) (dn':=dp) (fun x y hx hy=>by
          unfold CC Dx;by_cases e:dp x=false/\dp y=false
          · rw[Re e,Re ⟨e.1,e.2,Or.inl hx⟩]
          · rw[Rc e,Rc (fun h=>e ⟨h.1,h.2.1⟩)]) fun _ _=>rfl)).PV pv)
        have HNB:=Rb (HB.out.setCell (p:=⟨L.bb,0,none⟩) (by have:=HO.out;show L.bp<=L.bb;omega) (.int .i64 pv));clear HX HB;go_wp2_with fail
        all_goals
          refine UP (UQ rfl _ _ _) rfl ?_;rw[HDE.out,HPE.out];have p1:=X7.out;have q1:=ZT.out
          first
            |(
               have e:=Xy.out.1 (by assumption);rw[Re e]at p1 q1;subst p1 q1;exact⟨rfl,HN.out,HNB.out⟩)
            |(
               have e:¬s1=s2:=fun e=>absurd (Xy.out.2 e) (by assumption)
               rw[Rc e]at p1 q1;subst p1 q1;exact⟨rfl,HN.out,HNB.out⟩)





end Go.Proofs.YtdbhigmklejicaaGreat
