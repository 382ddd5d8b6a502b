import Derived.Test.YtdbhigmklejicaaGreatZ12
namespace Go.Proofs.YtdbhigmklejicaaGreat
set_option maxHeartbeats 16000000
set_option maxRecDepth 100000
open Go.RowKit Go.Maps
structure Ds(w wr:World)(A1 A2:Option Addr)(c1 c2:Nat)(sg mt:List Int):Prop where
 d:bI wr w.heap.size A1 A2 c1 c2 sg mt 0
 rs:RI wr (·<w.heap.size) A1 sg
 rm:RI wr (·<w.heap.size) A2 mt
 z0:wr.cell? ⟨w.heap.size+1,0,none⟩=some (.int .i64 0)
 z1:wr.cell? ⟨w.heap.size+1,1,none⟩=some (.slice none 0 0)
 f0:wr.frozen? ⟨w.heap.size+1,0,none⟩=false
 f1:wr.frozen? ⟨w.heap.size+1,1,none⟩=false
 lt:w.heap.size+2<=wr.heap.size
 bl:Below w.heap.size w wr
section
variable{w wr w':World}{A1 A2:Option Addr}{c1 c2:Nat}{sg mt:List Int}
theorem Ds.ak(h:Ds w wr A1 A2 c1 c2 sg mt)(hk:∀b,b<w.heap.size+2->w'.heap[b]?=wr.heap[b]?)(hs:wr.heap.size<=w'.heap.size)(hb:Below w.heap.size w w'):Ds w w' A1 A2 c1 c2 sg mt:=by
 have o:∀i,w'.cell? ⟨w.heap.size,i,none⟩=wr.cell? ⟨w.heap.size,i,none⟩:=fun i=>Ri (a:=⟨w.heap.size,i,none⟩) (hk _ oJ)
 have o1:∀i,w'.cell? ⟨w.heap.size+1,i,none⟩=wr.cell? ⟨w.heap.size+1,i,none⟩:=fun i=>Ri (a:=⟨w.heap.size+1,i,none⟩) (hk _ oJ)
 have o2:∀i,w'.frozen? ⟨w.heap.size+1,i,none⟩=wr.frozen? ⟨w.heap.size+1,i,none⟩:=fun i=>Ro (a:=⟨w.heap.size+1,i,none⟩) (hk _ oJ)
 have hl:=h.lt;have rs:=h.rs.ak (w':=w') fun b hb=>hk b oZ
 have rm:=h.rm.ak (w':=w') fun b hb=>hk b oZ
 exact⟨⟨(o _).trans h.d.c0,(o _).trans h.d.c1,(o _).trans h.d.c2,oZ,rs.imp fun b hb=>by omega,rm.imp fun b hb=>by omega⟩,rs,rm,(o1 _).trans h.z0,(o1 _).trans h.z1,(o2 _).trans h.f0,(o2 _).trans h.f1,oZ,hb⟩
theorem Ds.call(h:Ds w wr A1 A2 c1 c2 sg mt)(hb:Below wr.heap.size wr w'):Ds w w' A1 A2 c1 c2 sg mt:=
 h.ak (fun b hl=>hb.block b (by have:=h.lt;omega)) hb.size (h.bl.trans (hb.mono (by have:=h.lt;omega)))
theorem Ds.new{S:Nat->Prop}(hx:RI w S A1 sg)(hy:RI w S A2 mt)(hS:∀b,S b->b<w.heap.size):Ds w ((w.alloc (.cells #[.slice A1 sg.length c1,.slice A2 mt.length c2,.int .i64 0] 24)).alloc (.cells #[.int .i64 0,.slice none 0 0] 42)) A1 A2 c1 c2 sg mt:=by have k:=Ru (w.alloc (.cells #[.slice A1 sg.length c1,.slice A2 mt.length c2,.int .i64 0] 24)) (.cells #[.int .i64 0,.slice none 0 0] 42);rw[show(w.alloc (.cells #[.slice A1 sg.length c1,.slice A2 mt.length c2,.int .i64 0] 24)).heap.size=w.heap.size+1 by simp]at k;have hb:Below w.heap.size w ((w.alloc (.cells #[.slice A1 sg.length c1,.slice A2 mt.length c2,.int .i64 0] 24)).alloc (.cells #[.int .i64 0,.slice none 0 0] 42)):=((Rh _ _).alloc (Rf _) _).alloc oX _;refine⟨(bI.start (c1:=c1) (c2:=c2) (L:=0) S hx hy hS).below ((Rh _ _).alloc (Rf _) _),(hx.ak fun b h=>hb.block b (hS b h)).imp hS,(hy.ak fun b h=>hb.block b (hS b h)).imp hS,?_,?_,RD _ _ _ _ _ k,RD _ _ _ _ _ k,oX,hb⟩<;>(rw[Rt _ _ _ _ _ _ k];rfl)
end
section
variable{w wr:World}{A1 A2:Option Addr}{c1 c2:Nat}{sg mt:List Int}{p:Nat->Int}{x0 bm Sn:Nat}{idx:Nat->Nat}
theorem NB{wr w':World}{b:Nat}{v0 v1 v2:Value}(d0:wr.cell? ⟨b,0,none⟩=some v0)(d1:wr.cell? ⟨b,1,none⟩=some v1)(d2:wr.cell? ⟨b,2,none⟩=some v2)(h:Below wr.heap.size wr w'):
  w'.cell? ⟨b,0,none⟩=some v0/\w'.cell? ⟨b,1,none⟩=some v1/\w'.cell? ⟨b,2,none⟩=some v2:=
 ⟨(h.cell (p:=⟨b,0,none⟩) (RX _ _ d0)).trans d0,(h.cell (p:=⟨b,1,none⟩) (RX _ _ d1)).trans d1,(h.cell (p:=⟨b,2,none⟩) (RX _ _ d2)).trans d2⟩
theorem Pa(T:Ds w wr A1 A2 c1 c2 sg mt)(YM:bm<wr.heap.size)(hf:yA wr bm mt.length (dU mt))(H:Bd sg mt 0)(V:BK sg mt p x0)(V2:∀j,j<(aD sg mt).length->idx j<(aD sg mt).length/\jr sg mt p x0 (idx j)=j)(Xu:(aD sg mt).length=Sn){X:World}(hk:Below wr.heap.size wr X):
  Calls Tryz.prog 68 #[.agg #[.slice A1 sg.length c1,.slice A2 mt.length c2,.int .i64 0],.map (some bm)] X fun e w'=>∃Ac cc,e= .returned (.slice Ac Sn cc)/\Below wr.heap.size wr w'/\RL w' (fun b=>wr.heap.size<=b/\b<w'.heap.size) Ac (rows (yC sg mt Sn idx)):=by
 have h1:=T.lt;have h2:=hk.size;refine(GM (c1:=c1) (c2:=c2) X (·<w.heap.size) (T.rs.ak fun b hb=>hk.block b oZ) (T.rm.ak fun b hb=>hk.block b oZ) (fun b hb=>by omega) oZ (hf.same (hk.block bm YM)) H V V2).mono ?_;rintro e w7 ⟨v,rfl,hr,hb⟩;obtain⟨A,c,rfl,hl⟩:=hr.reads;rw[Xu]at hl⊢;rw[rF];exact⟨A,c,rfl,hk.trans (hb.mono h2),hl.imp fun b hb=>⟨oZ,hb.2⟩⟩
theorem OW(T:Ds w wr A1 A2 c1 c2 sg mt)(YM:bm<wr.heap.size)(hf:yA wr bm mt.length (dU mt))(H:Bd sg mt 0)(V:BK sg mt p x0)(V2:∀j,j<(aD sg mt).length->idx j<(aD sg mt).length/\jr sg mt p x0 (idx j)=j)(Xu:(aD sg mt).length=Sn)(hS1:0<Sn)(hS2:Sn<=256){w7 X:World}{Ac:Option Addr}{cc:Nat}(hk:Below wr.heap.size wr w7)(hr:RL w7 (fun b=>wr.heap.size<=b/\b<w7.heap.size) Ac (rows (yC sg mt Sn idx)))(hx:Below w7.heap.size w7 X):
  Calls Tryz.prog 67 #[.agg #[.slice A1 sg.length c1,.slice A2 mt.length c2,.int .i64 0],.slice Ac Sn cc,.map (some bm)] X fun e w'=>∃gc kc ch,e= .returned (.slice (some ⟨gc,0,none⟩) Sn kc)/\Below wr.heap.size wr w'/\wr.heap.size<=gc/\gc<w'.heap.size/\Lg sg mt idx ch Sn/\OI w' wr.heap.size (.slice (some ⟨gc,0,none⟩) Sn kc) ch:=by
 have h1:=T.lt;have h2:=hk.size;have h3:=hx.size;have h4:=hk.trans (hx.mono h2);refine(Fx (c1:=c1) (c2:=c2) (cc:=cc) X (·<w.heap.size) (fun b=>wr.heap.size<=b/\b<w7.heap.size) (fun b hb=>by rcases hb with hb|hb|hb<;>omega) (T.rm.ak fun b hb=>h4.block b oZ) (hr.ak fun b hb=>hx.block b hb.2) (hf.same (h4.block bm YM)) H V Xu.symm hS2 (fun j hj=>by rw[<-Xu]at hj⊢;exact V2 j hj)).mono ?_;rintro e w8 ⟨v,ch,hch,rfl,ho,hb⟩;have hl:=hch.1;obtain⟨A,c,hv,-,-,Vh⟩:=ho.shape;obtain⟨g,rfl⟩:=Vh (by rintro rfl;simp at hl;omega);rw[hl]at hv;subst hv;obtain⟨a,b⟩:=ho.lt g rfl;exact⟨g,c,ch,rfl,h4.trans (hb.mono oZ),oZ,b,hch,ho.mono oZ⟩
end
def QZ(sg mt:List Int)(w:World)(e:Ending)(w':World):Prop:=Below w.heap.size w w'/\
  ((10<(aD sg mt).length/\e= .returned (.tuple #[.agg #[.int .i64 0,.slice none 0 0],.int .i64 5]))\/
   ((aD sg mt).length<=10/\∃p x0 st l v,BK sg mt p x0/\Cut sg mt p x0 (aD sg mt).length st/\Rg sg mt (aD sg mt).length st l/\l.length=sg.length/\e= .returned (.tuple #[.agg #[.int .i64 ((aD sg mt).length:Nat),v],.int .i64 0])/\OI w' w.heap.size v (ct sg l)))
theorem D4{A1 A2:Option Addr}{c1 c2:Nat}{sg mt:List Int}(w:World)(S:Nat->Prop)(hx:RI w S A1 sg)(hy:RI w S A2 mt)(hS:∀b,S b->b<w.heap.size)(H:Bd sg mt 0)(hn:iR sg mt mt.length=[]):
  Calls Tryz.prog 34 #[.agg #[.slice A1 sg.length c1,.slice A2 mt.length c2,.int .i64 0]] w (QZ sg mt w):=by
 have T0:=Rb (Ds.new (c1:=c1) (c2:=c2) hx hy hS);have HH:=Rb H;have HN:=Rb hn;have VQ:mt.length<=256:=by have:=H.d.1;have:=H.d.2.1;omega
 have Xg:=H.pos;clear hx hy hS hn H;go_enter Tryz.func34,Tryz.ntmps34
 go_wp2_with fail;obtain⟨W,hW⟩:∃W,(w.alloc (.cells #[.slice A1 sg.length c1,.slice A2 mt.length c2,.int .i64 0] 24)).alloc (.cells #[.int .i64 0,.slice none 0 0] 42)=W:=⟨_,rfl⟩
 rw[hW]at T0⊢;clear hW;refine(sR A1 A2 c1 c2 sg mt W (·<W.heap.size) T0.out.d.rs T0.out.d.rm (fun _ h=>h) HH.out.d HH.out.one).mono ?_;rintro e w1 ⟨rfl,hb⟩;have T1:=Rb (T0.out.call hb);clear T0 hb;obtain⟨k0,k1,k2,-,-,-⟩:=T1.out.d;go_wp2_with fail;refine(xY A1 A2 c1 c2 sg mt 0 w1 (·<w1.heap.size) T1.out.d.rs T1.out.d.rm (fun _ h=>h) HH.out.d VQ).mono ?_;rintro e w2 ⟨v,rfl,ho,hb⟩;obtain⟨A9,c9,rfl,-,-⟩:=ho.shape;rw[HN.out];have T2:=Rb (T1.out.call hb);clear T1 hb ho k0 k1 k2;obtain⟨k0,k1,k2,-,-,-⟩:=T2.out.d;go_wp2_with fail;refine(vA A1 A2 c1 c2 sg mt 0 w2 (·<w2.heap.size) T2.out.d.rs T2.out.d.rm (fun _ h=>h) HH.out.d).mono ?_;rintro e w3 ⟨v,rfl,ho,hb⟩;obtain⟨A8,c8,rfl,-,-⟩:=ho.shape;rw[R6];obtain⟨n8,hn8⟩:∃n,(fT sg mt sg.length).length=n:=⟨_,rfl⟩
 rw[hn8];have T3:=Rb (T2.out.call hb);clear T2 hb ho k0 k1 k2 hn8;obtain⟨Sn,Xu⟩:∃n,(aD sg mt).length=n:=⟨_,rfl⟩
 have hS256:Sn<=256:=by have:=dO (aP sg mt) mt.length (ai sg) mt.length;rw[aE]at this;unfold aD at Xu;omega
 have Wk:=Rb Xu;have hS1:0<Sn:=by rw[<-Xu];obtain⟨p,x0,V⟩:=HH.out.Hz;exact S9 (Rv _) (HH.out.fw V.lt V.o)
 rw[Xu];clear Xu;obtain⟨k0,k1,k2,-,-,-⟩:=T3.out.d;have z0:=T3.out.z0;have z1:=T3.out.z1;have q0:=T3.out.f0;have q1:=T3.out.f1;by_cases h10:10<Sn;{go_wp2_with fail;refine RC (v:= .tuple #[.agg #[.int .i64 0,.slice none 0 0],.int .i64 5]) (by simp[results,Tryz.results34,go_sem,z0,z1]) rfl ?_;refine⟨?_,.inl ⟨by rw[Wk.out];exact h10,rfl⟩⟩;(iterate 2 refine RM ?_ oJ _);exact T3.out.bl}
 ·have hmm:=@run_makeMap Tryz.prog
  have T4:=Rb (T3.out.call ((Rh _ w3).alloc (Rf _) (.map #[] 0)));have O4:=Rb (World.ownsMap_made (P:=Tryz.prog) (k:=3) (R:=plainElem (H:=Unit) Tryz.prog 3) w3);have hlt3:=T3.out.lt;have hs4:(w3.alloc (.map #[] 0)).heap.size=w3.heap.size+1:=oX;clear z0 z1 q0 q1 T3;obtain⟨p0,p1,p2,-,-,-⟩:=T4.out.d;go_wp2_with fail;clear hmm p0 p1 p2 k0 k1 k2;obtain⟨bm,YM⟩:∃b,w3.heap.size=b:=⟨_,rfl⟩
  obtain⟨w4,hw4⟩:∃x,w3.alloc (.map #[] 0)=x:=⟨_,rfl⟩
  rw[hw4]at T4 O4 hs4⊢;rw[YM]at O4 hs4 hlt3⊢;clear hw4 YM;refine(oB A1 A2 c1 c2 sg mt 0 w4 (·<w4.heap.size) T4.out.d.rs T4.out.d.rm (fun _ h=>h) HH.out.d).mono ?_;rintro e w5 ⟨v,rfl,hr,hb⟩;obtain⟨Af,cf,rfl,-,-,-⟩:=hr.shape;rw[aE];have T5:=Rb (T4.out.call hb);have O5:=Rb (gP O4.out (hb.block bm oZ));have HR:=Rb hr;have hs5:=hb.size;clear T4 O4 hb hr;obtain⟨nf,hnf⟩:∃n,(aC mt).length=n:=⟨_,rfl⟩
  have hnf2:nf<=256:=by have:=dO (au mt) mt.length ir mt.length;rw[aE]at this;unfold aC at hnf;omega
  rw[hnf];have HNF:=Rb hnf;have HQ0:Hid (Ao (.map []) mt.length (dU mt) (zN mt 0 0)):=Rb ((Ao.nil _ _).congr fun x _=>FK x);clear hnf;go_wp2_with fail;go_loopg[49] nf (fun g v wx=>∃(i km:Nat) (D:DataW Unit),i+g=nf/\v= .int .i64 i/\km<=256*i/\Hid (I0 bm w5 wx)/\Hid (wx.ownsMap Tryz.prog 3 (plainElem Tryz.prog 3) bm km D)/\Hid (Ao D mt.length (dU mt) (zN mt i 0)))
  case atStart=>exact⟨0,0,_,oZ,rfl,oZ,Rb (I0.refl _ _),O5,HQ0⟩
  case round=>
   clear HQ0 O5;obtain⟨i,km,D,hig,rfl,hkm,HK,HO,HQ⟩:=hrel
   cases gk with
   |zero=>
    obtain rfl:i=nf:=oZ;have HF:Hid (yA wr bm mt.length (dU mt)):=Rb (Ao.full HH.out.d HO.out (by rw[HNF.out];exact HQ.out));have T6:Hid (Ds w wr A1 A2 c1 c2 sg mt):=Rb (T5.out.ak (fun b hb=>HK.out.Qg oZ oZ) HK.out.g.size (T5.out.bl.grown HK.out.g T5.out.bl.size (fun k hk=>by injection hk;omega)));have hs6:=HK.out.g.size;clear HQ HO HK T5 HR hkm km D;obtain⟨p,x0,V⟩:=HH.out.Hz;have HV:=Rb V;obtain⟨idx,V2⟩:=HH.out.Nz V;have HIX:=Rb V2;have hbmw:bm<wr.heap.size:=oZ;have HSEQ:=Rb fun(X:World) (hk:Below wr.heap.size wr X)=>Pa (A1:=A1) (A2:=A2) (c1:=c1) (c2:=c2) T6.out hbmw HF.out HH.out V V2 Wk.out hk
    have HCUT:=Rb fun(w7 X:World) (Ac:Option Addr) (cc:Nat) (hk:Below wr.heap.size wr w7) (hr:RL w7 (fun b=>wr.heap.size<=b/\b<w7.heap.size) Ac (rows (yC sg mt Sn idx))) (hx:Below w7.heap.size w7 X)=>OW (A1:=A1) (A2:=A2) (c1:=c1) (c2:=c2) (cc:=cc) T6.out hbmw HF.out HH.out V V2 Wk.out hS1 hS256 hk hr hx
    clear V V2;obtain⟨k0,k1,k2,-,-,-⟩:=T6.out.d;have P0:=Rb k0;have P1:=Rb k1;have P2:=Rb k2;go_wp2_with fail;clear k0 k1 k2
    go_region_held3 (fun w'=>w'.cell? ⟨w.heap.size,0,none⟩=some (.slice A1 sg.length c1)/\w'.cell? ⟨w.heap.size,1,none⟩=some (.slice A2 mt.length c2)/\w'.cell? ⟨w.heap.size,2,none⟩=some (.int .i64 0))
     (((with_reducible refine NB P0.out P1.out P2.out ?_);(repeat (first|with_reducible exact HK8.out|with_reducible exact HK7.out|with_reducible exact Rh _ _|with_reducible refine Td ?_))))
     (first|(go_at_call 68;refine(HSEQ.out _ (by(repeat (first|with_reducible exact Rh _ _|with_reducible refine Td ?_)))).mono ?_;rintro e w7 ⟨Ac,cc,rfl,hk7,hr7⟩;have HK7:=Rb hk7;have HR7:=Rb hr7;clear hk7 hr7)|(go_at_call 67;refine(HCUT.out w7 _ _ _ HK7.out HR7.out (by(repeat (first|with_reducible exact Rh _ _|with_reducible refine Td ?_)))).mono ?_;rintro e w8 ⟨gc,kc,ch,rfl,hk8,Vs,Vv,hch,hoi⟩;have HK8:=Rb hk8;have HCH:=Rb hch;have HOI:=Rb hoi;have HG1:=Rb Vs;have HG2:=Rb Vv;clear hk8 hch hoi Vs Vv))
    have T8:=Rb (T6.out.call HK8.out);clear HSEQ HCUT P0 P1 P2 HR7 HK7;have CU:=HH.out.MA HV.out HIX.out (by rw[Wk.out];exact HCH.out);rw[Wk.out]at CU;have HCU:=Rb CU;clear CU;have hs8:=HK8.out.size;obtain⟨k0,k1,k2,-,-,-⟩:=T8.out.d;go_wp2_with fail;refine(xw (A1:=A1) (A2:=A2) (c1:=c1) (c2:=c2) (kc:=kc) w8 (·<w.heap.size) T8.out.rs T8.out.rm (fun b hb=>by have:=HG1.out;omega) HOI.out HG2.out HH.out HV.out HCU.out.1 Wk.out.symm HCU.out.2 hS1 hS256).mono ?_;rintro e w9 ⟨l,v,hrg,W7,rfl,ho,hb9,hkp⟩;have Vs:=HG1.out;have T9:Hid (Ds w w9 A1 A2 c1 c2 sg mt):=Rb (T8.out.ak (fun b hb=>hkp b oZ oZ) hb9.size (T8.out.bl.trans (hb9.mono oZ)));obtain⟨Av,cv,hv,-,-,-⟩:=ho.shape;obtain⟨nv,hnv⟩:∃n,(ct sg l).length=n:=⟨_,rfl⟩
    rw[hnv]at hv;subst hv;have HO9:=Rb ho;have HRG:=Rb hrg;have WR:=Rb W7;clear ho hrg W7 hnv hb9 hkp k0 k1 k2 T6 T8 Vs;have z0:=T9.out.z0;have z1:=T9.out.z1;have q0:=T9.out.f0;have q1:=T9.out.f1;have hl9:=T9.out.lt;go_wp2_with fail;refine RC (v:= .tuple #[.agg #[.int .i64 Sn,.slice Av nv cv],.int .i64 0]) (by simp[results,Tryz.results34,go_sem,z0,z1]) rfl ?_;refine⟨?_,.inr ⟨by rw[Wk.out];omega,p,x0,gn ch,l,.slice Av nv cv,HV.out,by rw[Wk.out];exact HCU.out.1,by rw[Wk.out];exact HRG.out,WR.out,by rw[Wk.out],?_⟩⟩
    ·iterate 2 refine RM ?_ oJ _
     exact T9.out.bl
    {refine(HO9.out.ak fun g hg=>?_).mono oZ;have VS:=(HO9.out.lt g hg).1;exact(Rn _ _ _ g oJ).trans (Rn _ _ _ g oJ)}
   |succ g=>
    have hi:i<nf:=oZ;obtain⟨gf,cf2,Ak,ck,hv,Vs,Vv,Vk,VB,-⟩:=HR.out.at_ (k:=i) (by rw[aE];show i<(aC mt).length;rw[HNF.out];exact hi);injection hv with e1 e2 e3
    subst e1;have e9:(rows (bR (au mt) mt.length ir mt.length)).getD i []=ints ((aC mt).getD i []):=by show(rows (aC mt)).getD i []=_;rw[jJ (by rw[HNF.out];exact hi),Rw,RH (by rw[HNF.out];exact hi)];rfl
    rw[show(rows (aC mt)).getD i []=ints ((aC mt).getD i [])from e9]at Vk VB;rw[aH]at Vk;have WD:=Mm HH.out.d (i:=i) (by rw[HNF.out];exact hi);obtain⟨row,hro⟩:∃r,(aC mt).getD i []=r:=⟨_,rfl⟩
    rw[hro]at Vk VB WD;have HRO:=Rb hro;have kc:=(Ri (a:=⟨gf,i,none⟩) (HK.out.Qg Vv oJ)).trans Vk;have X3:Hid (RI w5 (fun b=>w4.heap.size<=b/\b<w5.heap.size) Ak (ints row)):=Rb VB;clear hro Vk e9 VB e2 e3;have Xo:=HQ;go_wp2_with fail;go_loopg[56] row.length (fun g v wx=>∃(j km:Nat) (D:DataW Unit),j+g=row.length/\v= .int .i64 j/\km<=256*i+j/\Hid (I0 bm w5 wx)/\Hid (wx.ownsMap Tryz.prog 3 (plainElem Tryz.prog 3) bm km D)/\Hid (Ao D mt.length (dU mt) (zN mt i j)))
    case atStart=>exact⟨0,km,_,oZ,rfl,oZ,HK,HO,HQ⟩
    case round=>
     clear HK HO HQ kc Xo hkm;obtain⟨j,km,D,hjg,rfl,hkm,HK,HO,HQ⟩:=hrel
     cases gk with
     |zero=>
      obtain rfl:j=row.length:=oZ;have Zp:Hid (Ao D mt.length (dU mt) (zN mt (i+1) 0)):=Rb (HQ.out.congr fun x hx=>by rw[Jg HH.out.d (by rw[HNF.out];exact hi) hx,HRO.out]);go_wp2_with fail;go_roundg g
      case rel=>exact⟨i+1,km,_,oZ,by go_num,oZ,HK,HO,Zp⟩
      case measure=>omega
     |succ g2=>
      have hj:j<row.length:=oZ;obtain⟨bk,ok,ek,hbk,ZE⟩:=X3.out.at_ (k:=j) (by rw[aH];exact hj);have kj:=(Ri (a:=⟨bk,ok+j,none⟩) (HK.out.Qg hbk.2 oJ)).trans (ZE j (by rw[aH];exact hj));rw[jj hj]at kj;subst ek;obtain⟨h,hh⟩:∃h,gN row j=h:=⟨_,rfl⟩
      have hiF:i<(aC mt).length:=by rw[HNF.out];exact hi
      have Vm:h∈(aC mt).getD i []:=by rw[HRO.out,<-hh];unfold gN;rw[Rw,RH hj];exact R7 hj
      have V4:=GW HH.out.d hiF Vm;have hfi:=(By HH.out.d hiF V4).1 Vm;have Zp:Hid (Ao (D.put (.int .i64 (h:Int)) (.lit (.int .i64 (i:Int)))) mt.length (dU mt) (zN mt i (j+1))):=by have:=(HQ.out.put V4).congr (ps':=zN mt i (j+1)) (fun x _=>Hb HH.out.d hiF (by rw[HRO.out];exact hj) (by rw[HRO.out];exact hh) x);rw[hfi]at this;exact Rb this
      rw[hh]at kj;have Yw:keyOf Tryz.prog 3 (.int .i64 (h:Int))=some (.int .i64 (h:Int)):=keyOf_int_mk Tryz.underlying3 (pA oZ);have HKEY:=Rb Yw;clear Vm hfi ZE hbk hh hiF Yw
      go_wp2_with(first
       |(at_mapUpdate;refine wpList_mapUpdate_own _ rfl _ _ _ 105 rfl 3 3 BN Tryz.underlying105 _ bm km _ rfl HO.out (by unfold maxLen;omega) _ _ _ rfl rfl HKEY.out _ [] (plainElem_int Tryz.underlying3 (pA oZ)) ?_;intro w6 Y9 XH;have HO3:=Rb Y9;have HG3:=Rb XH;clear Y9 XH))
      have WT:=Rb (HK.out.grown HG3.out);go_roundg g2
      case rel=>exact⟨j+1,km+1,_,oZ,by go_num,oZ,WT,HO3,Zp⟩
      case measure=>omega
def yP(ps:List (Int×Int)):List Value:=ps.flatMap fun p=>[.int .i64 3,.int .i64 p.1,.int .i64 p.2,.int .i64 0,.bool true]
theorem wF(ps:List (Int×Int))(p:Int×Int):yP (ps++[p])=yP ps++[.int .i64 3,.int .i64 p.1,.int .i64 p.2,.int .i64 0,.bool true]:=by simp[yP]
def tA(w:World)(B:Nat)(v:Value)(ps:List (Int×Int)):Prop:=w.ownsRow B 26 5 v ps.length (yP ps)
theorem DS:(Tryz.prog.info? 26).map (fun i=>(i.zero,i.size,i.bytes))=some (some (.agg #[.int .i64 0,.int .i64 0,.int .i64 0,.int .i64 0,.bool false]),5,40):=by kernel_rfl
section
variable{w w':World}{B:Nat}{v:Value}{ps:List (Int×Int)}
theorem tA.nil(w:World)(B:Nat):tA w B (.slice none 0 0) []:=Ur w B _ _
theorem tA.shape(h:tA w B v ps):∃A c,v= .slice A ps.length c:=by
 rcases h.2 with⟨rfl,hn⟩|⟨g,c,cur,rfl,hb,hh,hnc,Wy,VE,ht⟩
 {exact⟨none,0,by rw[hn]⟩};{exact⟨_,c,rfl⟩}
theorem tA.lt(h:tA w B v ps):∀g,v.ownBlock=some g->B<=g/\g<w.heap.size:=UC h
theorem tA.ak(h:tA w B v ps)(hg:∀g,v.ownBlock=some g->w'.heap[g]?=w.heap[g]?):tA w' B v ps:=by
 refine⟨h.1,?_⟩;rcases h.2 with h2|⟨g,c,cur,rfl,hb,hh,hr⟩
 {exact .inl h2};{exact .inr ⟨g,c,cur,rfl,hb,by rw[hg g rfl];exact hh,hr⟩}
theorem tA.below{C:Nat}(h:tA w B v ps)(hb:Below C w w')(hC:w.heap.size<=C):tA w' B v ps:=
 h.ak fun g hg=>hb.block g (by have:=(h.lt g hg).2;omega)
theorem tA.eH{W:World}(h:tA w B v ps)(hb:Below B W w)(hB:B<=w.heap.size)(o:Obj)(hg:(w.alloc o).grownBy w' v.ownBlock):Below B W w':=
 (hb.alloc hB o).grown hg qj fun k hk=>(h.lt k hk).1
theorem DE{o:Oper}{a:Act}{K:Act->World->Prop}{Q:Exit->Act->World->Prop}{s x:Operand}{t:TypeId}{y z:Int}
  (Vq:tA w B v ps)(hl:ps.length<1099511627)(hB:B<=w.heap.size)
  (ho:o.op= .call {callee:= .builtin .append,args:=#[s,x],argTypes:=#[t,t]})
  (ht:Tryz.prog.underlying t=some (.slice 26))(hs:a.eval s=v)(hx:a.eval x= .slice (some ⟨w.heap.size,0,none⟩) 1 1)
  (h:∀v' w',tA w' B v' (ps++[(y,z)])->(w.alloc (.cells #[.int .i64 3,.int .i64 y,.int .i64 z,.int .i64 0,.bool true] 26)).grownBy w' v.ownBlock->(v'.ownBlock=v.ownBlock\/v'.ownBlock=some (w.heap.size+1))->K (a.put o.dst v') w'):
  o.wp Tryz.prog a (w.alloc (.cells #[.int .i64 3,.int .i64 y,.int .i64 z,.int .i64 0,.bool true] 26)) K Q:=by
 obtain⟨i0,hi,V6,VU,VN⟩:=S7 DS;have YI:(w.alloc (.cells #[.int .i64 3,.int .i64 y,.int .i64 z,.int .i64 0,.bool true] 26)).ownsRow B 26 5 v ps.length (yP ps):=UN Vq _;have V0:∀(j:Nat) (u:Value),[Value.int .i64 3,Value.int .i64 y,Value.int .i64 z,Value.int .i64 0,Value.bool true][j]?=some u->(w.alloc (.cells #[.int .i64 3,.int .i64 y,.int .i64 z,.int .i64 0,.bool true] 26)).cell? ((⟨w.heap.size,0,none⟩:Addr).add j)=some u:=by
  intro j u hu;have e:((⟨w.heap.size,0,none⟩:Addr).add j)=⟨w.heap.size,j,none⟩:=by unfold Addr.add;split;{rename_i h0;subst h0;rfl};{simp}
  rw[e,Rt _ _ _ _ _ _ (Ru w _)];simpa using hu
 obtain⟨v',w',VG,h2,h3,_,h5⟩:=Tp (P:=Tryz.prog) (w.alloc (.cells #[.int .i64 3,.int .i64 y,.int .i64 z,.int .i64 0,.bool true] 26)) B t o.type 26 i0 _ 5 40 ht hi V6 VU VN rfl oQ v ps.length _ YI
  ⟨w.heap.size,0,none⟩ 1 1 [.int .i64 3,.int .i64 y,.int .i64 z,.int .i64 0,.bool true] rfl V0 (by intro u hu;simp at hu;rcases hu with rfl|rfl|rfl|rfl|rfl<;>rfl) (by unfold maxLen;omega) oZ qj
 unfold Oper.wp execOp;simp only[ho,resolve,invoke,builtin,TI,TJ,SV,S_,Tk,Tw,hs,hx,VG];refine h v' w' ?_ h3 (by simpa using h5);unfold tA;rw[wF,Rz];exact h2
theorem LU{ops:Array Oper}{rest:List Oper}{o:Oper}{a:Act}{Q:Exit->Act->World->Prop}{s x:Operand}{t:TypeId}{y z:Int}
  (Vq:tA w B v ps)(hl:ps.length<1099511627)(hB:B<=w.heap.size)
  (XO:o.guard=none)(ho:o.op= .call {callee:= .builtin .append,args:=#[s,x],argTypes:=#[t,t]})
  (ht:Tryz.prog.underlying t=some (.slice 26))(hs:a.eval s=v)(hx:a.eval x= .slice (some ⟨w.heap.size,0,none⟩) 1 1)
  (h:∀v' w',tA w' B v' (ps++[(y,z)])->(w.alloc (.cells #[.int .i64 3,.int .i64 y,.int .i64 z,.int .i64 0,.bool true] 26)).grownBy w' v.ownBlock->(v'.ownBlock=v.ownBlock\/v'.ownBlock=some (w.heap.size+1))->
   wpList Tryz.prog ops Q rest (a.put o.dst v') w'):
  wpList Tryz.prog ops Q (o::rest) a (w.alloc (.cells #[.int .i64 3,.int .i64 y,.int .i64 z,.int .i64 0,.bool true] 26)):=
 Ut XO fun _ hK=>DE Vq hl hB ho ht hs hx fun v' w' h2 h3 h5=>hK _ _ (h v' w' h2 h3 h5)
end
def AV(sg mt sg' mt':List Int):Prop:=∀K,cA sg mt K->∃K',cA sg' mt' K'/\∀n,jE sg mt K n->jE sg' mt' K' n
theorem AV.refl(sg mt:List Int):AV sg mt sg mt:=fun K h=>⟨K,h,fun _ h=>h⟩
theorem AV.trans{a b c d e f:List Int}(h:AV a b c d)(k:AV c d e f):AV a b e f:=fun K hK=>by obtain⟨K',h1,h2⟩:=h K hK;obtain⟨K2,h3,h4⟩:=k K' h1;exact⟨K2,h3,fun n hn=>h4 n (h2 n hn)⟩
structure I7(sg mt:List Int):Prop where
 d:cJ sg mt 0
 one:av mt sg.length sg.length=1
 pos:0<sg.length
def Qp(sg mt:List Int)(w:World)(e:Ending)(w':World):Prop:=
 ∃(er:Int) (A1 A2:Option Addr) (n1 k1 n2 k2:Nat) (L a b c d:Int) (o:Bool),e= .returned (.tuple #[.agg #[.slice A1 n1 k1,.slice A2 n2 k2,.int .i64 L],.agg #[.int .i64 a,.int .i64 b,.int .i64 c,.int .i64 d,.bool o],.int .i64 er])/\(er=0\/er=5)/\Below w.heap.size w w'/\
  (er=0->∃sg' mt',L=0/\n1=sg'.length/\n2=mt'.length/\dz w' w.heap.size (.slice A1 n1 k1) (.slice A2 n2 k2) sg' mt'/\I7 sg' mt'/\sg'.length=sg.length+2/\AV sg mt sg' mt')
theorem Kh{A1 A2:Option Addr}{c1 c2:Nat}{sg mt:List Int}{x y:Nat}(w:World)(S:Nat->Prop)(hx:RI w S A1 sg)(hy:RI w S A2 mt)(hS:∀b,S b->b<w.heap.size)(V:I7 sg mt)(V7:x<mt.length)(VJ:y<mt.length)(hib:mD sg mt x y=true):
  Calls Tryz.prog 9 #[.agg #[.slice A1 sg.length c1,.slice A2 mt.length c2,.int .i64 0],.agg #[.int .i64 3,.int .i64 (x:Int),.int .i64 (y:Int),.int .i64 0,.bool true]] w (Qp sg mt w):=by
 obtain⟨f1,f2,f3⟩:=vE V.d V7 hib;have h2:=V.d.2.1;have Vn:pf sg.length 3 (x:Int) (y:Int) 0 true:= .inr (.inr (.inr (.inr ⟨rfl,oZ,oZ,oZ,oZ,.inl ⟨oZ,rfl⟩⟩)));have hpk:∀lf:List Int,AL mt (aC mt).length 0 lf->yB sg.length lf mt (x:Int) (y:Int) 0=if 62<sg.length then 5 else 0:=fun lf hf=>by unfold yB;rw[Rc];rintro(h|⟨h,-⟩|⟨-,-,-,h⟩);{omega};{omega};{rw[Si,Si]at h;unfold jR at h;rw[Rj ((nA (aU V.d.2.2.2.2.2.1 V.d.2.1) hf V7 VJ).2 f1),Rj f3]at h;exact absurd h oQ}
 refine(sF A1 A2 c1 c2 sg mt (x:Int) (y:Int) 0 true w S hx hy hS V.d V.one V.pos (fun sg' mt' L'=>L'=0/\I7 sg' mt'/\sg'.length=sg.length+2/\AV sg mt sg' mt') ?_).mono ?_
 ·rintro-lf-hf hz sg' mt' L' ⟨x',y',ex,ey,-,-,hL,hs,hm⟩
  obtain rfl:x=x':=oZ;obtain rfl:y=y':=oZ;rw[hpk lf hf]at hz;have h62:sg.length+2<=64:=by split at hz<;>omega
  obtain⟨a,b,c,d⟩:=Ir V.d V.one h62 true V7 VJ hib hs hm;exact⟨hL,⟨a,b,oZ⟩,c,d⟩
 ·rintro e w' ⟨er,he,dv,mv,rfl,⟨⟨A1',A2',n1,k1,n2,k2,L,rfl⟩,a,b,c,d,o,rfl⟩,hb,h0⟩
  obtain⟨lf,-,hf,Yd⟩:=he Vn;rw[hpk lf hf]at Yd;refine⟨er,A1',A2',n1,k1,n2,k2,L,a,b,c,d,o,rfl,by split at Yd<;>omega,hb,fun hz=>?_⟩;obtain⟨v1,v2,sg',mt',L',hv,WU,hL,hV,hl,ht⟩:=h0 hz;injection hv with hv
  simp only[Array.mk.injEq,List.cons.injEq,UZ]at hv;obtain⟨rfl,rfl,h3⟩:=hv;injection h3 with _ h3
  subst h3;obtain⟨A,c9,e1,-,-,-⟩:=WU.os.shape;obtain⟨A',c9',e2,-,-,-⟩:=WU.om.shape;injection e1 with _ e1 _
  injection e2 with _ e2 _
  exact⟨sg',mt',hL,e1,e2,WU,hV,hl,ht⟩
theorem Ar{w:World}{g:Nat}{a b c d:Int}{o:Bool}(h:w.heap[g]?=some (.cells #[.int .i64 a,.int .i64 b,.int .i64 c,.int .i64 d,.bool o] 26 (0,0))):
  w.cell? ⟨g,0,none⟩=some (.int .i64 a)/\w.cell? ⟨g,1,none⟩=some (.int .i64 b)/\w.cell? ⟨g,2,none⟩=some (.int .i64 c)/\w.cell? ⟨g,3,none⟩=some (.int .i64 d)/\w.cell? ⟨g,4,none⟩=some (.bool o):=by
 refine⟨?_,?_,?_,?_,?_⟩<;>(rw[Rt _ _ _ _ _ _ h];rfl)
structure IW(w wx:World)(A1 A2:Option Addr)(c1 c2:Nat)(sg mt:List Int)(v:Value)(ms:List (Int×Int)):Prop where
 k0:wx.cell? ⟨w.heap.size,0,none⟩=some (.slice A1 sg.length c1)
 k1:wx.cell? ⟨w.heap.size,1,none⟩=some (.slice A2 mt.length c2)
 k2:wx.cell? ⟨w.heap.size,2,none⟩=some (.int .i64 0)
 g0:wx.frozen? ⟨w.heap.size,0,none⟩=false
 g1:wx.frozen? ⟨w.heap.size,1,none⟩=false
 g2:wx.frozen? ⟨w.heap.size,2,none⟩=false
 fr:dz wx (w.heap.size+2) (.slice A1 sg.length c1) (.slice A2 mt.length c2) sg mt
 zb:fD wx (w.heap.size+1)
 mo:tA wx (w.heap.size+2) v ms
 ap:∀g,v.ownBlock=some g->(Value.slice A1 sg.length c1).ownBlock≠some g/\(Value.slice A2 mt.length c2).ownBlock≠some g
 lt:w.heap.size+2<=wx.heap.size
 bl:Below w.heap.size w wx
section
variable{w wx w':World}{A1 A2 A1' A2':Option Addr}{c1 c2 c1' c2':Nat}{sg mt sg' mt':List Int}{v v':Value}{ms ms':List (Int×Int)}
theorem dz.reads{B:Nat}(h:dz w B (.slice A1 sg.length c1) (.slice A2 mt.length c2) sg mt):RI w (·<w.heap.size) A1 sg/\RI w (·<w.heap.size) A2 mt:=by
 obtain⟨A,c,e,-,-,hr⟩:=h.os.reads;obtain⟨A',c',e',-,-,Wi⟩:=h.om.reads;injection e with e _ _
 injection e' with e' _ _
 subst e e';exact⟨hr.imp fun b hb=>hb.2,Wi.imp fun b hb=>hb.2⟩
theorem dz.Nk{B:Nat}(h:dz w B (.slice A1 sg.length c1) (.slice A2 mt.length c2) sg mt):RI w (fun b=>B<=b/\b<w.heap.size) A1 sg/\RI w (fun b=>B<=b/\b<w.heap.size) A2 mt:=by
 obtain⟨A,c,e,-,-,hr⟩:=h.os.reads;obtain⟨A',c',e',-,-,Wi⟩:=h.om.reads;injection e with e _ _
 injection e' with e' _ _
 subst e e';exact⟨hr,Wi⟩
theorem Cx{g:Nat}{A:Option Addr}{xs:List Int}{x y z:Value}(h:RI w (fun b=>g+1<=b/\b<w.heap.size) A xs):RI (((w.setCell ⟨g,0,none⟩ x).setCell ⟨g,1,none⟩ y).setCell ⟨g,2,none⟩ z) (·<(((w.setCell ⟨g,0,none⟩ x).setCell ⟨g,1,none⟩ y).setCell ⟨g,2,none⟩ z).heap.size) A xs:=
 (h.ak fun b hb=>((Rn _ _ _ b oJ).trans (Rn _ _ _ b oJ)).trans (Rn _ _ _ b oJ)).imp fun b hb=>by simpa using hb.2
theorem IW.call(h:IW w wx A1 A2 c1 c2 sg mt v ms)(hb:Below wx.heap.size wx w'):IW w w' A1 A2 c1 c2 sg mt v ms:=by
 have hl:=h.lt;have o:∀i,w'.cell? ⟨w.heap.size,i,none⟩=wx.cell? ⟨w.heap.size,i,none⟩:=fun i=>hb.cell (p:=⟨w.heap.size,i,none⟩) oJ
 have o2:∀i,w'.frozen? ⟨w.heap.size,i,none⟩=wx.frozen? ⟨w.heap.size,i,none⟩:=fun i=>hb.frozen (p:=⟨w.heap.size,i,none⟩) oJ
 exact⟨(o _).trans h.k0,(o _).trans h.k1,(o _).trans h.k2,(o2 _).trans h.g0,(o2 _).trans h.g1,(o2 _).trans h.g2,h.fr.below hb (Rf _),h.zb.below hb,h.mo.below hb (Rf _),h.ap,RQ hl hb.size,h.bl.trans (hb.mono oZ)⟩
theorem wJ{w:World}{p:Addr}{u v:Value}(h:w.cell? p=some u):(w.setCell p v).cell? p=some v:=Ss (h:=h) ..
theorem jQ{w:World}{p q:Addr}{v:Value}(h:p≠q):(w.setCell p v).cell? q=w.cell? q:=R4 (h:=h) ..
structure JF(w wx:World)(v:Value)(ms:List (Int×Int)):Prop where
 k0:∃u,wx.cell? ⟨w.heap.size,0,none⟩=some u
 k1:∃u,wx.cell? ⟨w.heap.size,1,none⟩=some u
 k2:∃u,wx.cell? ⟨w.heap.size,2,none⟩=some u
 g0:wx.frozen? ⟨w.heap.size,0,none⟩=false
 g1:wx.frozen? ⟨w.heap.size,1,none⟩=false
 g2:wx.frozen? ⟨w.heap.size,2,none⟩=false
 zb:fD wx (w.heap.size+1)
 mo:tA wx (w.heap.size+2) v ms
 lt:w.heap.size+2<=wx.heap.size
 bl:Below w.heap.size w wx
theorem IW.b(h:IW w wx A1 A2 c1 c2 sg mt v ms):JF w wx v ms:=⟨⟨_,h.k0⟩,⟨_,h.k1⟩,⟨_,h.k2⟩,h.g0,h.g1,h.g2,h.zb,h.mo,h.lt,h.bl⟩
theorem JF.call(h:JF w wx v ms)(hb:Below wx.heap.size wx w'):JF w w' v ms:=by
 have hl:=h.lt;have o:∀i,w'.cell? ⟨w.heap.size,i,none⟩=wx.cell? ⟨w.heap.size,i,none⟩:=fun i=>hb.cell (p:=⟨w.heap.size,i,none⟩) oJ
 have o2:∀i,w'.frozen? ⟨w.heap.size,i,none⟩=wx.frozen? ⟨w.heap.size,i,none⟩:=fun i=>hb.frozen (p:=⟨w.heap.size,i,none⟩) oJ
 exact⟨by rw[o];exact h.k0,by rw[o];exact h.k1,by rw[o];exact h.k2,(o2 _).trans h.g0,(o2 _).trans h.g1,(o2 _).trans h.g2,h.zb.below hb,h.mo.below hb (Rf _),RQ hl hb.size,h.bl.trans (hb.mono oZ)⟩
theorem JF.new(d:Array Value)(hd:d.size=3):JF w ((w.alloc (.cells d 24)).alloc (.cells #[.slice none 0 0,.slice none 0 0,.int .i64 0] 24)) (.slice none 0 0) []:=by
 have h0:((w.alloc (.cells d 24)).alloc (.cells #[.slice none 0 0,.slice none 0 0,.int .i64 0] 24)).heap[w.heap.size]?=some (.cells d 24 (0,0)):=(Rx _ _ _ oX).trans (Ru w _);have h1:=Ru (w.alloc (.cells d 24)) (.cells #[.slice none 0 0,.slice none 0 0,.int .i64 0] 24);rw[show(w.alloc (.cells d 24)).heap.size=w.heap.size+1 by simp]at h1;have o:∀i,i<3->∃u,((w.alloc (.cells d 24)).alloc (.cells #[.slice none 0 0,.slice none 0 0,.int .i64 0] 24)).cell? ⟨w.heap.size,i,none⟩=some u:=fun i hi=>by rw[Rt _ _ _ _ _ _ h0];exact⟨_,R8 oZ⟩
 exact⟨o 0 oQ,o 1 oQ,o 2 oQ,RD _ _ _ _ _ h0,RD _ _ _ _ _ h0,RD _ _ _ _ _ h0,fD.new h1 oX,tA.nil _ _,oX,((Rh _ _).alloc (Rf _) _).alloc oX _⟩
theorem JF.put(h:JF w wx v ms)(hf:dz wx (w.heap.size+2) (.slice A1' sg'.length c1') (.slice A2' mt'.length c2') sg' mt')(hap:∀g,v.ownBlock=some g->(Value.slice A1' sg'.length c1').ownBlock≠some g/\(Value.slice A2' mt'.length c2').ownBlock≠some g):
  IW w (((wx.setCell ⟨w.heap.size,0,none⟩ (.slice A1' sg'.length c1')).setCell ⟨w.heap.size,1,none⟩ (.slice A2' mt'.length c2')).setCell ⟨w.heap.size,2,none⟩ (.int .i64 0)) A1' A2' c1' c2' sg' mt' v ms:=by
 have hl:=h.lt;have hk:∀b,b≠w.heap.size->(((wx.setCell ⟨w.heap.size,0,none⟩ (.slice A1' sg'.length c1')).setCell ⟨w.heap.size,1,none⟩ (.slice A2' mt'.length c2')).setCell ⟨w.heap.size,2,none⟩ (.int .i64 0)).heap[b]?=wx.heap[b]?:=fun b hb=>
  ((Rn _ _ _ b hb).trans (Rn _ _ _ b hb)).trans (Rn _ _ _ b hb)
 have hb:Below w.heap.size w (((wx.setCell ⟨w.heap.size,0,none⟩ (.slice A1' sg'.length c1')).setCell ⟨w.heap.size,1,none⟩ (.slice A2' mt'.length c2')).setCell ⟨w.heap.size,2,none⟩ (.int .i64 0)):=by (iterate 3 refine RM ?_ oJ _);exact h.bl
 refine⟨?_,?_,?_,?_,?_,?_,⟨hf.os.ak fun g hg=>hk g (by have:=(hf.os.lt g hg).1;omega),hf.om.ak fun g hg=>hk g (by have:=(hf.om.lt g hg).1;omega),hf.ne⟩,h.zb.ak (hk _ oZ) oX,h.mo.ak fun g hg=>hk g (by have:=(h.mo.lt g hg).1;omega),hap,by simpa using hl,hb⟩;{rw[jQ oX,jQ oX,wJ h.k0.choose_spec]};{rw[jQ oX,wJ ((jQ oX).trans h.k1.choose_spec)]};{rw[wJ ((jQ oX).trans ((jQ oX).trans h.k2.choose_spec))]};{simpa using h.g0};{simpa using h.g1};{simpa using h.g2}
theorem IW.push{y z:Int}(h:IW w wx A1 A2 c1 c2 sg mt v ms)(ho:tA w' (w.heap.size+2) v' ms')(hg:(wx.alloc (.cells #[.int .i64 3,.int .i64 y,.int .i64 z,.int .i64 0,.bool true] 26)).grownBy w' v.ownBlock)(Vu:v'.ownBlock=v.ownBlock\/v'.ownBlock=some (wx.heap.size+1)):IW w w' A1 A2 c1 c2 sg mt v' ms':=by
 have hl:=h.lt;have hb:Below (w.heap.size+2) wx w':=h.mo.eH (Rh _ _) hl _ hg;have hk:∀b,b<wx.heap.size->v.ownBlock≠some b->w'.heap[b]?=wx.heap[b]?:=fun b h1 h2=>(hg.block b qj (fun e=>h2 e.symm)).trans (Rx _ _ b h1)
 have o:∀i,w'.cell? ⟨w.heap.size,i,none⟩=wx.cell? ⟨w.heap.size,i,none⟩:=fun i=>hb.cell (p:=⟨w.heap.size,i,none⟩) oJ
 have o2:∀i,w'.frozen? ⟨w.heap.size,i,none⟩=wx.frozen? ⟨w.heap.size,i,none⟩:=fun i=>hb.frozen (p:=⟨w.heap.size,i,none⟩) oJ
 exact⟨(o _).trans h.k0,(o _).trans h.k1,(o _).trans h.k2,(o2 _).trans h.g0,(o2 _).trans h.g1,(o2 _).trans h.g2,⟨h.fr.os.ak fun g hg=>hk g (h.fr.os.lt g hg).2 (fun e=>(h.ap g e).1 hg),h.fr.om.ak fun g hg=>hk g (h.fr.om.lt g hg).2 (fun e=>(h.ap g e).2 hg),h.fr.ne⟩,h.zb.ak (hb.block _ oZ) hb.size,ho,fun g hg=>by
  rcases Vu with e|e
  {exact h.ap g (by rw[<-e];exact hg)}
  ·rw[e]at hg
   injection hg with hg
   subst hg;exact⟨fun e1=>by have:=(h.fr.os.lt _ e1).2;omega,fun e1=>by have:=(h.fr.om.lt _ e1).2;omega⟩,RQ hl hb.size,h.bl.trans (hb.mono oZ)⟩
end
end Go.Proofs.YtdbhigmklejicaaGreat
