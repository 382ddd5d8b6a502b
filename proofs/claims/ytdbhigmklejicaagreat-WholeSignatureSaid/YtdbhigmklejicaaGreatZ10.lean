/- Lemmas, each under its own premises. -/
import Derived.Test.YtdbhigmklejicaaGreatZ09
import Derived.StillTail
import Derived.Deep.Quiet
namespace Go.Proofs.YtdbhigmklejicaaGreat
set_option maxHeartbeats 16000000
set_option maxRecDepth 100000
open Go.RowKit
section
variable{w wr w':World}{A1 A2:Option Addr}{c1 c2:Nat}{sg mt:List Int}{L kd X Y s:Int}{ov:Bool}
theorem oF.MW{A3 A4:Option Addr}{c3 c4:Nat}{S:Nat->Prop}(hx:RI w S A1 sg)(hy:RI w S A2 mt)(hS:∀b,S b->b<w.heap.size):
  oF w ((((w.alloc (.cells #[.slice A1 sg.length c1,.slice A2 mt.length c2,.int .i64 L,.slice A3 mt.length c3,.slice A4 sg.length c4] 52)).alloc (.cells #[.int .i64 kd,.int .i64 X,.int .i64 Y,.int .i64 s,.bool ov] 26)).alloc (.cells #[.slice none 0 0,.slice none 0 0,.int .i64 0] 24)).alloc (.cells #[.int .i64 0,.int .i64 0,.int .i64 0,.int .i64 0,.bool false] 26)) A1 A2 c1 c2 sg mt L kd X Y s ov/\
  ((((w.alloc (.cells #[.slice A1 sg.length c1,.slice A2 mt.length c2,.int .i64 L,.slice A3 mt.length c3,.slice A4 sg.length c4] 52)).alloc (.cells #[.int .i64 kd,.int .i64 X,.int .i64 Y,.int .i64 s,.bool ov] 26)).alloc (.cells #[.slice none 0 0,.slice none 0 0,.int .i64 0] 24)).alloc (.cells #[.int .i64 0,.int .i64 0,.int .i64 0,.int .i64 0,.bool false] 26)).cell? ⟨w.heap.size,3,none⟩=some (.slice A3 mt.length c3)/\
  ((((w.alloc (.cells #[.slice A1 sg.length c1,.slice A2 mt.length c2,.int .i64 L,.slice A3 mt.length c3,.slice A4 sg.length c4] 52)).alloc (.cells #[.int .i64 kd,.int .i64 X,.int .i64 Y,.int .i64 s,.bool ov] 26)).alloc (.cells #[.slice none 0 0,.slice none 0 0,.int .i64 0] 24)).alloc (.cells #[.int .i64 0,.int .i64 0,.int .i64 0,.int .i64 0,.bool false] 26)).cell? ⟨w.heap.size,4,none⟩=some (.slice A4 sg.length c4):=by
 have Vi:Below w.heap.size w (w.alloc (.cells #[.slice A1 sg.length c1,.slice A2 mt.length c2,.int .i64 L,.slice A3 mt.length c3,.slice A4 sg.length c4] 52)):=(Rh _ _).alloc (Rf _) _;have k1:=Ru w (.cells #[.slice A1 sg.length c1,.slice A2 mt.length c2,.int .i64 L,.slice A3 mt.length c3,.slice A4 sg.length c4] 52);have s1:(w.alloc (.cells #[.slice A1 sg.length c1,.slice A2 mt.length c2,.int .i64 L,.slice A3 mt.length c3,.slice A4 sg.length c4] 52)).heap.size=w.heap.size+1:=oX;obtain⟨w1,h1⟩:∃x,w.alloc (.cells #[.slice A1 sg.length c1,.slice A2 mt.length c2,.int .i64 L,.slice A3 mt.length c3,.slice A4 sg.length c4] 52)=x:=⟨_,rfl⟩
 rw[h1]at Vi k1 s1⊢;have Vj:Below w1.heap.size w1 (w1.alloc (.cells #[.int .i64 kd,.int .i64 X,.int .i64 Y,.int .i64 s,.bool ov] 26)):=(Rh _ _).alloc (Rf _) _;have k2:=Ru w1 (.cells #[.int .i64 kd,.int .i64 X,.int .i64 Y,.int .i64 s,.bool ov] 26);have s2:(w1.alloc (.cells #[.int .i64 kd,.int .i64 X,.int .i64 Y,.int .i64 s,.bool ov] 26)).heap.size=w.heap.size+2:=by simp[s1]
 obtain⟨w2,h2⟩:∃x,w1.alloc (.cells #[.int .i64 kd,.int .i64 X,.int .i64 Y,.int .i64 s,.bool ov] 26)=x:=⟨_,rfl⟩
 rw[h2]at Vj k2 s2⊢;have Vt:Below w2.heap.size w2 (w2.alloc (.cells #[.slice none 0 0,.slice none 0 0,.int .i64 0] 24)):=(Rh _ _).alloc (Rf _) _;have k3:=Ru w2 (.cells #[.slice none 0 0,.slice none 0 0,.int .i64 0] 24);have s3:(w2.alloc (.cells #[.slice none 0 0,.slice none 0 0,.int .i64 0] 24)).heap.size=w.heap.size+3:=by simp[s2]
 obtain⟨w3,h3⟩:∃x,w2.alloc (.cells #[.slice none 0 0,.slice none 0 0,.int .i64 0] 24)=x:=⟨_,rfl⟩
 rw[h3]at Vt k3 s3⊢;have Wp:Below w3.heap.size w3 (w3.alloc (.cells #[.int .i64 0,.int .i64 0,.int .i64 0,.int .i64 0,.bool false] 26)):=(Rh _ _).alloc (Rf _) _;have k4:=Ru w3 (.cells #[.int .i64 0,.int .i64 0,.int .i64 0,.int .i64 0,.bool false] 26);have s4:(w3.alloc (.cells #[.int .i64 0,.int .i64 0,.int .i64 0,.int .i64 0,.bool false] 26)).heap.size=w.heap.size+4:=by simp[s3]
 obtain⟨w4,h4⟩:∃x,w3.alloc (.cells #[.int .i64 0,.int .i64 0,.int .i64 0,.int .i64 0,.bool false] 26)=x:=⟨_,rfl⟩
 rw[h4]at Wp k4 s4⊢;rw[s1]at k2;rw[s2]at k3;rw[s3]at k4;have e1:w4.heap[w.heap.size]?=some (.cells #[.slice A1 sg.length c1,.slice A2 mt.length c2,.int .i64 L,.slice A3 mt.length c3,.slice A4 sg.length c4] 52 (0,0)):=by rw[Wp.block _ oZ,Vt.block _ oZ,Vj.block _ oZ];exact k1
 have e2:w4.heap[w.heap.size+1]?=some (.cells #[.int .i64 kd,.int .i64 X,.int .i64 Y,.int .i64 s,.bool ov] 26 (0,0)):=by rw[Wp.block _ oZ,Vt.block _ oZ];exact k2
 have e3:w4.heap[w.heap.size+2]?=some (.cells #[.slice none 0 0,.slice none 0 0,.int .i64 0] 24 (0,0)):=by rw[Wp.block _ oZ];exact k3
 have hb:Below w.heap.size w w4:=((Vi.trans (Vj.mono oZ)).trans (Vt.mono oZ)).trans (Wp.mono oZ);refine⟨⟨?_,?_,?_,?_,?_,?_,?_,?_,fD.new e3 oZ,mD.new k4,?_,?_,oZ,hb⟩,?_,?_⟩;{rw[Rt _ _ _ _ _ _ e1];rfl};{rw[Rt _ _ _ _ _ _ e1];rfl};{rw[Rt _ _ _ _ _ _ e1];rfl};{rw[Rt _ _ _ _ _ _ e2];rfl};{rw[Rt _ _ _ _ _ _ e2];rfl};{rw[Rt _ _ _ _ _ _ e2];rfl};{rw[Rt _ _ _ _ _ _ e2];rfl};{rw[Rt _ _ _ _ _ _ e2];rfl};{exact(hx.ak fun b Vz=>hb.block b (hS b Vz)).imp fun b Vz=>hS b Vz};{exact(hy.ak fun b Vz=>hb.block b (hS b Vz)).imp fun b Vz=>hS b Vz};{rw[Rt _ _ _ _ _ _ e1];rfl};{rw[Rt _ _ _ _ _ _ e1];rfl}
end
def Qc(w:World)(er:Int)(P:List Int->List Int->Int->Prop)(e:Ending)(w':World):Prop:=
 ∃(dv mv:Value),e= .returned (.tuple #[dv,mv,.int .i64 er])/\OV dv mv/\Below w.heap.size w w'/\(er=0->∃v1 v2 sg' mt' L',dv= .agg #[v1,v2,.int .i64 L']/\dz w' w.heap.size v1 v2 sg' mt'/\P sg' mt' L')
def wD(mt:List Int)(n f0 f1:Nat):List Int:=bH (bH (mt++List.replicate 8 0) (ao n f0 1) (ao (n+1) f1 1)) (ao (n+1) f1 2) (ao n f0 0)
def kI(mt:List Int)(n f0 f1 x y:Nat)(s:Int):List Int:=
 if s=1 then bH (bH (bH (wD mt n f0 f1) x (ao n f0 3)) (ao (n+1) f1 3) (ao (n+1) f1 0)) (ao n f0 2) (gn mt x)
 else if s= -1 then bH (bH (bH (wD mt n f0 f1) x (ao (n+1) f1 0)) (ao n f0 2) (ao n f0 3)) (ao (n+1) f1 3) (gn mt x)
 else bH (bH (bH (bH (wD mt n f0 f1) y (ao (n+1) f1 0)) (ao n f0 2) (gn mt y)) x (ao n f0 3)) (ao (n+1) f1 3) (gn mt x)
theorem vK{n f s:Nat}:ao n f s<4*n+4:=by unfold ao;omega
structure EV(w wr:World)(A1 A2:Option Addr)(c1 c2:Nat)(sg mt:List Int)(kd X Y s:Int)(ov:Bool)(b8 b9 b10 b11 g n5 k5:Nat)(v1:Value)(xs ys:List Int)(f0 f1:Int):Prop where
 mo:oF w wr A1 A2 c1 c2 sg mt 0 kd X Y s ov
 d1:wr.cell? ⟨b8,1,none⟩=some (.slice A2 mt.length c2)
 n0:wr.cell? ⟨b9,0,none⟩=some (.int .i64 (sg.length:Int))
 nw:GV wr (w.heap.size+4) b10 v1 (.slice (some ⟨g,0,none⟩) n5 k5) xs ys 0
 fs:fK wr b11 f0 f1
 hg:w.heap.size+4<=g
 ne:b8≠g/\b9≠g/\b11≠g
section
variable{w wr w':World}{A1 A2:Option Addr}{c1 c2:Nat}{sg mt:List Int}{kd X Y s:Int}{ov:Bool}{b8 b9 b10 b11 g n5 k5:Nat}{v1:Value}{xs ys ys':List Int}{f0 f1:Int}
theorem EV.call(h:EV w wr A1 A2 c1 c2 sg mt kd X Y s ov b8 b9 b10 b11 g n5 k5 v1 xs ys f0 f1)(hb:Below wr.heap.size wr w'):EV w w' A1 A2 c1 c2 sg mt kd X Y s ov b8 b9 b10 b11 g n5 k5 v1 xs ys f0 f1:=
 ⟨h.mo.call hb,jM hb h.d1,jM hb h.n0,h.nw.call hb,h.fs.call hb,h.hg,h.ne⟩
theorem EV.drew(h:EV w wr A1 A2 c1 c2 sg mt kd X Y s ov b8 b9 b10 b11 g n5 k5 v1 xs ys f0 f1):EV w wr.drew A1 A2 c1 c2 sg mt kd X Y s ov b8 b9 b10 b11 g n5 k5 v1 xs ys f0 f1:=h.call (Rh _ _).drew
theorem EV.mod(h:EV w wr A1 A2 c1 c2 sg mt kd X Y s ov b8 b9 b10 b11 g n5 k5 v1 xs ys f0 f1)(hm:Mod g wr w')(ho:OI w' (w.heap.size+4) (.slice (some ⟨g,0,none⟩) n5 k5) ys'):EV w w' A1 A2 c1 c2 sg mt kd X Y s ov b8 b9 b10 b11 g n5 k5 v1 xs ys' f0 f1:=
 ⟨h.mo.mod hm h.hg,(Ri (a:=⟨b8,1,none⟩) (hm.ak b8 h.ne.1)).trans h.d1,(Ri (a:=⟨b9,0,none⟩) (hm.ak b9 h.ne.2.1)).trans h.n0,h.nw.mod hm ho,(hm.ak b11 h.ne.2.2).trans h.fs,h.hg,h.ne⟩
end
theorem yQ{w wr:World}{A1 A2:Option Addr}{c1 c2:Nat}{sg mt:List Int}{kd X Y s:Int}{ov:Bool}{b8 b9 b10 b11 g n5 k5:Nat}{v1:Value}{xs ys:List Int}{f0 f1:Int}(h:EV w wr A1 A2 c1 c2 sg mt kd X Y s ov b8 b9 b10 b11 g n5 k5 v1 xs ys f0 f1)(hI:cP mt)
  (x a b:Nat)(x' a' b':Int)(hx':x'=x)(ha':a'=a)(Vz:b'=b)(hx:x<mt.length)(hl:mt.length<=ys.length)(ha:a<ys.length)(hb:b<ys.length):
  Calls Tryz.prog 53 #[.int .i64 x',.int .i64 a',.int .i64 b',.pointer (some ⟨b10,0,none⟩),.pointer (some ⟨b8,0,none⟩)] wr fun e w'=>e= .returned (.tuple #[])/\EV w w' A1 A2 c1 c2 sg mt kd X Y s ov b8 b9 b10 b11 g n5 k5 v1 xs (bH (bH ys x a) b (gn mt x)) f0 f1:=by
 subst hx' ha' Vz;have H:=Rb h;have r1:=h.nw.c1;have HX:Hid (x<ys.length):=Rb oZ;have VK:(0:Int)<=(x:Int):=oZ;have HA:=Rb ha;have HB:=Rb hb;have HG:Hid (gi mt x=(gn mt x:Int)/\gn mt x<ys.length):=Rb ⟨(hI.gn hx).1,by have:=(hI.gn hx).2.1;omega⟩;clear h hI ha hb hl;go_enter Tryz.func53,Tryz.ntmps53
 go_wp2_with fail;refine(cO g n5 k5 ys _ _ x a _ (w.heap.size+4) H.out.nw.o2 rfl rfl HX.out HA.out).mono ?_;rintro e w1 ⟨rfl,YS,VL⟩;have H1:=Rb (H.out.mod VL YS);clear YS VL r1 H;have r1:=H1.out.nw.c1;have r8:=H1.out.d1;obtain⟨b2,o2,e2,Xp,hc⟩:=H1.out.mo.rm.at_ hx;subst e2;have kx:=hc x hx;rw[HG.out.1]at kx;clear hc;go_wp2_with fail
 go_still_tail 8,qk
 have H2:=Rb H1.out.drew;clear r1 r8 kx H1;go_wp2_with fail;refine(cO g n5 k5 (bH ys x a) _ _ b (gn mt x) _ (w.heap.size+4) (by exact H2.out.nw.o2) rfl rfl (by rw[al];exact HB.out) (by rw[al];exact HG.out.2)).mono ?_;rintro e w3 ⟨rfl,ho3,hm3⟩;have H3:=Rb (H2.out.mod hm3 ho3);clear ho3 hm3;go_wp2_with fail
 go_end0
 exact⟨rfl,H3.out⟩
section
variable{P:Program}{ops:Array Oper}{md:Region.Mode}{C:World->Prop}
def zE(P:Program)(md:Region.Mode)(ops:Array Oper)(C:World->Prop)(n:Nat)(L:Array Bool->Act->Prop):Nat->Array Bool->Act->Prop
 |0,Vl,a=>L Vl a
 |f+1,Vl,a=>Region.ready md ops Vl≠[]/\∀i∈Region.ready md ops Vl,i<n/\qOp P ops C i (zE P md ops C n L f (Vl.setIfInBounds i true)) a
theorem CA{n g:Nat}{L:Array Bool->Act->Prop}{Q':Exit->Act->World->Prop}(hL:∀Vl a w,C w->L Vl a->wpAny P md ops Q' g Vl a w):
  ∀(f:Nat)(Vl:Array Bool)(a:Act)(w:World),C w->zE P md ops C n L f Vl a->wpAny P md ops Q' (f+g) Vl a w
 |0,Vl,a,w,hw,h=>by rw[Sr];exact hL _ _ _ hw h
 |f+1,Vl,a,w,hw,h=>by rw[show f+1+g=(f+g)+1 by omega];exact⟨fun h0=>absurd h0 h.1,fun i hi=>wpOp_of_qOp hw (fun a' w' hw' h'=>CA hL f _ a' w' hw' h') (h.2 i hi).2⟩
theorem Iy{n i:Nat}{oi:Oper}{v:Value}{L:Array Bool->Act->Prop}(hi:ops[i]?=some oi)(ZK:∀(j:Nat)(o:Oper) cs b,ops[j]?=some o->o.op≠ .select cs b)
  (hs:Region.sinkB md ops n=true)(hc:Region.chainB md ops n=true)(hn:n<ops.size)(Vn:i<n)(hdone:∀Vl a,L Vl a->∀j∈Region.ready md ops Vl,n<=j):
  ∀(f:Nat)(Vl:Array Bool)(a:Act),HeadInv md ops n Vl->
   (∀j oj,ops[j]?=some oj->j≠i->Vl.getD j true=false->(∀e∈oj.after,Region.binds md e=true->e.on≠i)->oi.apart ops oj=true)->
   i∈Region.ready md ops Vl->YieldsIn P ops C oi v a->
   zE P md ops C n L f (Vl.setIfInBounds i true) (a.put oi.dst v)->zE P md ops C n L (f+1) Vl a:=by
 intro f
 induction f with
 |zero=>
  intro Vl a inv _ hr hy H;have hun:=(mem_ready.1 hr).1;refine⟨fun h=>(by rw[h]at hr;cases hr),fun j hj=>?_⟩;have hjn:j<n:=U8 fun h=>tail_waits hs hc hn inv _ i rfl Vn hun j h hj
  refine⟨hjn,?_⟩;by_cases Y1:j=i;{subst Y1;exact hy.qOp hi H};{have:=hdone _ _ H j (ready_mono hj Y1);omega}
 |succ f ih=>
  intro Vl a inv hfree hr hy H;have hun:=(mem_ready.1 hr).1;refine⟨fun h=>(by rw[h]at hr;cases hr),fun j hj=>?_⟩;have hjn:j<n:=U8 fun h=>tail_waits hs hc hn inv _ i rfl Vn hun j h hj
  refine⟨hjn,?_⟩;by_cases Y1:j=i;{subst Y1;exact hy.qOp hi H}
  ·have h1:=(H.2 j (ready_mono hj Y1)).2
   obtain⟨hjun,oj,hoj,Vx⟩:=mem_ready.1 hj;have hnot:∀e∈oj.after,Region.binds md e=true->e.on≠i:=fun e he hb heq=>by
    have h1:=Vx e he hb;rw[heq,getD_both hun]at h1
    cases h1
   have h2:=qOp_put hoj (hfree j oj hoj Y1 hjun hnot) (fun cs b=>ZK i oi cs b hi) (fun cs b=>ZK j oj cs b hoj) hy h1
   have hfree':∀k ok,ops[k]?=some ok->k≠i->(Vl.setIfInBounds j true).getD k true=false->
     (∀e∈ok.after,Region.binds md e=true->e.on≠i)->oi.apart ops ok=true:=fun k ok hk hki hun VT=>by
    refine hfree k ok hk hki ?_ VT;by_cases hjk:j=k;{subst hjk;exact hjun};{rw[getD_set_ne true hjk]at hun;exact hun}
   refine qOp_mono (fun a' h3=>ih (Vl.setIfInBounds j true) a' (inv.set hj hjn) hfree' (ready_mono hr (TM Y1)) h3.1 ?_) h2;rw[Array.setIfInBounds_comm _ _ Y1];exact h3.2
theorem FU{n g:Nat}{Lq:Act->Prop}(ZK:Region.noSelect ops=true)(hs:Region.sinkB md ops n=true)(hc:Region.chainB md ops n=true)(hn:n<ops.size):
  ∀(l:List Oper)(k:Nat)(Vl:Array Bool)(a:Act),(∀j,j<l.length->l[j]?=ops[k+j]?)->k+l.length=n->HeadInv md ops n Vl->
  Region.lexHead md ops g l.length k Vl=true->wpQuiet P ops C Lq l a->
  zE P md ops C n (fun listed' a'=>Region.seqB md ops g n listed'=true/\Lq a') l.length Vl a
 |[],k,Vl,a,_,hk,_,hB,h=>by
  obtain rfl:k=n:=by simpa using hk
  exact⟨by simpa[Region.lexHead]using hB,h⟩
 |o::l,k,Vl,a,hl,hk,inv,hB,h=>by
  have h0:ops[k]?=some o:=by simpa using(hl 0 oX).symm
  simp only[SI,Region.lexHead,RA]at hB;obtain⟨⟨hr,hf⟩,hB'⟩:=hB;have Zl:k<n:=by simp only[SI]at hk;omega
  have Wi:k∈Region.ready md ops Vl:=by simpa using hr
  have XD:qOp P ops C k (wpQuiet P ops C Lq l) a:=by unfold qOp;simp only[h0];exact h
  obtain⟨v,hy,hK⟩:=yieldsIn_of_qOp h0 XD
  exact Iy h0 (Region.noSelect_spec ZK) hs hc hn Zl (fun listed' a' hL=>seqB_ready hL.1) l.length Vl a inv (Region.free_spec h0 hf) Wi hy
   (FU ZK hs hc hn l (k+1) _ _ (fun j hj=>by have:=hl (j+1) qj;simpa[TO,Uw 1 j]using this) (by simp only[SI]at hk;omega) (inv.set Wi Zl) hB' hK)
theorem aV{id:Nat}{Q:Exit->Act->World->Prop}{a:Act}{w:World}{l:List Oper}(n:Nat)(hm:P.follows .mixedOrders=true)(hB:Region.lexTailB .any l.toArray n=true)
  (h:wpQuiet P l.toArray (fun w'=>∃n,w'=w.drewN n) (fun a'=>∀w',(∃n,w'=w.drewN n)->wpList P l.toArray Q (l.drop n) a' w') (l.take n) a):(Code.region id l.toArray true).wp P Q a w:=by
 simp only[Region.lexTailB,RA,RE]at hB;obtain⟨⟨⟨⟨ZK,hn⟩,hs⟩,hc⟩,hlex⟩:=hB;have hn':n<l.length:=by simpa using hn
 have htl:(l.take n).length=n:=by simp;omega
 have hdl:(l.drop n).length=l.toArray.size-n:=oX;have inv0:HeadInv .any l.toArray n (Array.replicate l.toArray.size false):=
  ⟨oX,fun j oj _ hl=>(by rw[getD_replicate_false]at hl;cases hl),fun t _ ht=>getD_in (by simpa using ht) (getD_replicate_false _ _)⟩
 have H:=FU (md:= .any) (g:=l.toArray.size-n) ZK hs hc hn (l.take n) 0 _ a (fun j hj=>by
  have YP:j<n:=by rw[htl]at hj;exact hj
  simp[YP]) (by simpa using htl) inv0 (by rw[htl];exact hlex) h
 refine wp_region_any hm ?_;have:=CA (Q':=Q) (C:=fun w'=>∃n,w'=w.drewN n) (g:=l.toArray.size-n) (fun Vl a' w' hw' hL=>by
  have:=wpAny_of_seq (P:=P) (Q':=Q) (l.drop n) n Vl a' w' (fun j=>by simp) (by rw[hdl];exact hL.1) (hL.2 w' hw');rwa [hdl]at this) (l.take n).length _ a _ ⟨1,rfl⟩ H
 rw[htl,show n+(l.toArray.size-n)=l.toArray.size by omega]at this;exact this
end
theorem Be(w:World):w.drew.heap=w.heap:=rfl
theorem Mk(mt:List Int)(n f0 f1 x y:Nat):kI mt n f0 f1 x y 0=bH (bH (bH (bH (bH (bH (mt++List.replicate 8 0) (ao n f0 1) (ao (n+1) f1 1)) (ao (n+1) f1 2) (ao n f0 0)) y (ao (n+1) f1 0)) (ao n f0 2) (gn mt y)) x (ao n f0 3)) (ao (n+1) f1 3) (gn mt x):=by unfold kI wD;rw[Rc (show¬(0:Int)=1 by decide),Rc (show¬(0:Int)= -1 by decide)]
theorem Nq(mt:List Int)(n f0 f1 x y:Nat):kI mt n f0 f1 x y 1=bH (bH (bH (bH (bH (mt++List.replicate 8 0) (ao n f0 1) (ao (n+1) f1 1)) (ao (n+1) f1 2) (ao n f0 0)) x (ao n f0 3)) (ao (n+1) f1 3) (ao (n+1) f1 0)) (ao n f0 2) (gn mt x):=by unfold kI wD;rw[Re rfl]
theorem Mn(mt:List Int)(n f0 f1 x y:Nat):kI mt n f0 f1 x y (-1)=bH (bH (bH (bH (bH (mt++List.replicate 8 0) (ao n f0 1) (ao (n+1) f1 1)) (ao (n+1) f1 2) (ao n f0 0)) x (ao (n+1) f1 0)) (ao n f0 2) (ao n f0 3)) (ao (n+1) f1 3) (gn mt x):=by unfold kI wD;rw[Rc (show¬(-1:Int)=1 by decide),Re rfl]
theorem LX(bn bf n f:Nat)(s':Int)(w:World)(h1:w.cell? ⟨bn,0,none⟩=some (.int .i64 (n:Int)))(h2:w.cell? ⟨bf,0,none⟩=some (.int .i64 (f:Int)))(hn:n<=999)(hf:f<=3)(hs:0<=s'/\s'<=3):
  Calls Tryz.prog 50 #[.int .i64 s',.pointer (some ⟨bn,0,none⟩),.pointer (some ⟨bf,0,none⟩)] w fun e w'=>e= .returned (.int .i64 (ao n f s'.toNat:Nat))/\w=w':=mS bn bf n f s'.toNat s' w h1 h2 oZ hn hf oZ
theorem MK(bn bf n f:Nat)(s':Int)(w:World)(h1:w.cell? ⟨bn,0,none⟩=some (.int .i64 (n:Int)))(h2:w.cell? ⟨bf,1,none⟩=some (.int .i64 (f:Int)))(hn:n<=999)(hf:f<=3)(hs:0<=s'/\s'<=3):
  Calls Tryz.prog 52 #[.int .i64 s',.pointer (some ⟨bn,0,none⟩),.pointer (some ⟨bf,0,none⟩)] w fun e w'=>e= .returned (.int .i64 (ao (n+1) f s'.toNat:Nat))/\w=w':=m_ bn bf n f s'.toNat s' w h1 h2 oZ hn hf oZ
theorem Oi{w wr w':World}{b9 b10:Nat}{u0 u1 u2 un:Value}(h9:w.heap.size+4<=b9)(h10:w.heap.size+4<=b10)
  (r0:wr.cell? ⟨b10,0,none⟩=some u0)(r1:wr.cell? ⟨b10,1,none⟩=some u1)(r2:wr.cell? ⟨b10,2,none⟩=some u2)(rn:wr.cell? ⟨b9,0,none⟩=some un)(h:Kp w.heap.size wr w'):
  w'.cell? ⟨b10,0,none⟩=some u0/\w'.cell? ⟨b10,1,none⟩=some u1/\w'.cell? ⟨b10,2,none⟩=some u2/\w'.cell? ⟨b9,0,none⟩=some un:=
 ⟨h.cell oZ oZ r0,h.cell oZ oZ r1,h.cell oZ oZ r2,h.cell oZ oZ rn⟩
theorem FM{w:World}{o:Obj}{N:Nat}{A1 A2:Option Addr}{c1 c2:Nat}{sg mt:List Int}{L:Int}(hx:RI w (·<N) A1 sg)(hy:RI w (·<N) A2 mt)(hN:N<=w.heap.size):
  bI ((w.alloc o).alloc (.cells #[.slice A1 sg.length c1,.slice A2 mt.length c2,.int .i64 L] 24)).drew (w.heap.size+1) A1 A2 c1 c2 sg mt L:=by
 have hb:Below w.heap.size w (w.alloc o):=(Rh _ _).alloc (Rf _) _;have h:=(bI.start (w:=w.alloc o) (c1:=c1) (c2:=c2) (L:=L) (·<N) (hx.ak fun b Vz=>hb.block b oZ) (hy.ak fun b Vz=>hb.block b oZ) (fun b Vz=>by simp;omega)).below (Rh _ _).drew;rwa [show(w.alloc o).heap.size=w.heap.size+1 by simp]at h
theorem Iz(A1 A2 A3 A4:Option Addr)(c1 c2 c3 c4:Nat)(sg mt lf:List Int)(kd X Y s:Int)(ov:Bool)(w:World)(S:Nat->Prop)(hx:RI w S A1 sg)(hy:RI w S A2 mt)(hl:RI w S A3 lf)(hp:RI w S A4 (List.replicate sg.length 0))(hS:∀b,S b->b<w.heap.size)(hd:cJ sg mt 0)(W7:lf.length=mt.length)
  (hX: -2<=X/\X<mt.length)(hY: -2<=Y/\Y<mt.length)(hs:(X≠Y/\s=0)\/(X=Y/\(X<0\/s=1\/s= -1))):
  Calls Tryz.prog 21 #[.agg #[.slice A1 sg.length c1,.slice A2 mt.length c2,.int .i64 0,.slice A3 mt.length c3,.slice A4 sg.length c4],.agg #[.int .i64 kd,.int .i64 X,.int .i64 Y,.int .i64 s,.bool ov]] w
   (Qc w (yA sg.length lf mt X Y s) fun sg' mt' L'=>∃x y:Nat,X=x/\Y=y/\x<mt.length/\y<mt.length/\L'=0/\sg'=sg++[cM (kW (ai sg x) (ai sg y) ov) (vV (ai sg x) (ai sg y) ov),cM (kV (ai sg x) (ai sg y) ov) (vW (ai sg x) (ai sg y) ov)]/\
    mt'=kI mt sg.length (kW (ai sg x) (ai sg y) ov) (kV (ai sg x) (ai sg y) ov) x y s):=by
 have T0:=Rb (oF.MW (c1:=c1) (c2:=c2) (c3:=c3) (c4:=c4) (A3:=A3) (A4:=A4) (L:=0) (kd:=kd) (X:=X) (Y:=Y) (s:=s) (ov:=ov) hx hy hS);have hRl:RI ((((w.alloc (.cells #[.slice A1 sg.length c1,.slice A2 mt.length c2,.int .i64 0,.slice A3 mt.length c3,.slice A4 sg.length c4] 52)).alloc (.cells #[.int .i64 kd,.int .i64 X,.int .i64 Y,.int .i64 s,.bool ov] 26)).alloc (.cells #[.slice none 0 0,.slice none 0 0,.int .i64 0] 24)).alloc (.cells #[.int .i64 0,.int .i64 0,.int .i64 0,.int .i64 0,.bool false] 26)) (·<w.heap.size) A3 lf:=
  (hl.ak fun b hb=>T0.out.1.bel.block b (hS b hb)).imp fun b hb=>hS b hb
 have hRp:RI ((((w.alloc (.cells #[.slice A1 sg.length c1,.slice A2 mt.length c2,.int .i64 0,.slice A3 mt.length c3,.slice A4 sg.length c4] 52)).alloc (.cells #[.int .i64 kd,.int .i64 X,.int .i64 Y,.int .i64 s,.bool ov] 26)).alloc (.cells #[.slice none 0 0,.slice none 0 0,.int .i64 0] 24)).alloc (.cells #[.int .i64 0,.int .i64 0,.int .i64 0,.int .i64 0,.bool false] 26)) (·<w.heap.size) A4 (List.replicate sg.length 0):=
  (hp.ak fun b hb=>T0.out.1.bel.block b (hS b hb)).imp fun b hb=>hS b hb
 have Y4:=Rb hRl;have HRP:=Rb hRp;have HD:=Rb hd;have HI:=Rb hd.2.2.2.2.2.1;have VO:sg.length<=64:=hd.1;have H2:=Rb hd.2.1;have WR:=Rb W7;have HXX:=Rb hX;have HYY:=Rb hY;have HSS:=Rb hs;have VQ:mt.length<=256:=by have:=hd.2.1;omega
 have k0:=T0.out.1.c0;have k1:=T0.out.1.c1;have k2:=T0.out.1.c2;have k3:=T0.out.2.1;have k4:=T0.out.2.2;have n0:=T0.out.1.m0;have n1:=T0.out.1.m1;have n2:=T0.out.1.m2;have n3:=T0.out.1.m3;have n4:=T0.out.1.m4;clear hx hy hS hd hX hY hs hl hp W7 hRl hRp;go_enter Tryz.func21,Tryz.ntmps21
 go_wp2_with fail;generalize hW:(((w.alloc (.cells #[.slice A1 sg.length c1,.slice A2 mt.length c2,.int .i64 0,.slice A3 mt.length c3,.slice A4 sg.length c4] 52)).alloc (.cells #[.int .i64 kd,.int .i64 X,.int .i64 Y,.int .i64 s,.bool ov] 26)).alloc (.cells #[.slice none 0 0,.slice none 0 0,.int .i64 0] 24)).alloc (.cells #[.int .i64 0,.int .i64 0,.int .i64 0,.int .i64 0,.bool false] 26)=wr at*;clear hW;have T0':=Rb T0.out.1;refine(xI A1 A2 A3 A4 c1 c2 c3 c4 sg mt lf kd X Y s ov wr (·<w.heap.size) T0'.out.rm Y4.out HRP.out (fun b hb=>by have:=T0'.out.lt;omega) H2.out VO WR.out HI.out HXX.out HYY.out (fun Vh=>by rcases HSS.out with h|h;exact h.2;exact absurd h.1 Vh)).mono ?_;rintro e w1 ⟨rfl,Vi⟩;have T1:=Rb (T0'.out.call Vi);obtain⟨er,her⟩:∃er,yA sg.length lf mt X Y s=er:=⟨_,rfl⟩
 rw[her];have Y5:=Rb her;have V5:=T1.out.lt;clear Vi k0 k1 k2 k3 k4 n0 n1 n2 n3 n4 T0 T0' Y4 HRP her;by_cases he0:er=0
 ·subst he0
  have hpk:0<=X/\0<=Y/\¬62<sg.length:=by
   have h:=Y5.out;have hss:=HSS.out;unfold yA at h;by_cases hc:X<0\/(Y<0/\s=0)\/(0<=X/\0<=Y/\X≠Y/\jG lf mt X.toNat Y.toNat=false);{rw[Re hc]at h;omega}
   ·rw[Rc hc]at h
    have hX0:¬X<0:=fun h=>hc (.inl h)
    have hY0:¬(Y<0/\s=0):=fun h=>hc (.inr (.inl h))
    refine⟨oZ,?_,fun h62=>by rw[Re h62]at h;omega⟩;rcases hss with⟨h1,h2⟩|⟨h1,h2⟩<;>omega
  obtain⟨hX0,hY0,h62⟩:=hpk;obtain⟨x,rfl⟩:∃x:Nat,X=x:=⟨X.toNat,oZ⟩
  obtain⟨y,rfl⟩:∃y:Nat,Y=y:=⟨Y.toNat,oZ⟩
  have Ya:Hid (x<mt.length/\y<mt.length):=Rb ⟨by have:=HXX.out.2;omega,by have:=HYY.out.2;omega⟩;obtain⟨fX,hfX⟩:∃b,ai sg x=b:=⟨_,rfl⟩
  obtain⟨fY,hfY⟩:∃b,ai sg y=b:=⟨_,rfl⟩
  obtain⟨f0,hf0⟩:∃n,kW fX fY ov=n:=⟨_,rfl⟩
  obtain⟨f1,hf1⟩:∃n,kV fX fY ov=n:=⟨_,rfl⟩
  have hle:=qw fX fY ov;rw[hf0,hf1]at hle;have HFX:=Rb hfX;have HFY:=Rb hfY;have HF0:=Rb hf0;have Zt:=Rb hf1;have Xb:=Rb hle;clear hfX hfY hf0 hf1 hle HXX HYY;have j0:=T1.out.c0;have j1:=T1.out.c1;have j2:=T1.out.c2;have We:w.heap.size<w1.heap.size:=oZ;go_upto_region 4 with(fail)
  go_cut [8,9]from 23 to 28 (fun v8 v9 wx=>∃b8 b9:Nat,v8= .pointer (some ⟨b8,0,none⟩)/\v9= .pointer (some ⟨b9,0,none⟩)/\Hid (oF w wx A1 A2 c1 c2 sg mt 0 kd x y s ov)/\Hid (bI wx b8 A1 A2 c1 c2 sg mt 0)/\Hid (wx.cell? ⟨b9,0,none⟩=some (.int .i64 (sg.length:Int)))/\w.heap.size+4<=b9)
  case first=>
   go_region
   all_goals
    go_wp2_with fail
    go_meet
    case rel=>
     have VI:w.heap.size<=w1.heap.size:=oZ
     first
      |exact⟨_,_,rfl,rfl,Rb ((T1.out.call ((Rh _ _).alloc (Rf _) _)).call ((Rh _ _).alloc (Rf _) _)).drew,Rb ((bI.start (c1:=c1) (c2:=c2) (L:=0) (·<w.heap.size) T1.out.rs T1.out.rm (fun b hb=>by omega)).below (((Rh _ _).alloc (Rf _) _).drew)),Rb (zv (qH oX rfl)),oZ⟩
      |exact⟨_,_,rfl,rfl,Rb ((T1.out.call ((Rh _ _).alloc (Rf _) _)).call ((Rh _ _).alloc (Rf _) _)).drew,Rb (FM T1.out.rs T1.out.rm VI),Rb (zv (qt (qH rfl rfl))),oZ⟩
  case rest=>
   obtain⟨b8,b9,rfl,rfl,T2,ZL,HN9,hb94⟩:=hcut;clear T1 j0 j1 j2 We V5;have j0:=ZL.out.c0;have j1:=ZL.out.c1;have j2:=ZL.out.c2;have n0:=T2.out.m0;have n1:=T2.out.m1;have n2:=T2.out.m2;have n3:=T2.out.m3;have n4:=T2.out.m4;go_wp2_with fail;refine(AS A1 A2 c1 c2 sg mt 0 kd _ _ s x y ov wc (·<wc.heap.size) ZL.out.rs ZL.out.rm (fun _ h=>h) VO H2.out rfl rfl (by have:=Ya.out;have:=H2.out;omega) (by have:=Ya.out;have:=H2.out;omega) fX fY HFX.out HFY.out).mono ?_;rintro e w3 ⟨v1,v2,rfl,hf,Vt⟩;rw[HF0.out,Zt.out]at hf⊢;have T3:=Rb (T2.out.call Vt);obtain⟨A6,k6,Wq,-,-,-⟩:=hf.os.shape;have VK:0<(mt++List.replicate 8 (0:Int)).length:=oX;obtain⟨g,k5,WK,Vs,Vv,-,-,-,-⟩:=hf.om.block VK;obtain⟨n6,hn6⟩:∃n,List.length (sg++[cM f0 (vV fX fY ov),cM f1 (vW fX fY ov)])=n:=⟨_,rfl⟩
   obtain⟨n5,hn5⟩:∃n,(mt++List.replicate 8 (0:Int)).length=n:=⟨_,rfl⟩
   rw[hn6]at Wq;rw[hn5]at WK;subst WK;subst Wq;obtain⟨ys,W'⟩:∃l,mt++List.replicate 8 (0:Int)=l:=⟨_,rfl⟩
   have VJ:ys.length=mt.length+8:=by rw[<-W'];simp
   obtain⟨xs,hxs⟩:∃l,sg++[cM f0 (vV fX fY ov),cM f1 (vW fX fY ov)]=l:=⟨_,rfl⟩
   rw[W',hxs]at hf;have hN:=tN (K:=0) (B:=w.heap.size+4) (⟨hf.os,hf.om,hf.ne⟩:NM w3 wc.heap.size _ _ _ _) T2.out.lt Vt.size;have hK:EV w ((w3.alloc (.cells #[.slice A6 n6 k6,.slice (some ⟨g,0,none⟩) n5 k5,.int .i64 0] 24)).alloc (.cells #[.int .i64 (f0:Int),.int .i64 (f1:Int)] 78)) A1 A2 c1 c2 sg mt kd x y s ov b8 b9 w3.heap.size (w3.heap.size+1) g n5 k5 (.slice A6 n6 k6) xs ys f0 f1:=
    ⟨(T3.out.call ((Rh _ _).alloc (Rf _) _)).call ((Rh _ _).alloc (Rf _) _),qt (qt (jM Vt ZL.out.c1)),qt (qt (jM Vt HN9.out)),hN.call ((Rh _ _).alloc (Rf _) _),fK.Nk w3 _ _ _,by have:=T2.out.lt;omega,
     by have:=ZL.out.lt;omega,by have:=RX _ _ HN9.out;dsimp only at this;omega,oZ⟩
   have HK0:=Rb hK;have HXS:=Rb hxs;have HYS:=Rb W';have HYL:=Rb VJ;have Xc:Hid (∀k,ao sg.length f0 k<mt.length+8/\ao (sg.length+1) f1 k<mt.length+8):=Rb fun k=>by have h1:=vK (n:=sg.length) (f:=f0) (s:=k);have h2:=vK (n:=sg.length+1) (f:=f1) (s:=k);have h3:=H2.out;omega
   have HXB:Hid (x<mt.length+8/\gn mt x<mt.length+8):=Rb (by
    have h1:=(HI.out.gn Ya.out.1).2.1;have h2:=Ya.out.1;omega)
   have WM:sg.length<=999:=oZ;clear hf Vt VK Vs Vv hn5 hn6 W' VJ hxs hN hK T2 T3 ZL HN9 j0 j1 j2 n0 n1 n2 n3 n4;obtain⟨w4,hw4⟩:∃x,(w3.alloc (.cells #[.slice A6 n6 k6,.slice (some ⟨g,0,none⟩) n5 k5,.int .i64 0] 24)).alloc (.cells #[.int .i64 (f0:Int),.int .i64 (f1:Int)] 78)=x:=⟨_,rfl⟩
   go_wp2_with fail;rw[hw4]at HK0;clear hw4;generalize YY:w3.heap.size=b10 at*;clear YY;have r1:=HK0.out.nw.c1;refine aV 6 qk qk ?_;simp only[Sy,SR,Sz,S5];(repeat (go_big_quiet_step (first|(go_at_call 50;(show Calls _ _ #[Value.int .i64 1,_,_] _ _);exact RP ((mS b9 (b10+1) sg.length f0 1 _ _ (by exact HK0.out.n0) (by exact HK0.out.fs.c0) rfl WM Xb.out.1 oQ).mono (fun _ _ h=>⟨h.1,h.2.symm⟩)))|(go_at_call 52;(show Calls _ _ #[Value.int .i64 1,_,_] _ _);exact RP ((m_ b9 (b10+1) sg.length f1 1 _ _ (by exact HK0.out.n0) (by exact HK0.out.fs.c1) rfl WM Xb.out.2.1 oQ).mono (fun _ _ h=>⟨h.1,h.2.symm⟩))))));refine TB ?_;rintro _ ⟨nq,rfl⟩;have HK0d:=Rb (HK0.out.call (RJ (Rh _ _) nq));clear r1;go_wp2_with fail;refine(cO g n5 k5 ys _ _ (ao sg.length f0 1) (ao (sg.length+1) f1 1) _ (w.heap.size+4) (by exact HK0d.out.nw.o2) rfl rfl (R5 (Xc.out 1).1 HYL.out.symm) (R5 (Xc.out 1).2 HYL.out.symm)).mono ?_;rintro e w5 ⟨rfl,ho5,Wd⟩;have HK1:=Rb (HK0d.out.mod Wd ho5);clear ho5 Wd HK0 HK0d;obtain⟨ys1,XP⟩:∃l,bH ys (ao sg.length f0 1) (ao (sg.length+1) f1 1)=l:=⟨_,rfl⟩
   have HYL1:Hid (ys1.length=mt.length+8):=Rb (by rw[<-XP,al];exact HYL.out);rw[XP]at HK1;have HY1:=Rb XP;clear XP;go_wp2_with fail;have r1:=HK1.out.nw.c1;refine aV 6 qk qk ?_;simp only[Sy,SR,Sz,S5];(repeat (go_big_quiet_step (first|(go_at_call 52;(show Calls _ _ #[Value.int .i64 2,_,_] _ _);exact RP ((m_ b9 (b10+1) sg.length f1 2 _ _ (by exact HK1.out.n0) (by exact HK1.out.fs.c1) rfl WM Xb.out.2.1 oQ).mono (fun _ _ h=>⟨h.1,h.2.symm⟩)))|(go_at_call 50;(show Calls _ _ #[Value.int .i64 0,_,_] _ _);exact RP ((mS b9 (b10+1) sg.length f0 0 _ _ (by exact HK1.out.n0) (by exact HK1.out.fs.c0) rfl WM Xb.out.1 oQ).mono (fun _ _ h=>⟨h.1,h.2.symm⟩))))));refine TB ?_;rintro _ ⟨nq,rfl⟩;have HK1d:=Rb (HK1.out.call (RJ (Rh _ _) nq));clear r1;go_wp2_with fail;refine(cO g n5 k5 ys1 _ _ (ao (sg.length+1) f1 2) (ao sg.length f0 0) _ (w.heap.size+4) (by exact HK1d.out.nw.o2) rfl rfl (R5 (Xc.out 2).2 HYL1.out.symm) (R5 (Xc.out 0).1 HYL1.out.symm)).mono ?_;rintro e w6 ⟨rfl,ho5,Wd⟩;have Wj:=Rb (HK1d.out.mod Wd ho5);clear ho5 Wd HK1 HK1d;obtain⟨ys2,hy2⟩:∃l,bH ys1 (ao (sg.length+1) f1 2) (ao sg.length f0 0)=l:=⟨_,rfl⟩
   have X0:Hid (ys2.length=mt.length+8):=Rb (by rw[<-hy2,al];exact HYL1.out);rw[hy2]at Wj;have HY2:=Rb hy2;clear hy2;have m3:=Wj.out.mo.m3;have m1:=Wj.out.mo.m1;rcases(show(x≠y/\s=0)\/(x=y/\s=1)\/(x=y/\s= -1) by have:=HSS.out;omega)with⟨Vw,rfl⟩|⟨rfl,rfl⟩|⟨rfl,rfl⟩
   focus
    clear Vw HSS;go_wp2_with fail;clear m3 m1;have rm1:=Wj.out.mo.m2;refine aV 7 qk qk ?_;simp only[Sy,SR,Sz,S5];(repeat (go_big_quiet_step (first|(go_at_call 52;(show Calls _ _ #[Value.int .i64 0,_,_] _ _);exact RP ((m_ b9 (b10+1) sg.length f1 0 _ _ (by exact Wj.out.n0) (by exact Wj.out.fs.c1) rfl WM Xb.out.2.1 oQ).mono (fun _ _ h=>⟨h.1,h.2.symm⟩)))|(go_at_call 50;(show Calls _ _ #[Value.int .i64 2,_,_] _ _);exact RP ((mS b9 (b10+1) sg.length f0 2 _ _ (by exact Wj.out.n0) (by exact Wj.out.fs.c0) rfl WM Xb.out.1 oQ).mono (fun _ _ h=>⟨h.1,h.2.symm⟩))))));refine TB ?_;rintro _ ⟨nq,rfl⟩;have X1:=Rb (Wj.out.call (RJ (Rh _ _) nq));clear rm1;go_wp2_with fail;refine(yQ X1.out HI.out y (ao (sg.length+1) f1 0) (ao sg.length f0 2) _ _ _ rfl rfl rfl Ya.out.2 (by rw[X0.out];exact Nat.le_add_right _ _) (R5 (Xc.out 0).2 X0.out.symm) (R5 (Xc.out 2).1 X0.out.symm)).mono ?_;rintro e w7 ⟨rfl,hk5⟩;have WT:=Rb hk5;clear hk5 Wj X1;obtain⟨ys3,Zm⟩:∃l,bH (bH ys2 y (ao (sg.length+1) f1 0)) (ao sg.length f0 2) (gn mt y)=l:=⟨_,rfl⟩
    have Xk:Hid (ys3.length=mt.length+8):=Rb (by rw[<-Zm,al,al];exact X0.out);rw[Zm]at WT;have HY3:=Rb Zm;clear Zm;go_wp2_with fail;have rm1:=WT.out.mo.m1;refine aV 7 qk qk ?_;simp only[Sy,SR,Sz,S5];(repeat (go_big_quiet_step (first|(go_at_call 50;(show Calls _ _ #[Value.int .i64 3,_,_] _ _);exact RP ((mS b9 (b10+1) sg.length f0 3 _ _ (by exact WT.out.n0) (by exact WT.out.fs.c0) rfl WM Xb.out.1 oQ).mono (fun _ _ h=>⟨h.1,h.2.symm⟩)))|(go_at_call 52;(show Calls _ _ #[Value.int .i64 3,_,_] _ _);exact RP ((m_ b9 (b10+1) sg.length f1 3 _ _ (by exact WT.out.n0) (by exact WT.out.fs.c1) rfl WM Xb.out.2.1 oQ).mono (fun _ _ h=>⟨h.1,h.2.symm⟩))))));refine TB ?_;rintro _ ⟨nq,rfl⟩;have X2:=Rb (WT.out.call (RJ (Rh _ _) nq));clear rm1;go_wp2_with fail;refine(yQ X2.out HI.out x (ao sg.length f0 3) (ao (sg.length+1) f1 3) _ _ _ rfl rfl rfl Ya.out.1 (by rw[Xk.out];exact Nat.le_add_right _ _) (R5 (Xc.out 3).1 Xk.out.symm) (R5 (Xc.out 3).2 Xk.out.symm)).mono ?_;rintro e w8 ⟨rfl,hk5⟩;have Xa:=Rb hk5;clear hk5 WT X2;obtain⟨ys4,YF⟩:∃l,bH (bH ys3 x (ao sg.length f0 3)) (ao (sg.length+1) f1 3) (gn mt x)=l:=⟨_,rfl⟩
    have Y6:Hid (ys4.length=mt.length+8):=Rb (by rw[<-YF,al,al];exact Xk.out);rw[YF]at Xa;have HY4:=Rb YF;clear YF;have HPM:Hid (ys4=kI mt sg.length f0 f1 x y 0):=Rb (by rw[Mk,<-HY4.out,<-HY3.out,<-HY2.out,<-HY1.out,<-HYS.out]);have YE:=Xa;clear Xa
   rotate_left
   focus
    obtain rfl:fX=fY:=HFX.out.symm.trans HFY.out;clear HSS;go_wp2_with fail;clear m3 m1;have r1:=Wj.out.nw.c1;have rm1:=Wj.out.mo.m1;refine aV 6 qk qk ?_;simp only[Sy,SR,Sz,S5];(repeat (go_big_quiet_step (first|(go_at_call 50;(show Calls _ _ #[Value.int .i64 3,_,_] _ _);exact RP ((mS b9 (b10+1) sg.length f0 3 _ _ (by exact Wj.out.n0) (by exact Wj.out.fs.c0) rfl WM Xb.out.1 oQ).mono (fun _ _ h=>⟨h.1,h.2.symm⟩))))));refine TB ?_;rintro _ ⟨nq,rfl⟩;have X1:=Rb (Wj.out.call (RJ (Rh _ _) nq));clear r1 rm1;go_wp2_with fail;refine(cO g n5 k5 ys2 _ _ x (ao sg.length f0 3) _ (w.heap.size+4) (by exact X1.out.nw.o2) rfl rfl (R5 HXB.out.1 X0.out.symm) (R5 (Xc.out 3).1 X0.out.symm)).mono ?_;rintro e w7 ⟨rfl,ho5,Wd⟩;have WT:=Rb (X1.out.mod Wd ho5);clear ho5 Wd Wj X1;obtain⟨ys3,Zm⟩:∃l,bH ys2 x (ao sg.length f0 3)=l:=⟨_,rfl⟩
    have Xk:Hid (ys3.length=mt.length+8):=Rb (by rw[<-Zm,al];exact X0.out);rw[Zm]at WT;have HY3:=Rb Zm;clear Zm;go_wp2_with fail;have r1:=WT.out.nw.c1;refine aV 6 qk qk ?_;simp only[Sy,SR,Sz,S5];(repeat (go_big_quiet_step (first|(go_at_call 52;exact RP ((MK b9 (b10+1) sg.length f1 _ _ (by exact WT.out.n0) (by exact WT.out.fs.c1) WM Xb.out.2.1 oQ).mono (fun _ _ h=>⟨h.1,h.2.symm⟩))))));refine TB ?_;rintro _ ⟨nq,rfl⟩;have X2:=Rb (WT.out.call (RJ (Rh _ _) nq));clear r1;go_wp2_with fail;refine(cO g n5 k5 ys3 _ _ (ao (sg.length+1) f1 3) (ao (sg.length+1) f1 0) _ (w.heap.size+4) (by exact X2.out.nw.o2) rfl rfl (R5 (Xc.out 3).2 Xk.out.symm) (R5 (Xc.out 0).2 Xk.out.symm)).mono ?_;rintro e w8 ⟨rfl,ho5,Wd⟩;have Xa:=Rb (X2.out.mod Wd ho5);clear ho5 Wd WT X2;obtain⟨ys4,YF⟩:∃l,bH ys3 (ao (sg.length+1) f1 3) (ao (sg.length+1) f1 0)=l:=⟨_,rfl⟩
    have Y6:Hid (ys4.length=mt.length+8):=Rb (by rw[<-YF,al];exact Xk.out);rw[YF]at Xa;have HY4:=Rb YF;clear YF;go_wp2_with fail;have r1:=Xa.out.nw.c1;have rm1:=Xa.out.mo.m1;have rd1:=Xa.out.d1;obtain⟨bm,om,em,hsm,Wy⟩:=Xa.out.mo.rm.at_ Ya.out.1;subst em;have kx:=Wy x Ya.out.1;rw[(HI.out.gn Ya.out.1).1]at kx;clear Wy;have hxm:=Ya.out.1;refine aV 10 qk qk ?_;simp only[Sy,SR,Sz,S5];(repeat (go_big_quiet_step (first|(go_at_call 50;(show Calls _ _ #[Value.int .i64 2,_,_] _ _);exact RP ((mS b9 (b10+1) sg.length f0 2 _ _ (by exact Xa.out.n0) (by exact Xa.out.fs.c0) rfl WM Xb.out.1 oQ).mono (fun _ _ h=>⟨h.1,h.2.symm⟩))))));refine TB ?_;rintro _ ⟨nq,rfl⟩;have ZM:=Rb (Xa.out.call (RJ (Rh _ _) nq));clear r1 rm1 rd1 kx hxm;go_wp2_with fail;refine(cO g n5 k5 ys4 _ _ (ao sg.length f0 2) (gn mt x) _ (w.heap.size+4) (by exact ZM.out.nw.o2) rfl rfl (R5 (Xc.out 2).1 Y6.out.symm) (R5 HXB.out.2 Y6.out.symm)).mono ?_;rintro e w9 ⟨rfl,ho5,Wd⟩;have YE:=Rb (ZM.out.mod Wd ho5);clear ho5 Wd Xa ZM;obtain⟨ys5,hy5⟩:∃l,bH ys4 (ao sg.length f0 2) (gn mt x)=l:=⟨_,rfl⟩
    have HYL5:Hid (ys5.length=mt.length+8):=Rb (by rw[<-hy5,al];exact Y6.out);rw[hy5]at YE;have HY5:=Rb hy5;clear hy5;have HPM:Hid (ys5=kI mt sg.length f0 f1 x x 1):=Rb (by rw[Nq,<-HY5.out,<-HY4.out,<-HY3.out,<-HY2.out,<-HY1.out,<-HYS.out])
   rotate_left
   focus
    obtain rfl:fX=fY:=HFX.out.symm.trans HFY.out;clear HSS;go_wp2_with fail;clear m3 m1;have r1:=Wj.out.nw.c1;have rm1:=Wj.out.mo.m1;refine aV 6 qk qk ?_;simp only[Sy,SR,Sz,S5];(repeat (go_big_quiet_step (first|(go_at_call 52;(show Calls _ _ #[Value.int .i64 0,_,_] _ _);exact RP ((m_ b9 (b10+1) sg.length f1 0 _ _ (by exact Wj.out.n0) (by exact Wj.out.fs.c1) rfl WM Xb.out.2.1 oQ).mono (fun _ _ h=>⟨h.1,h.2.symm⟩))))));refine TB ?_;rintro _ ⟨nq,rfl⟩;have X1:=Rb (Wj.out.call (RJ (Rh _ _) nq));clear r1 rm1;go_wp2_with fail;refine(cO g n5 k5 ys2 _ _ x (ao (sg.length+1) f1 0) _ (w.heap.size+4) (by exact X1.out.nw.o2) rfl rfl (R5 HXB.out.1 X0.out.symm) (R5 (Xc.out 0).2 X0.out.symm)).mono ?_;rintro e w7 ⟨rfl,ho5,Wd⟩;have WT:=Rb (X1.out.mod Wd ho5);clear ho5 Wd Wj X1;obtain⟨ys3,Zm⟩:∃l,bH ys2 x (ao (sg.length+1) f1 0)=l:=⟨_,rfl⟩
    have Xk:Hid (ys3.length=mt.length+8):=Rb (by rw[<-Zm,al];exact X0.out);rw[Zm]at WT;have HY3:=Rb Zm;clear Zm;go_wp2_with fail;have r1:=WT.out.nw.c1;refine aV 6 qk qk ?_;simp only[Sy,SR,Sz,S5];(repeat (go_big_quiet_step (first|(go_at_call 50;exact RP ((LX b9 (b10+1) sg.length f0 _ _ (by exact WT.out.n0) (by exact WT.out.fs.c0) WM Xb.out.1 oQ).mono (fun _ _ h=>⟨h.1,h.2.symm⟩))))));refine TB ?_;rintro _ ⟨nq,rfl⟩;have X2:=Rb (WT.out.call (RJ (Rh _ _) nq));clear r1;go_wp2_with fail;refine(cO g n5 k5 ys3 _ _ (ao sg.length f0 2) (ao sg.length f0 3) _ (w.heap.size+4) (by exact X2.out.nw.o2) rfl rfl (R5 (Xc.out 2).1 Xk.out.symm) (R5 (Xc.out 3).1 Xk.out.symm)).mono ?_;rintro e w8 ⟨rfl,ho5,Wd⟩;have Xa:=Rb (X2.out.mod Wd ho5);clear ho5 Wd WT X2;obtain⟨ys4,YF⟩:∃l,bH ys3 (ao sg.length f0 2) (ao sg.length f0 3)=l:=⟨_,rfl⟩
    have Y6:Hid (ys4.length=mt.length+8):=Rb (by rw[<-YF,al];exact Xk.out);rw[YF]at Xa;have HY4:=Rb YF;clear YF;go_wp2_with fail;have r1:=Xa.out.nw.c1;have rm1:=Xa.out.mo.m1;have rd1:=Xa.out.d1;obtain⟨bm,om,em,hsm,Wy⟩:=Xa.out.mo.rm.at_ Ya.out.1;subst em;have kx:=Wy x Ya.out.1;rw[(HI.out.gn Ya.out.1).1]at kx;clear Wy;have hxm:=Ya.out.1;refine aV 10 qk qk ?_;simp only[Sy,SR,Sz,S5];(repeat (go_big_quiet_step (first|(go_at_call 52;(show Calls _ _ #[Value.int .i64 3,_,_] _ _);exact RP ((m_ b9 (b10+1) sg.length f1 3 _ _ (by exact Xa.out.n0) (by exact Xa.out.fs.c1) rfl WM Xb.out.2.1 oQ).mono (fun _ _ h=>⟨h.1,h.2.symm⟩))))));refine TB ?_;rintro _ ⟨nq,rfl⟩;have ZM:=Rb (Xa.out.call (RJ (Rh _ _) nq));clear r1 rm1 rd1 kx hxm;go_wp2_with fail;refine(cO g n5 k5 ys4 _ _ (ao (sg.length+1) f1 3) (gn mt x) _ (w.heap.size+4) (by exact ZM.out.nw.o2) rfl rfl (R5 (Xc.out 3).2 Y6.out.symm) (R5 HXB.out.2 Y6.out.symm)).mono ?_;rintro e w9 ⟨rfl,ho5,Wd⟩;have YE:=Rb (ZM.out.mod Wd ho5);clear ho5 Wd Xa ZM;obtain⟨ys5,hy5⟩:∃l,bH ys4 (ao (sg.length+1) f1 3) (gn mt x)=l:=⟨_,rfl⟩
    have HYL5:Hid (ys5.length=mt.length+8):=Rb (by rw[<-hy5,al];exact Y6.out);rw[hy5]at YE;have HY5:=Rb hy5;clear hy5;have HPM:Hid (ys5=kI mt sg.length f0 f1 x x (-1)):=Rb (by rw[Mn,<-HY5.out,<-HY4.out,<-HY3.out,<-HY2.out,<-HY1.out,<-HYS.out])
   rotate_left
   all_goals
    go_wp2_with fail;have r0:=YE.out.nw.c0;have r1:=YE.out.nw.c1;have r2:=YE.out.nw.c2;have rn:=YE.out.n0;obtain⟨y0,y1,y2,g0,g1,g2,-⟩:=YE.out.mo.zb;obtain⟨z0,z1,z2,z3,z4,q0,q1,q2,q3,q4⟩:=YE.out.mo.zm;have YY:=YE.out.nw.lo;have e1:¬b9=w.heap.size+1+1:=oZ;have e2:¬w.heap.size+1+1=b9:=oZ;have e3:¬b9=w.heap.size+2:=oZ;have e4:¬w.heap.size+2=b9:=oZ;have e5:¬b10=w.heap.size+1+1:=oZ;have e6:¬w.heap.size+1+1=b10:=oZ;have e7:¬b10=w.heap.size+2:=oZ;have e8:¬w.heap.size+2=b10:=oZ;have e9:IntKind.i64.wrap ((sg.length:Int)+1)=(sg.length:Int)+1:=SF _ oZ;have R0:=Rb r0;have R1:=Rb r1;have R2:=Rb r2;have RN:=Rb rn
    go_region_held3 (fun w'=>w'.cell? ⟨b10,0,none⟩=some (.slice A6 n6 k6)/\w'.cell? ⟨b10,1,none⟩=some (.slice (some ⟨g,0,none⟩) n5 k5)/\w'.cell? ⟨b10,2,none⟩=some (.int .i64 0)/\w'.cell? ⟨b9,0,none⟩=some (.int .i64 (sg.length:Int)))
     (((with_reducible refine Oi hb94 YY R0.out R1.out R2.out RN.out ?_);(repeat (first|with_reducible exact Kp.refl _ _|with_reducible refine Kp.drew ?_|((with_reducible refine Kp.set ?_ ?_ _);(focus (first|exact Or.inl rfl|exact Or.inr rfl)))))))
     (fail)
    all_goals
     go_wp2_with fail;refine RC (v:= .tuple #[.agg #[.slice A6 n6 k6,.slice (some ⟨g,0,none⟩) n5 k5,.int .i64 0],.agg #[.int .i64 4,.int .i64 (sg.length:Int),.int .i64 ((sg.length:Int)+1),.int .i64 0,.bool false],.int .i64 0]) (by simp[results,Tryz.results21,go_sem,y0,y1,y2,z0,z1,z2,z3,z4]) rfl ?_;rw[Y5.out];refine⟨_,_,rfl,⟨⟨_,_,_,_,_,_,_,rfl⟩,_,_,_,_,_,rfl⟩,?_,fun _=>⟨_,_,_,_,_,rfl,Gt YE.out.nw ?_,_,_,rfl,rfl,Ya.out.1,Ya.out.2,rfl,?_,?_⟩⟩;{refine Td ?_;(iterate 8 refine RM ?_ oJ _);exact YE.out.mo.bel};{intro k hk;rw[Be];(iterate 8 rw[Rn _ _ _ k oJ])}
     ·first|rw[HFX.out,HFY.out,HF0.out,Zt.out]|rw[HFX.out,HF0.out,Zt.out]
      exact HXS.out.symm
     ·first|rw[HFX.out,HFY.out,HF0.out,Zt.out]|rw[HFX.out,HF0.out,Zt.out]
      exact HPM.out
 ·have her2:(er !=0)=true:=by rw[RZ];exact he0
  obtain⟨y0,y1,y2,g0,g1,g2,-⟩:=T1.out.zb;obtain⟨z0,z1,z2,z3,z4,q0,q1,q2,q3,q4⟩:=T1.out.zm;have HE:=Rb he0;clear he0;go_wp2_with fail;refine RC (v:= .tuple #[.agg #[.slice none 0 0,.slice none 0 0,.int .i64 0],.agg #[.int .i64 0,.int .i64 0,.int .i64 0,.int .i64 0,.bool false],.int .i64 er]) (by simp[results,Tryz.results21,go_sem,y0,y1,y2,z0,z1,z2,z3,z4]) rfl ?_;rw[Y5.out];refine⟨_,_,rfl,⟨⟨_,_,_,_,_,_,_,rfl⟩,_,_,_,_,_,rfl⟩,?_,fun h=>absurd h HE.out⟩;(iterate 8 refine RM ?_ oJ _);exact T1.out.bel
structure oE(w5 wr:World)(gf N:Nat)(p:List Int):Prop where
 own:OI wr gf (.slice (some ⟨gf,0,none⟩) N N) p
 len:p.length=N
 bel:Below gf w5 wr
 ak:∀b,b<w5.heap.size->b≠gf->wr.heap[b]?=w5.heap[b]?
theorem oE.at_{w5 wr:World}{gf N:Nat}{p:List Int}(h:oE w5 wr gf N p){j:Nat}(hj:j<N):wr.cell? ⟨gf,j,none⟩=some (.int .i64 (gi p j))/\wr.frozen? ⟨gf,j,none⟩=false:=by have hl:=h.len;obtain⟨-,-,-,-,hc,hf⟩:=h.own.ints_at oZ;exact⟨hc j oZ,hf j⟩
theorem oE.store{w5 wr:World}{gf N:Nat}{p:List Int}(h:oE w5 wr gf N p)(j:Nat)(y:Int):oE w5 (wr.setCell ⟨gf,j,none⟩ (.int .i64 y)) gf N (p.set j y):=by
 refine⟨?_,by rw[Ry];exact h.len,h.bel.setCell (Rf _) _,fun b hb Vh=>by rw[Rn wr _ _ b Vh];exact h.ak b hb Vh⟩;have h1:OI wr gf (.slice (some ⟨gf,0,none⟩) p.length N) p:=by rw[h.len];exact h.own
 have h2:=OR.stored (k:=j) h1 y;rw[Ry,h.len]at h2;exact h2
structure Oy(w:World)(A1 A2:Option Addr)(c1 c2:Nat)(sg mt:List Int)(L:Int)(bd bn gp gf:Nat)(p:List Int):Prop where
 db:bI w bd A1 A2 c1 c2 sg mt L
 vb:w.cell? ⟨bn,0,none⟩=some (.slice (some ⟨gp,0,none⟩) mt.length mt.length)
 nu:∀x,x<mt.length->w.cell? ⟨gp,x,none⟩=some (.int .i64 (iL (aP sg mt) mt.length (ai sg) x))
 fc:∀x,x<mt.length->w.cell? ⟨gf,x,none⟩=some (.int .i64 (gi p x))
 lt:bn<w.heap.size/\(0<mt.length->gp<w.heap.size/\gf<w.heap.size)
theorem Oy.below{w w':World}{A1 A2:Option Addr}{c1 c2:Nat}{sg mt:List Int}{L:Int}{bd bn gp gf:Nat}{p:List Int}(h:Oy w A1 A2 c1 c2 sg mt L bd bn gp gf p)(hb:Below w.heap.size w w'):Oy w' A1 A2 c1 c2 sg mt L bd bn gp gf p:=
 ⟨h.db.below hb,(hb.cell (p:=⟨bn,0,none⟩) h.lt.1).trans h.vb,fun x hx=>(hb.cell (p:=⟨gp,x,none⟩) (h.lt.2 oZ).1).trans (h.nu x hx),fun x hx=>(hb.cell (p:=⟨gf,x,none⟩) (h.lt.2 oZ).2).trans (h.fc x hx),
  ⟨by have:=h.lt.1;have:=hb.size;omega,fun h0=>by have:=h.lt.2 h0;have:=hb.size;omega⟩⟩
theorem Jw{w:World}{A1 A2:Option Addr}{c1 c2:Nat}{sg mt:List Int}{L hi:Int}{bd bn gp gf h:Nat}{p:List Int}(hc:Oy w A1 A2 c1 c2 sg mt L bd bn gp gf p)(n:Nat)(hd:cJ sg mt L)(hh:h<mt.length)(he:hi=h)(m:Nat)(hm:Ay sg mt h=m):
  Calls Tryz.prog 85 #[.int .i64 hi,.pointer (some ⟨bn,0,none⟩),.pointer (some ⟨bd,0,none⟩)] (w.drewN n) fun e w'=>e= .returned (.int .i64 (m:Int))/\∃k,w'=(w.drewN n).drewN k:=
 PD (by exact hc.vb) (hc.db.drewN n) (by exact hc.nu) hd hh he m hm
section
variable(A1 A2:Option Addr)(c1 c2:Nat)(sg mt:List Int)(L:Int)(w:World)(S:Nat->Prop)(hx:RI w S A1 sg)(hy:RI w S A2 mt)(hS:∀b,S b->b<w.heap.size)
include hx hy hS
theorem xM(hd:cJ sg mt L)(h256:mt.length<=256):
  Calls Tryz.prog 65 #[.agg #[.slice A1 sg.length c1,.slice A2 mt.length c2,.int .i64 L]] w fun e w'=>∃v,e= .returned v/\OP w' w.heap.size v (iZ sg mt mt.length)/\Below w.heap.size w w':=by
 have HD:=Rb (bI.start (c1:=c1) (c2:=c2) (L:=L) S hx hy hS);have H:=Rb hd;have HP:=Rb (aU hd.2.2.2.2.2.1 hd.2.1);obtain⟨h1,h2,h3,h4,-,h6,-,-⟩:=hd;have VL:sg.length<=maxLen:=by unfold maxLen;omega
 have Wb:mt.length<=maxLen:=by unfold maxLen;omega
 have WY:=dN 22 Tryz.underlying22 mt.length oZ;clear hx hy hS h6 h2;go_enter Tryz.func65,Tryz.ntmps65
 go_wp2_with fail;refine(eP _ true HD.out.rs HD.out.rm (fun _ h=>h) VL Wb (Rj H.out)).mono ?_;rintro e w1 ⟨rfl,Vi⟩;have Vp:=Rb (HD.out.below Vi);have k0:=Vp.out.c0;have k1:=Vp.out.c1;have k2:=Vp.out.c2;have Vr:=Rb (bX (o:=(.cells #[.slice A1 sg.length c1,.slice A2 mt.length c2,.int .i64 L] 24)) (by simpa using Vi));have VV:=Vr.out.size;clear Vi HD;go_wp2_with fail;refine(lU A1 A2 c1 c2 sg mt L w1 (·<w1.heap.size) Vp.out.rs Vp.out.rm (fun _ h=>h) H.out).mono ?_;rintro e w2 ⟨v,rfl,hr,Yk,Vj⟩;have VD:=Rb (Vr.out.trans (Vj.mono VV));have Ws:=Rb (Vp.out.below Vj);have X8:=Rb Yk;obtain⟨gp,hgp⟩:∃gp,w1.heap.size+1=gp:=⟨_,rfl⟩
 rw[hgp]at X8⊢;have Xm:0<mt.length->gp<w2.heap.size:=fun h0=>by obtain⟨-,-,h5,-,-,-⟩:=X8.out.ints_at (by rw[cY];exact h0);exact h5
 have HGS:=Rb Xm;clear hr Vj k0 k1 k2 Vp Vr Yk hgp Xm;have k0:=Ws.out.c0;have k1:=Ws.out.c1;have k2:=Ws.out.c2;have Vt:=(Rh w2.heap.size w2).alloc (Rf _) (.cells #[.slice (some ⟨gp,0,none⟩) mt.length mt.length] 22);have Wp:=Vt.alloc oX (.cells (Array.replicate mt.length (Value.int .i64 0)) 3);have hd3:=Ws.out.below Vt;have hd4:=Ws.out.below Wp;have q0:=hd3.c0;have q1:=hd3.c1;have q2:=hd3.c2;have r0:=hd4.c0;have r1:=hd4.c1;have r2:=hd4.c2;have hcb:=Ru w2 (.cells #[.slice (some ⟨gp,0,none⟩) mt.length mt.length] 22);have V0:=OI.new (w2.alloc (.cells #[.slice (some ⟨gp,0,none⟩) mt.length mt.length] 22)) (w2.heap.size+1) mt.length oX (by unfold maxLen;omega);have HW4:=Rb (And.intro Wp (And.intro hcb V0));clear Vt Wp hd3 hd4 hcb V0;go_wp2_with fail;obtain⟨W,hW⟩:∃W,(w2.alloc (.cells #[.slice (some ⟨gp,0,none⟩) mt.length mt.length] 22)).alloc (.cells (Array.replicate mt.length (Value.int .i64 0)) 3)=W:=⟨_,rfl⟩
 obtain⟨Wp,hcb,V0⟩:=HW4.out;have VI:W.heap.size=w2.heap.size+2:=by rw[<-hW];simp
 have hcb2:W.heap[w2.heap.size]?=some (.cells #[.slice (some ⟨gp,0,none⟩) mt.length mt.length] 22 (0,0)):=by rw[<-hW,Rx _ _ _ oX];exact hcb
 have hnew2:OI W (w2.heap.size+1) (.slice (some ⟨w2.heap.size+1,0,none⟩) mt.length mt.length) (List.replicate mt.length 0):=by rw[<-hW];simpa using V0
 have WC:Below w2.heap.size w2 W:=by rw[<-hW];exact Wp
 clear q0 q1 q2 r0 r1 r2;rw[hW];have HDW:=Rb (Ws.out.below WC);have HBW:=Rb (VD.out.trans (WC.mono VD.out.size));have HB24:=Rb WC;clear HW4 Wp hcb V0 k0 k1 k2 hW;refine(nQ A1 A2 c1 c2 sg mt L W (·<W.heap.size) HDW.out.rs HDW.out.rm (fun _ h=>h) H.out).mono ?_;rintro e w5 ⟨v2,rfl,hr,WI⟩;obtain⟨Af,cf,rfl,WD⟩:=hr.reads;obtain⟨q,hq⟩:∃q,(aC mt).length=q:=⟨_,rfl⟩
 have hqr:(rows (aC mt)).length=q:=by rw[aE];exact hq
 have hqb:q<=256:=by have:=dM (au mt) mt.length il mt.length;rw[aE]at this;rw[<-hq];unfold aC;omega
 rw[hqr];have Yr:=Rb hq;have HQR:=Rb hqr;have Y4:=Rb WD;have VZ:=Rb (And.intro VI WI.size);have hd5:=HDW.out.below WI;have hvb5:w5.cell? ⟨w2.heap.size,0,none⟩=some (.slice (some ⟨gp,0,none⟩) mt.length mt.length):=by rw[WI.cell (p:=⟨w2.heap.size,0,none⟩) (by show w2.heap.size<W.heap.size;omega),Rt _ _ _ _ _ _ hcb2];rfl
 have hnu5:∀x,x<mt.length->w5.cell? ⟨gp,x,none⟩=some (.int .i64 (iL (aP sg mt) mt.length (ai sg) x)):=fun x hx=>by obtain⟨-,-,hg5,-,Vk,-⟩:=X8.out.ints_at (by rw[cY];omega);have:=Vk x (by rw[cY];exact hx);rw[lE hx]at this;exact(WI.cell (p:=⟨gp,x,none⟩) (by show gp<W.heap.size;omega)).trans ((WC.cell (p:=⟨gp,x,none⟩) hg5).trans this)
 have HB25:=Rb (WC.trans (WI.mono WC.size));have HD5:=Rb hd5;have HV5:=Rb hvb5;have HU5:=Rb hnu5;have hI:oE w5 w5 (w2.heap.size+1) mt.length (List.replicate mt.length 0):=⟨(hnew2.below WI (Rf _)),oX,Rh _ _,fun _ _ _=>rfl⟩;have HI0:=Rb hI;have HB5:=Rb (HBW.out.trans (WI.mono HBW.out.size));clear hr WD hq hqr VI hcb2 hnew2 WC WI hd5 hvb5 hnu5 hI HB24;go_wp2_with fail;clear WY;go_loopw[30] (fun i wr=>∃(k:Nat)(p:List Int),k<=q/\i= .int .i64 k/\Hid (oE w5 wr (w2.heap.size+1) mt.length p)/\Hid (AL mt k 0 p)) (fun i _=>q-(intOf i).toNat)
 case atStart=>exact⟨0,_,Rv _,rfl,HI0,vt _ _⟩
 case round=>
  clear HI0;obtain⟨i,p,hiq,rfl,HI,Xj⟩:=hrel;by_cases Vg:i<q
  ·have hRL:=Y4.out.ak (w':=wr) (fun b hb=>HI.out.ak b hb.2 (by have:=VZ.out.1;omega))
   obtain⟨b,off,rfl,-,hc⟩:=hRL.at_ (k:=i) (by rw[HQR.out];exact Vg);obtain⟨Ak,ck,k3,r3,-⟩:=hc i (by rw[HQR.out];exact Vg);have hfa:(aC mt)[i]'(by rw[Yr.out];exact Vg)=fa mt i:=(qg (by rw[Yr.out];exact Vg)).symm;rw[jN (by rw[Yr.out];exact Vg),hfa]at k3 r3;rw[aH]at k3;have HR7:=Rb r3;have HI7:=HI;obtain⟨l,hl⟩:∃l,(fa mt i).length=l:=⟨_,rfl⟩
   have X_:l<=mt.length:=by obtain⟨r,hr,e⟩:=nH (mt:=mt) (k:=i) (by rw[Yr.out];exact Vg);rw[<-hl,<-hfa,e];exact fk HP.out hr
   rw[hl]at k3;have WR:=Rb hl;clear hc hRL hfa hl r3;go_wp2_with fail;clear k3;obtain⟨w7,rfl⟩:∃x:World,x=wr:=⟨_,rfl⟩
   go_loopw[37] (fun j' wr=>∃(j:Nat)(p:List Int),j<=l/\j'= .int .i64 j/\Hid (oE w5 wr (w2.heap.size+1) mt.length p)/\Hid (AL mt i j p)) (fun j' _=>l-(intOf j').toNat)
   case atStart=>exact⟨0,p,Rv _,rfl,HI,Xj⟩
   case round=>
    clear HI Xj;obtain⟨j,p,hj,rfl,HI,Xj⟩:=hrel;by_cases WH:j<l
    ·have ZN:i<(aC mt).length:=by rw[Yr.out];exact Vg
     have XN:j<(fa mt i).length:=by rw[WR.out];exact WH
     have hr:=HR7.out.ak (w':=wr) (fun b hb=>(HI.out.ak b hb.2 (by have:=VZ.out.1;omega)).trans (HI7.out.ak b hb.2 (by have:=VZ.out.1;omega)).symm);obtain⟨b2,off2,rfl,-,hc⟩:=hr.at_ (k:=j) (by rw[aH];exact XN);have k4:=hc j (by rw[aH];exact XN);rw[je XN,CN XN]at k4;have XD:=zy HP.out ZN XN HI.out.len Xj.out;have V7:=G8 HP.out ZN (R7 XN);obtain⟨x,hx⟩:∃x,(fa mt i)[j]=x:=⟨_,rfl⟩
     rw[hx]at k4 XD V7;obtain⟨k5,k6⟩:=HI.out.at_ V7;have HI':=Rb (HI.out.store x (i:Int));have HF':=Rb XD;clear hr hc XD hx XN ZN;go_wp2_with fail;go_roundw
     case rel=>exact⟨j+1,_,oZ,by go_num,HI',HF'⟩
     case measure=>simp[intOf];omega
    ·obtain rfl:l=j:=oZ
     have HF2:Hid (AL mt (i+1) 0 p):=zw (by rw[WR.out];exact Xj.out);clear Xj WH;go_wp2_with fail;go_roundw
     case rel=>exact⟨i+1,p,oZ,by go_num,HI,HF2⟩
     case measure=>simp[intOf];omega
  ·obtain rfl:q=i:=oZ
   have hs6:=VZ.out;have hs7:=HI.out.bel.size;have ZF:=HB25.out.trans (HI.out.bel.mono oZ);have HC6:Hid (Oy wr A1 A2 c1 c2 sg mt L w.heap.size w2.heap.size gp (w2.heap.size+1) p):=by refine⟨Ws.out.below ZF,?_,fun x hx=>?_,fun x hx=>(HI.out.at_ hx).1,⟨oZ,fun h0=>⟨by have:=HGS.out h0;omega,oZ⟩⟩⟩;{exact(Ri (a:=⟨w2.heap.size,0,none⟩) (HI.out.ak w2.heap.size oZ oZ)).trans HV5.out};{obtain⟨-,-,hg5,-,Vk,-⟩:=X8.out.ints_at (by rw[cY];omega);have:=Vk x (by rw[cY];exact hx);rw[lE hx]at this;exact(ZF.cell (p:=⟨gp,x,none⟩) hg5).trans this}
   rw[<-Yr.out]at Xj;have Z8:=Rb (VD.out.trans (ZF.mono VD.out.size));have HQ0:Hid (iu wr wr (.slice none 0 0) (iZ sg mt 0)):=⟨Rh _ _,OP.nil _ _⟩;obtain⟨w6,rfl⟩:∃x:World,x=wr:=⟨_,rfl⟩
   clear hs6 hs7 ZF HI Y4 HD5 HV5 HU5 HB25 Vg hiq;go_wp2_with fail;go_loopw[11,50] (fun v i wr=>∃h:Nat,h<=mt.length/\i= .int .i64 h/\Hid (iu w6 wr v (iZ sg mt h))) (fun _ i _=>mt.length-(intOf i).toNat)
   case atStart=>exact⟨0,Rv _,rfl,HQ0⟩
   case round=>
    clear HQ0;obtain⟨h,hh,rfl,HQ⟩:=hrel;by_cases V4:h<mt.length
    ·have Xo:Hid (iu w6 wr u11 (iZ sg mt h++gI sg mt h (h+1))):=by
      rw[vd sg mt h (h+1) (Rf _),S6];exact HQ.out
     clear HQ;go_wp2_with fail;obtain⟨w7,rfl⟩:∃x:World,x=wr:=⟨_,rfl⟩
     go_loopw[11,13] (fun v i wr=>∃k:Nat,h+1<=k/\k<=mt.length/\i= .int .i64 k/\Hid (iu w6 wr v (iZ sg mt h++gI sg mt h k))) (fun _ i _=>mt.length-(intOf i).toNat)
     case atStart=>exact⟨h+1,oZ,oZ,by go_num,Xo⟩
     case round=>
      clear Xo;obtain⟨k,hk1,hk,rfl,HQ⟩:=hrel;by_cases VA:k<mt.length
      ·have hC:=HC6.out.below HQ.out.bl
       have m0:=hC.vb;have n1:=hC.nu h V4;have n2:=hC.nu k VA;have f1:=hC.fc h V4;have f2:=hC.fc k VA;have HC:=Rb hC;have YA:(0<=iL (aP sg mt) mt.length (ai sg) h)↔ai sg h=true:=by unfold iL;split;{rename_i ho;exact⟨fun _=>ho,fun _=>oZ⟩};{rename_i ho;exact⟨fun h=>by omega,fun h=>absurd h ho⟩}
       have Yk:(0<=iL (aP sg mt) mt.length (ai sg) k)↔ai sg k=true:=by unfold iL;split;{rename_i ho;exact⟨fun _=>ho,fun _=>oZ⟩};{rename_i ho;exact⟨fun h=>by omega,fun h=>absurd h ho⟩}
       obtain⟨x1,hx1⟩:∃x,iL (aP sg mt) mt.length (ai sg) h=x:=⟨_,rfl⟩
       obtain⟨x2,hx2⟩:∃x,iL (aP sg mt) mt.length (ai sg) k=x:=⟨_,rfl⟩
       rw[hx1]at n1 YA;rw[hx2]at n2 Yk;clear hC hx1 hx2;by_cases Wo:ai sg h=ai sg k
       ·have s1:(decide (0<=x1)==decide (0<=x2))=true:=by
         cases h1:ai sg h<;>cases h2:ai sg k<;>simp[YA,Yk,h1,h2]at Wo⊢
        clear YA Yk;by_cases hfe:gi p h=gi p k
        ·have e3:(gi p h==gi p k)=true:=by rw[SA];exact hfe
         obtain⟨m1,hm1'⟩:∃m,Ay sg mt h=m:=⟨_,rfl⟩
         obtain⟨m2,hm2'⟩:∃m,Ay sg mt k=m:=⟨_,rfl⟩
         have M1:=Rb hm1';have M2:=Rb hm2';clear hm1' hm2';by_cases hme:m1=m2
         ·have e:gI sg mt h (k+1)=gI sg mt h k:=by
           show gI sg mt h k++_=_;rw[Rc (fun hc=>by unfold mC at hc;rw[show decide (Ay sg mt h≠Ay sg mt k)=false from Rl (fun Vh=>Vh (by rw[M1.out,M2.out];exact hme))]at hc;simp at hc),S6]
          have HIE:=Rb e;clear e;obtain rfl:=hme;go_wp2_with fail
          go_quiet(fail)
          obtain⟨wq,hwq⟩:∃wq,wr.drewN nq=wq:=⟨_,rfl⟩
          rw[hwq];have ZO:Below wr.heap.size wr wq:=by rw[<-hwq];exact RJ (Rh _ _) _
          have ZP:=Rb (HC.out.below ZO);have HQq:=Rb (HQ.out.call ZO);clear hwq ZO m0 n1 n2 f1 f2 HC HQ;have f1:=ZP.out.fc h V4;have f2:=ZP.out.fc k VA;have HNX:Hid (∀n,iu w6 (wq.drewN n) u11 (iZ sg mt h++gI sg mt h (k+1))):=fun n=>by rw[HIE.out];exact HQq.out.call (RJ (Rh _ _) n)
          go_wp2_with fail
          go_quiet(first|(go_at_call 85;with_reducible (show Calls _ _ #[Value.int .i64 (h:Int),_,_] _ _);exact Uz (Jw ZP.out _ H.out V4 rfl _ M1.out))|(go_at_call 85;with_reducible (show Calls _ _ #[Value.int .i64 (k:Int),_,_] _ _);exact Uz (Jw ZP.out _ H.out VA rfl _ M2.out)))
          go_wp2_with fail;go_roundw
          case rel=>exact⟨k+1,oZ,oZ,by go_num,Rb (HNX.out _)⟩
          case measure=>simp[intOf];omega
         ·have e:gI sg mt h (k+1)=gI sg mt h k++[((h:Int),(k:Int))]:=by
           show gI sg mt h k++_=_;rw[Re ⟨oZ,by unfold mC;rw[Rj ((oN HP.out Xj.out V4 VA).1 hfe),SA.2 Wo,Rj (by rw[M1.out,M2.out];exact hme)];rfl⟩]
          have HE:=Rb e;have hlen:(iZ sg mt h++gI sg mt h k).length<1099511627776:=by have h1:=ts sg mt h;have h2:=sh sg mt h k;have h3:h*mt.length<=256*256:=S4 oZ h256;rw[Rz];omega
          have Xb:=Rb hlen;have e4:((m1:Int)!=(m2:Int))=true:=by rw[RZ];omega
          clear e hlen hme;go_wp2_with fail
          go_quiet(fail)
          obtain⟨wq,hwq⟩:∃wq,wr.drewN nq=wq:=⟨_,rfl⟩
          rw[hwq];have ZO:Below wr.heap.size wr wq:=by rw[<-hwq];exact RJ (Rh _ _) _
          have ZP:=Rb (HC.out.below ZO);have HQq:=Rb (HQ.out.call ZO);clear hwq ZO m0 n1 n2 f1 f2 HC HQ;have f1:=ZP.out.fc h V4;have f2:=ZP.out.fc k VA;go_wp2_with fail
          go_quiet(first|(go_at_call 85;with_reducible (show Calls _ _ #[Value.int .i64 (h:Int),_,_] _ _);exact Uz (Jw ZP.out _ H.out V4 rfl _ M1.out))|(go_at_call 85;with_reducible (show Calls _ _ #[Value.int .i64 (k:Int),_,_] _ _);exact Uz (Jw ZP.out _ H.out VA rfl _ M2.out)))
          go_wp2_with(at_builtin;refine Gm (HQq.out.call (RJ (Rh _ _) _)).op Xb.out (HQq.out.call (RJ (Rh _ _) _)).bl.size rfl rfl Tryz.underlying101 rfl rfl ?_;intro v8 w8 ho8 hg8 hob8);have HQ8:=Rb (iu.push (p:=((h:Int),(k:Int))) ((HQq.out.call (RJ (Rh _ _) _)).alloc _) ho8 hg8);rw[U1,<-HE.out]at HQ8;clear ho8 hg8 hob8;go_roundw
          case rel=>exact⟨k+1,oZ,oZ,by go_num,HQ8⟩
          case measure=>simp[intOf];omega
        ·have e:gI sg mt h (k+1)=gI sg mt h k:=by
          show gI sg mt h k++_=_;rw[Rc (fun hc=>by unfold mC at hc;rw[show decide (k∈bJ (au mt) mt.length h)=false from Rl (fun hm=>hfe ((oN HP.out Xj.out V4 VA).2 hm))]at hc;simp at hc),S6]
         have HIE:=Rb e;clear e;have e3:(gi p h==gi p k)=false:=by rw[Rs];exact hfe
         clear hfe;go_wp2_with fail
         go_quiet(fail)
         obtain⟨wq,hwq⟩:∃wq,wr.drewN nq=wq:=⟨_,rfl⟩
         rw[hwq];have ZO:Below wr.heap.size wr wq:=by rw[<-hwq];exact RJ (Rh _ _) _
         have ZP:=Rb (HC.out.below ZO);have HQq:=Rb (HQ.out.call ZO);clear hwq ZO m0 n1 n2 f1 f2 HC HQ;have f1:=ZP.out.fc h V4;have f2:=ZP.out.fc k VA;have HNX:Hid (∀n,iu w6 (wq.drewN n) u11 (iZ sg mt h++gI sg mt h (k+1))):=fun n=>by rw[HIE.out];exact HQq.out.call (RJ (Rh _ _) n)
         go_wp2_with fail
         go_quiet(fail)
         go_wp2_with fail;go_roundw
         case rel=>exact⟨k+1,oZ,oZ,by go_num,Rb (HNX.out _)⟩
         case measure=>simp[intOf];omega
       ·have s1:(decide (0<=x1)==decide (0<=x2))=false:=by
         cases h1:ai sg h<;>cases h2:ai sg k<;>simp[YA,Yk,h1,h2]at Wo⊢
        clear YA Yk;have e:gI sg mt h (k+1)=gI sg mt h k:=by show gI sg mt h k++_=_;rw[Rc (fun hc=>by unfold mC at hc;rw[Rs.2 Wo]at hc;simp at hc),S6]
        have HIE:=Rb e;clear e;clear Wo;go_wp2_with fail
        go_quiet(fail)
        obtain⟨wq,hwq⟩:∃wq,wr.drewN nq=wq:=⟨_,rfl⟩
        rw[hwq];have ZO:Below wr.heap.size wr wq:=by rw[<-hwq];exact RJ (Rh _ _) _
        have ZP:=Rb (HC.out.below ZO);have HQq:=Rb (HQ.out.call ZO);clear hwq ZO m0 n1 n2 f1 f2 HC HQ;have f1:=ZP.out.fc h V4;have f2:=ZP.out.fc k VA;have HNX:Hid (∀n,iu w6 (wq.drewN n) u11 (iZ sg mt h++gI sg mt h (k+1))):=fun n=>by rw[HIE.out];exact HQq.out.call (RJ (Rh _ _) n)
        go_wp2_with fail
        go_quiet(fail)
        go_wp2_with fail;go_roundw
        case rel=>exact⟨k+1,oZ,oZ,by go_num,Rb (HNX.out _)⟩
        case measure=>simp[intOf];omega
      ·obtain rfl:mt.length=k:=oZ
       clear VA hk;go_wp2_with fail;go_roundw
       case rel=>exact⟨h+1,oZ,by go_num,HQ⟩
       case measure=>simp[intOf];omega
    {obtain rfl:mt.length=h:=oZ;have ZX:=Rb (Z8.out.trans (HQ.out.bl.mono Z8.out.size));have HO9:=Rb (HQ.out.op.mono Z8.out.size);clear HQ V4;go_wp2_with fail;go_ret;exact⟨_,rfl,HO9.out,ZX.out⟩}
end
structure Jy(w wr:World)(A1 A2:Option Addr)(c1 c2:Nat)(sg mt:List Int)(L:Int)(b3 g3 g4:Nat):Prop where
 db:bI wr w.heap.size A1 A2 c1 c2 sg mt L
 zs:wr.heap[w.heap.size+1]?=some (.cells #[.slice none 0 0,.slice none 0 0,.int .i64 0,.slice none 0 0,.slice none 0 0] 52 (0,0))
 sb:wr.heap[b3]?=some (.cells #[.slice A1 sg.length c1,.slice A2 mt.length c2,.int .i64 L,.slice (some ⟨g3,0,none⟩) mt.length mt.length,.slice (some ⟨g4,0,none⟩) sg.length sg.length] 52 (0,0))
 o3:OI wr (w.heap.size+2) (.slice (some ⟨g3,0,none⟩) mt.length mt.length) (List.replicate mt.length 0)
 o4:OI wr (w.heap.size+2) (.slice (some ⟨g4,0,none⟩) sg.length sg.length) (List.replicate sg.length 0)
 n34:g3≠g4
 n3:b3≠g3
 n4:b3≠g4
 lo:w.heap.size+2<=b3/\w.heap.size+2<=g3/\w.heap.size+2<=g4
 bel:Below w.heap.size w wr
 base:∃W0,bI W0 w.heap.size A1 A2 c1 c2 sg mt L/\W0.heap[w.heap.size+1]?=some (.cells #[.slice none 0 0,.slice none 0 0,.int .i64 0,.slice none 0 0,.slice none 0 0] 52 (0,0))/\Below w.heap.size w W0/\W0.heap.size=w.heap.size+2/\Below W0.heap.size W0 wr
def Q9(w:World)(A1 A2:Option Addr)(c1 c2:Nat)(sg mt:List Int)(L:Int)(e:Ending)(w':World):Prop:=
 ∃(g3 g4:Nat)(p:List Int),e= .returned (.agg #[.slice A1 sg.length c1,.slice A2 mt.length c2,.int .i64 L,.slice (some ⟨g3,0,none⟩) mt.length mt.length,.slice (some ⟨g4,0,none⟩) sg.length sg.length])/\
  p.length=mt.length/\AL mt (aC mt).length 0 p/\RI w' (·<w'.heap.size) (some ⟨g3,0,none⟩) p/\RI w' (·<w'.heap.size) (some ⟨g4,0,none⟩) (List.replicate sg.length 0)/\Below w.heap.size w w'
theorem OR.self{α:Type}{e:TypeId}{f:α->Value}{w:World}{B g n c:Nat}{xs:List α}(h:OR e f w B (.slice (some ⟨g,0,none⟩) n c) xs):OR e f w g (.slice (some ⟨g,0,none⟩) n c) xs:=by
 refine⟨h.1,?_⟩;rcases h.2 with⟨hv,-⟩|⟨g',c',cur,hv,-,hh,hr⟩
 {cases hv}
 ·injection hv with h1 h2 h3
  injection h1 with h1
  injection h1 with h1
  subst h1 h2 h3;exact .inr ⟨_,_,cur,rfl,Rf _,hh,hr⟩
theorem DQ(n x:Nat):(List.replicate n (0:Int)).set x 0=List.replicate n 0:=by apply TR oX;intro k h1 h2;simp
theorem FG{w:World}{B g n c:Nat}{xs:List Int}(h:OI w B (.slice (some ⟨g,0,none⟩) n c) xs):RI w (fun b=>b=g/\b<w.heap.size) (some ⟨g,0,none⟩) xs:=by
 obtain⟨A,c',e,-,-,hr⟩:=h.reads;injection e with e1 e2 e3
 subst e1;intro Vh;obtain⟨b,off,e,hb,hc⟩:=hr Vh;injection e with e
 injection e with e e'
 subst e e';exact⟨_,_,rfl,⟨rfl,hb.2⟩,hc⟩
theorem ta{mt:List Int}(hI:cP mt){n:Nat}(hn:mt.length=4*n)(h1:av mt n n=1):(dq mt n).length=1:=by
 have e:=iV hI hn;have hl:(dq mt n).length=av mt n n:=by rw[<-e];simp
 rw[hl,h1]
theorem dW{wr:World}{N:Nat}(h:wr.heap.size=N+2)(a b c:Obj):(((wr.alloc a).alloc b).alloc c).drew.heap[N+1+1]?=some a/\(((wr.alloc a).alloc b).alloc c).drew.heap[N+1+1+1]?=some b/\(((wr.alloc a).alloc b).alloc c).drew.heap[N+1+1+1+1]?=some c:=by have h3:=dP wr a b c;rw[h]at h3;exact h3
theorem Jy.NH{w wr W:World}{A1 A2:Option Addr}{c1 c2:Nat}{sg mt:List Int}{L:Int}{b3 g3 g4:Nat}(hdb:bI wr w.heap.size A1 A2 c1 c2 sg mt L)
  (hzs:wr.heap[w.heap.size+1]?=some (.cells #[.slice none 0 0,.slice none 0 0,.int .i64 0,.slice none 0 0,.slice none 0 0] 52 (0,0)))
  (VF:Below w.heap.size w wr)(VI:wr.heap.size=w.heap.size+2)(hB:Below wr.heap.size wr W)(Xw:sg.length<=100000)(hl2:mt.length<=100000)
  (h3:W.heap[g3]?=some (.cells (Array.replicate mt.length (Value.int .i64 0)) 3 (0,0)))(h4:W.heap[g4]?=some (.cells (Array.replicate sg.length (Value.int .i64 0)) 3 (0,0)))
  (hb:W.heap[b3]?=some (.cells #[.slice A1 sg.length c1,.slice A2 mt.length c2,.int .i64 L,.slice (some ⟨g3,0,none⟩) mt.length mt.length,.slice (some ⟨g4,0,none⟩) sg.length sg.length] 52 (0,0)))
  (Vh:g3≠g4/\b3≠g3/\b3≠g4)(Yp:w.heap.size+2<=b3/\w.heap.size+2<=g3/\w.heap.size+2<=g4):Jy w W A1 A2 c1 c2 sg mt L b3 g3 g4:=
 ⟨hdb.below hB,(hB.block _ oZ).trans hzs,hb,kY h3 Yp.2.1 (by unfold maxLen;omega),kY h4 Yp.2.2 (by unfold maxLen;omega),Vh.1,Vh.2.1,Vh.2.2,Yp,VF.trans (hB.mono oZ),wr,hdb,hzs,VF,VI,hB⟩
theorem B9(A1 A2:Option Addr)(c1 c2:Nat)(sg mt:List Int)(L:Int)(w:World)(S:Nat->Prop)(hx:RI w S A1 sg)(hy:RI w S A2 mt)(hS:∀b,S b->b<w.heap.size)(hd:cJ sg mt L)(V_:av mt sg.length sg.length=1)(hn0:0<sg.length):
  Calls Tryz.prog 22 #[.agg #[.slice A1 sg.length c1,.slice A2 mt.length c2,.int .i64 L]] w (Q9 w A1 A2 c1 c2 sg mt L):=by
 have HD0:=Rb (bI.start (c1:=c1) (c2:=c2) (L:=L) S hx hy hS);have HD:=Rb hd;have HI:=Rb hd.2.2.2.2.2.1;have VO:sg.length<=64:=hd.1;have h2:mt.length=4*sg.length:=hd.2.1;have HP:=Rb (aU hd.2.2.2.2.2.1 hd.2.1);have HONE:=Rb V_;have VQ:mt.length<=256:=oZ;have Yb:0<mt.length:=oZ;have H2:=Rb h2;have hmk1:=dN 22 Tryz.underlying22 mt.length oZ;have hmk2:=dN 22 Tryz.underlying22 sg.length oZ;have k0:=HD0.out.c0;have k1:=HD0.out.c1;have k2:=HD0.out.c2;have Vp:Hid (bI ((w.alloc (.cells #[.slice A1 sg.length c1,.slice A2 mt.length c2,.int .i64 L] 24)).alloc (.cells #[.slice none 0 0,.slice none 0 0,.int .i64 0,.slice none 0 0,.slice none 0 0] 52)) w.heap.size A1 A2 c1 c2 sg mt L):=Rb (HD0.out.below ((Rh _ _).alloc (Rf _) _));have YT:Hid (((w.alloc (.cells #[.slice A1 sg.length c1,.slice A2 mt.length c2,.int .i64 L] 24)).alloc (.cells #[.slice none 0 0,.slice none 0 0,.int .i64 0,.slice none 0 0,.slice none 0 0] 52)).heap[w.heap.size+1]?=some (.cells #[.slice none 0 0,.slice none 0 0,.int .i64 0,.slice none 0 0,.slice none 0 0] 52 (0,0))):=by have h:=Ru (w.alloc (.cells #[.slice A1 sg.length c1,.slice A2 mt.length c2,.int .i64 L] 24)) (.cells #[.slice none 0 0,.slice none 0 0,.int .i64 0,.slice none 0 0,.slice none 0 0] 52);rw[show(w.alloc (.cells #[.slice A1 sg.length c1,.slice A2 mt.length c2,.int .i64 L] 24)).heap.size=w.heap.size+1 by simp]at h;exact Rb h
 have Vr:Hid (Below w.heap.size w ((w.alloc (.cells #[.slice A1 sg.length c1,.slice A2 mt.length c2,.int .i64 L] 24)).alloc (.cells #[.slice none 0 0,.slice none 0 0,.int .i64 0,.slice none 0 0,.slice none 0 0] 52))):=Rb (((Rh _ _).alloc (Rf _) _).alloc oX _);have Wg:Hid (((w.alloc (.cells #[.slice A1 sg.length c1,.slice A2 mt.length c2,.int .i64 L] 24)).alloc (.cells #[.slice none 0 0,.slice none 0 0,.int .i64 0,.slice none 0 0,.slice none 0 0] 52)).heap.size=w.heap.size+2):=Rb oX;clear hx hy hS hd V_ h2;go_enter Tryz.func22,Tryz.ntmps22
 go_upto_region 1 with(fail)
 go_cut [3]from 12 to 21 (fun v wx=>∃b3 g3 g4:Nat,v= .pointer (some ⟨b3,0,none⟩)/\Hid (Jy w wx A1 A2 c1 c2 sg mt L b3 g3 g4))
 case first=>
  go_region
  all_goals
   go_wp2_with fail
   go_meet
   case rel=>
    first
     |exact⟨_,_,_,rfl,Rb (Jy.NH Vp.out YT.out Vr.out Wg.out ((((Rh _ _).alloc (Rf _) _).alloc oX _).alloc oX _).drew oZ oZ (dW Wg.out _ _ _).1 (dW Wg.out _ _ _).2.1 (dW Wg.out _ _ _).2.2 oZ (by have:=Wg.out;omega))⟩
     |exact⟨_,_,_,rfl,Rb (Jy.NH Vp.out YT.out Vr.out Wg.out ((((Rh _ _).alloc (Rf _) _).alloc oX _).alloc oX _).drew oZ oZ (dW Wg.out _ _ _).1 (dW Wg.out _ _ _).2.2 (dW Wg.out _ _ _).2.1 oZ (by have:=Wg.out;omega))⟩
     |exact⟨_,_,_,rfl,Rb (Jy.NH Vp.out YT.out Vr.out Wg.out ((((Rh _ _).alloc (Rf _) _).alloc oX _).alloc oX _).drew oZ oZ (dW Wg.out _ _ _).2.1 (dW Wg.out _ _ _).1 (dW Wg.out _ _ _).2.2 oZ (by have:=Wg.out;omega))⟩
     |exact⟨_,_,_,rfl,Rb (Jy.NH Vp.out YT.out Vr.out Wg.out ((((Rh _ _).alloc (Rf _) _).alloc oX _).alloc oX _).drew oZ oZ (dW Wg.out _ _ _).2.1 (dW Wg.out _ _ _).2.2 (dW Wg.out _ _ _).1 oZ (by have:=Wg.out;omega))⟩
     |exact⟨_,_,_,rfl,Rb (Jy.NH Vp.out YT.out Vr.out Wg.out ((((Rh _ _).alloc (Rf _) _).alloc oX _).alloc oX _).drew oZ oZ (dW Wg.out _ _ _).2.2 (dW Wg.out _ _ _).1 (dW Wg.out _ _ _).2.1 oZ (by have:=Wg.out;omega))⟩
     |exact⟨_,_,_,rfl,Rb (Jy.NH Vp.out YT.out Vr.out Wg.out ((((Rh _ _).alloc (Rf _) _).alloc oX _).alloc oX _).drew oZ oZ (dW Wg.out _ _ _).2.2 (dW Wg.out _ _ _).2.1 (dW Wg.out _ _ _).1 oZ (by have:=Wg.out;omega))⟩
 case rest=>
  obtain⟨b3,g3,g4,rfl,HT⟩:=hcut;clear hmk1 hmk2 Vp YT Vr Wg k0 k1 k2 HD0;obtain⟨k0,k1,k2,-,-,-⟩:=HT.out.db;go_wp2_with fail;refine(nQ A1 A2 c1 c2 sg mt L wc (·<wc.heap.size) HT.out.db.rs HT.out.db.rm (fun _ h=>h) HD.out).mono ?_;rintro e w5 ⟨v2,rfl,hr,WI⟩;obtain⟨Af,cf,rfl,WD⟩:=hr.reads;obtain⟨q,hq⟩:∃q,(aC mt).length=q:=⟨_,rfl⟩
  have hqr:(rows (aC mt)).length=q:=by rw[aE];exact hq
  have hqb:q<=256:=by have:=dM (au mt) mt.length il mt.length;rw[aE]at this;rw[<-hq];unfold aC;omega
  rw[hqr];have Yr:=Rb hq;have HQR:=Rb hqr;have Y4:=Rb WD;have HB5:=Rb WI;have HI0:Hid (oE w5 w5 g3 mt.length (List.replicate mt.length 0)):=⟨(HT.out.o3.below WI (Rf _)).self,oX,Rh _ _,fun _ _ _=>rfl⟩;have hsb5:=(WI.block b3 (SL HT.out.sb)).trans HT.out.sb;have HSB5:=Rb hsb5;have hg3:g3<w5.heap.size:=RB (HT.out.o3.lt g3 rfl).2 WI.size;have HN3:Hid (b3≠g3):=Rb HT.out.n3;have HG3:=Rb (And.intro hg3 (show wc.heap.size<=w5.heap.size from WI.size));have HG3W:Hid (g3<wc.heap.size):=Rb (HT.out.o3.lt g3 rfl).2;clear hr WD hq hqr WI k0 k1 k2 hsb5 hg3;go_wp2_with fail;go_loopw[25] (fun i wr=>∃(k:Nat)(p:List Int),k<=q/\i= .int .i64 k/\Hid (oE w5 wr g3 mt.length p)/\Hid (AL mt k 0 p)) (fun i _=>q-(intOf i).toNat)
  case atStart=>exact⟨0,_,Rv _,rfl,HI0,vt _ _⟩
  case round=>
   clear HI0;obtain⟨i,p,hiq,rfl,HI,Xj⟩:=hrel;by_cases Vg:i<q
   ·have hRL:=Y4.out.ak (w':=wr) (fun b hb=>HI.out.ak b hb.2 (by have:=HG3W.out;omega))
    obtain⟨b,off,rfl,-,hc⟩:=hRL.at_ (k:=i) (by rw[HQR.out];exact Vg);obtain⟨Ak,ck,k3,r3,-⟩:=hc i (by rw[HQR.out];exact Vg);have hfa:(aC mt)[i]'(by rw[Yr.out];exact Vg)=fa mt i:=(qg (by rw[Yr.out];exact Vg)).symm;rw[jN (by rw[Yr.out];exact Vg),hfa]at k3 r3;rw[aH]at k3;have HR7:=Rb r3;have HI7:=HI;obtain⟨l,hl⟩:∃l,(fa mt i).length=l:=⟨_,rfl⟩
    have X_:l<=mt.length:=by obtain⟨r,hr,e⟩:=nH (mt:=mt) (k:=i) (by rw[Yr.out];exact Vg);rw[<-hl,<-hfa,e];exact fk HP.out hr
    rw[hl]at k3;have WR:=Rb hl;clear hc hRL hfa hl r3;go_wp2_with fail;clear k3;obtain⟨w7,rfl⟩:∃x:World,x=wr:=⟨_,rfl⟩
    go_loopw[32] (fun j' wr=>∃(j:Nat)(p:List Int),j<=l/\j'= .int .i64 j/\Hid (oE w5 wr g3 mt.length p)/\Hid (AL mt i j p)) (fun j' _=>l-(intOf j').toNat)
    case atStart=>exact⟨0,p,Rv _,rfl,HI,Xj⟩
    case round=>
     clear HI Xj;obtain⟨j,p,hj,rfl,HI,Xj⟩:=hrel;by_cases WH:j<l
     ·have ZN:i<(aC mt).length:=by rw[Yr.out];exact Vg
      have XN:j<(fa mt i).length:=by rw[WR.out];exact WH
      have hr:=HR7.out.ak (w':=wr) (fun b hb=>(HI.out.ak b hb.2 (by have:=HG3W.out;omega)).trans (HI7.out.ak b hb.2 (by have:=HG3W.out;omega)).symm);obtain⟨b2,off2,rfl,-,hc⟩:=hr.at_ (k:=j) (by rw[aH];exact XN);have k4:=hc j (by rw[aH];exact XN);rw[je XN,CN XN]at k4;have XD:=zy HP.out ZN XN HI.out.len Xj.out;have V7:=G8 HP.out ZN (R7 XN);obtain⟨x,hx⟩:∃x,(fa mt i)[j]=x:=⟨_,rfl⟩
      rw[hx]at k4 XD V7;obtain⟨k5,k6⟩:=HI.out.at_ V7;have HI':=Rb (HI.out.store x (i:Int));have HF':=Rb XD;have k7:wr.cell? ⟨b3,3,none⟩=some (.slice (some ⟨g3,0,none⟩) mt.length mt.length):=by have h:=(HI.out.ak b3 (SL HSB5.out) HN3.out).trans HSB5.out;rw[Rt _ _ _ _ _ _ h];rfl
      clear hr hc XD hx XN ZN;go_wp2_with fail;go_roundw
      case rel=>exact⟨j+1,_,oZ,by go_num,HI',HF'⟩
      case measure=>simp[intOf];omega
     ·obtain rfl:l=j:=oZ
      have HF2:Hid (AL mt (i+1) 0 p):=zw (by rw[WR.out];exact Xj.out);clear Xj WH;go_wp2_with fail;go_roundw
      case rel=>exact⟨i+1,p,oZ,by go_num,HI,HF2⟩
      case measure=>simp[intOf];omega
   ·obtain rfl:q=i:=oZ
    obtain⟨wz,rfl⟩:∃x:World,x=wr:=⟨_,rfl⟩
    obtain⟨W0,hD0,hZ0,hW0,WO,Wn⟩:=HT.out.base;have Yp:=HT.out.lo;have WC:=(Wn.trans (HB5.out.mono Wn.size)).trans (HI.out.bel.mono oZ);have hdr:=hD0.below WC;have k0:=hdr.c0;have k1:=hdr.c1;have k2:=hdr.c2;rw[<-Yr.out]at Xj;have HDR:=Rb hdr;have HW0:=Rb hW0;have HS0:=Rb WO;have HZ0:=Rb hZ0;have HBW:=Rb WC;have Z1:OI wz (w.heap.size+2) (.slice (some ⟨g4,0,none⟩) sg.length sg.length) (List.replicate sg.length 0):=(HT.out.o4.below HB5.out (Rf _)).ak fun g hg=>by
     have e:g=g4:=by simpa[Value.ownBlock]using hg.symm
     subst e;exact HI.out.ak _ (RB (HT.out.o4.lt _ rfl).2 HB5.out.size) (fun e=>HT.out.n34 e.symm)
    have hsbr:=(HI.out.ak b3 (SL HSB5.out) HN3.out).trans HSB5.out;have HO4:=Rb Z1;have HSBR:=Rb hsbr;have HN4:Hid (b3≠g4/\g3≠g4):=Rb ⟨HT.out.n4,HT.out.n34⟩;have HLO:=Rb Yp;clear hD0 hZ0 hW0 WO Wn Yp WC hdr Z1 hsbr HT Y4 HSB5 HG3 HG3W HB5 Vg hiq;go_wp2_with fail;refine(rT A1 A2 c1 c2 sg mt L wz (·<wz.heap.size) HDR.out.rs HDR.out.rm (fun _ h=>h) HD.out).mono ?_;rintro e w7 ⟨v2,rfl,hr,hb7⟩;obtain⟨Ag,cg,rfl,WD⟩:=hr.reads;have Vs:(dq mt sg.length).length=1:=ta HD.out.2.2.2.2.2.1 H2.out HONE.out;have hqr:(rows (dq mt sg.length)).length=1:=by rw[aE];exact Vs
    rw[hqr];have Xo:=Rb Vs;have HQR1:=Rb hqr;have Y4:=Rb WD;have HB7:=Rb hb7;have HJ0:Hid (oE w7 w7 g4 sg.length (List.replicate sg.length 0)):=⟨(HO4.out.below hb7 (Rf _)).self,oX,Rh _ _,fun _ _ _=>rfl⟩;have HSB7:Hid (w7.heap[b3]?=_):=Rb ((hb7.block b3 (SL HSBR.out)).trans HSBR.out);have HG4:Hid (g4<wz.heap.size):=Rb (HO4.out.lt g4 rfl).2;clear hr WD Vs hqr hb7 k0 k1 k2;go_wp2_with fail;go_loopw[46] (fun i wx=>∃k:Nat,k<=1/\i= .int .i64 k/\Hid (oE w7 wx g4 sg.length (List.replicate sg.length 0))) (fun i _=>1-(intOf i).toNat)
    case atStart=>exact⟨0,Rv _,rfl,HJ0⟩
    case round=>
     clear HJ0;obtain⟨i,hi1,rfl,HJ⟩:=hrel;by_cases Vg:i<1
     ·have HI00:Hid (i=0):=Rb oZ
      have hiz:i<(rows (dq mt sg.length)).length:=by rw[HQR1.out];exact Vg
      have hiz2:i<(dq mt sg.length).length:=by rw[Xo.out];exact Vg
      have hRL:=Y4.out.ak (w':=wr) (fun b hb=>HJ.out.ak b hb.2 (by have:=HG4.out;omega));obtain⟨b,off,rfl,-,hc⟩:=hRL.at_ (k:=i) hiz;obtain⟨Ak,ck,k3,r3,-⟩:=hc i hiz;rw[jN hiz2]at k3 r3;rw[aH]at k3;obtain⟨row,VB⟩:∃row,(dq mt sg.length)[i]'hiz2=row:=⟨_,rfl⟩
      have Vm:∀x∈row,x<sg.length:=fun x hx=>by rw[<-VB,(vh HD.out.2.2.2.2.2.1 H2.out hiz2).1]at hx;exact(IJ.1 hx).1
      have hrlen:row.length<=64:=by rw[<-VB,(vh HD.out.2.2.2.2.2.1 H2.out hiz2).1];unfold g_;have:=Tg (fun b=>decide (av mt sg.length (aA mt sg.length b)=i)) (List.range sg.length);rw[SW]at this;omega
      rw[VB]at k3 r3;have HR7:=Rb r3;have HJ7:=HJ;have Y7:=Rb Vm;obtain⟨l,hl⟩:∃l,row.length=l:=⟨_,rfl⟩
      rw[hl]at k3 hrlen;have WR:=Rb hl;clear hc hRL hl r3 Vm VB hiz hiz2;go_wp2_with fail;clear k3;go_loopw[53] (fun j' wx=>∃j:Nat,j<=l/\j'= .int .i64 j/\Hid (oE w7 wx g4 sg.length (List.replicate sg.length 0))) (fun j' _=>l-(intOf j').toNat)
      case atStart=>exact⟨0,Rv _,rfl,HJ⟩
      case round=>
       clear HJ;obtain⟨j,hj,rfl,HJ⟩:=hrel;by_cases WH:j<l
       ·have XN:j<row.length:=by rw[WR.out];exact WH
        have hr:=HR7.out.ak (w':=wr) (fun b hb=>(HJ.out.ak b hb.2 (by have:=HG4.out;omega)).trans (HJ7.out.ak b hb.2 (by have:=HG4.out;omega)).symm);obtain⟨b2,off2,rfl,-,hc⟩:=hr.at_ (k:=j) (by rw[aH];exact XN);have k4:=hc j (by rw[aH];exact XN);rw[je XN,CN XN]at k4;have V7:=Y7.out _ (R7 XN);obtain⟨x,hx⟩:∃x,row[j]=x:=⟨_,rfl⟩
        rw[hx]at k4 V7;obtain⟨k5,k6⟩:=HJ.out.at_ V7;have hJ':=HJ.out.store x (i:Int);rw[show(List.replicate sg.length (0:Int)).set x (i:Int)=List.replicate sg.length 0 by rw[HI00.out];exact DQ _ _]at hJ';have HJ':=Rb hJ';have k7:wr.cell? ⟨b3,4,none⟩=some (.slice (some ⟨g4,0,none⟩) sg.length sg.length):=by have h:=(HJ.out.ak b3 (SL HSB7.out) HN4.out.1).trans HSB7.out;rw[Rt _ _ _ _ _ _ h];rfl
        clear hr hc hx XN hJ';go_wp2_with fail;go_roundw
        case rel=>exact⟨j+1,oZ,by go_num,HJ'⟩
        case measure=>simp[intOf];omega
       ·obtain rfl:l=j:=oZ
        clear WH;go_wp2_with fail;go_roundw
        case rel=>exact⟨i+1,oZ,by go_num,HJ⟩
        case measure=>simp[intOf];omega
     ·have hb:=HBW.out.trans ((HB7.out.mono HBW.out.size).trans (HJ.out.bel.mono (by have:=HLO.out;have:=HS0.out;omega)))
      have hsb:=(HJ.out.ak b3 (SL HSB7.out) HN4.out.1).trans HSB7.out;have m0:wr.cell? ⟨b3,0,none⟩=some (.slice A1 sg.length c1):=by rw[Rt _ _ _ _ _ _ hsb];rfl
      have m1:wr.cell? ⟨b3,1,none⟩=some (.slice A2 mt.length c2):=by rw[Rt _ _ _ _ _ _ hsb];rfl
      have m2:wr.cell? ⟨b3,2,none⟩=some (.int .i64 L):=by rw[Rt _ _ _ _ _ _ hsb];rfl
      have m3:wr.cell? ⟨b3,3,none⟩=some (.slice (some ⟨g3,0,none⟩) mt.length mt.length):=by rw[Rt _ _ _ _ _ _ hsb];rfl
      have m4:wr.cell? ⟨b3,4,none⟩=some (.slice (some ⟨g4,0,none⟩) sg.length sg.length):=by rw[Rt _ _ _ _ _ _ hsb];rfl
      have hz:=(hb.block (w.heap.size+1) (by have:=HS0.out;omega)).trans HZ0.out;have y0:wr.cell? ⟨w.heap.size+1,0,none⟩=some (.slice none 0 0):=by rw[Rt _ _ _ _ _ _ hz];rfl
      have y1:wr.cell? ⟨w.heap.size+1,1,none⟩=some (.slice none 0 0):=by rw[Rt _ _ _ _ _ _ hz];rfl
      have y2:wr.cell? ⟨w.heap.size+1,2,none⟩=some (.int .i64 0):=by rw[Rt _ _ _ _ _ _ hz];rfl
      have y3:wr.cell? ⟨w.heap.size+1,3,none⟩=some (.slice none 0 0):=by rw[Rt _ _ _ _ _ _ hz];rfl
      have y4:wr.cell? ⟨w.heap.size+1,4,none⟩=some (.slice none 0 0):=by rw[Rt _ _ _ _ _ _ hz];rfl
      have f0:wr.frozen? ⟨w.heap.size+1,0,none⟩=false:=RD _ _ _ _ _ hz;have f1:wr.frozen? ⟨w.heap.size+1,1,none⟩=false:=RD _ _ _ _ _ hz;have f2:wr.frozen? ⟨w.heap.size+1,2,none⟩=false:=RD _ _ _ _ _ hz;have f3:wr.frozen? ⟨w.heap.size+1,3,none⟩=false:=RD _ _ _ _ _ hz;have f4:wr.frozen? ⟨w.heap.size+1,4,none⟩=false:=RD _ _ _ _ _ hz;have hp:RI wr (fun b=>b=g3/\b<wr.heap.size) (some ⟨g3,0,none⟩) p:=by
       have h1:=FG (by have:=HI.out.own;rwa [<-HI.out.len]at this);have h2:=(h1.ak (w':=w7) fun b hb=>HB7.out.block b hb.2).ak (w':=wr) fun b hb=>HJ.out.ak b (RB hb.2 HB7.out.size) (by rw[hb.1];exact HN4.out.2)
       exact h2.imp fun b hb=>⟨hb.1,RB hb.2 (RQ HB7.out.size HJ.out.bel.size)⟩
      have hq4:=FG HJ.out.own;have HP3:=Rb hp;have HP4:=Rb hq4;have HBE:=Rb ((HW0.out).trans (hb.mono (by have:=HS0.out;omega)));have Xc:=Rb HI.out.len;clear hb hsb hz hp hq4;go_wp2_with fail;refine RC (v:= .agg #[.slice A1 sg.length c1,.slice A2 mt.length c2,.int .i64 L,.slice (some ⟨g3,0,none⟩) mt.length mt.length,.slice (some ⟨g4,0,none⟩) sg.length sg.length]) (by simp[results,Tryz.results22,go_sem,y0,y1,y2,y3,y4]) rfl ?_;refine⟨g3,g4,p,rfl,Xc.out,Xj.out,?_,?_,?_⟩;{refine(HP3.out.ak ?_).imp ?_;{intro b hb;(iterate 5 rw[Rn _ _ _ b (by have:=HLO.out;dsimp only;omega)])};{intro b hb;(iterate 5 rw[az]);exact hb.2}};{refine(HP4.out.ak ?_).imp ?_;{intro b hb;(iterate 5 rw[Rn _ _ _ b (by have:=HLO.out;dsimp only;omega)])};{intro b hb;(iterate 5 rw[az]);exact hb.2}}
      ·iterate 5 refine RM ?_ oJ _
       exact HBE.out
def pk(n:Nat)(kd X Y s:Int)(ov:Bool):Prop:=
 (kd=1/\-1<=X/\X<4*n/\Y=0/\(s=1\/s= -1))\/
 (kd=2/\0<=X/\X<n/\Y=0/\s=0/\ov=false)\/
 (kd=4/\0<=X/\X<Y/\Y<n/\s=0/\ov=false)\/
 (kd=5/\0<=X/\X<4*n/\Y=0/\s=0/\ov=false)\/
 (kd=3/\-2<=X/\X<4*n/\-2<=Y/\Y<4*n/\((X≠Y/\s=0)\/(X=Y/\X<0/\(s=0\/s=1))\/(X=Y/\0<=X/\(s=1\/s= -1))))
instance(n:Nat)(kd X Y s:Int)(ov:Bool):Decidable (pk n kd X Y s ov):=by unfold pk;infer_instance
def qK(n:Nat)(kd X Y s:Int)(ov:Bool):Bool:=decide (pk n kd X Y s ov)
theorem n_{b:Bool}{n:Nat}{kd X Y s:Int}{ov:Bool}(h:b=true↔pk n kd X Y s ov):b=qK n kd X Y s ov:=by unfold qK;rw[R_,h,RE]
set_option linter.unusedSimpArgs false in
theorem IQ(n:Nat)(X Y s:Int)(ov:Bool)(w:World)(hn:n<=1000):
  Calls Tryz.prog 18 #[.int .i64 (n:Int),.agg #[.int .i64 1,.int .i64 X,.int .i64 Y,.int .i64 s,.bool ov]] w fun e w'=>e= .returned (.bool (qK n 1 X Y s ov))/\Below w.heap.size w w':=by
 cases ov
 all_goals
  go_enter Tryz.func18,Tryz.ntmps18
  go_wp2;(all_goals go_ret);(all_goals refine⟨aF (n_ ?_),(Rh _ _).alloc (Rf _) _⟩);(all_goals unfold pk);(all_goals try simp only[RZ,ne_eq,RK]at*);(all_goals simp only[SA,RA,TH,RE,S8,reduceCtorEq,U',or_false,false_or,UZ,true_and,U9,Vf,Vd,Ve,U7,Int.reduceEq]);(all_goals omega)
set_option linter.unusedSimpArgs false in
theorem G6(n:Nat)(X Y s:Int)(ov:Bool)(w:World)(_hn:n<=1000):
  Calls Tryz.prog 18 #[.int .i64 (n:Int),.agg #[.int .i64 2,.int .i64 X,.int .i64 Y,.int .i64 s,.bool ov]] w fun e w'=>e= .returned (.bool (qK n 2 X Y s ov))/\Below w.heap.size w w':=by
 cases ov
 all_goals
  go_enter Tryz.func18,Tryz.ntmps18
  go_wp2;(all_goals go_ret);(all_goals refine⟨aF (n_ ?_),(Rh _ _).alloc (Rf _) _⟩);(all_goals unfold pk);(all_goals try simp only[RZ,ne_eq,RK]at*);(all_goals simp only[SA,RA,TH,RE,S8,reduceCtorEq,U',or_false,false_or,UZ,true_and,U9,Vf,Vd,Ve,U7,Int.reduceEq]);(all_goals omega)
set_option linter.unusedSimpArgs false in
theorem GS(n:Nat)(X Y s:Int)(ov:Bool)(w:World)(hn:n<=1000):
  Calls Tryz.prog 18 #[.int .i64 (n:Int),.agg #[.int .i64 3,.int .i64 X,.int .i64 Y,.int .i64 s,.bool ov]] w fun e w'=>e= .returned (.bool (qK n 3 X Y s ov))/\Below w.heap.size w w':=by
 cases ov
 all_goals
  go_enter Tryz.func18,Tryz.ntmps18
  go_wp2;(all_goals go_ret);(all_goals refine⟨aF (n_ ?_),(Rh _ _).alloc (Rf _) _⟩);(all_goals unfold pk);(all_goals try simp only[RZ,ne_eq,RK]at*);(all_goals simp only[SA,RA,TH,RE,S8,reduceCtorEq,U',or_false,false_or,UZ,true_and,U9,Vf,Vd,Ve,U7,Int.reduceEq]);(all_goals omega)
set_option linter.unusedSimpArgs false in
theorem Gu(n:Nat)(X Y s:Int)(ov:Bool)(w:World)(_hn:n<=1000):
  Calls Tryz.prog 18 #[.int .i64 (n:Int),.agg #[.int .i64 4,.int .i64 X,.int .i64 Y,.int .i64 s,.bool ov]] w fun e w'=>e= .returned (.bool (qK n 4 X Y s ov))/\Below w.heap.size w w':=by
 cases ov
 all_goals
  go_enter Tryz.func18,Tryz.ntmps18
  go_wp2;(all_goals go_ret);(all_goals refine⟨aF (n_ ?_),(Rh _ _).alloc (Rf _) _⟩);(all_goals unfold pk);(all_goals try simp only[RZ,ne_eq,RK]at*);(all_goals simp only[SA,RA,TH,RE,S8,reduceCtorEq,U',or_false,false_or,UZ,true_and,U9,Vf,Vd,Ve,U7,Int.reduceEq]);(all_goals omega)
set_option linter.unusedSimpArgs false in
theorem GF(n:Nat)(X Y s:Int)(ov:Bool)(w:World)(hn:n<=1000):
  Calls Tryz.prog 18 #[.int .i64 (n:Int),.agg #[.int .i64 5,.int .i64 X,.int .i64 Y,.int .i64 s,.bool ov]] w fun e w'=>e= .returned (.bool (qK n 5 X Y s ov))/\Below w.heap.size w w':=by
 cases ov
 all_goals
  go_enter Tryz.func18,Tryz.ntmps18
  go_wp2;(all_goals go_ret);(all_goals refine⟨aF (n_ ?_),(Rh _ _).alloc (Rf _) _⟩);(all_goals unfold pk);(all_goals try simp only[RZ,ne_eq,RK]at*);(all_goals simp only[SA,RA,TH,RE,S8,reduceCtorEq,U',or_false,false_or,UZ,true_and,U9,Vf,Vd,Ve,U7,Int.reduceEq]);(all_goals omega)
theorem qi(n:Nat)(a kd X Y s:Int)(ov:Bool)(w:World)(ha:a=n)(hn:n<=1000)(hk:1<=kd/\kd<=5):
  Calls Tryz.prog 18 #[.int .i64 a,.agg #[.int .i64 kd,.int .i64 X,.int .i64 Y,.int .i64 s,.bool ov]] w fun e w'=>e= .returned (.bool (qK n kd X Y s ov))/\Below w.heap.size w w':=by
 subst ha;rcases(oZ:kd=1\/kd=2\/kd=3\/kd=4\/kd=5)with rfl|rfl|rfl|rfl|rfl
 {exact IQ n X Y s ov w hn};{exact G6 n X Y s ov w hn};{exact GS n X Y s ov w hn};{exact Gu n X Y s ov w hn};{exact GF n X Y s ov w hn}
structure Kx(b c:Nat)(wr w':World):Prop where
 sz:wr.heap.size<=w'.heap.size
 eq:∀g,g<wr.heap.size->g≠b->g≠c->w'.heap[g]?=wr.heap[g]?
theorem Kx.refl(b c:Nat)(w:World):Kx b c w w:=⟨Rf _,fun _ _ _ _=>rfl⟩
theorem Kx.drew{b c:Nat}{wr w':World}(h:Kx b c wr w'):Kx b c wr w'.drew:=⟨h.sz,h.eq⟩
theorem Kx.call{b c:Nat}{wr X W:World}(h:Kx b c wr X)(hb:Below X.heap.size X W):Kx b c wr W:=⟨RQ h.sz hb.size,fun g h1 h2 h3=>(hb.block g (RB h1 h.sz)).trans (h.eq g h1 h2 h3)⟩
theorem Kx.rW{b c k:Nat}{wr X:World}(h:Kx b c wr X)(v:Value):Kx b c wr (X.setCell ⟨b,k,none⟩ v):=
 ⟨by rw[az];exact h.sz,fun g h1 h2 h3=>(Rn _ _ _ _ h2).trans (h.eq g h1 h2 h3)⟩
theorem Kx.gR{b c k:Nat}{wr X:World}(h:Kx b c wr X)(v:Value):Kx b c wr (X.setCell ⟨c,k,none⟩ v):=
 ⟨by rw[az];exact h.sz,fun g h1 h2 h3=>(Rn _ _ _ _ h3).trans (h.eq g h1 h2 h3)⟩
theorem Kx.cell{b c g k:Nat}{wr X:World}{v:Value}(h:Kx b c wr X)(h2:g≠b)(h3:g≠c)(hc:wr.cell? ⟨g,k,none⟩=some v):X.cell? ⟨g,k,none⟩=some v:=
 (Ri (a:=⟨g,k,none⟩) (h.eq g (RX _ _ hc) h2 h3)).trans hc
structure Md(w wr:World)(A1 A2:Option Addr)(c1 c2:Nat)(sg mt:List Int)(kd X Y s:Int)(ov:Bool)(b7 b8:Nat):Prop where
 mo:oF w wr A1 A2 c1 c2 sg mt 0 kd X Y s ov
 zr:fD wr b7
 zi:mD wr b8
 l7:w.heap.size+4<=b7
 l8:w.heap.size+4<=b8
 t8:b8<wr.heap.size
 ne:b7≠b8
theorem Md.call{w wr w':World}{A1 A2:Option Addr}{c1 c2:Nat}{sg mt:List Int}{kd X Y s:Int}{ov:Bool}{b7 b8:Nat}(h:Md w wr A1 A2 c1 c2 sg mt kd X Y s ov b7 b8)(hb:Below wr.heap.size wr w'):Md w w' A1 A2 c1 c2 sg mt kd X Y s ov b7 b8:=
 ⟨h.mo.call hb,h.zr.ak (hb.block _ h.zr.lt) hb.size,h.zi.ak (hb.block _ h.t8),h.l7,h.l8,RB h.t8 hb.size,h.ne⟩
theorem Md.mk'{w wr:World}{A1 A2:Option Addr}{c1 c2:Nat}{sg mt:List Int}{kd X Y s:Int}{ov:Bool}(h:oF w wr A1 A2 c1 c2 sg mt 0 kd X Y s ov):
  Md w ((wr.alloc (.cells #[.slice none 0 0,.slice none 0 0,.int .i64 0] 24)).alloc (.cells #[.int .i64 0,.int .i64 0,.int .i64 0,.int .i64 0,.bool false] 26)) A1 A2 c1 c2 sg mt kd X Y s ov wr.heap.size (wr.heap.size+1):=by
 have Vi:Below wr.heap.size wr (wr.alloc (.cells #[.slice none 0 0,.slice none 0 0,.int .i64 0] 24)):=(Rh _ _).alloc (Rf _) _;have k1:=Ru wr (.cells #[.slice none 0 0,.slice none 0 0,.int .i64 0] 24);have s1:(wr.alloc (.cells #[.slice none 0 0,.slice none 0 0,.int .i64 0] 24)).heap.size=wr.heap.size+1:=oX;obtain⟨w1,h1⟩:∃x,wr.alloc (.cells #[.slice none 0 0,.slice none 0 0,.int .i64 0] 24)=x:=⟨_,rfl⟩
 rw[h1]at Vi k1 s1⊢;have Vj:Below w1.heap.size w1 (w1.alloc (.cells #[.int .i64 0,.int .i64 0,.int .i64 0,.int .i64 0,.bool false] 26)):=(Rh _ _).alloc (Rf _) _;have k2:=Ru w1 (.cells #[.int .i64 0,.int .i64 0,.int .i64 0,.int .i64 0,.bool false] 26);have s2:(w1.alloc (.cells #[.int .i64 0,.int .i64 0,.int .i64 0,.int .i64 0,.bool false] 26)).heap.size=wr.heap.size+2:=by simp[s1]
 rw[s1]at k2;have Vg:=h.lt;exact⟨h.call (Vi.trans (Vj.mono Vi.size)),fD.new (by rw[Vj.block _ oZ];exact k1) oZ,mD.new k2,Vg,oZ,oZ,oZ⟩
theorem Dd{w w9 w':World}{N:Nat}{v1 v2:Value}{xs ys:List Int}(h:dz w9 N v1 v2 xs ys)(hN:w.heap.size<=N)(hk:∀g,N<=g->w'.heap[g]?=w9.heap[g]?):dz w' w.heap.size v1 v2 xs ys:=
 ⟨(h.os.ak fun g hg=>hk g (h.os.lt g hg).1).mono hN,(h.om.ak fun g hg=>hk g (h.om.lt g hg).1).mono hN,h.ne⟩
theorem Ol{wr w':World}{N b c:Nat}{v0 v1 v2:Value}{kd X Y s:Int}{ov:Bool}(hb:N+4<=b)(hc:N+4<=c)
  (d0:wr.cell? ⟨N,0,none⟩=some v0)(d1:wr.cell? ⟨N,1,none⟩=some v1)(d2:wr.cell? ⟨N,2,none⟩=some v2)
  (m0:wr.cell? ⟨N+1,0,none⟩=some (.int .i64 kd))(m1:wr.cell? ⟨N+1,1,none⟩=some (.int .i64 X))(m2:wr.cell? ⟨N+1,2,none⟩=some (.int .i64 Y))(m3:wr.cell? ⟨N+1,3,none⟩=some (.int .i64 s))(m4:wr.cell? ⟨N+1,4,none⟩=some (.bool ov))
  (h:Kx b c wr w'):
  (w'.cell? ⟨N,0,none⟩=some v0/\w'.cell? ⟨N,1,none⟩=some v1/\w'.cell? ⟨N,2,none⟩=some v2)/\
  (w'.cell? ⟨N+1,0,none⟩=some (.int .i64 kd)/\w'.cell? ⟨N+1,1,none⟩=some (.int .i64 X)/\w'.cell? ⟨N+1,2,none⟩=some (.int .i64 Y)/\w'.cell? ⟨N+1,3,none⟩=some (.int .i64 s)/\w'.cell? ⟨N+1,4,none⟩=some (.bool ov)):=
 ⟨⟨h.cell oZ oZ d0,h.cell oZ oZ d1,h.cell oZ oZ d2⟩,h.cell oZ oZ m0,h.cell oZ oZ m1,h.cell oZ oZ m2,h.cell oZ oZ m3,h.cell oZ oZ m4⟩
theorem Bq(A1 A2:Option Addr)(c1 c2:Nat)(sg mt:List Int)(kd X Y s:Int)(ov:Bool)(w:World)(S:Nat->Prop)(hx:RI w S A1 sg)(hy:RI w S A2 mt)(hS:∀b,S b->b<w.heap.size)(hd:cJ sg mt 0)(hk:kd<1\/5<kd)(P:List Int->List Int->Int->Prop):
  Calls Tryz.prog 9 #[.agg #[.slice A1 sg.length c1,.slice A2 mt.length c2,.int .i64 0],.agg #[.int .i64 kd,.int .i64 X,.int .i64 Y,.int .i64 s,.bool ov]] w (Mq w P):=by
 have T0:=Rb (oF.start (c1:=c1) (c2:=c2) (L:=0) (kd:=kd) (X:=X) (Y:=Y) (s:=s) (ov:=ov) hx hy hS);have HD:=Rb hd;have VO:sg.length<=64:=hd.1;have VQ:mt.length<=256:=by have:=hd.2.1;omega
 obtain⟨k0,k1,k2,n0,n1,n2,n3,n4,-,-,-,-,-,-⟩:=T0.out;clear hx hy hS hd;go_enter Tryz.func9,Tryz.ntmps9
 go_wp2_with fail;generalize hW:((((w.alloc (.cells #[.slice A1 sg.length c1,.slice A2 mt.length c2,.int .i64 0] 24)).alloc (.cells #[.int .i64 kd,.int .i64 X,.int .i64 Y,.int .i64 s,.bool ov] 26)).alloc (.cells #[.slice none 0 0,.slice none 0 0,.int .i64 0] 24)).alloc (.cells #[.int .i64 0,.int .i64 0,.int .i64 0,.int .i64 0,.bool false] 26))=wr at*;clear hW;refine(gl A1 A2 c1 c2 sg mt 0 wr (·<wr.heap.size) (T0.out.rs.imp fun b hb=>by have:=T0.out.lt;omega) (T0.out.rm.imp fun b hb=>by have:=T0.out.lt;omega) (fun _ h=>h) (by unfold maxLen;omega) (by unfold maxLen;omega)).mono ?_;rintro e w1 ⟨rfl,Vi⟩;rw[Rj HD.out];have T1:=Rb (T0.out.call Vi);clear k0 k1 k2 n0 n1 n2 n3 n4 T0 Vi;obtain⟨k0,k1,k2,n0,n1,n2,n3,n4,-,-,-,-,-,-⟩:=T1.out;by_cases hk1:kd<1
 all_goals
  (try have hk5:5<kd:=oZ);clear hk;obtain⟨y0,y1,y2,g0,g1,g2,-⟩:=T1.out.zb;obtain⟨z0,z1,z2,z3,z4,q0,q1,q2,q3,q4⟩:=T1.out.zm;go_wp2_with fail;refine RC (v:= .tuple #[.agg #[.slice none 0 0,.slice none 0 0,.int .i64 0],.agg #[.int .i64 0,.int .i64 0,.int .i64 0,.int .i64 0,.bool false],.int .i64 11]) (by simp[results,Tryz.results9,go_sem,y0,y1,y2,z0,z1,z2,z3,z4]) rfl ?_;refine⟨_,_,11,rfl,⟨⟨_,_,_,_,_,_,_,rfl⟩,_,_,_,_,_,rfl⟩,?_,fun h=>absurd h oQ⟩;(iterate 8 refine RM ?_ oJ _);exact T1.out.bel
theorem BK(A1 A2:Option Addr)(c1 c2:Nat)(sg mt:List Int)(kd X Y s:Int)(ov:Bool)(w:World)(S:Nat->Prop)(hx:RI w S A1 sg)(hy:RI w S A2 mt)(hS:∀b,S b->b<w.heap.size)(hd:cJ sg mt 0)(hk:kd=1\/kd=2\/kd=4\/kd=5)(P:List Int->List Int->Int->Prop)
  (hP1:kd=1->pk sg.length kd X Y s ov->∀sg' mt' L',(∃h:Nat,X=h/\h<mt.length/\ai sg h=true/\sg.length+1<=64/\sg'=sg++[s]/\mt'=JV mt sg.length s ov h/\L'=0)->P sg' mt' L')
  (hP2:kd=2->pk sg.length kd X Y s ov->∀sg' mt' L',(∃o:Nat,ja sg mt X.toNat=some o/\L'=nE mt (ae o 2) (ae (gn mt o) 2)/\sg'=dV [X] sg sg.length/\mt'=dT [X] (ic mt (ae o 2) (ae (gn mt o) 2)) sg.length)->P sg' mt' L')
  (hP4:kd=4->pk sg.length kd X Y s ov->∀sg' mt' L',(∃x y h o:Nat,X=x/\Y=y/\x<y/\y<sg.length/\((h/4=x/\o=y)\/(h/4=y/\o=x))/\By mt h o=true/\L'=nE mt (ae h 2) (ae (gn mt h) 2)+nE (ic mt (ae h 2) (ae (gn mt h) 2)) (ae (gn mt (au mt h)) 2) (ae (au mt h) 2)/\sg'=dV [(x:Int),(y:Int)] sg sg.length/\mt'=dT [(x:Int),(y:Int)] (ic (ic mt (ae h 2) (ae (gn mt h) 2)) (ae (gn mt (au mt h)) 2) (ae (au mt h) 2)) sg.length)->P sg' mt' L')
  (hP5:kd=5->pk sg.length kd X Y s ov->∀sg' mt' L',(∃a b c:Nat,X=a/\a<mt.length/\au mt a=b/\au mt b=c/\au mt c=a/\a/4≠b/4/\b/4≠c/4/\c/4≠a/4/\¬(a%2=b%2/\b%2=c%2)/\sg'=sg/\mt'=GK sg mt a/\L'=0)->P sg' mt' L'):
  Calls Tryz.prog 9 #[.agg #[.slice A1 sg.length c1,.slice A2 mt.length c2,.int .i64 0],.agg #[.int .i64 kd,.int .i64 X,.int .i64 Y,.int .i64 s,.bool ov]] w (Mq w P):=by
 have hk1:¬kd<1:=oZ;have hk5:¬5<kd:=oZ;have T0:=Rb (oF.start (c1:=c1) (c2:=c2) (L:=0) (kd:=kd) (X:=X) (Y:=Y) (s:=s) (ov:=ov) hx hy hS);have HD:=Rb hd;have VO:sg.length<=64:=hd.1;have VQ:mt.length<=256:=by have:=hd.2.1;omega
 obtain⟨k0,k1,k2,n0,n1,n2,n3,n4,-,-,-,-,-,-⟩:=T0.out;clear hx hy hS hd;go_enter Tryz.func9,Tryz.ntmps9
 go_wp2_with fail;generalize hW:((((w.alloc (.cells #[.slice A1 sg.length c1,.slice A2 mt.length c2,.int .i64 0] 24)).alloc (.cells #[.int .i64 kd,.int .i64 X,.int .i64 Y,.int .i64 s,.bool ov] 26)).alloc (.cells #[.slice none 0 0,.slice none 0 0,.int .i64 0] 24)).alloc (.cells #[.int .i64 0,.int .i64 0,.int .i64 0,.int .i64 0,.bool false] 26))=wr at*;clear hW;refine(gl A1 A2 c1 c2 sg mt 0 wr (·<wr.heap.size) (T0.out.rs.imp fun b hb=>by have:=T0.out.lt;omega) (T0.out.rm.imp fun b hb=>by have:=T0.out.lt;omega) (fun _ h=>h) (by unfold maxLen;omega) (by unfold maxLen;omega)).mono ?_;rintro e w1 ⟨rfl,Vi⟩;rw[Rj HD.out];have T1:=Rb (T0.out.call Vi);clear k0 k1 k2 n0 n1 n2 n3 n4 T0 Vi;obtain⟨k0,k1,k2,n0,n1,n2,n3,n4,-,-,-,-,-,-⟩:=T1.out;go_wp2_with fail;refine(qi sg.length _ kd X Y s ov _ rfl oZ oZ).mono ?_;rintro e w2 ⟨rfl,Vj⟩;have T2:=Rb (T1.out.call Vj);clear k0 k1 k2 n0 n1 n2 n3 n4 T1 Vj;by_cases Vn:pk sg.length kd X Y s ov
 case neg=>rw[show qK sg.length kd X Y s ov=false from Rl Vn];clear Vn;obtain⟨y0,y1,y2,g0,g1,g2,-⟩:=T2.out.zb;obtain⟨z0,z1,z2,z3,z4,q0,q1,q2,q3,q4⟩:=T2.out.zm;go_wp2_with fail;refine RC (v:= .tuple #[.agg #[.slice none 0 0,.slice none 0 0,.int .i64 0],.agg #[.int .i64 0,.int .i64 0,.int .i64 0,.int .i64 0,.bool false],.int .i64 2]) (by simp[results,Tryz.results9,go_sem,y0,y1,y2,z0,z1,z2,z3,z4]) rfl ?_;refine⟨_,_,2,rfl,⟨⟨_,_,_,_,_,_,_,rfl⟩,_,_,_,_,_,rfl⟩,?_,fun h=>absurd h oQ⟩;(iterate 8 refine RM ?_ oJ _);exact T2.out.bel
 case pos=>
  rw[show qK sg.length kd X Y s ov=true from Rj Vn];have Yl:=Rb Vn;clear Vn;have HA:=Rb (Md.mk' T2.out);obtain⟨k0,k1,k2,n0,n1,n2,n3,n4,-,-,-,-,Vg,-⟩:=T2.out;have h50:w.heap.size<w2.heap.size:=oZ;have h51:w.heap.size+1<w2.heap.size:=oZ;have h52:w.heap.size<w2.heap.size+1:=oZ;have h53:w.heap.size+1<w2.heap.size+1:=oZ;go_upto_region 10 with fail
  obtain⟨W,hW⟩:∃x,((w2.alloc (.cells #[.slice none 0 0,.slice none 0 0,.int .i64 0] 24)).alloc (.cells #[.int .i64 0,.int .i64 0,.int .i64 0,.int .i64 0,.bool false] 26))=x:=⟨_,rfl⟩
  rw[hW]at HA⊢;obtain⟨b7,h7⟩:∃b,w2.heap.size=b:=⟨_,rfl⟩
  obtain⟨b8,h8⟩:∃b,b7+1=b:=⟨_,rfl⟩
  rw[h7,h8]at HA;rw[h7,h8];clear hW h7 h8 k0 k1 k2 n0 n1 n2 n3 n4 Vg h50 h51 h52 h53 T2 wr w1 w2;obtain⟨k0,k1,k2,n0,n1,n2,n3,n4,-,-,-,-,-,-⟩:=HA.out.mo;clear hk1 hk5;rcases hk with rfl|rfl|rfl|rfl
  all_goals
   go_wp2_with fail
   first
    |refine(Gj A1 A2 c1 c2 sg mt 0 1 X Y s ov W (·<w.heap.size) HA.out.mo.rs HA.out.mo.rm (fun b hb=>by have:=HA.out.mo.lt;omega) HD.out rfl (by have hq:=Yl.out;unfold pk at hq;omega) (by have hq:=Yl.out;unfold pk at hq;omega)).mono ?_
    |refine(Cm A1 A2 c1 c2 sg mt 0 2 X Y s ov W (·<w.heap.size) HA.out.mo.rs HA.out.mo.rm (fun b hb=>by have:=HA.out.mo.lt;omega) HD.out rfl (by have hq:=Yl.out;unfold pk at hq;omega)).mono ?_
    |refine(Cp A1 A2 c1 c2 sg mt 0 4 X Y s ov W (·<w.heap.size) HA.out.mo.rs HA.out.mo.rm (fun b hb=>by have:=HA.out.mo.lt;omega) HD.out rfl (by have hq:=Yl.out;unfold pk at hq;omega)).mono ?_
    |refine(Ed A1 A2 c1 c2 sg mt 0 5 X Y s ov W (·<w.heap.size) HA.out.mo.rs HA.out.mo.rm (fun b hb=>by have:=HA.out.mo.lt;omega) HD.out rfl (by have hq:=Yl.out;unfold pk at hq;omega)).mono ?_
   rintro e w3 ⟨dv,mv,er,rfl,⟨⟨A5,A6,n5,k5,n6,k6,L5,rfl⟩,ma,mb,mc,md,mo,rfl⟩,Vt,hk⟩;have T3:=Rb (HA.out.call Vt);have hw7:=HA.out.zr.lt;have hw8:=HA.out.t8;have hwl:=HA.out.mo.lt;clear Vt HA k0 k1 k2 n0 n1 n2 n3 n4;have VP:=T3.out.mo.lt;have l7:=T3.out.l7;have l8:=T3.out.l8;have t7:=T3.out.zr.lt;have t8:=T3.out.t8;have d1:¬b7=b8:=T3.out.ne;have d2:¬b8=b7:=fun e=>d1 e.symm
   have e00:¬b7=w.heap.size+2:=oZ;have e01:¬w.heap.size+2=b7:=oZ;have e10:¬b7=w.heap.size+3:=oZ;have e11:¬w.heap.size+3=b7:=oZ;have e20:¬b8=w.heap.size+2:=oZ;have e21:¬w.heap.size+2=b8:=oZ;have e30:¬b8=w.heap.size+3:=oZ;have e31:¬w.heap.size+3=b8:=oZ;have e40:¬b7=w.heap.size+1+1:=oZ;have e41:¬w.heap.size+1+1=b7:=oZ;have e50:¬b7=w.heap.size+1+1+1:=oZ;have e51:¬w.heap.size+1+1+1=b7:=oZ;have e60:¬b8=w.heap.size+1+1:=oZ;have e61:¬w.heap.size+1+1=b8:=oZ;have e70:¬b8=w.heap.size+1+1+1:=oZ;have e71:¬w.heap.size+1+1+1=b8:=oZ;obtain⟨y0,y1,y2,g0,g1,g2,-⟩:=T3.out.mo.zb;obtain⟨z0,z1,z2,z3,z4,q0,q1,q2,q3,q4⟩:=T3.out.mo.zm;obtain⟨r0,r1,r2,t0,t1,t2,-⟩:=T3.out.zr;obtain⟨i0,i1,i2,i3,i4,j0,j1,j2,j3,j4⟩:=T3.out.zi;by_cases he:er=0
   {subst he;have HK:=Rb (hk rfl);clear hk;go_wp2_with fail;go_region;go_wp2_with fail;refine RC (v:= .tuple #[.agg #[.slice A5 n5 k5,.slice A6 n6 k6,.int .i64 L5],.agg #[.int .i64 ma,.int .i64 mb,.int .i64 mc,.int .i64 md,.bool mo],.int .i64 0]) (by simp[results,Tryz.results9,go_sem,y0,y1,y2,z0,z1,z2,z3,z4]) rfl ?_;obtain⟨v1,v2,sg',mt',L',e9,hf,hp⟩:=HK.out;refine⟨_,_,0,rfl,⟨⟨_,_,_,_,_,_,_,rfl⟩,_,_,_,_,_,rfl⟩,?_,fun _=>⟨v1,v2,sg',mt',L',e9,Dd (w9:=w3) hf oZ ?_,by first|exact hP1 oX Yl.out sg' mt' L' hp|exact hP2 oX Yl.out sg' mt' L' hp|exact hP4 oX Yl.out sg' mt' L' hp|exact hP5 oX Yl.out sg' mt' L' hp⟩⟩;{refine Td ?_;(iterate 16 refine RM ?_ oJ _);exact T3.out.mo.bel};{intro g hg;rw[mQ];(iterate 16 rw[Rn _ _ _ g oJ])}}
   ·have Yd:(er !=0)=true:=by rw[RZ];exact he
    have HE:=Rb he;clear he hk;go_wp2_with fail;refine RC (v:= .tuple #[.agg #[.slice none 0 0,.slice none 0 0,.int .i64 0],.agg #[.int .i64 0,.int .i64 0,.int .i64 0,.int .i64 0,.bool false],.int .i64 er]) (by simp[results,Tryz.results9,go_sem,y0,y1,y2,z0,z1,z2,z3,z4]) rfl ?_;refine⟨_,_,er,rfl,⟨⟨_,_,_,_,_,_,_,rfl⟩,_,_,_,_,_,rfl⟩,?_,fun h=>absurd h HE.out⟩;(iterate 16 refine RM ?_ oJ _);exact T3.out.mo.bel
def QS(sg mt:List Int)(X Y s:Int)(ov:Bool)(w:World)(P:List Int->List Int->Int->Prop)(e:Ending)(w':World):Prop:=
 ∃er:Int,(pk sg.length 3 X Y s ov->∃lf:List Int,lf.length=mt.length/\AL mt (aC mt).length 0 lf/\er=yA sg.length lf mt X Y s)/\Qc w er P e w'
theorem tT(A1 A2:Option Addr)(c1 c2:Nat)(sg mt:List Int)(X Y s:Int)(ov:Bool)(w:World)(S:Nat->Prop)(hx:RI w S A1 sg)(hy:RI w S A2 mt)(hS:∀b,S b->b<w.heap.size)(hd:cJ sg mt 0)(V_:av mt sg.length sg.length=1)(hn0:0<sg.length)(P:List Int->List Int->Int->Prop)
  (hP:pk sg.length 3 X Y s ov->∀lf:List Int,lf.length=mt.length->AL mt (aC mt).length 0 lf->yA sg.length lf mt X Y s=0->∀sg' mt' L',(∃x y:Nat,X=x/\Y=y/\x<mt.length/\y<mt.length/\L'=0/\sg'=sg++[cM (kW (ai sg x) (ai sg y) ov) (vV (ai sg x) (ai sg y) ov),cM (kV (ai sg x) (ai sg y) ov) (vW (ai sg x) (ai sg y) ov)]/\mt'=kI mt sg.length (kW (ai sg x) (ai sg y) ov) (kV (ai sg x) (ai sg y) ov) x y s)->P sg' mt' L'):
  Calls Tryz.prog 9 #[.agg #[.slice A1 sg.length c1,.slice A2 mt.length c2,.int .i64 0],.agg #[.int .i64 3,.int .i64 X,.int .i64 Y,.int .i64 s,.bool ov]] w (QS sg mt X Y s ov w P):=by
 have HONE:=Rb V_;have HN0:=Rb hn0;clear V_ hn0;have T0:=Rb (oF.start (c1:=c1) (c2:=c2) (L:=0) (kd:=3) (X:=X) (Y:=Y) (s:=s) (ov:=ov) hx hy hS);have HD:=Rb hd;have VO:sg.length<=64:=hd.1;have VQ:mt.length<=256:=by have:=hd.2.1;omega
 obtain⟨k0,k1,k2,n0,n1,n2,n3,n4,-,-,-,-,-,-⟩:=T0.out;clear hx hy hS hd;go_enter Tryz.func9,Tryz.ntmps9
 go_wp2_with fail;generalize hW:((((w.alloc (.cells #[.slice A1 sg.length c1,.slice A2 mt.length c2,.int .i64 0] 24)).alloc (.cells #[.int .i64 3,.int .i64 X,.int .i64 Y,.int .i64 s,.bool ov] 26)).alloc (.cells #[.slice none 0 0,.slice none 0 0,.int .i64 0] 24)).alloc (.cells #[.int .i64 0,.int .i64 0,.int .i64 0,.int .i64 0,.bool false] 26))=wr at*;clear hW;refine(gl A1 A2 c1 c2 sg mt 0 wr (·<wr.heap.size) (T0.out.rs.imp fun b hb=>by have:=T0.out.lt;omega) (T0.out.rm.imp fun b hb=>by have:=T0.out.lt;omega) (fun _ h=>h) (by unfold maxLen;omega) (by unfold maxLen;omega)).mono ?_;rintro e w1 ⟨rfl,Vi⟩;rw[Rj HD.out];have T1:=Rb (T0.out.call Vi);clear k0 k1 k2 n0 n1 n2 n3 n4 T0 Vi;obtain⟨k0,k1,k2,n0,n1,n2,n3,n4,-,-,-,-,-,-⟩:=T1.out;go_wp2_with fail;refine(qi sg.length _ 3 X Y s ov _ rfl oZ oQ).mono ?_;rintro e w2 ⟨rfl,Vj⟩;have T2:=Rb (T1.out.call Vj);clear k0 k1 k2 n0 n1 n2 n3 n4 T1 Vj;by_cases Vn:pk sg.length 3 X Y s ov
 case neg=>rw[show qK sg.length 3 X Y s ov=false from Rl Vn];have Yl:=Rb Vn;clear Vn;obtain⟨y0,y1,y2,g0,g1,g2,-⟩:=T2.out.zb;obtain⟨z0,z1,z2,z3,z4,q0,q1,q2,q3,q4⟩:=T2.out.zm;go_wp2_with fail;refine RC (v:= .tuple #[.agg #[.slice none 0 0,.slice none 0 0,.int .i64 0],.agg #[.int .i64 0,.int .i64 0,.int .i64 0,.int .i64 0,.bool false],.int .i64 2]) (by simp[results,Tryz.results9,go_sem,y0,y1,y2,z0,z1,z2,z3,z4]) rfl ?_;refine⟨2,fun h=>absurd h Yl.out,_,_,rfl,⟨⟨_,_,_,_,_,_,_,rfl⟩,_,_,_,_,_,rfl⟩,?_,fun h=>absurd h oQ⟩;(iterate 8 refine RM ?_ oJ _);exact T2.out.bel
 case pos=>
  rw[show qK sg.length 3 X Y s ov=true from Rj Vn];have Yl:=Rb Vn;have hq:=Vn;unfold pk at hq;have hr:(-2<=X/\X<4*sg.length)/\(-2<=Y/\Y<4*sg.length)/\((X≠Y/\s=0)\/(X=Y/\(X<0\/s=1\/s= -1))):=oZ;have HR:=Rb hr;clear hq Vn hr;have HA:=Rb (Md.mk' T2.out);obtain⟨k0,k1,k2,n0,n1,n2,n3,n4,-,-,-,-,Vg,-⟩:=T2.out;have h50:w.heap.size<w2.heap.size:=oZ;have h51:w.heap.size+1<w2.heap.size:=oZ;have h52:w.heap.size<w2.heap.size+1:=oZ;have h53:w.heap.size+1<w2.heap.size+1:=oZ;go_upto_region 10 with fail
  obtain⟨W,hW⟩:∃x,((w2.alloc (.cells #[.slice none 0 0,.slice none 0 0,.int .i64 0] 24)).alloc (.cells #[.int .i64 0,.int .i64 0,.int .i64 0,.int .i64 0,.bool false] 26))=x:=⟨_,rfl⟩
  rw[hW]at HA⊢;obtain⟨b7,h7⟩:∃b,w2.heap.size=b:=⟨_,rfl⟩
  obtain⟨b8,h8⟩:∃b,b7+1=b:=⟨_,rfl⟩
  rw[h7,h8]at HA;rw[h7,h8];clear hW h7 h8 k0 k1 k2 n0 n1 n2 n3 n4 Vg h50 h51 h52 h53 T2 wr w1 w2;have n0:=HA.out.mo.m0;go_wp2_with fail;clear n0;have HKX:=Rb fun(w':World) (hk:Kx b7 b8 W w')=>Ol HA.out.l7 HA.out.l8 HA.out.mo.c0 HA.out.mo.c1 HA.out.mo.c2 HA.out.mo.m0 HA.out.mo.m1 HA.out.mo.m2 HA.out.mo.m3 HA.out.mo.m4 hk
  have d1:¬b7=b8:=HA.out.ne;have d2:¬b8=b7:=fun e=>d1 e.symm
  go_region_held3 (fun w'=>(w'.cell? ⟨w.heap.size,0,none⟩=some (.slice A1 sg.length c1)/\w'.cell? ⟨w.heap.size,1,none⟩=some (.slice A2 mt.length c2)/\w'.cell? ⟨w.heap.size,2,none⟩=some (.int .i64 0))/\
    (w'.cell? ⟨w.heap.size+1,0,none⟩=some (.int .i64 3)/\w'.cell? ⟨w.heap.size+1,1,none⟩=some (.int .i64 X)/\w'.cell? ⟨w.heap.size+1,2,none⟩=some (.int .i64 Y)/\w'.cell? ⟨w.heap.size+1,3,none⟩=some (.int .i64 s)/\w'.cell? ⟨w.heap.size+1,4,none⟩=some (.bool ov)))
   (((with_reducible refine HKX.out _ ?_);(repeat (first|with_reducible exact WT.out|with_reducible exact HKS.out|with_reducible exact Kx.refl _ _ _|with_reducible refine Kx.drew ?_|with_reducible refine Kx.rW ?_ _|with_reducible refine Kx.gR ?_ _))))
   (first|(go_at_call 22;refine(B9 A1 A2 c1 c2 sg mt 0 _ (·<w.heap.size) (by exact HA.out.mo.rs) (by exact HA.out.mo.rm) (fun b hb=>by have:=HA.out.mo.lt;show b<W.heap.size;omega) HD.out HONE.out HN0.out).mono ?_;rintro e ws ⟨g3,g4,p,rfl,Wr,hFI,hR3,hR4,Xv⟩;have YC:Hid (Below W.heap.size W ws):=Rb ((Rh W.heap.size W).drew.trans Xv);have HKS:=Rb ((Kx.refl b7 b8 W).call YC.out);have Xc:=Rb Wr;have Xj:=Rb hFI;have HR3:=Rb hR3;have HR4:=Rb hR4;have TS:=Rb (HA.out.call YC.out);clear Wr hFI hR3 hR4 Xv)|(go_at_call 21;refine(Iz A1 A2 (some ⟨g3,0,none⟩) (some ⟨g4,0,none⟩) c1 c2 mt.length sg.length sg mt p 3 X Y s ov _ (·<ws.heap.size) (by exact TS.out.mo.rs.imp fun b hb=>by have:=TS.out.mo.lt;omega) (by exact TS.out.mo.rm.imp fun b hb=>by have:=TS.out.mo.lt;omega) (by exact HR3.out) (by exact HR4.out) (fun b hb=>by exact hb) HD.out Xc.out (by have:=HR.out;have:=HD.out.2.1;omega) (by have:=HR.out;have:=HD.out.2.1;omega) HR.out.2.2).mono ?_;rintro e w3 ⟨dv,mv,rfl,⟨⟨A5,A6,n5,k5,n6,k6,L5,rfl⟩,ma,mb,mc,md,mo,rfl⟩,Vt,hk⟩;generalize hER:yA sg.length p mt X Y s=er at*;have Y5:=Rb hER;have T3:=Rb (TS.out.call Vt);have WT:=Rb (HKS.out.call Vt);clear Vt hER;have r0:=T3.out.zr.z0;have r1:=T3.out.zr.z1;have r2:=T3.out.zr.z2;have t0:=T3.out.zr.f0;have t1:=T3.out.zr.f1;have t2:=T3.out.zr.f2;have i0:=T3.out.zi.z0;have i1:=T3.out.zi.z1;have i2:=T3.out.zi.z2;have i3:=T3.out.zi.z3;have i4:=T3.out.zi.z4;have j0:=T3.out.zi.f0;have j1:=T3.out.zi.f1;have j2:=T3.out.zi.f2;have j3:=T3.out.zi.f3;have j4:=T3.out.zi.f4))
  have hw7:=TS.out.zr.lt;have hw8:=TS.out.t8;have hwl:=TS.out.mo.lt;have VP:=T3.out.mo.lt;have l7:=T3.out.l7;have l8:=T3.out.l8;have t7:=T3.out.zr.lt;have t8:=T3.out.t8;have d1:¬b7=b8:=T3.out.ne;have d2:¬b8=b7:=fun e=>d1 e.symm
  have e00:¬b7=w.heap.size+2:=oZ;have e01:¬w.heap.size+2=b7:=oZ;have e10:¬b7=w.heap.size+3:=oZ;have e11:¬w.heap.size+3=b7:=oZ;have e20:¬b8=w.heap.size+2:=oZ;have e21:¬w.heap.size+2=b8:=oZ;have e30:¬b8=w.heap.size+3:=oZ;have e31:¬w.heap.size+3=b8:=oZ;have e40:¬b7=w.heap.size+1+1:=oZ;have e41:¬w.heap.size+1+1=b7:=oZ;have e50:¬b7=w.heap.size+1+1+1:=oZ;have e51:¬w.heap.size+1+1+1=b7:=oZ;have e60:¬b8=w.heap.size+1+1:=oZ;have e61:¬w.heap.size+1+1=b8:=oZ;have e70:¬b8=w.heap.size+1+1+1:=oZ;have e71:¬w.heap.size+1+1+1=b8:=oZ;obtain⟨y0,y1,y2,g0,g1,g2,-⟩:=T3.out.mo.zb;obtain⟨z0,z1,z2,z3,z4,q0,q1,q2,q3,q4⟩:=T3.out.mo.zm;by_cases he:er=0;{subst he;have HK:=Rb (hk rfl);clear hk;go_wp2_with fail;go_region;go_wp2_with fail;refine RC (v:= .tuple #[.agg #[.slice A5 n5 k5,.slice A6 n6 k6,.int .i64 L5],.agg #[.int .i64 ma,.int .i64 mb,.int .i64 mc,.int .i64 md,.bool mo],.int .i64 0]) (by simp[results,Tryz.results9,go_sem,y0,y1,y2,z0,z1,z2,z3,z4]) rfl ?_;obtain⟨v1,v2,sg',mt',L',e9,hf,hp⟩:=HK.out;refine⟨0,fun _=>⟨p,Xc.out,Xj.out,Y5.out.symm⟩,_,_,rfl,⟨⟨_,_,_,_,_,_,_,rfl⟩,_,_,_,_,_,rfl⟩,?_,fun _=>⟨v1,v2,sg',mt',L',e9,Dd (w9:=w3) hf oZ ?_,hP Yl.out p Xc.out Xj.out Y5.out sg' mt' L' hp⟩⟩;{refine Td ?_;(iterate 16 refine RM ?_ oJ _);exact T3.out.mo.bel};{intro g hg;rw[mQ];(iterate 16 rw[Rn _ _ _ g oJ])}}
  ·have Yd:(er !=0)=true:=by rw[RZ];exact he
   have HE:=Rb he;clear he hk;go_wp2_with fail;refine RC (v:= .tuple #[.agg #[.slice none 0 0,.slice none 0 0,.int .i64 0],.agg #[.int .i64 0,.int .i64 0,.int .i64 0,.int .i64 0,.bool false],.int .i64 er]) (by simp[results,Tryz.results9,go_sem,y0,y1,y2,z0,z1,z2,z3,z4]) rfl ?_;refine⟨er,fun _=>⟨p,Xc.out,Xj.out,Y5.out.symm⟩,_,_,rfl,⟨⟨_,_,_,_,_,_,_,rfl⟩,_,_,_,_,_,rfl⟩,?_,fun h=>absurd h HE.out⟩;(iterate 16 refine RM ?_ oJ _);exact T3.out.mo.bel
end Go.Proofs.YtdbhigmklejicaaGreat
