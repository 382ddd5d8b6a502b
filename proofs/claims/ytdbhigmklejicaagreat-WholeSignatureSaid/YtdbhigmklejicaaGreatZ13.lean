/- Lemmas, each under its own premises. -/
import Derived.Test.YtdbhigmklejicaaGreatZ12
import Derived.OpenShut
import Derived.Lib.SmallJoins
import Derived.ProofKit
import Derived.SliceStrings
import Derived.Laws.StructEq
namespace Go.Proofs.YtdbhigmklejicaaGreat
set_option maxHeartbeats 16000000
set_option maxRecDepth 100000
open Go.RowKit
theorem FT{w:World}{a:Option Addr}{len cap:Nat}{zs:List Int}
  (h:(a=none/\len=0/\cap=0/\zs=[])\/∃x,a=some x/\len<=cap/\cap<=maxLen/\zs.length=cap/\(∀i,i<zs.length->w.cell? (x.add i)=some (.int .i64 (zs.getD i 0)))/\∀n∈zs,(Lit.int .i64 n).wf=true):
  ∃xs:List Int,xs.length=len/\RI w (·<w.heap.size) a xs/\len<=maxLen/\∀k,-9223372036854775808<=gi xs k/\gi xs k<=9223372036854775807:=by
 rcases h with⟨rfl,rfl,rfl,rfl⟩|⟨x,rfl,hl,hm,hz,hc,hw⟩
 {exact⟨[],rfl,RI.nil,Rv _,fun k=>by simp[gi]⟩}
 ·refine⟨zs.take len,by simp;omega,fun Vh=>?_,oZ,fun k=>?_⟩
  ·have Xg:0<zs.length:=by
    rcases Se zs.length with h0|h0
    {have:zs=[]:=Sh h0;subst this;simp at Vh};{exact h0}
   obtain⟨b,off,rfl,XX⟩:=ints_at hc Xg;refine⟨b,off,rfl,RX _ _ (XX 0 Xg),fun k hk=>?_⟩;have VH:k<len:=by simp at hk;omega
   rw[XX k oZ];simp[gi,VH]
  ·by_cases hk:k<(zs.take len).length
   {rw[fP hk];have Vm:(zs.take len)[k]∈zs:=List.mem_of_mem_take (R7 hk);have h:=hw _ Vm;have Zr:IntKind.i64.min= -9223372036854775808:=rfl;have hmax:IntKind.i64.max=9223372036854775807:=rfl;simp only[Lit.wf,RA,RE]at h;omega}
   ·have:gi (zs.take len) k=0:=by
     unfold gi;rw[Rw,List.getElem?_eq_none oZ];rfl
    omega
theorem Jk{o:Oper}{a:Act}{K:Act->World->Prop}{Q:Exit->Act->World->Prop}{w:World}{B c:Nat}{v:Value}{xs ys:List Int}{s x:Operand}{t:TypeId}{S:Nat->Prop}{A:Option Addr}
  (Vq:OI w B v xs)(hr:RI w S A ys)(hl:xs.length+ys.length<1099511627776)(hB:B<=w.heap.size)
  (ho:o.op= .call {callee:= .builtin .append,args:=#[s,x],argTypes:=#[t,t]})
  (ht:Tryz.prog.underlying t=some (.slice 3))(hs:a.eval s=v)(hx:a.eval x= .slice A ys.length c)
  (h:∀v' w',OI w' B v' (xs++ys)->w.grownBy w' v.ownBlock->(v'.ownBlock=v.ownBlock\/v'.ownBlock=some w.heap.size)->K (a.put o.dst v') w'):
  o.wp Tryz.prog a w K Q:=by
 obtain⟨i0,hi,V6,VU,VN⟩:=S7 fU;have VG:∃v' w',(Builtin.append_ #[t,t] o.type #[v,.slice A ys.length c]).run Tryz.prog w= .ok v' w'/\OI w' B v' (xs++ys)/\w.grownBy w' v.ownBlock/\(v'.ownBlock=v.ownBlock\/v'.ownBlock=some w.heap.size):=by
  rcases A with _|ad
  ·have hy:ys=[]:=by
    rcases ys with _|⟨y,ys⟩
    {rfl};{obtain⟨b,off,he,_⟩:=hr oX;cases he}
   subst hy;exact⟨v,w,pX ht Vq c,by simpa using Vq,UR w _,.inl rfl⟩
  ·have Zq:∀j u,(ys.map (Value.int .i64))[j]?=some u->w.cell? (ad.add j)=some u:=by
    intro j u hu;have hj:j<ys.length:=by have:=(Tf.1 hu).1;simpa using this
    obtain⟨b,off,he,_,hc⟩:=hr.at_ hj;injection he with he
    subst he;have:=hc j hj;rw[xu hj]at hu;injection hu with hu
    subst hu;unfold Addr.add;split;{rename_i h0;subst h0;simpa using this};{exact this}
   obtain⟨v',w',VG,h2,h3,_,h5⟩:=Tp (P:=Tryz.prog) w B t o.type 3 i0 (.int .i64 0) 1 8 ht hi V6 VU VN rfl oQ v xs.length _ Vq
    ad ys.length c (ys.map (Value.int .i64)) oX Zq (ints_oneCell _ _) (by unfold maxLen;omega) oZ hB
   refine⟨v',w',VG,?_,h3,h5⟩;show OR _ _ _ _ _ _;unfold OR;simpa using h2
 obtain⟨v',w',VG,h2,h3,h5⟩:=VG;unfold Oper.wp execOp;simp only[ho,resolve,invoke,builtin,TI,TJ,SV,S_,Tk,Tw,hs,hx,VG];exact h v' w' h2 h3 h5
theorem Ee{ops:Array Oper}{o:Oper}{a:Act}{K:Act->World->Prop}{Q:Exit->Act->World->Prop}{E:Prop}{w:World}{B c:Nat}{v:Value}{xs ys:List Int}{s x:Operand}{t:TypeId}{S:Nat->Prop}{A:Option Addr}
  (Vq:OI w B v xs)(hr:RI w S A ys)(hl:xs.length+ys.length<1099511627776)(hB:B<=w.heap.size)(XO:o.guard=none)
  (ho:o.op= .call {callee:= .builtin .append,args:=#[s,x],argTypes:=#[t,t]})
  (ht:Tryz.prog.underlying t=some (.slice 3))(hs:a.eval s=v)(hx:a.eval x= .slice A ys.length c)
  (h:∀v' w',OI w' B v' (xs++ys)->w.grownBy w' v.ownBlock->(v'.ownBlock=v.ownBlock\/v'.ownBlock=some w.heap.size)->K (a.put o.dst v') w'):
  if Region.wanted o (yielded ops a.tmps)=true then Oper.wp Tryz.prog o a w K Q else E:=by
 have hw:Region.wanted o (yielded ops a.tmps)=true:=by simp[Region.wanted,XO]
 rw[Re hw];exact Jk Vq hr hl hB ho ht hs hx h
def JF(xss:List (List Int)):Prop:=(∀i,i<xss.length->bP xss i=xss.length)/\∀i,i<xss.length->∀j,j<i->eI xss i j=eI xss j i
instance(xss:List (List Int)):Decidable (JF xss):=by unfold JF;infer_instance
theorem pZ.cell{w:World}{S:Nat->Prop}{A:Option Addr}{xss:List (List Int)}(h:pZ w S A xss){i:Nat}(hi:i<xss.length):
  ∃b off,A=some ⟨b,off,none⟩/\(∀k,k<xss.length->∃Ak ck,w.cell? ⟨b,off+k,none⟩=some (.slice Ak (bP xss k) ck)/\(0<bP xss k->∃c o,Ak=some ⟨c,o,none⟩/\∀j,j<bP xss k->w.cell? ⟨c,o+j,none⟩=some (.int .i64 (eI xss k j)))):=by
 obtain⟨b,off,e,-,hc⟩:=h.at_ hi;refine⟨b,off,e,fun k hk=>?_⟩;obtain⟨Ak,ck,h1,h2,-⟩:=hc k hk;refine⟨Ak,ck,h1,fun h0=>?_⟩;obtain⟨c,o,e2,-,h3⟩:=h2.at_ (k:=0) h0;exact⟨c,o,e2,h3⟩
theorem gP(A:Option Addr)(cap:Nat)(xss:List (List Int))(n:Nat)(w:World)(hm:AM w A n xss):
  Calls Tryz.prog 94 #[.slice A n cap] w fun e w'=>e= .returned (.bool (decide (JF xss)))/\∃k,w'=w.drewN k:=by
 have Y0:=hm.nl;unfold maxLen at Y0;have HX:=Rb hm.rd;have HN:=Rb hm.ln;clear hm;go_enter Tryz.func94,Tryz.ntmps94
 go_wp2_with fail;go_loopw[9] (fun i' wr=>∃k:Nat,k<=n/\i'= .int .i64 k/\w=wr/\Hid (∀i,i<k->bP xss i=n)) (fun i _=>n-(intOf i).toNat)
 case atStart=>exact⟨0,Rv _,rfl,rfl,fun i hi=>by omega⟩
 case round=>
  obtain⟨k,hk,rfl,rfl,HA⟩:=hrel;by_cases Vg:k<n
  ·obtain⟨b,off,rfl,hc⟩:=HX.out.cell (i:=k) (by rw[HN.out];exact Vg)
   obtain⟨Ak,ck,c2,-⟩:=hc k (by rw[HN.out];exact Vg);clear hc;by_cases he:bP xss k=n
   ·have WB:((bP xss k:Int)!=(n:Int))=false:=by rw[RK];omega
    have ZW:Hid (∀i,i<k+1->bP xss i=n):=by intro i hi;by_cases e:i=k;{rw[e];exact he};{exact HA.out i oZ}
    clear he HA;go_wp2_with fail;go_roundw
    case rel=>exact⟨k+1,oZ,by go_num,by trivial,ZW⟩
    case measure=>simp[intOf];omega
   ·have WB:((bP xss k:Int)!=(n:Int))=true:=by rw[RZ];omega
    have HD:=Rb (Rl (show¬JF xss from fun h=>he (by have:=h.1 k (by rw[HN.out];exact Vg);rw[HN.out]at this;exact this)));go_wp2_with fail;go_ret;exact⟨aF HD.out.symm,0,rfl⟩
  ·have WW:Hid (∀i,i<n->bP xss i=n):=fun i hi=>HA.out i oZ
   clear HA;have Zl:¬k<n:=Vg;go_wp2_with fail;go_loopw[21] (fun i' wr=>∃i:Nat,i<=n/\i'= .int .i64 i/\Hid (∃z,wr=w.drewN z)/\Hid (∀x,x<i->∀y,y<x->eI xss x y=eI xss y x)) (fun i _=>n-(intOf i).toNat)
   case atStart=>exact⟨0,Rv _,rfl,Rb ⟨0,rfl⟩,fun x hx=>by omega⟩
   case round=>
    obtain⟨i,Vn,rfl,HW,HE⟩:=hrel;by_cases Vg:i<n
    ·go_wp2_with fail
     go_loopw[25] (fun j' wr=>∃j:Nat,j<=i/\j'= .int .i64 j/\Hid (∃z,wr=w.drewN z)/\Hid (∀y,y<j->eI xss i y=eI xss y i)) (fun j _=>i-(intOf j).toNat)
     case atStart=>exact⟨0,Rv _,rfl,HW,fun x hx=>by omega⟩
     case round=>
      clear HW;obtain⟨j,Y1,rfl,HW,HY⟩:=hrel;by_cases WH:j<i
      ·have hx:pZ wr (·<w.heap.size) A xss:=by
        obtain⟨z,hz⟩:=HW.out;rw[hz];exact HX.out.drewN z
       obtain⟨b,off,rfl,hc⟩:=hx.cell (i:=i) (by rw[HN.out];exact Vg);obtain⟨A1,c1,d1,e1⟩:=hc i (by rw[HN.out];exact Vg);obtain⟨A2,c2,d2,e2⟩:=hc j (by rw[HN.out];omega);rw[WW.out i Vg]at d1 e1;rw[WW.out j oZ]at d2 e2;obtain⟨g1,o1,rfl,f1⟩:=e1 oZ;obtain⟨g2,o2,rfl,f2⟩:=e2 oZ;have k1:=f1 j oZ;have k2:=f2 i oZ;clear hx hc e1 e2 f1 f2;obtain⟨v1,Yx⟩:∃v,eI xss i j=v:=⟨_,rfl⟩
       obtain⟨v2,WA⟩:∃v,eI xss j i=v:=⟨_,rfl⟩
       rw[Yx]at k1;rw[WA]at k2;by_cases he:v1=v2
       ·have WB:(v1 !=v2)=false:=by rw[RK];exact he
        have HN':Hid (∀y,y<j+1->eI xss i y=eI xss y i):=Rb fun y hy=>by by_cases e:y=j;{rw[e,Yx,WA];exact he};{exact HY.out y oZ}
        clear he Yx WA;go_wp2_with fail
        go_quiet(fail)
        go_wp2_with fail;go_roundw
        case rel=>obtain⟨z,hz⟩:=HW.out;exact⟨j+1,oZ,by go_num,Rb ⟨_,by rw[hz,TN]⟩,HN'⟩
        case measure=>simp[intOf];omega
       ·have WB:(v1 !=v2)=true:=by rw[RZ];exact he
        have HD:=Rb (Rl (show¬JF xss from fun h=>he (by have:=h.2 i (by rw[HN.out];exact Vg) j WH;rw[Yx,WA]at this;exact this)));clear he Yx WA;go_wp2_with fail
        go_quiet(fail)
        go_wp2_with fail;go_ret;obtain⟨z,hz⟩:=HW.out;exact⟨aF HD.out.symm,_,by rw[hz,TN]⟩
      ·obtain rfl:j=i:=oZ
       have HN':Hid (∀x,x<j+1->∀y,y<x->eI xss x y=eI xss y x):=Rb fun x hx y hy=>by by_cases e:x=j;{subst e;exact HY.out y hy};{exact HE.out x oZ y hy}
       go_wp2_with fail;go_roundw
       case rel=>exact⟨j+1,oZ,by go_num,HW,HN'⟩
       case measure=>simp[intOf];omega
    {obtain rfl:i=n:=oZ;have HD:=Rb (Rj (show JF xss from⟨fun x hx=>by rw[HN.out]at hx⊢;exact WW.out x hx,fun x hx y hy=>HE.out x (by rw[HN.out]at hx;exact hx) y hy⟩));go_wp2_with fail;go_ret;exact⟨aF HD.out.symm,HW.out⟩}
structure PS(n:Nat)(A:Mx)(D:Nat->Nat)(k:Nat)(b:Int)(a:Mx)(dn:Nat->Bool)(p q:Nat):Prop where
 bst:h_ n A D k b p q
 dd:∀i,i<n->(dn i=true↔Dn D k i)
 en:∀i j,i<n->j<n->dn i=false->dn j=false->a i j=bm A D k i j
variable{n:Nat}{A:Mx}{D:Nat->Nat}{k:Nat}{b:Int}{a:Mx}{dn:Nat->Bool}{p q:Nat}
theorem PS.start(n:Nat)(A:Mx):PS n A (fun _=>0) 0 1 A (fun _=>false) 0 0:=
 ⟨h_.start n A _,fun i _=>⟨fun h=>(by cases h),fun⟨_,h,_⟩=>absurd h (RG _)⟩,fun i j _ _ _ _=>by
  unfold bm mn;rw[dr];show A i j=0+jS 0*A i j*bS 0 _;rw[show jS 0=1 from rfl];show A i j=0+1*A i j*1;omega⟩
theorem PS.not(h:PS n A D k b a dn p q){i:Nat}(hi:i<n)(hd:dn i=false):¬Dn D k i:=fun e=>by
 rw[(h.dd i hi).2 e]at hd
 cases hd
theorem vr{i x:Nat}(h:mB i dn x=false):x≠i/\dn x=false:=by unfold mB at h;by_cases e:x=i;{rw[Re e]at h;cases h};{rw[Rc e]at h;exact⟨e,h⟩}
theorem Ms{i x:Nat}(h1:x≠i)(h2:dn x=false):mB i dn x=false:=by unfold mB;rw[Rc h1];exact h2
theorem AN{i:Nat}(h:∀x,x<n->(dn x=true↔Dn D k x)):∀x,x<n->(mB i dn x=true↔Dn (cn i D) (k+1) x):=fun x hx=>by rw[Dn.cn,<-h x hx];unfold mB;by_cases e:x=i;{rw[Re e];simp[e]};{rw[Rc e];simp[e]}
theorem PS.one(h:PS n A D k b a dn p q)(hA:Sym n A)(hb:gS n n A<=1125899906842624){i:Nat}(hi:i<n)(hd:dn i=false)(h0:a i i≠0):
  (∀x y,x<n->y<n->mB i dn x=false->mB i dn y=false->QD a b (bm A (cn i D) (k+1)) i x y)/\(a i i).natAbs<=9007199254740992/\b.natAbs<=9007199254740992/\
   PS n A (cn i D) (k+1) (a i i) (Dx (mB i dn) (bm A (cn i D) (k+1)) a) (mB i dn) (p+if(0<a i i↔0<b)then 1 else 0) (q+if(0<a i i↔0<b)then 0 else 1):=by
 have hii:=h.en i i hi hi hd hd;have b1:=h.bst.bd hi hi;have b2:=h.bst.Qz;rw[hii]at h0⊢;refine⟨fun x y hx hy ex ey=>?_,oZ,oZ,h.bst.one hA hi (h.not hi hd) h0,AN h.dd,fun x y hx hy ex ey=>by unfold Dx;rw[Re ⟨ex,ey⟩]⟩;obtain⟨-,dx⟩:=vr ex;obtain⟨-,dy⟩:=vr ey;have e1:=h.en x y hx hy dx dy;have e2:=h.en x i hx hi dx hd;have e3:=h.en i y hi hy hd dy;have c1:=h.bst.bd hx hy;have c2:=h.bst.bd hx hi;have c3:=h.bst.bd hi hy;have c4:(bm A (cn i D) (k+1) x y).natAbs<=gS n n A:=h.bst.Oo hx hi hy hi;refine⟨by rw[e1];omega,by rw[e2];omega,by rw[e3];omega,?_,oZ⟩;rw[hii,e1,e2,e3];have:=h.bst.dj x i y i;rw[RW (bm A (cn i D) (k+1) x y)];exact this.symm
theorem yn{x:Int}(h:x.natAbs<=4611686018427387904):IntKind.i64.wrap x=x:=by rw[Sg];omega
structure Q8(n:Nat)(a a1:Mx)(dn:Nat->Bool)(x y:Nat):Prop where
 o:∀i j,i<n->j<n->dn i=false->dn j=false->i≠x->j≠x->a1 i j=a i j
 r:∀j,j<n->dn j=false->j≠x->a1 x j=a x j+a y j
 c:∀i,i<n->dn i=false->i≠x->a1 i x=a i x+a i y
 d:a1 x x=(a x x+a y x)+(a x y+a y y)
theorem PS.ad(h:PS n A D k b a dn p q)(hb:gS n n A<=1125899906842624){x y:Nat}(hx:x<n)(hy:y<n)(dx:dn x=false)(dy:dn y=false):Q8 n a (AJ x y n (zn x y n a)) dn x y:=by
 have YN:∀i j,i<n->j<n->dn i=false->dn j=false->(a i j).natAbs<=1125899906842624:=fun i j hi hj di dj=>by rw[h.en i j hi hj di dj];exact RQ (h.bst.bd hi hj) hb
 have r1:∀j,j<n->dn j=false->zn x y n a x j=a x j+a y j:=fun j hj dj=>by unfold zn;rw[Re ⟨rfl,hj⟩];have:=YN x j hx hj dx dj;have:=YN y j hy hj dy dj;exact yn oZ
 have o1:∀i j,i≠x->zn x y n a i j=a i j:=fun i j hi=>by unfold zn;rw[Rc fun h=>hi h.1]
 refine⟨fun i j hi hj di dj ix jx=>?_,fun j hj dj jx=>?_,fun i hi di ix=>?_,?_⟩;{unfold AJ;rw[Rc fun h=>jx h.1,o1 i j ix]};{unfold AJ;rw[Rc fun h=>jx h.1,r1 j hj dj]};{unfold AJ;rw[Re ⟨rfl,hi⟩,o1 i x ix,o1 i y ix];have:=YN i x hi hx di dx;have:=YN i y hi hy di dy;exact yn oZ};{unfold AJ;rw[Re ⟨rfl,hx⟩,r1 x hx dx,r1 y hy dy];have:=YN x x hx hx dx dx;have:=YN x y hx hy dx dy;have:=YN y x hy hx dy dx;have:=YN y y hy hy dy dy;exact yn oZ}
theorem PS.two(h:PS n A D k b a dn p q)(hA:Sym n A)(hb:gS n n A<=1125899906842624){x y:Nat}(hx:x<n)(hy:y<n)(dx:dn x=false)(dy:dn y=false)(h1:a x x=0)(h2:a y y=0)(h0:a x y≠0):
  ∃(c t:Int)(a1 a2 a3 r1 r2:Mx),a1=AJ x y n (zn x y n a)/\a1 x x=c/\c≠0/\b.natAbs<=9007199254740992/\c.natAbs<=9007199254740992/\t.natAbs<=9007199254740992/\
   (∀i j,i<n->j<n->mB x dn i=false->mB x dn j=false->QD a1 b r1 x i j)/\a2=Dx (mB x dn) r1 a1/\a2 y y=t/\
   (∀i j,i<n->j<n->mB y (mB x dn) i=false->mB y (mB x dn) j=false->QD a2 c r2 y i j)/\a3=Dx (mB y (mB x dn)) r2 a2/\
   PS n A (cn y (cn x D)) (k+2) t a3 (mB y (mB x dn)) (p+1) (q+1)/\
   (p+(if(0<c↔0<b)then 1 else 0))+(if(0<t↔0<c)then 1 else 0)=p+1/\(q+(if(0<c↔0<b)then 0 else 1))+(if(0<t↔0<c)then 0 else 1)=q+1:=by
 have Vh:x≠y:=fun e=>h0 (by rw[<-e];exact h1)
 have had:=h.ad hb hx hy dx dy;have exx:=h.en x x hx hx dx dx;have eyy:=h.en y y hy hy dy dy;have exy:=h.en x y hx hy dx dy;have eyx:=h.en y x hy hx dy dx;rw[h1]at exx;rw[h2]at eyy;rw[exy]at h0;rw[h.bst.sym hA hy hx]at eyx;obtain⟨hB,htb⟩:=h.bst.two hA hx hy (h.not hx dx) (h.not hy dy) exx.symm eyy.symm h0;have hD:(AJ x y n (zn x y n a)) x x=2*bm A D k x y:=by rw[had.d,h1,h2,exy,eyx];omega
 generalize hG:AJ x y n (zn x y n a)=a1 at had hD;have dyx:mB x dn y=false:=Ms (TM Vh) dy;have bxy:=h.bst.bd hx hy;have btt:=h.bst.Ot hx hy hy hy;have bbb:=h.bst.Qz;have ZB:∀i,i<n->dn i=false->a i x+a i y=bm A D k i x+bm A D k i y:=fun i hi di=>by rw[h.en i x hi hx di dx,h.en i y hi hy di dy]
 have Xs:∀j,j<n->dn j=false->a x j+a y j=bm A D k x j+bm A D k y j:=fun j hj dj=>by rw[h.en x j hx hj dx dj,h.en y j hy hj dy dj]
 refine⟨2*bm A D k x y,tw A D k x y y y,a1,_,_,tw A D k x y,bm A (cn y (cn x D)) (k+2),rfl,hD,oZ,oZ,oZ,oZ,fun i j hi hj di dj=>?_,rfl,?_,fun i j hi hj di dj=>?_,rfl,⟨hB,AN (AN h.dd),fun i j hi hj di dj=>?_⟩,?_,?_⟩;{obtain⟨ix,di⟩:=vr di;obtain⟨jx,dj⟩:=vr dj;have c1:=h.bst.bd hi hj;have c2:=h.bst.bd hi hx;have c3:=h.bst.bd hi hy;have c4:=h.bst.bd hx hj;have c5:=h.bst.bd hy hj;have c6:=h.bst.Ot hx hy hi hj;refine⟨by rw[had.o i j hi hj di dj ix jx,h.en i j hi hj di dj];omega,by rw[had.c i hi di ix,ZB i hi di];omega,by rw[had.r j hj dj jx,Xs j hj dj];omega,?_,oZ⟩;rw[hD,had.o i j hi hj di dj ix jx,had.c i hi di ix,had.r j hj dj jx,h.en i j hi hj di dj,ZB i hi di,Xs j hj dj,RW (tw A D k x y i j)];exact(h.bst.NF hA hx hy exx.symm eyy.symm i j).symm};{unfold Dx;rw[Re ⟨dyx,dyx⟩]}
 {obtain⟨iy,di⟩:=vr di;obtain⟨jy,dj⟩:=vr dj;have c1:=h.bst.Ot hx hy hi hj;have c2:=h.bst.Ot hx hy hi hy;have c3:=h.bst.Ot hx hy hy hj;have c4:(bm A (cn y (cn x D)) (k+2) i j).natAbs<=gS n n A:=hB.bd hi hj;have l1:Dx (mB x dn) (tw A D k x y) a1 i j=tw A D k x y i j:=Re ⟨di,dj⟩;have l2:Dx (mB x dn) (tw A D k x y) a1 i y=tw A D k x y i y:=Re ⟨di,dyx⟩;have l3:Dx (mB x dn) (tw A D k x y) a1 y j=tw A D k x y y j:=Re ⟨dyx,dj⟩;have l4:Dx (mB x dn) (tw A D k x y) a1 y y=tw A D k x y y y:=Re ⟨dyx,dyx⟩;refine⟨by rw[l1];omega,by rw[l2];omega,by rw[l3];omega,?_,oZ⟩;rw[l1,l2,l3,l4,RW (bm A (cn y (cn x D)) (k+2) i j)];exact(h.bst.Q_ hA hx hy exx.symm eyy.symm h0 i j).symm};{unfold Dx;rw[Re ⟨di,dj⟩]}
 all_goals
  have Wm:b*tw A D k x y y y<0:=by
   rw[htb];have:=rh (bm A D k x y);have hz:bm A D k x y*bm A D k x y≠0:=fun e=>(Su.1 e).elim h0 h0
   omega
  have Wn:=h.bst.b0;have ht0:tw A D k x y y y≠0:=fun e=>by rw[e,RF]at Wm;omega
  have hpm:=xo Wn ht0;by_cases e1:(0<2*bm A D k x y↔0<b)<;>by_cases e2:(0<tw A D k x y y y↔0<2*bm A D k x y);{exfalso;omega};{rw[Re e1,Rc e2]};{rw[Rc e1,Re e2]};{exfalso;omega}
section
variable{w:World}{A:Option Addr}{n cap:Nat}{xss:List (List Int)}
theorem AM.head(h:AM w A n xss){k:Nat}(hk:k<n):∃b off Ak ck,A=some ⟨b,off,none⟩/\w.cell? ⟨b,off+k,none⟩=some (.slice Ak (bP xss k) ck)/\RI w (·<w.heap.size) Ak (xss.getD k []):=by obtain⟨b,off,e,-,hc⟩:=h.rd.at_ (k:=k) (by rw[h.ln];exact hk);obtain⟨Ak,ck,c1,hr,-⟩:=hc k (by rw[h.ln];exact hk);exact⟨b,off,Ak,ck,e,c1,hr⟩
end
open Go.ChangeShapes Go.WideShapes Go.Joins

structure MI(w:World)(B:Nat)(bA n c:Nat)(bs:Nat->Nat)(a:Nat->Nat->Int):Prop where
 hd:∀i,i<n->w.cell? ⟨bA,i,none⟩=some (.slice (some ⟨bs i,0,none⟩) c c)
 ad:∀i,i<n->B<=bs i/\bs i<w.heap.size/\bs i≠bA
 ij:∀i k,i<n->k<n->bs i=bs k->i=k
 en:∀i j,i<n->j<c->w.cell? ⟨bs i,j,none⟩=some (.int .i64 (a i j))
 fr:∀i j,i<n->j<c->w.frozen? ⟨bs i,j,none⟩=false
section
variable{w w':World}{B bA n c:Nat}{bs:Nat->Nat}{a:Nat->Nat->Int}
theorem MI.ak(h:MI w B bA n c bs a)(hA:B<=bA)(hs:w.heap.size<=w'.heap.size)(hAl:bA<w.heap.size)(hk:∀b,B<=b->b<w.heap.size->w'.heap[b]?=w.heap[b]?):MI w' B bA n c bs a:=
  ⟨fun i hi=>(Ri (a:=⟨bA,i,none⟩) (hk _ hA hAl)).trans (h.hd i hi),
   fun i hi=>by obtain⟨h1,h2,h3⟩:=h.ad i hi;exact⟨h1,oZ,h3⟩,h.ij,
   fun i j hi hj=>by obtain⟨h1,h2,h3⟩:=h.ad i hi;exact(Ri (a:=⟨bs i,j,none⟩) (hk _ h1 h2)).trans (h.en i j hi hj),
   fun i j hi hj=>by obtain⟨h1,h2,h3⟩:=h.ad i hi;exact(Ro (a:=⟨bs i,j,none⟩) (hk _ h1 h2)).trans (h.fr i j hi hj)⟩
theorem MI.congr{b:Nat->Nat->Int}(h:MI w B bA n c bs a)(he:∀i j,i<n->j<c->a i j=b i j):MI w B bA n c bs b:=
 ⟨h.hd,h.ad,h.ij,fun i j hi hj=>by rw[<-he i j hi hj];exact h.en i j hi hj,h.fr⟩
theorem MI.zero(w:World)(B bA c:Nat):MI w B bA 0 c (fun _=>0) (fun _ _=>0):=
 ⟨fun i hi=>by omega,fun i hi=>by omega,fun i k hi=>by omega,fun i j hi=>by omega,fun i j hi=>by omega⟩
theorem MI.store(h:MI w B bA n c bs a){i j:Nat}(hi:i<n)(hj:j<c)(v:Int):
  MI (w.setCell ⟨bs i,j,none⟩ (.int .i64 v)) B bA n c bs (fun x y=>if x=i/\y=j then v else a x y):=by
 obtain⟨h1,h2,h3⟩:=h.ad i hi;refine⟨fun x hx=>?_,fun x hx=>?_,h.ij,fun x y hx hy=>?_,fun x y hx hy=>?_⟩;{rw[aW (by intro e;injection e with e;exact h3 e)];exact h.hd x hx};{rw[RS];exact h.ad x hx}
 ·by_cases e:x=i/\y=j
  {obtain⟨rfl,rfl⟩:=e;rw[Re ⟨rfl,rfl⟩];exact bV (h.en x y hi hj)}
  ·rw[Rc e,aW]
   {exact h.en x y hx hy}
   ·intro e2
    injection e2 with e3 e4
    exact e ⟨h.ij x i hx hi e3.symm,e4.symm⟩
 {rw[Rp];exact h.fr x y hx hy}
theorem MI.push(h:MI w B bA n c bs a)(hB:B<=w.heap.size)(hA:bA<w.heap.size){v:Value}(hc:w.cell? ⟨bA,n,none⟩=some v):
  MI ((w.alloc (.cells (List.replicate c (Value.int .i64 0)).toArray 3)).setCell ⟨bA,n,none⟩ (.slice (some ⟨w.heap.size,0,none⟩) c c)) B bA (n+1) c (up bs n w.heap.size) (up a n fun _=>0):=by
 have Vh:w.heap.size≠bA:=oZ;have old:∀b,b<w.heap.size->∀j,(w.alloc (.cells (List.replicate c (Value.int .i64 0)).toArray 3)).cell? ⟨b,j,none⟩=w.cell? ⟨b,j,none⟩:=fun b hb j=>Ri (a:=⟨b,j,none⟩) (Rx w _ b hb)
 refine⟨fun x hx=>?_,fun x hx=>?_,fun x y hx hy e=>?_,fun x y hx hy=>?_,fun x y hx hy=>?_⟩;{unfold up;by_cases e:x=n;{subst e;rw[Re rfl];exact bV ((old bA hA x).trans hc)};{rw[Rc e,aW (by intro e2;injection e2 with _ e2;exact e e2.symm),old bA hA x];exact h.hd x oZ}};{rw[RS];unfold up;split;{exact⟨hB,oX,Vh⟩};{obtain⟨h1,h2,h3⟩:=h.ad x oZ;exact⟨h1,by simp;omega,h3⟩}};{unfold up at e;split at e<;>split at e;{omega};{obtain⟨h1,h2,h3⟩:=h.ad y oZ;omega};{obtain⟨h1,h2,h3⟩:=h.ad x oZ;omega};{exact h.ij x y oZ oZ e}};{unfold up;by_cases e:x=n;{rw[Re e,Re e,aW (by intro e2;injection e2 with e2;exact Vh e2.symm)];exact(cN hy).1};{obtain⟨h1,h2,h3⟩:=h.ad x oZ;rw[Rc e,Rc e,aW (by intro e2;injection e2 with e2;exact h3 e2.symm),old _ h2];exact h.en x y oZ hy}};{rw[Rp];unfold up;by_cases e:x=n;{rw[Re e];exact(cN hy).2};{obtain⟨h1,h2,h3⟩:=h.ad x oZ;rw[Rc e];exact(Ro (a:=⟨bs x,y,none⟩) (Rx w _ _ h2)).trans (h.fr x y oZ hy)}}
end
def zL(n c:Nat)(a:Nat->Nat->Int):List (List Int):=(List.range n).map fun i=>(List.range c).map fun j=>a i j
theorem dQ(n c:Nat)(a:Nat->Nat->Int):(zL n c a).length=n:=by simp[zL]
theorem rG{n c i:Nat}{a:Nat->Nat->Int}(hi:i<n):(zL n c a).getD i []=(List.range c).map fun j=>a i j:=by simp[zL,hi]
theorem gX{n c i:Nat}{a:Nat->Nat->Int}(hi:i<n):bP (zL n c a) i=c:=by unfold bP;rw[rG hi];simp
theorem iJ{n c i j:Nat}{a:Nat->Nat->Int}(hi:i<n)(hj:j<c):eI (zL n c a) i j=a i j:=by unfold eI;rw[rG hi,fP (by simpa using hj)];simp
theorem J7{n c:Nat}{a:Nat->Nat->Int}(hn:n<=64)(hc:c<=64):AH (zL n c a):=by
 refine⟨fun i hi=>?_,by rw[dQ];exact hn,?_⟩;{rw[dQ]at hi;rw[gX hi,gX oZ]}
 ·rcases Se n with h|h
  {rw[zl (by rw[dQ];exact h)];omega};{rw[gX h];exact hc}
theorem MI.am{w:World}{B bA n c:Nat}{bs:Nat->Nat}{a:Nat->Nat->Int}(h:MI w B bA n c bs a)(hA:bA<w.heap.size)(hn:n<=maxLen)(hc:c<=maxLen)(hb:∀i j,i<n->j<c->-9223372036854775808<=a i j/\a i j<=9223372036854775807):
  AM w (some ⟨bA,0,none⟩) n (zL n c a):=by
 refine⟨fun _=>⟨bA,0,rfl,hA,fun k hk=>?_⟩,dQ _ _ _,hn,fun i j hi hj=>?_⟩
 ·rw[dQ]at hk
  rw[rG hk];refine⟨some ⟨bs k,0,none⟩,c,by rw[Sr];simpa using h.hd k hk,fun _=>⟨bs k,0,rfl,(h.ad k hk).2.1,fun j hj=>?_⟩,by simpa using hc⟩;have YP:j<c:=by simpa using hj
  rw[Sr,h.en k j hk YP,fP hj];simp
 {rw[gX hi]at hj;rw[iJ hi hj];exact hb i j hi hj}
theorem AM.FL(w:World):AM w none 0 []:=⟨pZ.nil _ _ _,rfl,Rv _,fun _ _ hi=>absurd hi (RG _)⟩
structure AK(w w1 wr:World)(xa xb:List (List Int))(n d i:Nat)(bs:Nat->Nat)(a:Nat->Nat->Int):Prop where
 mi:MI wr w.heap.size w1.heap.size i d bs a
 bel:Below w.heap.size w wr
 lt:w1.heap.size<wr.heap.size
 le:w.heap.size<=w1.heap.size
 hd:∀j,j<n->(∃v,wr.cell? ⟨w1.heap.size,j,none⟩=some v)/\wr.frozen? ⟨w1.heap.size,j,none⟩=false
section
variable{w w1 wr:World}{xa xb:List (List Int)}{n d i:Nat}{bs:Nat->Nat}{a:Nat->Nat->Int}
theorem AK.start(hb:Below w.heap.size w w1):AK w w1 (w1.alloc (.cells (List.replicate n (Value.slice none 0 0)).toArray 22)) xa xb n d 0 (fun _=>0) (fun _ _=>0):=
 ⟨MI.zero _ _ _ _,hb.alloc hb.size _,oX,hb.size,fun j hj=>⟨⟨_,(cN hj).1⟩,(cN hj).2⟩⟩
theorem AK.push(h:AK w w1 wr xa xb n d i bs a)(hi:i<n):
  AK w w1 ((wr.alloc (.cells (List.replicate d (Value.int .i64 0)).toArray 3)).setCell ⟨w1.heap.size,i,none⟩ (.slice (some ⟨wr.heap.size,0,none⟩) d d)) xa xb n d (i+1) (up bs i wr.heap.size) (up a i fun _=>0):=by
 obtain⟨⟨v,hv⟩,hf⟩:=h.hd i hi;refine⟨h.mi.push h.bel.size h.lt hv,(h.bel.alloc h.bel.size _).setCell h.le _,by simp;have:=h.lt;omega,h.le,fun j hj=>?_⟩;obtain⟨⟨v2,WA⟩,hf2⟩:=h.hd j hj;have e1:(wr.alloc (.cells (List.replicate d (Value.int .i64 0)).toArray 3)).cell? ⟨w1.heap.size,j,none⟩=some v2:=(Ri (a:=⟨w1.heap.size,j,none⟩) (Rx wr _ _ h.lt)).trans WA;refine⟨?_,by rw[Rp];exact(Ro (a:=⟨w1.heap.size,j,none⟩) (Rx wr _ _ h.lt)).trans hf2⟩;by_cases e:j=i;{subst e;exact⟨_,bV e1⟩};{exact⟨v2,(aW (by intro e2;injection e2 with _ e2;exact e e2.symm)).trans e1⟩}
theorem AK.store(h:AK w w1 wr xa xb n d i bs a){x y:Nat}(hx:x<i)(hy:y<d)(v:Int):AK w w1 (wr.setCell ⟨bs x,y,none⟩ (.int .i64 v)) xa xb n d i bs (fun p q=>if p=x/\q=y then v else a p q):=by obtain⟨h1,h2,h3⟩:=h.mi.ad x hx;refine⟨h.mi.store hx hy v,h.bel.setCell h1 _,by rw[RS];exact h.lt,h.le,fun j hj=>?_⟩;obtain⟨⟨v2,WA⟩,hf2⟩:=h.hd j hj;exact⟨⟨v2,(aW (by intro e;injection e with e;exact h3 e)).trans WA⟩,by rw[Rp];exact hf2⟩
end
theorem k_(n:Nat)(hn:n<=1099511627776)(w:World):
  (Instr.makeSlice 39 (.int .i64 (n:Int)) (.int .i64 (n:Int))).run Tryz.prog w= .ok (.slice (some ⟨w.heap.size,0,none⟩) n n) (w.alloc (.cells (List.replicate n (Value.slice none 0 0)).toArray 22)):=by
 obtain⟨i0,hi,V6,VU,VN⟩:=S7 (show(Tryz.prog.info? 22).map (fun i=>(i.zero,i.size,i.bytes))=some (some (.slice none 0 0),1,24) by kernel_rfl);have h:=run_make (P:=Tryz.prog) w 39 22 i0 (.slice none 0 0) Tryz.underlying39 hi V6 .i64 .i64 n n oZ (TK _) (by rw[VN];omega) oZ;simp only[Si]at h;rw[h,VU];have e:madeCells (Value.slice none 0 0).cells (n*1)=(List.replicate n (Value.slice none 0 0)).toArray:=by apply TT.1;rw[Ta,show(Value.slice none 0 0).cells=#[Value.slice none 0 0]from rfl,Tn]
 rw[e]
def At(S:Int)(ws:List Int):Prop:=1<=S/\S<=10/\ws.length<=200/\∀k,k<ws.length->gi ws k≠0/\-S<gi ws k/\gi ws k<S
instance(S:Int)(ws:List Int):Decidable (At S ws):=by unfold At;infer_instance
theorem ry(w:World)(S:Int)(A:Option Addr)(n c:Nat)(t:TypeId):(w.alloc (.cells #[.int .i64 S,.slice A n c] t)).cell? ⟨w.heap.size,0,none⟩=some (.int .i64 S)/\(w.alloc (.cells #[.int .i64 S,.slice A n c] t)).cell? ⟨w.heap.size,1,none⟩=some (.slice A n c):=
 ⟨by rw[RT];rfl,by rw[RT];rfl⟩
theorem Ct{w:World}{A:Option Addr}{c:Nat}{S:Int}{ws:List Int}{T:Nat->Prop}(hr:RI w T A ws)(hT:∀b,T b->b<w.heap.size)(hl:ws.length<=maxLen)(h1: -9223372036854775808<=S)(h2:S<=9223372036854775807):
  Calls Tryz.prog 90 #[.agg #[.int .i64 S,.slice A ws.length c]] w fun e w'=>e= .returned (.bool (decide (At S ws)))/\Below w.heap.size w w':=by
 obtain⟨c0,c1⟩:=ry w S A ws.length c 42;have hb:Below w.heap.size w (w.alloc (.cells #[.int .i64 S,.slice A ws.length c] 42)):=(Rh _ w).alloc (Rf _) _;have HB:=Rb hb;have HR:Hid (RI (w.alloc (.cells #[.int .i64 S,.slice A ws.length c] 42)) T A ws):=Rb (hr.ak fun b Vz=>hb.block b (hT b Vz));unfold maxLen at hl;clear hr hT hb;go_enter Tryz.func90,Tryz.ntmps90
 by_cases a1:S<1;{have HD:=Rb (Rl (show¬At S ws from fun h=>by have:=h.1;omega));go_wp2_with fail;go_ret;exact⟨aF HD.out.symm,HB.out⟩}
 ·by_cases a2:10<S
  {have HD:=Rb (Rl (show¬At S ws from fun h=>by have:=h.2.1;omega));go_wp2_with fail;go_ret;exact⟨aF HD.out.symm,HB.out⟩}
  ·by_cases a3:200<ws.length
   {have HD:=Rb (Rl (show¬At S ws from fun h=>by have:=h.2.2.1;omega));go_wp2_with fail;go_ret;exact⟨aF HD.out.symm,HB.out⟩}
   ·have wn:IntKind.i64.wrap (-S)= -S:=by rw[Sg];omega
    go_wp2_with fail;generalize(w.alloc (.cells #[.int .i64 S,.slice A ws.length c] 42))=W at c0 c1 HB HR⊢;generalize w.heap.size=B0 at c0 c1⊢;go_loopw[22] (fun k' wr=>∃k:Nat,k<=ws.length/\k'= .int .i64 k/\W=wr/\Hid (∀j,j<k->gi ws j≠0/\-S<gi ws j/\gi ws j<S)) (fun k _=>ws.length-(intOf k).toNat)
    case atStart=>exact⟨0,Rv _,rfl,rfl,fun j hj=>by omega⟩
    case round=>
     obtain⟨k,hk,rfl,rfl,HA⟩:=hrel;by_cases Vg:k<ws.length
     ·obtain⟨b,o,rfl,-,hc⟩:=HR.out.at_ Vg
      have c2:=hc k Vg;clear hc;obtain⟨v,hv⟩:∃v,gi ws k=v:=⟨_,rfl⟩
      rw[hv]at c2;by_cases hg:v≠0/\-S<v/\v<S
      ·obtain⟨g1,g2,g3⟩:=hg
       have z1:(v==0)=false:=by rw[Rs];exact g1
       have z2:decide (v<=-S)=false:=Rl oZ;have z3:decide (S<=v)=false:=Rl oZ;have HN:Hid (∀j,j<k+1->gi ws j≠0/\-S<gi ws j/\gi ws j<S):=Rb fun j hj=>by by_cases e:j=k;{rw[e,hv];exact⟨g1,g2,g3⟩};{exact HA.out j oZ}
       clear hv;go_wp2_with fail;go_roundw
       case rel=>exact⟨k+1,oZ,by go_num,by trivial,HN⟩
       case measure=>simp[intOf];omega
      ·have HD:=Rb (Rl (show¬At S ws from fun h=>hg (by have:=h.2.2.2 k Vg;rw[hv]at this;exact this)))
       clear hv;by_cases g1:v=0
       ·have z1:(v==0)=true:=by rw[SA];exact g1
        go_wp2_with fail;go_ret;exact⟨aF HD.out.symm,HB.out⟩
       ·have z1:(v==0)=false:=by rw[Rs];exact g1
        by_cases g2:v<=-S;{go_wp2_with fail;go_ret;exact⟨aF HD.out.symm,HB.out⟩};{have g3:S<=v:=oZ;go_wp2_with fail;go_ret;exact⟨aF HD.out.symm,HB.out⟩}
     {have HD:=Rb (Rj (show At S ws from⟨oZ,oZ,oZ,fun j hj=>HA.out j oZ⟩));go_wp2_with fail;go_ret;exact⟨aF HD.out.symm,HB.out⟩}
structure Lp where
 (g p q:Nat)
 deriving DecidableEq
def jF(ws:List Int)(x y:Lp):Int:=
 if x=y then(if 0<gi ws x.p/\0<gi ws x.q then-1 else if gi ws x.p<0/\gi ws x.q<0 then 1 else 0)
 else if x.g=y.g/\x.q=y.p then(if gi ws x.q<0 then-1 else 0)
 else if x.g=y.g/\x.p=y.q then(if 0<gi ws x.p then 1 else 0)
 else if y.g=x.g+1/\x.p<y.p/\y.p<x.q/\x.q<y.q then 1
 else if y.g=x.g+1/\y.p<x.p/\x.p<y.q/\y.q<x.q then-1 else 0
def pE(ws:List Int)(g k:Nat):Prop:=gi ws k=g\/gi ws k= -(g:Int)
instance(ws:List Int)(g k:Nat):Decidable (pE ws g k):=by unfold pE;infer_instance
def kQ(ws:List Int)(g:Nat):Nat->Int
 |0=> -1
 |k+1=>if pE ws g k then k else kQ ws g k
def oV(ws:List Int)(g:Nat):Nat->List Lp
 |0=>[]
 |k+1=>if pE ws g k then(if 0<=kQ ws g k then oV ws g k++[⟨g,(kQ ws g k).toNat,k⟩]else oV ws g k)else oV ws g k
def iA(ws:List Int):Nat->List Lp
 |0=>[]
 |n+1=>iA ws n++oV ws (n+1) ws.length
theorem wG(ws:List Int)(g:Nat):∀k,-1<=kQ ws g k/\kQ ws g k<k
 |0=>⟨TK _,by show(-1:Int)<_;omega⟩
 |k+1=>by have:=wG ws g k;rw[kQ];split<;>omega
theorem BW(ws:List Int)(g:Nat):∀k,(oV ws g k).length<=k
 |0=>Rf _
 |k+1=>by have:=BW ws g k;rw[oV];split;{split;{rw[Rz,SY];omega};{omega}};{omega}
theorem FI(ws:List Int):∀n,(iA ws n).length<=n*ws.length
 |0=>by rw[Uh];exact Rf _
 |n+1=>by have:=FI ws n;have:=BW ws (n+1) ws.length;rw[iA,Rz,Ug];omega
theorem oc(ws:List Int)(g:Nat):∀k,∀d∈oV ws g k,d.g=g/\d.p<d.q/\d.q<k/\pE ws g d.p/\pE ws g d.q
 |0=>fun d hd=>by simp[oV]at hd
 |k+1=>fun d hd=>by
  have ih:=oc ws g k;rw[oV]at hd;have old:d∈oV ws g k->d.g=g/\d.p<d.q/\d.q<k+1/\pE ws g d.p/\pE ws g d.q:=fun h=>by obtain⟨a,b,c,e,f⟩:=ih d h;exact⟨a,b,oZ,e,f⟩
  split at hd
  ·rename_i hk
   split at hd
   ·rename_i h0
    rcases SS.1 hd with h|h
    {exact old h}
    ·have hl:=wG ws g k
     have hG:∀j,0<=kQ ws g j->pE ws g (kQ ws g j).toNat:=fun j=>by
      induction j with
      |zero=>intro h;exact absurd h (by show¬(0:Int)<=-1;omega)
      |succ j ihj=>rw[kQ];split;{rename_i hj;intro _;simpa using hj};{exact ihj}
     rw[Ti]at h;subst h;exact⟨rfl,by show(kQ ws g k).toNat<k;omega,by show k<k+1;omega,hG k h0,hk⟩
   {exact old hd}
  {exact old hd}
theorem d_(ws:List Int):∀n,∀d∈iA ws n,1<=d.g/\d.g<=n/\d.p<d.q/\d.q<ws.length/\pE ws d.g d.p/\pE ws d.g d.q
 |0=>fun d hd=>by simp[iA]at hd
 |n+1=>fun d hd=>by
  rw[iA]at hd;rcases SS.1 hd with h|h
  {obtain⟨a,b,c,e,f,g⟩:=d_ ws n d h;exact⟨a,oZ,c,e,f,g⟩};{obtain⟨a,b,c,e,f⟩:=oc ws (n+1) ws.length d h;rw[a];exact⟨oZ,oZ,b,c,e,f⟩}
def lI(x:Nat):Value:= .int .i64 (x:Int)
def gL(ds:List Lp)(k:Nat):Lp:=ds.getD k ⟨0,0,0⟩
def lh(ds:List Lp):List Value:=ds.flatMap fun d=>[lI d.g,lI d.p,lI d.q]
theorem wo(ds:List Lp)(d:Lp):lh (ds++[d])=lh ds++[lI d.g,lI d.p,lI d.q]:=by simp[lh]
theorem yK:∀(ds:List Lp){k:Nat}(_:k<ds.length),(lh ds)[k*3]?=some (lI (gL ds k).g)/\(lh ds)[k*3+1]?=some (lI (gL ds k).p)/\(lh ds)[k*3+2]?=some (lI (gL ds k).q)
 |[],k,hk=>by simp at hk
 |p::ps,0,_=>by simp[lh,gL]
 |p::ps,k+1,hk=>by
  have:=yK ps (k:=k) (by simpa using hk);have e:lh (p::ps)=lI p.g::lI p.p::lI p.q::lh ps:=by simp[lh]
  have e2:gL (p::ps) (k+1)=gL ps k:=by simp[gL]
  rw[e,e2,show(k+1)*3=k*3+1+1+1 by omega];simpa using this
def OL(w:World)(B:Nat)(v:Value)(ds:List Lp):Prop:=w.ownsRow B 114 3 v ds.length (lh ds)
def JL(w:World)(S:Nat->Prop)(A:Option Addr)(ds:List Lp):Prop:=
 ds≠[]->∃b off,A=some ⟨b,off,none⟩/\S b/\∀k,k<ds.length->w.cell? ⟨b,off+k*3,none⟩=some (lI (gL ds k).g)/\w.cell? ⟨b,off+k*3+1,none⟩=some (lI (gL ds k).p)/\w.cell? ⟨b,off+k*3+2,none⟩=some (lI (gL ds k).q)
theorem DJ:(Tryz.prog.info? 114).map (fun i=>(i.zero,i.size,i.bytes))=some (some (.agg #[.int .i64 0,.int .i64 0,.int .i64 0]),3,24):=by kernel_rfl
section
variable{w w':World}{S T:Nat->Prop}{A:Option Addr}{ds:List Lp}
theorem JL.at_{k:Nat}(h:JL w S A ds)(hk:k<ds.length):∃b off,A=some ⟨b,off,none⟩/\S b/\∀k,k<ds.length->w.cell? ⟨b,off+k*3,none⟩=some (lI (gL ds k).g)/\w.cell? ⟨b,off+k*3+1,none⟩=some (lI (gL ds k).p)/\w.cell? ⟨b,off+k*3+2,none⟩=some (lI (gL ds k).q):=
 h (by intro e;subst e;simp at hk)
theorem JL.imp(h:JL w S A ds)(hS:∀b,S b->T b):JL w T A ds:=fun Vh=>by obtain⟨b,off,e,hb,hc⟩:=h Vh;exact⟨b,off,e,hS b hb,hc⟩
theorem JL.ak(h:JL w S A ds)(hk:∀b,S b->w'.heap[b]?=w.heap[b]?):JL w' S A ds:=fun Vh=>by
 obtain⟨b,off,e,hb,hc⟩:=h Vh;have XX:∀{o:Nat}{v:Value},w.cell? ⟨b,o,none⟩=some v->w'.cell? ⟨b,o,none⟩=some v:=fun{o v} hv=>(Ri (a:=⟨b,o,none⟩) (hk b hb)).trans hv
 exact⟨b,off,e,hb,fun k Vg=>⟨XX (hc k Vg).1,XX (hc k Vg).2.1,XX (hc k Vg).2.2⟩⟩
end
section
variable{w w':World}{B:Nat}{v:Value}{ds:List Lp}
theorem OL.nil(w:World)(B:Nat):OL w B (.slice none 0 0) []:=Ur w B _ _
theorem OL.shape(h:OL w B v ds):∃A c,v= .slice A ds.length c/\ds.length<=c/\c<=maxLen:=by
 rcases h.2 with⟨rfl,hn⟩|⟨g,c,cur,rfl,hb,hh,hnc,Wy,VE,ht⟩
 {exact⟨none,0,by rw[hn],oZ,Rv _⟩};{exact⟨_,c,rfl,hnc,Wy⟩}
theorem OL.lt(h:OL w B v ds):∀g,v.ownBlock=some g->B<=g/\g<w.heap.size:=UC h
theorem OL.ak(h:OL w B v ds)(hg:∀g,v.ownBlock=some g->w'.heap[g]?=w.heap[g]?):OL w' B v ds:=by
 refine⟨h.1,?_⟩;rcases h.2 with h2|⟨g,c,cur,rfl,hb,hh,hr⟩
 {exact .inl h2};{exact .inr ⟨g,c,cur,rfl,hb,by rw[hg g rfl];exact hh,hr⟩}
theorem OL.mono{B':Nat}(h:OL w B v ds)(hB:B'<=B):OL w B' v ds:=by
 refine⟨h.1,?_⟩;rcases h.2 with h2|⟨g,c,cur,rfl,hb,hh,hr⟩
 {exact .inl h2};{exact .inr ⟨g,c,cur,rfl,oZ,hh,hr⟩}
theorem OL.below{C:Nat}(h:OL w B v ds)(hb:Below C w w')(hC:w.heap.size<=C):OL w' B v ds:=
 h.ak fun g hg=>hb.block g (by have:=(h.lt g hg).2;omega)
theorem OL.reads(h:OL w B v ds):∃A c,v= .slice A ds.length c/\JL w (fun b=>B<=b/\b<w.heap.size) A ds:=by
 have h0:=h;rcases h.2 with⟨rfl,hn⟩|⟨g,c,cur,rfl,hb,hh,hnc,Wy,VE,ht⟩
 {refine⟨none,0,by rw[hn],fun Vh=>?_⟩;exact absurd (Sh hn) Vh}
 ·refine⟨_,c,rfl,fun _=>⟨g,0,rfl,⟨hb,?_⟩,fun k hk=>?_⟩⟩
  ·rcases SN g w.heap.size with h|h
   {exact h};{rw[Us h]at hh;cases hh}
  {obtain⟨e1,e2,e3⟩:=yK ds hk;rw[Sr];exact⟨(Tm h0 (k*3) oZ).trans e1,(Tm h0 (k*3+1) oZ).trans e2,(Tm h0 (k*3+2) oZ).trans e3⟩}
theorem zA{o:Oper}{a:Act}{K:Act->World->Prop}{Q:Exit->Act->World->Prop}{s x:Operand}{t:TypeId}{d:Lp}{g:Nat}
  (Vq:OL w B v ds)(hl:ds.length<1099511627776)(hB:B<=w.heap.size)(hh:w.heap[g]?=some (.cells #[lI d.g,lI d.p,lI d.q] 114 (0,0)))
  (ho:o.op= .call {callee:= .builtin .append,args:=#[s,x],argTypes:=#[t,t]})
  (ht:Tryz.prog.underlying t=some (.slice 114))(hs:a.eval s=v)(hx:a.eval x= .slice (some ⟨g,0,none⟩) 1 1)
  (h:∀v' w',OL w' B v' (ds++[d])->w.grownBy w' v.ownBlock->(v'.ownBlock=v.ownBlock\/v'.ownBlock=some w.heap.size)->K (a.put o.dst v') w'):
  o.wp Tryz.prog a w K Q:=by
 obtain⟨i0,hi,V6,VU,VN⟩:=S7 DJ;have V0:∀(j:Nat)(u:Value),[lI d.g,lI d.p,lI d.q][j]?=some u->w.cell? ((⟨g,0,none⟩:Addr).add j)=some u:=by
  intro j u hu;have e:((⟨g,0,none⟩:Addr).add j)=⟨g,j,none⟩:=by unfold Addr.add;split;{rename_i h0;subst h0;rfl};{simp}
  rw[e,Rt _ _ _ _ _ _ hh];simpa using hu
 obtain⟨v',w',VG,h2,h3,_,h5⟩:=Tp (P:=Tryz.prog) w B t o.type 114 i0 _ 3 24 ht hi V6 VU VN rfl oQ v ds.length _ Vq
  ⟨g,0,none⟩ 1 1 [lI d.g,lI d.p,lI d.q] rfl V0 (by intro u hu;simp at hu;rcases hu with rfl|rfl|rfl<;>rfl) (by unfold maxLen;omega) oZ hB
 unfold Oper.wp execOp;simp only[ho,resolve,invoke,builtin,TI,TJ,SV,S_,Tk,Tw,hs,hx,VG];refine h v' w' ?_ h3 h5;unfold OL;rw[wo,Rz];exact h2
theorem uO{ops:Array Oper}{o:Oper}{a:Act}{K:Act->World->Prop}{Q:Exit->Act->World->Prop}{E:Prop}{s x:Operand}{t:TypeId}{d:Lp}{g:Nat}
  (Vq:OL w B v ds)(hl:ds.length<1099511627776)(hB:B<=w.heap.size)(hh:w.heap[g]?=some (.cells #[lI d.g,lI d.p,lI d.q] 114 (0,0)))
  (XO:o.guard=none)(ho:o.op= .call {callee:= .builtin .append,args:=#[s,x],argTypes:=#[t,t]})
  (ht:Tryz.prog.underlying t=some (.slice 114))(hs:a.eval s=v)(hx:a.eval x= .slice (some ⟨g,0,none⟩) 1 1)
  (h:∀v' w',OL w' B v' (ds++[d])->w.grownBy w' v.ownBlock->(v'.ownBlock=v.ownBlock\/v'.ownBlock=some w.heap.size)->K (a.put o.dst v') w'):
  if Region.wanted o (yielded ops a.tmps)=true then Oper.wp Tryz.prog o a w K Q else E:=by
 have hw:Region.wanted o (yielded ops a.tmps)=true:=by simp[Region.wanted,XO]
 rw[Re hw];exact zA Vq hl hB hh ho ht hs hx h
end
structure kZ(w0 w:World)(b4 b6:Nat)(v:Value)(la:Nat->Int)(ds:List Lp):Prop where
 bel:Below w0.heap.size w0 w
 e4:b4=w0.heap.size
 e6:b6=b4+1
 arr:∀g,g<10->w.cell? ⟨b4,g,none⟩=some (.int .i64 (la g))
 afz:∀g,g<10->w.frozen? ⟨b4,g,none⟩=false
 box:w.heap[b6]?=some (.cells #[v] 110 (0,0))
 row:OL w (b6+1) v ds
section
variable{w0 w:World}{b4 b6:Nat}{v:Value}{la:Nat->Int}{ds:List Lp}
theorem kZ.cell(h:kZ w0 w b4 b6 v la ds):w.cell? ⟨b6,0,none⟩=some v:=by rw[Rt _ _ _ _ _ _ h.box];rfl
theorem kZ.free(h:kZ w0 w b4 b6 v la ds):w.frozen? ⟨b6,0,none⟩=false:=by unfold World.frozen?;rw[h.box];rfl
theorem kZ.lt(h:kZ w0 w b4 b6 v la ds):b6<w.heap.size:=SL h.box
theorem kZ.call{w':World}(h:kZ w0 w b4 b6 v la ds)(hb:Below w.heap.size w w'):kZ w0 w' b4 b6 v la ds:=
 ⟨h.bel.trans (hb.mono h.bel.size),h.e4,h.e6,fun g hg=>(Ri (a:=⟨b4,g,none⟩) (hb.block b4 (by have:=h.lt;have:=h.e6;omega))).trans (h.arr g hg),
  fun g hg=>(Ro (a:=⟨b4,g,none⟩) (hb.block b4 (by have:=h.lt;have:=h.e6;omega))).trans (h.afz g hg),(hb.block b6 h.lt).trans h.box,h.row.below hb (Rf _)⟩
theorem kZ.drew(h:kZ w0 w b4 b6 v la ds):kZ w0 w.drew b4 b6 v la ds:=h.call (Rh _ _).drew
theorem kZ.alloc(h:kZ w0 w b4 b6 v la ds)(o:Obj):kZ w0 (w.alloc o) b4 b6 v la ds:=h.call ((Rh _ _).alloc (Rf _) _)
theorem kZ.grown{w6:World}(h:kZ w0 w b4 b6 v la ds)(hg:w.grownBy w6 v.ownBlock):∀b,b<=b6->w6.heap[b]?=w.heap[b]?:=
 fun b hb=>hg.block b (by have:=h.lt;omega) (fun e=>by have:=(h.row.lt b e.symm).1;omega)
theorem kZ.push{w6:World}{v6:Value}{ds6:List Lp}(h:kZ w0 w b4 b6 v la ds)(ho:OL w6 (b6+1) v6 ds6)(hg:w.grownBy w6 v.ownBlock):kZ w0 (w6.setCell ⟨b6,0,none⟩ v6) b4 b6 v6 la ds6:=by
 have h8:=(h.grown hg b6 (Rf _)).trans h.box;have Vg:=SL h8;have he:=h.e4;have he6:=h.e6;have e4:(w6.setCell ⟨b6,0,none⟩ v6).heap[b4]?=w.heap[b4]?:=(Rn _ _ _ _ (by show b4≠b6;omega)).trans (h.grown hg b4 oZ);refine⟨(h.bel.grown hg h.bel.size (fun k hk=>by have:=(h.row.lt k hk).1;omega)).setCell (by show w0.heap.size<=b6;omega) _,he,he6,fun g hg=>(Ri (a:=⟨b4,g,none⟩) e4).trans (h.arr g hg),
  fun g hg=>(Ro (a:=⟨b4,g,none⟩) e4).trans (h.afz g hg),?_,ho.ak fun g V8=>Rn _ _ _ _ (by have:=(ho.lt g V8).1;show g≠b6;omega)⟩
 have h':w6.heap[b6]= .cells #[v] 110 (0,0):=by simpa[R8 Vg]using h8
 show(w6.heap.modify b6 _)[b6]?=_;rw[R8 (by simpa using Vg),SU,h'];rfl
theorem kZ.last(h:kZ w0 w b4 b6 v la ds){g:Nat}(hg:g<10)(x:Int):kZ w0 (w.setCell ⟨b4,g,none⟩ (.int .i64 x)) b4 b6 v (fun y=>if y=g then x else la y) ds:=by have he:=h.e4;have he6:=h.e6;refine⟨h.bel.setCell (by show w0.heap.size<=b4;omega) _,he,he6,fun y hy=>?_,fun y hy=>?_,?_,h.row.ak fun y hy=>Rn _ _ _ _ (by have:=(h.row.lt y hy).1;show y≠b4;omega)⟩;{by_cases e:y=g;{subst e;rw[Re rfl];exact Ss (h:=h.arr y hy) ..};{rw[Rc e,R4 (h:=fun e2=>by injection e2 with _ e2;exact e e2.symm)];exact h.arr y hy}};{rw[Rp];exact h.afz y hy};{rw[Rn _ _ _ _ (by show b6≠b4;omega)];exact h.box}
end
theorem D'{w0 w:World}{b4 b6:Nat}{v:Value}{la:Nat->Int}{ds:List Lp}(h:kZ w0 w b4 b6 v la ds){g k:Nat}(hg:g<10)(hl:ds.length<1000000)(hla:la g<=9223372036854775807)(_hk:k<1000000):
  Calls Tryz.prog 91 #[.int .i64 g,.int .i64 k,.pointer (some ⟨b4,0,none⟩),.pointer (some ⟨b6,0,none⟩)] w fun e w'=>e= .returned (.tuple #[])/\∃v',kZ w0 w' b4 b6 v' (fun y=>if y=g then k else la y) (if 0<=la g then ds++[⟨g,(la g).toNat,k⟩]else ds):=by
 have HL:=Rb h;have HDL:Hid (ds.length<1099511627776):=Rb oZ;have ha:=h.arr g hg;have fa:=h.afz g hg;have hc:=h.cell;have Vg:=h.lt;have hlt4:b4<w.heap.size:=by have:=h.e6;omega
 have h0:(0:Int)<=(g:Int)/\(g:Int)<10:=oZ;clear h;go_enter Tryz.func91,Tryz.ntmps91
 by_cases h1:0<=la g
 ·rw[Re h1]
  obtain⟨p,hp⟩:∃p:Nat,la g=p:=⟨(la g).toNat,oZ⟩
  rw[hp]at ha h1;have e1:(la g).toNat=p:=oZ;rw[e1];have HP:=Rb hp;obtain⟨A,c,rfl,-,-⟩:=HL.out.row.shape;clear hp e1 hla;go_wp2_with fail
  go_region_law((refine uO (d:=⟨g,p,k⟩) (HL.out.drew.alloc _).row HDL.out (HL.out.drew.alloc _).lt (Ru _ _) rfl rfl Tryz.underlying110 rfl rfl ?_;intro v6 w6 YD Zf Ym;have c6:=(Ri (a:=⟨b6,0,none⟩) ((HL.out.drew.alloc _).grown Zf b6 (Rf _))).trans (HL.out.drew.alloc _).cell;have f6:=(Ro (a:=⟨b6,0,none⟩) ((HL.out.drew.alloc _).grown Zf b6 (Rf _))).trans (HL.out.drew.alloc _).free;have Zg:=Rb ((HL.out.drew.alloc _).push YD Zf);obtain⟨A6,k6,Wq,-,-⟩:=YD.shape;clear YD Zf Ym;(generalize List.length _=n6 at Wq);subst Wq))
  all_goals
   have HP6:=Rb Zg;have ap:=Zg.out.arr g hg;have fp:=Zg.out.afz g hg;clear c6 f6 Zg ha fa hc;generalize w6.setCell _ _=W6 at HP6 ap fp⊢;go_wp2_with fail;refine UP (UQ rfl _ _ _) rfl ?_;exact⟨rfl,_,HP6.out.out.last hg k⟩
 {rw[Rc h1];go_wp2_with fail;refine UP (UQ rfl _ _ _) rfl ?_;exact⟨rfl,v,HL.out.last hg k⟩}
def Lh(ws:List Int)(n:Nat):Nat->Int:=fun y=>if 1<=y/\y<=n then kQ ws y ws.length else-1
def EA(ws:List Int)(n:Nat):Prop:=∀g,1<=g->g<=n->0<=kQ ws g ws.length
instance(ws:List Int)(n:Nat):Decidable (EA ws n):=decidable_of_iff (∀g,g<n->0<=kQ ws (g+1) ws.length)
 ⟨fun h g h1 h2=>by have:=h (g-1) oZ;rwa [show g-1+1=g by omega]at this,fun h g hg=>h (g+1) oZ oZ⟩
def Bh(S:Int)(ws:List Int):Nat:=if At S ws then if EA ws (S.toNat-1)then 0 else 17 else 1
def kC(S:Int)(ws:List Int):List Lp:=if Bh S ws=0 then iA ws (S.toNat-1)else[]
theorem kZ.start{w wr:World}(h:Below w.heap.size w wr){t:TypeId}(hs:wr.heap.size=w.heap.size+1)(ha:∀g,g<10->wr.cell? ⟨w.heap.size,g,none⟩=some (.int .i64 (-1)))(hf:∀g,g<10->wr.frozen? ⟨w.heap.size,g,none⟩=false)(_:t=110):
  kZ w (wr.alloc (.cells #[.slice none 0 0] t)) w.heap.size (w.heap.size+1) (.slice none 0 0) (fun _=> -1) []:=by
 subst t;refine⟨h.alloc h.size _,rfl,rfl,fun g hg=>?_,fun g hg=>?_,?_,OL.nil _ _⟩;{rw[Sm _ _ ⟨w.heap.size,g,none⟩ (by rw[hs];exact R9 _)];exact ha g hg};{rw[Tb _ _ ⟨w.heap.size,g,none⟩ (by rw[hs];exact Nat.ne_of_lt (R9 _))];exact hf g hg};{rw[<-hs];exact Ru _ _}
theorem kZ.congr{w0 w:World}{b4 b6:Nat}{v:Value}{la la':Nat->Int}{ds:List Lp}(h:kZ w0 w b4 b6 v la ds)(e:∀g,g<10->la g=la' g):kZ w0 w b4 b6 v la' ds:=
 {h with arr:=fun g hg=>by rw[<-e g hg];exact h.arr g hg}
def E8(w2 w:World)(b4:Nat)(v:Value)(ws:List Int)(n k:Nat):Prop:=kZ w2 w b4 (b4+1) v (fun y=>if y=n+1 then kQ ws (n+1) k else Lh ws n y) (iA ws n++oV ws (n+1) k)
theorem E8.skip{w2 w:World}{b4:Nat}{v:Value}{ws:List Int}{n k:Nat}(h:E8 w2 w b4 v ws n k)(hg:¬pE ws (n+1) k):E8 w2 w b4 v ws n (k+1):=by unfold E8 at h⊢;rw[show kQ ws (n+1) (k+1)=kQ ws (n+1) k by rw[kQ,Rc hg],show oV ws (n+1) (k+1)=oV ws (n+1) k by rw[oV,Rc hg]];exact h
theorem E8.call{w2 w:World}{b4:Nat}{v:Value}{ws:List Int}{n k:Nat}(h:E8 w2 w b4 v ws n k)(hg:pE ws (n+1) k)(hn:n+1<10)(hk:k<ws.length)(hl:ws.length<=200):
  Calls Tryz.prog 91 #[.int .i64 ((n:Int)+1),.int .i64 k,.pointer (some ⟨b4,0,none⟩),.pointer (some ⟨b4+1,0,none⟩)] w fun e w'=>e= .returned (.tuple #[])/\∃v',E8 w2 w' b4 v' ws n (k+1):=by
 have hls:=wG ws (n+1) k;have hlen:(iA ws n++oV ws (n+1) k).length<1000000:=by have h1:=FI ws n;have h2:=BW ws (n+1) k;have h3:=S4 (show n<=9 by omega) hl;rw[Rz];omega
 have e0:(if n+1=n+1 then kQ ws (n+1) k else Lh ws n (n+1))=kQ ws (n+1) k:=Re rfl;refine(D' h (g:=n+1) (k:=k) hn hlen (by rw[e0];omega) oZ).mono ?_;rintro e w' ⟨rfl,v',h'⟩;refine⟨rfl,v',?_⟩;unfold E8;simp only at h';have hd:(if 0<=kQ ws (n+1) k then(iA ws n++oV ws (n+1) k)++[⟨n+1,(kQ ws (n+1) k).toNat,k⟩]else iA ws n++oV ws (n+1) k)=iA ws n++oV ws (n+1) (k+1):=by rw[oV,Re hg];split;{rw[U1]};{rfl}
 rw[<-hd];refine h'.congr fun g _=>?_
 by_cases e:g=n+1;{rw[Re e,Re e,kQ,Re hg]};{rw[Rc e,Rc e,Rc e]}
theorem D6{w:World}{A:Option Addr}{c:Nat}{S:Int}{ws:List Int}{T:Nat->Prop}(hr:RI w T A ws)(hT:∀b,T b->b<w.heap.size)(hl:ws.length<=maxLen)(h1: -9223372036854775808<=S)(h2:S<=9223372036854775807):
  Calls Tryz.prog 70 #[.agg #[.int .i64 S,.slice A ws.length c]] w fun e w'=>∃v,e= .returned (.tuple #[v,.int .i64 (Bh S ws:Nat)])/\Below w.heap.size w w'/\OL w' w.heap.size v (kC S ws):=by
 obtain⟨c0,c1⟩:=ry w S A ws.length c 42;have hb:Below w.heap.size w (w.alloc (.cells #[.int .i64 S,.slice A ws.length c] 42)):=(Rh _ w).alloc (Rf _) _;have HB:=Rb hb;have HR:Hid (RI (w.alloc (.cells #[.int .i64 S,.slice A ws.length c] 42)) (·<w.heap.size) A ws):=Rb ((hr.ak fun b Vz=>hb.block b (hT b Vz)).imp hT);have VZ:Hid ((w.alloc (.cells #[.int .i64 S,.slice A ws.length c] 42)).heap.size=w.heap.size+1):=Rb oX;have HV:=Rb (Ct (c:=c) HR.out (fun b hb=>by rw[VZ.out];omega) hl h1 h2);clear hr hT hb;obtain⟨W,hW⟩:∃W,w.alloc (.cells #[.int .i64 S,.slice A ws.length c] 42)=W:=⟨_,rfl⟩
 rw[hW]at c0 c1 HB HR VZ HV;have HW:=Rb hW;clear hW;go_enter Tryz.func70,Tryz.ntmps70
 go_wp2_with fail;rw[HW.out];refine HV.out.mono ?_;rintro e w2 ⟨rfl,Vj⟩;have VD:=Rb (HB.out.trans (Vj.mono HB.out.size));have Ww:Hid (w.heap.size+1<=w2.heap.size):=Rb (by rw[<-VZ.out];exact Vj.size);have HR2:=Rb (HR.out.ak (w':=w2) fun b hb=>Vj.block b (by rw[VZ.out];omega));have d0:w2.cell? ⟨w.heap.size,0,none⟩=some (.int .i64 S):=(Ri (a:=⟨w.heap.size,0,none⟩) (Vj.block _ (by rw[VZ.out];exact R9 _))).trans c0;have d1:w2.cell? ⟨w.heap.size,1,none⟩=some (.slice A ws.length c):=(Ri (a:=⟨w.heap.size,1,none⟩) (Vj.block _ (by rw[VZ.out];exact R9 _))).trans c1;clear Vj HB HR VZ HV HW c0 c1;by_cases hv:At S ws
 ·have HV:=Rb hv
  rw[Rj hv];obtain⟨v1,v2,v3,-⟩:=hv;obtain⟨s,rfl⟩:∃s:Nat,S=(s:Int)+1:=⟨(S-1).toNat,oZ⟩
  have HE:Hid (Bh ((s:Int)+1) ws=if EA ws s then 0 else 17):=Rb (by unfold Bh;rw[Re HV.out,show((s:Int)+1).toNat-1=s by omega]);have hs9:s<=9:=oZ;clear HV v1 v2 h1 h2 hl;go_wp2_with fail;go_loopw[14] (fun k' wr=>∃k:Nat,k'= .int .i64 k/\k<=10/\wr.heap.size=w2.heap.size+1/\Hid (Below w2.heap.size w2 wr)/\(∀g,g<10->wr.cell? ⟨w2.heap.size,g,none⟩=some (.int .i64 (if g<k then-1 else 0)))/\∀g,g<10->wr.frozen? ⟨w2.heap.size,g,none⟩=false) (fun k _=>10-(intOf k).toNat)
  case atStart=>exact⟨0,rfl,Rv _,oX,Rb ((Rh _ _).alloc (Rf _) _),fun g hg=>by rw[Rc (RG _)];exact(cN (n:=10) (v:=Value.int .i64 0) hg).1,fun g hg=>(cN (n:=10) (v:=Value.int .i64 0) hg).2⟩
  case round=>
   obtain⟨k,rfl,hk,VI,HBW,hc,hf⟩:=hrel;by_cases Vg:k<10
   ·have c1:=hc k Vg
    rw[Rc (Sq k)]at c1;have f1:=hf k Vg;have HC:=Rb hc;have HF:=Rb hf;have k0:(0:Int)<=(k:Int):=oZ;clear hc hf;go_wp2_with fail;go_roundw
    case rel=>refine⟨k+1,by go_num,oZ,by simp[VI],Rb (HBW.out.setCell (p:=⟨w2.heap.size,k,none⟩) (Rf _) _),fun g hg=>?_,fun g hg=>by rw[Rp];exact HF.out g hg⟩;by_cases e:g=k;{subst e;rw[Re (R9 _)];exact bV c1};{rw[iP (TM e),HC.out g hg];by_cases e2:g<k;{rw[Re e2,Re oZ]};{rw[Rc e2,Rc oZ]}}
    case measure=>simp[intOf];omega
   ·have XD:=kZ.start HBW.out VI (fun g hg=>by have:=hc g hg;rwa [Re oZ]at this) hf rfl
    have z10:decide ((k:Int)<10)=false:=Rl oZ;have HLS:=Rb XD;clear XD hc hf HBW hk Vg;go_wp2_with fail;clear z10;obtain⟨b4,Wp⟩:∃b,w2.heap.size=b:=⟨_,rfl⟩
    rw[Wp]at HLS Ww⊢;clear VI;have ZH:=Rb Wp;clear Wp;go_loopw[8] (fun n' wr=>∃(n:Nat)(v:Value),n'= .int .i64 ((n:Int)+1)/\n<=s/\Hid (kZ w2 wr b4 (b4+1) v (Lh ws n) (iA ws n))/\Hid (EA ws n)) (fun n _=>s+1-(intOf n).toNat)
    case atStart=>exact⟨0,_,rfl,Rv _,Rb (HLS.out.congr fun g _=>by unfold Lh;rw[Rc oZ]),Rb fun g h1 h2=>by omega⟩
    case round=>
     clear HLS;obtain⟨n,v,rfl,hn,HL,HO⟩:=hrel;have hold:∀o,wr.cell? ⟨w.heap.size,o,none⟩=w2.cell? ⟨w.heap.size,o,none⟩:=fun o=>Ri (a:=⟨w.heap.size,o,none⟩) (HL.out.bel.block _ (by have:=Ww.out;have:=ZH.out;show w.heap.size<_;omega))
     have e0:=(hold 0).trans d0;have e1:=(hold 1).trans d1;have Wx:=HL.out.cell;clear hold;by_cases Vg:n<s
     ·have wn:IntKind.i64.wrap (-((n:Int)+1))= -((n:Int)+1):=by rw[Sg];omega
      have HL0:Hid (E8 w2 wr b4 v ws n 0):=Rb (by
       unfold E8;rw[show oV ws (n+1) 0=[]from rfl,S6];refine HL.out.congr fun g _=>?_
       by_cases e:g=n+1;{rw[Re e];unfold Lh;rw[Rc oZ];rfl}
       ·rw[Rc e])
      clear HL;go_wp2_with fail;go_loopw[30] (fun k' wq=>∃(k:Nat)(v:Value),k'= .int .i64 k/\k<=ws.length/\Hid (E8 w2 wq b4 v ws n k)) (fun k _=>ws.length-(intOf k).toNat)
      case atStart=>exact⟨0,_,rfl,Rv _,HL0⟩
      case round=>
       clear HL0 e0 e1 Wx;obtain⟨k,v,rfl,hk,HL⟩:=hrel;by_cases VA:k<ws.length
       ·have hri:=HR2.out.ak (w':=wr) fun b hb=>HL.out.bel.block b (by have:=Ww.out;have:=ZH.out;have Vz:b<w.heap.size:=hb;omega)
        obtain⟨b,off,rfl,-,hc⟩:=hri.at_ VA;have c2:=hc k VA;clear hc hri;by_cases hg:pE ws (n+1) k
        ·have HC:=Rb (HL.out.call hg oZ VA v3)
         obtain⟨x,hx⟩:∃x,gi ws k=x:=⟨_,rfl⟩
         have hxx:x=((n:Int)+1)\/x= -((n:Int)+1):=by
          unfold pE at hg;rw[hx]at hg;rcases hg with h|h
          {exact Or.inl (by rw[h];omega)};{exact Or.inr (by rw[h];omega)}
         rw[hx]at c2;clear hg hx;rcases hxx with rfl|rfl
         ·go_wp2_with fail
          refine HC.out.mono ?_;rintro e wq ⟨rfl,v',h'⟩;have HN:=Rb h';clear h';go_wp2_with fail;go_roundw
          case rel=>exact⟨k+1,v',by go_num,oZ,HN⟩
          case measure=>simp[intOf];omega
         ·have z1:(-((n:Int)+1)==(n:Int)+1)=false:=by rw[Rs];omega
          go_wp2_with fail;refine HC.out.mono ?_;rintro e wq ⟨rfl,v',h'⟩;have HN:=Rb h';clear h';go_wp2_with fail;go_roundw
          case rel=>exact⟨k+1,v',by go_num,oZ,HN⟩
          case measure=>simp[intOf];omega
        ·have HN:=Rb (HL.out.skip hg)
         obtain⟨x,hx⟩:∃x,gi ws k=x:=⟨_,rfl⟩
         unfold pE at hg;rw[hx]at hg c2;have z1:(x==(n:Int)+1)=false:=by rw[Rs];intro h;exact hg (Or.inl (by rw[h];omega))
         have z2:(x== -((n:Int)+1))=false:=by rw[Rs];intro h;exact hg (Or.inr (by rw[h];omega))
         clear hg hx;go_wp2_with fail;go_roundw
         case rel=>exact⟨k+1,v,by go_num,oZ,HN⟩
         case measure=>simp[intOf];omega
       ·obtain rfl:k=ws.length:=oZ
        have ea:=HL.out.arr (n+1) oZ;rw[Re rfl]at ea;have i0:(0:Int)<=(n:Int)+1/\(n:Int)+1<10:=oZ;have hb:=HL.out.bel;have hold:∀o,wr.cell? ⟨w.heap.size,o,none⟩=w2.cell? ⟨w.heap.size,o,none⟩:=fun o=>Ri (a:=⟨w.heap.size,o,none⟩) (hb.block _ (by have:=Ww.out;have:=ZH.out;show w.heap.size<_;omega))
        obtain⟨l,hl⟩:∃l,kQ ws (n+1) ws.length=l:=⟨_,rfl⟩
        rw[hl]at ea;by_cases Wm:l<0
        ·have VT:¬EA ws s:=fun h=>by have:=h (n+1) oZ oZ;omega
         have WL:Hid (Bh ((s:Int)+1) ws=17):=Rb (by rw[HE.out,Rc VT]);clear VT hl;go_wp2_with fail;go_ret2;exact⟨_,by rw[WL.out];rfl,VD.out.trans (hb.mono (by have:=Ww.out;have:=ZH.out;omega)),by unfold kC;rw[WL.out];exact OL.nil _ _⟩
        ·have Za:Hid (EA ws (n+1)):=Rb fun g h1 h2=>by
          by_cases e:g=n+1;{subst e;rw[hl];omega};{exact HO.out g h1 oZ}
         have HN:Hid (kZ w2 wr b4 (b4+1) v (Lh ws (n+1)) (iA ws (n+1))):=Rb (kZ.congr HL.out fun g _=>by
          by_cases e:g=n+1;{rw[Re e];unfold Lh;rw[Re oZ,e]}
          ·rw[Rc e];unfold Lh
           by_cases e2:1<=g/\g<=n;{rw[Re e2,Re oZ]}
           ·rw[Rc e2,Rc oZ])
         clear hl hb;go_wp2_with fail;go_roundw
         case rel=>exact⟨n+1,v,by go_num,oZ,HN,Za⟩
         case measure=>simp[intOf];omega
     {obtain rfl:n=s:=oZ;have WL:Hid (Bh ((n:Int)+1) ws=0):=Rb (by rw[HE.out,Re HO.out]);go_wp2_with fail;go_ret2;exact⟨v,by rw[WL.out];rfl,VD.out.trans (HL.out.bel.mono (by have:=Ww.out;have:=ZH.out;omega)),by unfold kC;rw[WL.out,Re rfl,show((n:Int)+1).toNat-1=n by omega];exact HL.out.row.mono (by have:=Ww.out;omega)⟩}
 {have HE:Hid (Bh S ws=1):=Rb (by unfold Bh;rw[Rc hv]);rw[Rl hv];go_wp2_with fail;go_ret2;exact⟨_,by rw[HE.out];rfl,VD.out,by unfold kC;rw[HE.out];exact OL.nil _ _⟩}
theorem M8(w:World)(x y:Lp)(t:TypeId):let W:=(w.alloc (.cells #[lI x.g,lI x.p,lI x.q] t)).alloc (.cells #[lI y.g,lI y.p,lI y.q] t)
  (W.cell? ⟨w.heap.size,0,none⟩=some (lI x.g)/\W.cell? ⟨w.heap.size,1,none⟩=some (lI x.p)/\W.cell? ⟨w.heap.size,2,none⟩=some (lI x.q))/\W.cell? ⟨w.heap.size+1,0,none⟩=some (lI y.g)/\W.cell? ⟨w.heap.size+1,1,none⟩=some (lI y.p)/\W.cell? ⟨w.heap.size+1,2,none⟩=some (lI y.q):=by
 have h0:∀k,((w.alloc (.cells #[lI x.g,lI x.p,lI x.q] t)).alloc (.cells #[lI y.g,lI y.p,lI y.q] t)).cell? ⟨w.heap.size,k,none⟩=(w.alloc (.cells #[lI x.g,lI x.p,lI x.q] t)).cell? ⟨w.heap.size,k,none⟩:=fun k=>Sm _ _ ⟨w.heap.size,k,none⟩ oX
 have h1:w.heap.size+1=(w.alloc (.cells #[lI x.g,lI x.p,lI x.q] t)).heap.size:=oX;refine⟨⟨?_,?_,?_⟩,?_,?_,?_⟩;{rw[h0,RT];rfl};{rw[h0,RT];rfl};{rw[h0,RT];rfl};{rw[h1,RT];rfl};{rw[h1,RT];rfl};{rw[h1,RT];rfl}
def uD(u v:Int)(xg xp xq yg yp yq:Nat):Int:=
 if xg=yg/\xp=yp/\xq=yq then(if 0<u/\0<v then-1 else if u<0/\v<0 then 1 else 0)
 else if xg=yg/\xq=yp then(if v<0 then-1 else 0)
 else if xg=yg/\xp=yq then(if 0<u then 1 else 0)
 else if yg=xg+1/\xp<yp/\yp<xq/\xq<yq then 1
 else if yg=xg+1/\yp<xp/\xp<yq/\yq<xq then-1 else 0
theorem dR{ws:List Int}{u v:Int}{xg xp xq yg yp yq:Nat}(hu:gi ws xp=u)(hv:gi ws xq=v):jF ws ⟨xg,xp,xq⟩ ⟨yg,yp,yq⟩=uD u v xg xp xq yg yp yq:=by subst hu hv;unfold jF uD;simp only[Lp.mk.injEq]
theorem zg{w:World}{A:Option Addr}{c n:Nat}{ws:List Int}{x y:Lp}(hr:RI w (·<w.heap.size) A ws)(hn:ws.length=n)(_hl:n<=200)(hx:x.p<x.q/\x.q<n)(hy:y.p<y.q/\y.q<n)(hg:x.g<10/\y.g<10):
  Calls Tryz.prog 71 #[.slice A n c,.agg #[.int .i64 x.g,.int .i64 x.p,.int .i64 x.q],.agg #[.int .i64 y.g,.int .i64 y.p,.int .i64 y.q]] w fun e w'=>e= .returned (.int .i64 (jF ws x y))/\Below w.heap.size w w':=by
 obtain⟨b,off,rfl,-,hc⟩:=hr.at_ (k:=x.p) oZ;have hb:Below w.heap.size w ((w.alloc (.cells #[lI x.g,lI x.p,lI x.q] 114)).alloc (.cells #[lI y.g,lI y.p,lI y.q] 114)):=((Rh _ w).alloc (Rf _) _).alloc oX _;have HB:=Rb hb;have Xs:=hr.ak (w':=(w.alloc (.cells #[lI x.g,lI x.p,lI x.q] 114)).alloc (.cells #[lI y.g,lI y.p,lI y.q] 114)) fun k hk=>hb.block k hk
 obtain⟨b',off',e,-,Xd⟩:=Xs.at_ (k:=x.p) oZ;injection e with e
 injection e with e1 e2 _
 subst e1 e2;obtain⟨⟨x0,x1,x2⟩,y0,y1,y2⟩:=M8 w x y 114;have d1:=Xd x.p oZ;have d2:=Xd x.q oZ;have HE:Hid (jF ws x y=jF ws x y):=Rb rfl;obtain⟨xg,xp,xq⟩:=x;obtain⟨yg,yp,yq⟩:=y;obtain⟨W,hW⟩:∃W,(w.alloc (.cells #[lI xg,lI xp,lI xq] 114)).alloc (.cells #[lI yg,lI yp,lI yq] 114)=W:=⟨_,rfl⟩
 obtain⟨z,hz⟩:∃z,jF ws ⟨xg,xp,xq⟩ ⟨yg,yp,yq⟩=z:=⟨_,rfl⟩
 rw[hz];have HZ:=Rb hz;have HW:=Rb hW;dsimp only at x0 x1 x2 y0 y1 y2 d1 d2 hx hy hg HB;rw[hW]at x0 x1 x2 y0 y1 y2 d1 d2 HB;unfold lI at x0 x1 x2 y0 y1 y2 HW;clear hc Xd hr Xs hb HE hz hW;have wx:IntKind.i64.wrap ((xg:Int)+1)=(xg:Int)+1:=by rw[Sg];omega
 go_enter Tryz.func71,Tryz.ntmps71
 go_upto_region 1 with fail
 rw[HW.out];obtain⟨u,hu⟩:∃u,gi ws xp=u:=⟨_,rfl⟩
 obtain⟨v,hv⟩:∃v,gi ws xq=v:=⟨_,rfl⟩
 rw[hu]at d1;rw[hv]at d2;have HU:=Rb hu;have HV:=Rb hv;clear hu hv HW;by_cases a1:xg=yg/\xp=yp/\xq=yq
 ·obtain⟨rfl,rfl,rfl⟩:=a1
  by_cases b1:0<u
  ·by_cases b2:0<v
   ·have hz:z= -1:=by rw[<-HZ.out,dR HU.out HV.out];unfold uD;(repeat' split)<;>first|rfl|omega
    subst hz;go_wp2_with fail;go_ret;exact⟨rfl,HB.out⟩
   ·have hz:z=0:=by rw[<-HZ.out,dR HU.out HV.out];unfold uD;(repeat' split)<;>first|rfl|omega
    subst hz;go_wp2_with fail;go_ret;exact⟨rfl,HB.out⟩
  ·by_cases b3:u<0
   ·by_cases b4:v<0
    ·have hz:z=1:=by rw[<-HZ.out,dR HU.out HV.out];unfold uD;(repeat' split)<;>first|rfl|omega
     subst hz;go_wp2_with fail;go_ret;exact⟨rfl,HB.out⟩
    ·have hz:z=0:=by rw[<-HZ.out,dR HU.out HV.out];unfold uD;(repeat' split)<;>first|rfl|omega
     subst hz;go_wp2_with fail;go_ret;exact⟨rfl,HB.out⟩
   ·have hz:z=0:=by rw[<-HZ.out,dR HU.out HV.out];unfold uD;(repeat' split)<;>first|rfl|omega
    subst hz;go_wp2_with fail;go_ret;exact⟨rfl,HB.out⟩
 ·by_cases ag:xg=yg
  ·subst ag
   have z1:((xg:Int)==(xg:Int)+1)=false:=by rw[Rs];omega
   by_cases ap:xp=yp
   ·subst ap
    have aq:¬xq=yq:=fun h=>a1 ⟨rfl,rfl,h⟩
    have z2:((xq:Int)==(yq:Int))=false:=by rw[Rs];omega
    have z3:((xq:Int)==(xp:Int))=false:=by rw[Rs];omega
    have z4:((xp:Int)==(yq:Int))=false:=by rw[Rs];omega
    have hz:z=0:=by rw[<-HZ.out,dR HU.out HV.out];unfold uD;(repeat' split)<;>first|rfl|omega
    subst hz;go_wp2_with fail;go_ret;exact⟨rfl,HB.out⟩
   ·have z5:((xp:Int)==(yp:Int))=false:=by rw[Rs];omega
    by_cases c2:xq=yp
    ·subst c2
     by_cases b2:v<0
     ·have hz:z= -1:=by rw[<-HZ.out,dR HU.out HV.out];unfold uD;(repeat' split)<;>first|rfl|omega
      subst hz;go_wp2_with fail;go_ret;exact⟨rfl,HB.out⟩
     ·have hz:z=0:=by rw[<-HZ.out,dR HU.out HV.out];unfold uD;(repeat' split)<;>first|rfl|omega
      subst hz;go_wp2_with fail;go_ret;exact⟨rfl,HB.out⟩
    ·have z6:((xq:Int)==(yp:Int))=false:=by rw[Rs];omega
     by_cases c3:xp=yq
     ·subst c3
      by_cases b1:0<u
      ·have hz:z=1:=by rw[<-HZ.out,dR HU.out HV.out];unfold uD;(repeat' split)<;>first|rfl|omega
       subst hz;go_wp2_with fail;go_ret;exact⟨rfl,HB.out⟩
      ·have hz:z=0:=by rw[<-HZ.out,dR HU.out HV.out];unfold uD;(repeat' split)<;>first|rfl|omega
       subst hz;go_wp2_with fail;go_ret;exact⟨rfl,HB.out⟩
     ·have z7:((xp:Int)==(yq:Int))=false:=by rw[Rs];omega
      have hz:z=0:=by rw[<-HZ.out,dR HU.out HV.out];unfold uD;(repeat' split)<;>first|rfl|omega
      subst hz;go_wp2_with fail;go_ret;exact⟨rfl,HB.out⟩
  ·have z8:((xg:Int)==(yg:Int))=false:=by rw[Rs];omega
   by_cases ah:yg=xg+1
   ·subst ah
    by_cases a2:xp<yp/\yp<xq/\xq<yq
    ·obtain⟨p1,p2,p3⟩:=a2
     have hz:z=1:=by rw[<-HZ.out,dR HU.out HV.out];unfold uD;(repeat' split)<;>first|rfl|omega
     subst hz;go_wp2_with fail;go_ret;exact⟨rfl,HB.out⟩
    ·by_cases q1:xp<yp
     ·by_cases q2:yp<xq
      ·by_cases q3:xq<yq
       {exact absurd ⟨q1,q2,q3⟩ a2}
       ·have r1:¬yp<xp:=oZ
        have hz:z=0:=by rw[<-HZ.out,dR HU.out HV.out];unfold uD;(repeat' split)<;>first|rfl|omega
        subst hz;go_wp2_with fail;go_ret;exact⟨rfl,HB.out⟩
      ·have r1:¬yp<xp:=oZ
       have hz:z=0:=by rw[<-HZ.out,dR HU.out HV.out];unfold uD;(repeat' split)<;>first|rfl|omega
       subst hz;go_wp2_with fail;go_ret;exact⟨rfl,HB.out⟩
     ·clear a2
      by_cases r1:yp<xp
      ·by_cases r2:xp<yq
       ·by_cases r3:yq<xq
        ·have hz:z= -1:=by rw[<-HZ.out,dR HU.out HV.out];unfold uD;(repeat' split)<;>first|rfl|omega
         subst hz;go_wp2_with fail;go_ret;exact⟨rfl,HB.out⟩
        ·have hz:z=0:=by rw[<-HZ.out,dR HU.out HV.out];unfold uD;(repeat' split)<;>first|rfl|omega
         subst hz;go_wp2_with fail;go_ret;exact⟨rfl,HB.out⟩
       ·have hz:z=0:=by rw[<-HZ.out,dR HU.out HV.out];unfold uD;(repeat' split)<;>first|rfl|omega
        subst hz;go_wp2_with fail;go_ret;exact⟨rfl,HB.out⟩
      ·have hz:z=0:=by rw[<-HZ.out,dR HU.out HV.out];unfold uD;(repeat' split)<;>first|rfl|omega
       subst hz;go_wp2_with fail;go_ret;exact⟨rfl,HB.out⟩
   ·have z9:((yg:Int)==(xg:Int)+1)=false:=by rw[Rs];omega
    have hz:z=0:=by rw[<-HZ.out,dR HU.out HV.out];unfold uD;(repeat' split)<;>first|rfl|omega
    subst hz;go_wp2_with fail;go_ret;exact⟨rfl,HB.out⟩
def vY(S:Int)(ws:List Int):Nat:=if Bh S ws=0 then if 64<(kC S ws).length then 5 else 0 else Bh S ws
def jb(S:Int)(ws:List Int):List (List Int):=if vY S ws=0 then zL (kC S ws).length (kC S ws).length fun i j=>jF ws (gL (kC S ws) i) (gL (kC S ws) j)else[]
theorem Hk{S:Int}{ws:List Int}(h:vY S ws≠0):jb S ws=[]:=by unfold jb;rw[Rc h]
theorem It{ds:List Lp}{k:Nat}(hk:k<ds.length):gL ds k∈ds:=by unfold gL;rw[Rw,RH hk];exact R7 hk
theorem yj(ws:List Int)(x y:Lp): -1<=jF ws x y/\jF ws x y<=1:=by
 unfold jF
 (repeat' split)<;>omega
theorem AK.call{w w1 wr w':World}{xa xb:List (List Int)}{n d i:Nat}{bs:Nat->Nat}{a:Nat->Nat->Int}(h:AK w w1 wr xa xb n d i bs a)(hb:Below wr.heap.size wr w'):AK w w1 w' xa xb n d i bs a:=
 ⟨h.mi.ak h.le hb.size h.lt fun b _ hl=>hb.block b hl,h.bel.trans (hb.mono h.bel.size),RB h.lt hb.size,h.le,fun j hj=>by
  obtain⟨⟨v,hv⟩,hf⟩:=h.hd j hj;exact⟨⟨v,(Ri (a:=⟨w1.heap.size,j,none⟩) (hb.block _ h.lt)).trans hv⟩,(Ro (a:=⟨w1.heap.size,j,none⟩) (hb.block _ h.lt)).trans hf⟩⟩
theorem share{G P:Prop}(h:G->P)(g:G):P:=h g
theorem Bt{w:World}{A:Option Addr}{c:Nat}{S:Int}{ws:List Int}{T:Nat->Prop}(hr:RI w T A ws)(hT:∀b,T b->b<w.heap.size)(hl:ws.length<=maxLen)(h1: -9223372036854775808<=S)(h2:S<=9223372036854775807):
  Calls Tryz.prog 35 #[.agg #[.int .i64 S,.slice A ws.length c]] w fun e w'=>∃A' n c',e= .returned (.tuple #[.slice A' n c',.int .i64 (vY S ws:Nat)])/\Below w.heap.size w w'/\AM w' A' n (jb S ws):=by
 obtain⟨c0,c1⟩:=ry w S A ws.length c 42;have hb:Below w.heap.size w (w.alloc (.cells #[.int .i64 S,.slice A ws.length c] 42)):=(Rh _ w).alloc (Rf _) _;have HB:=Rb hb;have HR:Hid (RI (w.alloc (.cells #[.int .i64 S,.slice A ws.length c] 42)) (·<w.heap.size) A ws):=Rb ((hr.ak fun b Vz=>hb.block b (hT b Vz)).imp hT);have VZ:Hid ((w.alloc (.cells #[.int .i64 S,.slice A ws.length c] 42)).heap.size=w.heap.size+1):=Rb oX;have HV:=Rb (D6 (c:=c) HR.out (fun b hb=>by rw[VZ.out];omega) hl h1 h2);clear hr hT hb;obtain⟨W,hW⟩:∃W,w.alloc (.cells #[.int .i64 S,.slice A ws.length c] 42)=W:=⟨_,rfl⟩
 rw[hW]at c0 c1 HB HR VZ HV;have HW:=Rb hW;clear hW;go_enter Tryz.func35,Tryz.ntmps35
 go_wp2_with fail;rw[HW.out];refine HV.out.mono ?_;rintro e w2 ⟨v,rfl,Vj,Ze⟩;have VD:=Rb (HB.out.trans (Vj.mono HB.out.size));have Ww:Hid (w.heap.size+1<=w2.heap.size):=Rb (by rw[<-VZ.out];exact Vj.size);have HR2:=Rb (HR.out.ak (w':=w2) fun b hb=>Vj.block b (by rw[VZ.out];omega));have d1:w2.cell? ⟨w.heap.size,1,none⟩=some (.slice A ws.length c):=(Ri (a:=⟨w.heap.size,1,none⟩) (Vj.block _ (by rw[VZ.out];exact R9 _))).trans c1;obtain⟨A2,c2,rfl,WD⟩:=Ze.reads;have Y4:=Rb (WD.imp (T:=(·<w2.heap.size)) fun b hb=>hb.2);clear Vj HB HR VZ HV HW c0 c1 WD Ze;obtain⟨e,he⟩:∃e,Bh S ws=e:=⟨_,rfl⟩
 rw[he];by_cases h0:e=0
 ·subst h0
  have Vm:∀k,k<(kC S ws).length->gL (kC S ws) k∈iA ws (S.toNat-1):=fun k hk=>by have:=It hk;unfold kC at this⊢;rw[Re he]at this⊢;exact this
  have hv:At S ws:=Rq fun h=>by unfold Bh at he;rw[Rc h]at he;omega
  have HM:Hid (∀k,k<(kC S ws).length->(gL (kC S ws) k).g<10/\(gL (kC S ws) k).p<(gL (kC S ws) k).q/\(gL (kC S ws) k).q<ws.length):=Rb fun k hk=>by obtain⟨a,b,c,d,-⟩:=d_ ws _ _ (Vm k hk);have:=hv.2.1;exact⟨oZ,c,d⟩
  have HX:Hid (vY S ws=if 64<(kC S ws).length then 5 else 0):=Rb (by unfold vY;rw[Re he]);have HWL:Hid (ws.length<=200):=Rb hv.2.2.1;obtain⟨ds,hds⟩:∃ds,kC S ws=ds:=⟨_,rfl⟩
  have HDS:=Rb hds;rw[hds]at Y4 HM HX⊢;obtain⟨n,hn⟩:∃n,ds.length=n:=⟨_,rfl⟩
  rw[hn]at HM HX⊢;have HN:=Rb hn;clear Vm he hv hds hn;by_cases hn64:64<n;{have HE:Hid (vY S ws=5):=Rb (by rw[HX.out,Re hn64]);go_wp2_with fail;go_ret2;exact⟨_,_,_,by rw[HE.out];rfl,VD.out,by rw[Hk (by rw[HE.out];decide)];exact AM.FL _⟩}
  ·have HE:Hid (vY S ws=0):=Rb (by rw[HX.out,Rc hn64])
   have WY:=k_ n oZ;have H0:Hid (AK w2 w2 (w2.alloc (.cells (List.replicate n (Value.slice none 0 0)).toArray 22)) [] [] n n 0 (fun _=>0) (fun _ _=>0)):=AK.start (Rh _ _);go_wp2_with fail;clear WY;rw[show(List.replicate n (Value.slice none 0 0)).toArray=Array.replicate n (Value.slice none 0 0) by simp]at H0;go_loopw[27] (fun i' wr=>∃(i:Nat)(bs:Nat->Nat)(a:Nat->Nat->Int),i<=n/\i'= .int .i64 i/\Hid (AK w2 w2 wr [] [] n n i bs a)/\Hid (∀x,x<i->∀y,y<n->a x y=jF ws (gL ds x) (gL ds y))) (fun i _=>n-(intOf i).toNat)
   case atStart=>exact⟨0,_,_,Rv _,rfl,H0,fun x hx=>by omega⟩
   case round=>
    clear H0;obtain⟨i,bs,a,hi,rfl,HU,HP⟩:=hrel;have WD:=Y4.out.ak (w':=wr) fun b hb=>HU.out.bel.block b hb
    by_cases hlti:i<n
    ·obtain⟨b1,o1,rfl,Vi,hc⟩:=WD.at_ (k:=i) (by rw[HN.out];exact hlti)
     obtain⟨x0,x1,x2⟩:=hc i (by rw[HN.out];exact hlti);have VF:b1<wr.heap.size:=RB Vi HU.out.bel.size;unfold lI at x0 x1 x2;clear hc WD;go_upto_region 10 with fail
     have q0:=RT wr #[.int .i64 (gL ds i).g,.int .i64 (gL ds i).p,.int .i64 (gL ds i).q] 114;obtain⟨w3,hw3⟩:∃w3,wr.alloc (.cells #[.int .i64 (gL ds i).g,.int .i64 (gL ds i).p,.int .i64 (gL ds i).q] 114)=w3:=⟨_,rfl⟩
     have XY:Hid (Below wr.heap.size wr w3):=Rb (by rw[<-hw3];exact(Rh _ _).alloc (Rf _) _);have HS3:Hid (w3.heap.size=wr.heap.size+1):=Rb (by rw[<-hw3];simp);rw[hw3]at q0⊢;have g0:w3.cell? ⟨wr.heap.size,0,none⟩=some (.int .i64 (gL ds i).g):=q0 0;have g1:w3.cell? ⟨wr.heap.size,1,none⟩=some (.int .i64 (gL ds i).p):=q0 1;have g2:w3.cell? ⟨wr.heap.size,2,none⟩=some (.int .i64 (gL ds i).q):=q0 2;have HU3:=Rb (HU.out.call XY.out);have HPU:=Rb (HU3.out.push hlti);obtain⟨⟨v0,k0⟩,f0⟩:=HU3.out.hd i hlti;have s0:=HU3.out.lt;have WY:=dN 22 Tryz.underlying22 n oZ;have c0':(w3.alloc (.cells (Array.replicate n (Value.int .i64 0)) 3)).cell? ⟨w2.heap.size,i,none⟩=some v0:=(Sm w3 _ ⟨w2.heap.size,i,none⟩ s0).trans k0;have f0':(w3.alloc (.cells (Array.replicate n (Value.int .i64 0)) 3)).frozen? ⟨w2.heap.size,i,none⟩=false:=(Tb w3 _ ⟨w2.heap.size,i,none⟩ qj).trans f0;have HU2:Hid (up bs i w3.heap.size i=w3.heap.size):=Rb (Re rfl);have HPO:Hid (∀x,x<i->∀y,y<n->up a i (fun _=>0) x y=jF ws (gL ds x) (gL ds y)):=Rb fun x hx y hy=>by unfold up;rw[Rc oZ];exact HP.out x hx y hy
     clear q0 hw3 x0 x1 x2;go_wp2_with fail;obtain⟨b8,hb8⟩:∃b,wr.heap.size=b:=⟨_,rfl⟩
     have hb82:w2.heap.size<b8/\b8<w3.heap.size:=by have:=HU.out.lt;have:=HS3.out;omega
     rw[hb8]at g0 g1 g2⊢;have hold:∀o,((w3.setCell ⟨w2.heap.size,i,none⟩ (.slice (some ⟨w3.heap.size,0,none⟩) n n)).alloc (.cells (Array.replicate n (Value.int .i64 0)) 3)).cell? ⟨b8,o,none⟩=w3.cell? ⟨b8,o,none⟩:=fun o=>
      (Sm _ _ ⟨b8,o,none⟩ (by rw[RS];exact hb82.2)).trans (aW (by intro e;injection e with e;omega))
     have ZU:Hid (((w3.setCell ⟨w2.heap.size,i,none⟩ (.slice (some ⟨w3.heap.size,0,none⟩) n n)).alloc (.cells (Array.replicate n (Value.int .i64 0)) 3)).cell? ⟨b8,0,none⟩=some (.int .i64 (gL ds i).g)/\((w3.setCell ⟨w2.heap.size,i,none⟩ (.slice (some ⟨w3.heap.size,0,none⟩) n n)).alloc (.cells (Array.replicate n (Value.int .i64 0)) 3)).cell? ⟨b8,1,none⟩=some (.int .i64 (gL ds i).p)/\
       ((w3.setCell ⟨w2.heap.size,i,none⟩ (.slice (some ⟨w3.heap.size,0,none⟩) n n)).alloc (.cells (Array.replicate n (Value.int .i64 0)) 3)).cell? ⟨b8,2,none⟩=some (.int .i64 (gL ds i).q)):=Rb ⟨(hold 0).trans g0,(hold 1).trans g1,(hold 2).trans g2⟩
     have HB8:=Rb hb82;have HBE:=Rb hb8;generalize up bs i w3.heap.size=Zj at HPU HU2;generalize up a i (fun _=>0)=a' at HPU HPO;rw[show(List.replicate n (Value.int .i64 0)).toArray=Array.replicate n (Value.int .i64 0) by simp,World.setCell_alloc_past _ _ _ _ s0]at HPU;generalize(w3.setCell ⟨w2.heap.size,i,none⟩ (.slice (some ⟨w3.heap.size,0,none⟩) n n)).alloc (.cells (Array.replicate n (Value.int .i64 0)) 3)=w5 at HPU ZU⊢;clear WY c0' f0' k0 f0 HU HU3 HP s0 g0 g1 g2 hold hb8 hb82 XY HS3 VF;generalize w3.heap.size=gb at HU2 HB8⊢
     go_loopw[40] (fun k' wq=>∃(k:Nat)(a2:Nat->Nat->Int),k<=n/\k'= .int .i64 k/\Hid (AK w2 w2 wq [] [] n n (i+1) Zj a2)/\Hid (∀x,x<i->∀y,y<n->a2 x y=jF ws (gL ds x) (gL ds y))/\Hid (∀y,y<k->a2 i y=jF ws (gL ds i) (gL ds y))/\
      Hid (wq.cell? ⟨b8,0,none⟩=some (.int .i64 (gL ds i).g)/\wq.cell? ⟨b8,1,none⟩=some (.int .i64 (gL ds i).p)/\wq.cell? ⟨b8,2,none⟩=some (.int .i64 (gL ds i).q))/\b8<wq.heap.size) (fun k _=>n-(intOf k).toNat)
     case atStart=>exact⟨0,a',Rv _,rfl,HPU,HPO,fun y hy=>by omega,ZU,by have h1:=(HPU.out.mi.ad i (R9 _)).2.1;rw[HU2.out]at h1;have:=HB8.out;omega⟩
     case round=>
      clear HPU HPO ZU;obtain⟨k,a2,hk,rfl,HU,HPO,HPK,ZU,hb8s⟩:=hrel;have WD:=Y4.out.ak (w':=wr) fun b hb=>HU.out.bel.block b hb
      by_cases hltk:k<n
      ·obtain⟨b1',o1',e1,hb1',hc⟩:=WD.at_ (k:=k) (by rw[HN.out];exact hltk)
       injection e1 with e1
       injection e1 with e1 e2 _
       subst e1 e2;obtain⟨y0,y1,y2⟩:=hc k (by rw[HN.out];exact hltk);have VF:b1<wr.heap.size:=RB Vi HU.out.bel.size;unfold lI at y0 y1 y2;clear hc WD;go_upto_region 14 with fail
       have q0:=RT wr #[.int .i64 (gL ds k).g,.int .i64 (gL ds k).p,.int .i64 (gL ds k).q] 114;have r0:=fun o=>Sm wr (.cells #[.int .i64 (gL ds k).g,.int .i64 (gL ds k).p,.int .i64 (gL ds k).q] 114) ⟨b8,o,none⟩ hb8s
       obtain⟨w6,hw6⟩:∃w6,wr.alloc (.cells #[.int .i64 (gL ds k).g,.int .i64 (gL ds k).p,.int .i64 (gL ds k).q] 114)=w6:=⟨_,rfl⟩
       have hb6:Below wr.heap.size wr w6:=by rw[<-hw6];exact(Rh _ _).alloc (Rf _) _
       have HU6:=Rb (HU.out.call hb6);have hs6:b8<w6.heap.size:=RB hb8s hb6.size;have hs7:wr.heap.size<w6.heap.size:=by rw[<-hw6];simp
       rw[hw6]at q0 r0⊢;clear y0 y1 y2;have y0:w6.cell? ⟨wr.heap.size,0,none⟩=some (.int .i64 (gL ds k).g):=q0 0;have y1:w6.cell? ⟨wr.heap.size,1,none⟩=some (.int .i64 (gL ds k).p):=q0 1;have y2:w6.cell? ⟨wr.heap.size,2,none⟩=some (.int .i64 (gL ds k).q):=q0 2;have x0:=(r0 0).trans ZU.out.1;have x1:=(r0 1).trans ZU.out.2.1;have x2:=(r0 2).trans ZU.out.2.2;have HBX6:=Rb (And.intro x0 (And.intro x1 x2));have HB26:Hid (Below w2.heap.size w2 w6):=Rb HU6.out.bel;have d6:w6.cell? ⟨w.heap.size,1,none⟩=some (.slice A ws.length c):=(Ri (a:=⟨w.heap.size,1,none⟩) (HB26.out.block _ Ww.out)).trans d1;have hri6:=(HR2.out.ak (w':=w6) fun b hb=>HB26.out.block b (by have:=Ww.out;have Vz:b<w.heap.size:=hb;omega)).imp (T:=(·<w6.heap.size)) fun b hb=>by have:=Ww.out;have:=HB26.out.size;have Vz:b<w.heap.size:=hb;show b<_;omega
       obtain⟨m1,m2,m3⟩:=HM.out i hlti;obtain⟨m4,m5,m6⟩:=HM.out k hltk;have Xi:=zg (w:=w6.drew) (c:=c) (x:=gL ds i) (y:=gL ds k) hri6 rfl HWL.out ⟨m2,m3⟩ ⟨m5,m6⟩ ⟨m1,m4⟩;obtain⟨z,hz⟩:∃z,jF ws (gL ds i) (gL ds k)=z:=⟨_,rfl⟩
       rw[hz]at Xi;have HZ:=Rb hz;have hfc:∀wb,Below w6.heap.size w6 wb->wb.cell? ⟨w2.heap.size,i,none⟩=some (.slice (some ⟨gb,0,none⟩) n n)/\wb.cell? ⟨gb,k,none⟩=some (.int .i64 (a2 i k))/\wb.frozen? ⟨gb,k,none⟩=false:=fun wb hb=>by have hm:=HU6.out.call hb;have e1:=hm.mi.hd i (R9 _);have e2:=hm.mi.en i k (R9 _) hltk;have e3:=hm.mi.fr i k (R9 _) hltk;rw[HU2.out]at e1 e2 e3;exact⟨e1,e2,e3⟩
       have HFC:=Rb hfc;obtain⟨k1,k2,k3⟩:=hfc w6 (Rh _ _);have HEL:Hid (Calls Tryz.prog 71 #[.slice A ws.length c,.agg #[.int .i64 (gL ds i).g,.int .i64 (gL ds i).p,.int .i64 (gL ds i).q],.agg #[.int .i64 (gL ds k).g,.int .i64 (gL ds k).p,.int .i64 (gL ds k).q]] w6.drew fun e w'=>e= .returned (.int .i64 z)/\Below w6.heap.size w6 w'):=Rb (Xi.mono fun e w' h=>⟨h.1,((Rh _ w6).drew).trans h.2⟩);have HBD:=Rb hb6;have HS67:=Rb (And.intro hs6 hs7)
       have HFN:Hid (∀wb,Below w6.heap.size w6 wb->Hid (AK w2 w2 (wb.setCell ⟨gb,k,none⟩ (.int .i64 z)) [] [] n n (i+1) Zj (fun p q=>if p=i/\q=k then z else a2 p q))/\
         Hid ((wb.setCell ⟨gb,k,none⟩ (.int .i64 z)).cell? ⟨b8,0,none⟩=some (.int .i64 (gL ds i).g)/\(wb.setCell ⟨gb,k,none⟩ (.int .i64 z)).cell? ⟨b8,1,none⟩=some (.int .i64 (gL ds i).p)/\(wb.setCell ⟨gb,k,none⟩ (.int .i64 z)).cell? ⟨b8,2,none⟩=some (.int .i64 (gL ds i).q))/\b8<(wb.setCell ⟨gb,k,none⟩ (.int .i64 z)).heap.size):=Rb fun wb hb=>by
        have hm:=(HU6.out.call hb).store (x:=i) (y:=k) (R9 _) hltk z;rw[HU2.out]at hm;have Wx:∀o,(wb.setCell ⟨gb,k,none⟩ (.int .i64 z)).cell? ⟨b8,o,none⟩=w6.cell? ⟨b8,o,none⟩:=fun o=>(aW (by intro e;injection e with e;have:=HB8.out;omega)).trans (Ri (a:=⟨b8,o,none⟩) (hb.block _ hs6))
        exact⟨Rb hm,Rb ⟨(Wx 0).trans HBX6.out.1,(Wx 1).trans HBX6.out.2.1,(Wx 2).trans HBX6.out.2.2⟩,by rw[RS];exact RB hs6 hb.size⟩
       have HPO2:Hid (∀x,x<i->∀y,y<n->(if x=i/\y=k then z else a2 x y)=jF ws (gL ds x) (gL ds y)):=Rb fun x hx y hy=>by rw[Rc oZ];exact HPO.out x hx y hy
       have HPK2:Hid (∀y,y<k+1->(if i=i/\y=k then z else a2 i y)=jF ws (gL ds i) (gL ds y)):=Rb fun y hy=>by by_cases e:y=k;{rw[Re ⟨rfl,e⟩,e,hz]};{rw[Rc fun h=>e h.2];exact HPK.out y oZ}
       clear HPO HPK HBX6;clear q0 r0 hw6 hb6 HU hri6 m1 m2 m3 m4 m5 m6 Xi hz hfc VF ZU hb8s;obtain⟨yg,hyg⟩:∃x,(gL ds k).g=x:=⟨_,rfl⟩
       obtain⟨yp,hyp⟩:∃x,(gL ds k).p=x:=⟨_,rfl⟩
       obtain⟨yq,hyq⟩:∃x,(gL ds k).q=x:=⟨_,rfl⟩
       rw[hyg]at y0;rw[hyp]at y1;rw[hyq]at y2;rw[hyg,hyp,hyq]at HEL;clear HU6 HB26 HBD HS67 HZ;apply share
       case h=>
        intro key
        go_region_law((go_simp;go_at_call 71;(refine HEL.out.mono ?_;rintro e9 wb ⟨rfl,hb9⟩;obtain⟨k4,k5,k6⟩:=HFC.out wb hb9;have ZX:=Rb hb9)))
        all_goals
         obtain⟨HU7,HBX7,hb87⟩:=HFN.out wb ZX.out;generalize wb.setCell ⟨gb,k,none⟩ (.int .i64 z)=w7 at HU7 HBX7 hb87⊢;revert w7;clear k4 k5 k6 hb9 ZX;exact key
       case g=>
        intro w7 HU7 HBX7 hb87;clear k1 k2 k3 x0 x1 x2 y0 y1 y2 d6 HFC HEL HFN hs6 hs7 d1 HR2 hyg hyp hyq Vi hb1' HBE HB8 HU2 Y4 HN HM HX HWL VD Ww;go_wp2_with fail;go_roundw
        case rel=>exact⟨k+1,_,oZ,by go_num,HU7,HPO2,HPK2,HBX7,hb87⟩
        case measure=>simp[intOf];omega
      ·obtain rfl:k=n:=oZ
       have HPO2:Hid (∀x,x<i+1->∀y,y<k->a2 x y=jF ws (gL ds x) (gL ds y)):=Rb fun x hx y hy=>by by_cases e:x=i;{subst e;exact HPK.out y hy};{exact HPO.out x oZ y hy}
       clear HPO HPK ZU;go_wp2_with fail;go_roundw
       case rel=>exact⟨i+1,Zj,a2,oZ,by go_num,HU,HPO2⟩
       case measure=>simp[intOf];omega
    ·obtain rfl:i=n:=oZ
     have HAM:Hid (AM wr (some ⟨w2.heap.size,0,none⟩) i (jb S ws)):=Rb (by
      unfold jb;rw[Re HE.out,HDS.out,HN.out];exact(HU.out.mi.congr fun x y hx hy=>HP.out x hx y hy).am HU.out.lt (by unfold maxLen;omega) (by unfold maxLen;omega) fun x y hx hy=>by
       have:=yj ws (gL ds x) (gL ds y);omega)
     have HBW:=Rb (VD.out.trans (HU.out.bel.mono VD.out.size));clear HU HP WD;go_wp2_with fail;go_ret2;exact⟨_,_,_,by rw[HE.out];rfl,HBW.out,HAM.out⟩
 ·have HE:Hid (vY S ws=e):=Rb (by unfold vY;rw[he,Rc h0])
  have z1:((e:Int)!=0)=true:=by rw[RZ];omega
  go_wp2_with fail;go_ret2;exact⟨_,_,_,by rw[HE.out];rfl,VD.out,by rw[Hk (by rw[HE.out];exact h0)];exact AM.FL _⟩
def KT(xss:List (List Int)):Prop:=∀i,i<xss.length->bP xss i=xss.length
instance(xss:List (List Int)):Decidable (KT xss):=by unfold KT;infer_instance
def EY(xss:List (List Int)):Prop:=∀i,i<xss.length->∀j,j<bP xss i->-1125899906842624<=eI xss i j/\eI xss i j<=1125899906842624
instance(xss:List (List Int)):Decidable (EY xss):=by unfold EY;infer_instance
section
variable{w:World}{A:Option Addr}{n cap:Nat}{xss:List (List Int)}
theorem z_(h:AM w A n xss):Calls Tryz.prog 72 #[.slice A n cap] w fun e w'=>e= .returned (.bool (decide (KT xss)))/\w=w':=by
 have Y0:=h.nl;unfold maxLen at Y0;have HX:=Rb h;have HN:=Rb h.ln;clear h;go_enter Tryz.func72,Tryz.ntmps72
 go_wp2_with fail;go_loopw[7] (fun i' wr=>∃k:Nat,k<=n/\i'= .int .i64 k/\w=wr/\Hid (∀i,i<k->bP xss i=n)) (fun i _=>n-(intOf i).toNat)
 case atStart=>exact⟨0,Rv _,rfl,rfl,fun i hi=>by omega⟩
 case round=>
  obtain⟨k,hk,rfl,rfl,HA⟩:=hrel;by_cases Vg:k<n
  ·obtain⟨b,off,Ak,ck,rfl,c2,-⟩:=HX.out.head Vg
   by_cases he:bP xss k=n
   ·have WB:((bP xss k:Int)!=(n:Int))=false:=by rw[RK];omega
    have ZW:Hid (∀i,i<k+1->bP xss i=n):=by intro i hi;by_cases e:i=k;{rw[e];exact he};{exact HA.out i oZ}
    clear he HA;go_wp2_with fail;go_roundw
    case rel=>exact⟨k+1,oZ,by go_num,by trivial,ZW⟩
    case measure=>simp[intOf];omega
   ·have WB:((bP xss k:Int)!=(n:Int))=true:=by rw[RZ];omega
    have HD:=Rb (Rl (show¬KT xss from fun h=>he (by have:=h k (by rw[HN.out];exact Vg);rw[HN.out]at this;exact this)));go_wp2_with fail;go_ret;exact⟨aF HD.out.symm,rfl⟩
  {obtain rfl:k=n:=oZ;have HD:=Rb (Rj (show KT xss from fun i hi=>by rw[HN.out]at hi⊢;exact HA.out i hi));go_wp2_with fail;go_ret;exact⟨aF HD.out.symm,rfl⟩}
def EM(x:Int):Bool:=decide (-1125899906842624<=x/\x<=1125899906842624)
theorem IF(x:Int)(w:World):Calls Tryz.prog 92 #[.int .i64 x] w fun e w'=>e= .returned (.bool (EM x))/\w=w':=by
 go_enter Tryz.func92,Tryz.ntmps92
 by_cases h1: -1125899906842624<=x;{by_cases h2:x<=1125899906842624;{have HD:Hid (EM x=true):=Rb (Rj (And.intro h1 h2));go_wp2_with fail;go_ret;exact⟨aF HD.out.symm,rfl⟩};{have HD:Hid (EM x=false):=Rb (Rl (show¬(-1125899906842624<=x/\x<=1125899906842624)from fun h=>h2 h.2));go_wp2_with fail;go_ret;exact⟨aF HD.out.symm,rfl⟩}};{have HD:Hid (EM x=false):=Rb (Rl (show¬(-1125899906842624<=x/\x<=1125899906842624)from fun h=>h1 h.1));go_wp2_with fail;go_ret;exact⟨aF HD.out.symm,rfl⟩}
theorem sW(h:AM w A n xss):Calls Tryz.prog 73 #[.slice A n cap] w fun e w'=>e= .returned (.bool (decide (EY xss)))/\w=w':=by
 have Y0:=h.nl;unfold maxLen at Y0;have HX:=Rb h;have HN:=Rb h.ln;clear h;go_enter Tryz.func73,Tryz.ntmps73
 go_wp2_with fail;go_loopw[9] (fun i' wr=>∃k:Nat,k<=n/\i'= .int .i64 k/\w=wr/\Hid (∀i,i<k->∀j,j<bP xss i->-1125899906842624<=eI xss i j/\eI xss i j<=1125899906842624)) (fun i _=>n-(intOf i).toNat)
 case atStart=>exact⟨0,Rv _,rfl,rfl,fun i hi=>by omega⟩
 case round=>
  obtain⟨k,hk,rfl,rfl,HA⟩:=hrel;by_cases Vg:k<n
  ·obtain⟨b,off,Ak,ck,rfl,c2,hri⟩:=HX.out.head Vg
   have HRI:=Rb hri;have hrm:bP xss k<=9223372036854775807:=by obtain⟨b',o',e',-,hc⟩:=HX.out.rd.at_ (k:=k) (by rw[HN.out];exact Vg);obtain⟨_,_,-,-,hm⟩:=hc k (by rw[HN.out];exact Vg);unfold maxLen at hm;unfold bP;omega
   obtain⟨r,hr⟩:∃r,bP xss k=r:=⟨_,rfl⟩
   rw[hr]at c2 hrm;have HR:=Rb hr;clear hr hri;go_wp2_with fail;go_loopw[15] (fun j' wr=>∃j:Nat,j<=r/\j'= .int .i64 j/\w=wr/\Hid (∀y,y<j->-1125899906842624<=eI xss k y/\eI xss k y<=1125899906842624)) (fun j _=>r-(intOf j).toNat)
   case atStart=>exact⟨0,Rv _,rfl,rfl,fun i hi=>by omega⟩
   case round=>
    obtain⟨j,hj,rfl,rfl,HJ⟩:=hrel;by_cases WH:j<r
    ·obtain⟨b2,o2,rfl,-,hc⟩:=HRI.out.at_ (k:=j) (by have:=HR.out;unfold bP at this;omega)
     have c3:=hc j (by have:=HR.out;unfold bP at this;omega);obtain⟨x,hx⟩:∃x,gi (xss.getD k []) j=x:=⟨_,rfl⟩
     have hxe:eI xss k j=x:=hx;rw[hx]at c3;have HF:=Rb (IF x w);clear hc hx;by_cases hf: -1125899906842624<=x/\x<=1125899906842624
     ·rw[show EM x=true from Rj hf]at HF
      have HJ':Hid (∀y,y<j+1->-1125899906842624<=eI xss k y/\eI xss k y<=1125899906842624):=Rb fun y hy=>by by_cases e:y=j;{rw[e,hxe];exact hf};{exact HJ.out y oZ}
      clear hf HJ hxe;go_wp2_with fail;refine HF.out.mono ?_;rintro e w1 ⟨rfl,rfl⟩;go_wp2_with fail;go_roundw
      case rel=>exact⟨j+1,oZ,by go_num,by trivial,HJ'⟩
      case measure=>simp[intOf];omega
     {rw[show EM x=false from Rl hf]at HF;have HD:=Rb (Rl (show¬EY xss from fun h=>hf (by have:=h k (by rw[HN.out];exact Vg) j (by rw[HR.out];exact WH);rw[hxe]at this;exact this)));clear hf HJ hxe;go_wp2_with fail;refine HF.out.mono ?_;rintro e w1 ⟨rfl,rfl⟩;go_wp2_with fail;go_ret;exact⟨aF HD.out.symm,rfl⟩}
    ·obtain rfl:j=r:=oZ
     have ZW:Hid (∀i,i<k+1->∀y,y<bP xss i->-1125899906842624<=eI xss i y/\eI xss i y<=1125899906842624):=Rb fun i hi y hy=>by by_cases e:i=k;{subst e;rw[HR.out]at hy;exact HJ.out y hy};{exact HA.out i oZ y hy}
     clear HA HJ;go_wp2_with fail;go_roundw
     case rel=>exact⟨k+1,oZ,by go_num,by trivial,ZW⟩
     case measure=>simp[intOf];omega
  {obtain rfl:k=n:=oZ;have HD:=Rb (Rj (show EY xss from fun i hi=>by rw[HN.out]at hi;exact HA.out i hi));go_wp2_with fail;go_ret;exact⟨aF HD.out.symm,rfl⟩}
end
structure xP(w0 wr:World)(n i:Nat)(bs cp:Nat->Nat)(f:Nat->Nat->Int)(Bi:Nat)(v:Value)(xs:List Int):Prop where
 hd:∀x,x<i->wr.cell? ⟨w0.heap.size,x,none⟩=some (.slice (some ⟨bs x,0,none⟩) n (cp x))
 h0:∀x,i<x->x<n->wr.cell? ⟨w0.heap.size,x,none⟩=some (.slice none 0 0)
 cu:i<n->wr.cell? ⟨w0.heap.size,i,none⟩=some v
 fz:∀x,x<n->wr.frozen? ⟨w0.heap.size,x,none⟩=false
 en:∀x y,x<i->y<n->wr.cell? ⟨bs x,y,none⟩=some (.int .i64 (f x y))
 os:∀x,x<i->w0.heap.size<bs x/\bs x<Bi
 ow:OI wr Bi v xs
 bi:w0.heap.size<Bi/\Bi<=wr.heap.size
 bel:Below w0.heap.size w0 wr
section
variable{w0 wr w':World}{n i:Nat}{bs cp:Nat->Nat}{f:Nat->Nat->Int}{Bi:Nat}{v:Value}{xs:List Int}
theorem xP.call(h:xP w0 wr n i bs cp f Bi v xs)(hb:Below wr.heap.size wr w'):xP w0 w' n i bs cp f Bi v xs:=by
 have hl:w0.heap.size<wr.heap.size:=RB h.bi.1 h.bi.2;have c:∀b o,b<wr.heap.size->w'.cell? ⟨b,o,none⟩=wr.cell? ⟨b,o,none⟩:=fun b o VF=>Ri (a:=⟨b,o,none⟩) (hb.block b VF)
 refine⟨fun x hx=>(c _ _ hl).trans (h.hd x hx),fun x hx hn=>(c _ _ hl).trans (h.h0 x hx hn),fun hi=>(c _ _ hl).trans (h.cu hi),fun x hx=>(Ro (a:=⟨w0.heap.size,x,none⟩) (hb.block _ hl)).trans (h.fz x hx),fun x y hx hy=>(c _ _ ?_).trans (h.en x y hx hy),h.os,h.ow.below hb (Rf _),⟨h.bi.1,RQ h.bi.2 hb.size⟩,h.bel.trans (hb.mono h.bel.size)⟩;have:=h.os x hx;have:=h.bi.2;omega
theorem xP.start(t:TypeId)(w0:World)(n:Nat)(f:Nat->Nat->Int):xP w0 (w0.alloc (.cells (Array.replicate n (Value.slice none 0 0)) t)) n 0 (fun _=>0) (fun _=>0) f (w0.heap.size+1) (.slice none 0 0) []:=by have hr:Array.replicate n (Value.slice none 0 0)=(List.replicate n (Value.slice none 0 0)).toArray:=oX;refine⟨fun x hx=>by omega,fun x _ hn=>by rw[hr];exact(cN hn).1,fun hi=>by rw[hr];exact(cN hi).1,fun x hx=>by rw[hr];exact(cN hx).2,fun x y hx=>by omega,fun x hx=>by omega,OR.nil _ _,⟨R9 _,oX⟩,(Rh _ _).alloc (Rf _) _⟩
theorem xP.push{v':Value}{ys:List Int}(h:xP w0 wr n i bs cp f Bi v xs)(_hi:i<n)(ho:OI w' Bi v' ys)(hg:wr.grownBy w' v.ownBlock):xP w0 (w'.setCell ⟨w0.heap.size,i,none⟩ v') n i bs cp f Bi v' ys:=by
 have hl:w0.heap.size<wr.heap.size:=RB h.bi.1 h.bi.2;have old:∀b,b<Bi->w'.heap[b]?=wr.heap[b]?:=fun b hb=>hg.block b (by have:=h.bi.2;omega) (fun e=>by have:=(h.ow.lt b e.symm).1;omega)
 have c:∀b o,b<Bi->w'.cell? ⟨b,o,none⟩=wr.cell? ⟨b,o,none⟩:=fun b o hb=>Ri (a:=⟨b,o,none⟩) (old b hb)
 refine⟨fun x hx=>?_,fun x hx hn=>?_,fun hi=>?_,fun x hx=>?_,fun x y hx hy=>?_,h.os,?_,⟨h.bi.1,?_⟩,?_⟩;{rw[iP oZ,c _ _ h.bi.1];exact h.hd x hx};{rw[iP oZ,c _ _ h.bi.1];exact h.h0 x hx hn};{exact bV ((c _ _ h.bi.1).trans (h.cu hi))};{rw[Rp];exact(Ro (a:=⟨w0.heap.size,x,none⟩) (old _ h.bi.1)).trans (h.fz x hx)};{obtain⟨h1,h2⟩:=h.os x hx;rw[aJ oZ,c _ _ h2];exact h.en x y hx hy};{exact ho.ak fun g V8=>Rn _ _ _ _ (by have:=(ho.lt g V8).1;have:=h.bi.1;show g≠w0.heap.size;omega)};{rw[RS];have:=h.bi.2;have:=hg.size;omega};{exact(h.bel.grown hg oZ fun k hk=>by have:=(h.ow.lt k hk).1;have:=h.bi.1;omega).setCell (Rf _) _}
theorem xP.Q6(h:xP w0 wr n i bs cp f Bi v xs)(hi:i<n)(hg:wr.grownBy w' v.ownBlock):w'.cell? ⟨w0.heap.size,i,none⟩=some v/\w'.frozen? ⟨w0.heap.size,i,none⟩=false:=by have old:w'.heap[w0.heap.size]?=wr.heap[w0.heap.size]?:=hg.block _ (by have:=h.bi;omega) (fun e=>by have:=(h.ow.lt _ e.symm).1;have:=h.bi.1;omega);exact⟨(Ri (a:=⟨w0.heap.size,i,none⟩) old).trans (h.cu hi),(Ro (a:=⟨w0.heap.size,i,none⟩) old).trans (h.fz i hi)⟩
theorem xP.next(h:xP w0 wr n i bs cp f Bi v xs)(hi:i<n)(hl:xs.length=n)(he:∀y,y<n->gi xs y=f i y):∃Zj cp',xP w0 wr n (i+1) Zj cp' f wr.heap.size (.slice none 0 0) []:=by obtain⟨g,c,e,g1,g2,-,-,g3,-⟩:=OR.ints h.ow oZ;subst e;have VK:=h.cu hi;refine⟨up bs i g,up cp i c,fun x hx=>?_,fun x hx hn=>h.h0 x oZ hn,fun hi2=>h.h0 _ (R9 _) hi2,h.fz,fun x y hx hy=>?_,fun x hx=>?_,OR.nil _ _,⟨by have:=h.bi;omega,Rf _⟩,h.bel⟩;{unfold up;by_cases e:x=i;{subst e;rw[Re rfl,Re rfl,<-hl];exact VK};{rw[Rc e,Rc e];exact h.hd x oZ}};{unfold up;by_cases e:x=i;{subst e;rw[Re rfl,<-he y hy];exact g3 y oZ};{rw[Rc e];exact h.en x y oZ hy}};{unfold up;by_cases e:x=i;{rw[Re e];have:=h.bi.1;omega};{rw[Rc e];have:=h.os x oZ;have:=h.bi.2;omega}}
theorem xP.am(h:xP w0 wr n n bs cp f Bi v xs)(hn:n<=maxLen)(hf:∀i j,i<n->j<n->-9223372036854775808<=f i j/\f i j<=9223372036854775807):AM wr (some ⟨w0.heap.size,0,none⟩) n (zL n n f):=by
 refine⟨fun _=>⟨w0.heap.size,0,rfl,RB h.bi.1 h.bi.2,fun k hk=>?_⟩,dQ _ _ _,hn,fun i j hi hj=>?_⟩
 ·rw[dQ]at hk
  rw[rG hk];refine⟨some ⟨bs k,0,none⟩,cp k,by rw[Sr];simpa using h.hd k hk,fun _=>⟨bs k,0,rfl,by have:=h.os k hk;have:=h.bi.2;show bs k<_;omega,fun j hj=>?_⟩,by simpa using hn⟩;have YP:j<n:=by simpa using hj
  rw[Sr,h.en k j hk YP,fP hj];simp
 {rw[gX hi]at hj;rw[iJ hi hj];exact hf i j hi hj}
end
def EP(xss:List (List Int)):List (List Int):=zL xss.length xss.length fun i j=>eI xss i j+eI xss j i
def vM(xss:List (List Int)):Nat:=if KT xss then if EY xss then if EY (EP xss)then 0 else 9 else 9 else 1
def BQ(xss:List (List Int)):List (List Int):=if vM xss=0 then EP xss else[]
theorem BC{xss:List (List Int)}(h:vM xss≠0):BQ xss=[]:=by unfold BQ;rw[Rc h]
theorem qJ{w:World}{A:Option Addr}{n cap:Nat}{xss:List (List Int)}(h:AM w A n xss)(hn:n<=1000000):
  Calls Tryz.prog 36 #[.slice A n cap] w fun e w'=>∃A' n' c',e= .returned (.tuple #[.slice A' n' c',.int .i64 (vM xss:Nat)])/\AM w' A' n' (BQ xss)/\Below w.heap.size w w':=by
 have HX:=Rb h;have HN:=Rb h.ln;have HSQ:=Rb (z_ (cap:=cap) h);have HSM:=Rb (sW (cap:=cap) h);clear h;go_enter Tryz.func36,Tryz.ntmps36
 go_wp2_with fail;refine HSQ.out.mono ?_;rintro e w1 ⟨rfl,rfl⟩;by_cases hq:KT xss
 ·rw[Rj hq]
  go_wp2_with fail;refine HSM.out.mono ?_;rintro e w1 ⟨rfl,rfl⟩;by_cases hs:EY xss
  ·rw[Rj hs]
   have WW:Hid (∀i,i<n->bP xss i=n):=Rb fun i hi=>by have:=hq i (by rw[HN.out];exact hi);rw[HN.out]at this;exact this
   have HRG:Hid (∀i j,i<n->j<n->-1125899906842624<=eI xss i j/\eI xss i j<=1125899906842624):=Rb fun i j hi hj=>hs i (by rw[HN.out];exact hi) j (by rw[WW.out i hi];exact hj)
   have HE:Hid (vM xss=if EY (EP xss)then 0 else 9):=Rb (by unfold vM;rw[Re hq,Re hs]);have WY:=k_ n oZ;have H0:=Rb (xP.start 22 w n fun i j=>eI xss i j+eI xss j i);clear hq hs HSQ HSM;go_wp2_with fail;clear WY;go_loopw[18] (fun i' wr=>∃(i:Nat)(bs cp:Nat->Nat)(Bi:Nat),i<=n/\i'= .int .i64 i/\Hid (xP w wr n i bs cp (fun i j=>eI xss i j+eI xss j i) Bi (.slice none 0 0) [])) (fun i _=>n-(intOf i).toNat)
   case atStart=>exact⟨0,_,_,_,Rv _,rfl,H0⟩
   case round=>
    clear H0;obtain⟨i,bs,cp,Bi,hi,rfl,HU⟩:=hrel;by_cases hlti:i<n
    ·have HU0:Hid (xP w wr n i bs cp (fun i j=>eI xss i j+eI xss j i) Bi (.slice none 0 0) ((List.range 0).map fun j=>eI xss i j+eI xss j i)):=HU
     clear HU;go_wp2_with fail;go_loopw[23] (fun k' wq=>∃(k:Nat)(v:Value),k<=n/\k'= .int .i64 k/\Hid (xP w wq n i bs cp (fun i j=>eI xss i j+eI xss j i) Bi v ((List.range k).map fun j=>eI xss i j+eI xss j i))) (fun k _=>n-(intOf k).toNat)
     case atStart=>exact⟨0,_,Rv _,rfl,HU0⟩
     case round=>
      clear HU0;obtain⟨k,v,hk,rfl,HU⟩:=hrel;by_cases hltk:k<n
      ·have HXr:=Rb (HX.out.call HU.out.bel)
       obtain⟨b1,o1,Ai,ci,rfl,c1,hri⟩:=HXr.out.head hlti;obtain⟨b2,o2,Ak,ck,e2,c2,Ys⟩:=HXr.out.head hltk;injection e2 with e2
       injection e2 with e2 e3 _
       subst e2 e3;rw[WW.out i hlti]at c1;rw[WW.out k hltk]at c2;obtain⟨b3,o3,rfl,Vt,hc3⟩:=hri.at_ (k:=k) (by have:=WW.out i hlti;unfold bP at this;omega);have c3:=hc3 k (by have:=WW.out i hlti;unfold bP at this;omega);obtain⟨b4,o4,rfl,Wp,XJ⟩:=Ys.at_ (k:=i) (by have:=WW.out k hltk;unfold bP at this;omega);have c4:=XJ i (by have:=WW.out k hltk;unfold bP at this;omega);have Vi:b1<wr.heap.size:=RX _ _ c1;obtain⟨x,hx⟩:∃x,gi (xss.getD i []) k=x:=⟨_,rfl⟩
       obtain⟨y,hy⟩:∃y,gi (xss.getD k []) i=y:=⟨_,rfl⟩
       have hxe:eI xss i k=x:=hx;have hye:eI xss k i=y:=hy;rw[hx]at c3;rw[hy]at c4;have r1:=HRG.out i k hlti hltk;have r2:=HRG.out k i hltk hlti;rw[hxe]at r1;rw[hye]at r2;have wxy:IntKind.i64.wrap (x+y)=x+y:=by rw[Sg];omega
       have c5:=HU.out.cu hlti;have f5:=HU.out.fz i hlti;have s5:w.heap.size<wr.heap.size:=RB HU.out.bi.1 HU.out.bi.2;obtain⟨A5,k5,WK,-,-,-⟩:=HU.out.ow.shape;rw[Sa,SW]at WK;subst WK;have XK:Hid (((List.range k).map fun j=>eI xss i j+eI xss j i).length<1099511627776):=Rb (by rw[Sa,SW];omega);have HXS:Hid (((List.range k).map fun j=>eI xss i j+eI xss j i)++[x+y]=(List.range (k+1)).map fun j=>eI xss i j+eI xss j i):=Rb (by rw[Sk,SB,<-hxe,<-hye];rfl);obtain⟨xs,hxs⟩:∃xs,((List.range k).map fun j=>eI xss i j+eI xss j i)=xs:=⟨_,rfl⟩
       have HUd:=Rb (HU.out.call (Rh _ _).drew);rw[hxs]at HUd XK HXS;clear hx hy hxe hye r1 r2 hri Ys hc3 XJ HXr hxs HU;go_upto_region 12 with fail
       apply share
       case h=>
        intro key
        go_region_law((refine oI (w:=wr.drew) fU rfl oQ rfl HUd.out.ow XK.out HUd.out.bi.2 rfl rfl Tryz.underlying22 rfl rfl ?_;intro v6 w6 YD Zf Ym;obtain⟨c6,f6⟩:=(HUd.out.call ((Rh _ _).alloc (Rf _) _)).Q6 hlti Zf;have Zg:=Rb ((HUd.out.call ((Rh _ _).alloc (Rf _) _)).push hlti YD Zf);obtain⟨A6,k6,Wq,-,-,-⟩:=YD.shape;clear YD Zf Ym;(generalize List.length _=n6 at Wq);subst Wq))
        all_goals
         rw[HXS.out]at Zg;generalize w6.setCell ⟨w.heap.size,i,none⟩ (.slice A6 n6 k6)=w7 at Zg⊢;clear c6 f6;clear w6;revert w7 A6 n6 k6;exact key
       case g=>
        intro w7 A6 n6 k6 Zg;have HP6:=Rb Zg;clear Zg c1 c2 c3 c4 c5 f5 s5 Vi Vt Wp wxy HUd HXS XK;go_wp2_with fail;go_roundw
        case rel=>exact⟨k+1,_,oZ,by go_num,HP6.out⟩
        case measure=>simp[intOf];omega
      ·obtain rfl:k=n:=oZ
       obtain⟨Zj,cp',X5⟩:=HU.out.next hlti oX (fun y hy=>by rw[fP (by simpa using hy)];simp);have HNX:=Rb X5;clear HU X5;go_wp2_with fail;go_roundw
       case rel=>exact⟨i+1,Zj,cp',_,oZ,by go_num,HNX⟩
       case measure=>simp[intOf];omega
    ·obtain rfl:i=n:=oZ
     have ham:=HU.out.am (by unfold maxLen;omega) fun a b ha hb=>by have:=HRG.out a b ha hb;have:=HRG.out b a hb ha;omega
     have e0:EP xss=zL i i fun a b=>eI xss a b+eI xss b a:=by unfold EP;rw[HN.out]
     rw[<-e0]at ham;have HAM:=Rb ham;have HBW:=Rb HU.out.bel;have HSM:=Rb (sW (cap:=i) ham);clear HU ham e0;go_wp2_with fail;refine HSM.out.mono ?_;rintro e w1 ⟨rfl,rfl⟩;by_cases hs:EY (EP xss);{have Xq:Hid (vM xss=0):=Rb (by rw[HE.out,Re hs]);rw[Rj hs];go_wp2_with fail;go_ret2;exact⟨_,_,_,by rw[Xq.out];rfl,by unfold BQ;rw[Re Xq.out];exact HAM.out,HBW.out⟩};{have Xq:Hid (vM xss=9):=Rb (by rw[HE.out,Rc hs]);rw[Rl hs];go_wp2_with fail;go_ret2;exact⟨_,_,_,by rw[Xq.out];rfl,by rw[BC (by rw[Xq.out];decide)];exact AM.FL _,HBW.out⟩}
  {have HE:Hid (vM xss=9):=Rb (by unfold vM;rw[Re hq,Rc hs]);rw[Rl hs];go_wp2_with fail;go_ret2;exact⟨_,_,_,by rw[HE.out];rfl,by rw[BC (by rw[HE.out];decide)];exact AM.FL _,Rh _ _⟩}
 {have HE:Hid (vM xss=1):=Rb (by unfold vM;rw[Rc hq]);rw[Rl hq];go_wp2_with fail;go_ret2;exact⟨_,_,_,by rw[HE.out];rfl,by rw[BC (by rw[HE.out];decide)];exact AM.FL _,Rh _ _⟩}
end Go.Proofs.YtdbhigmklejicaaGreat
