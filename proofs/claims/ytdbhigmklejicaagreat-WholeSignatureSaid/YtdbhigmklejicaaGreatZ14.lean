import Derived.Test.YtdbhigmklejicaaGreatZ13
import Derived.Laws.Externs
namespace Go.Proofs.YtdbhigmklejicaaGreat
set_option maxHeartbeats 16000000
set_option maxRecDepth 100000
def iq(gone:List Int):Nat->Nat
 |0=>0
 |k+1=>iq gone k+if((k:Nat):Int)∈gone then 0 else 1
theorem DW(gone:List Int){a b:Nat}(h:a<=b):iq gone a<=iq gone b:=by
 induction b with
 |zero=>obtain rfl:a=0:=oZ;exact Rf _
 |succ b ih=>by_cases e:a=b+1;{rw[e];exact Rf _};{have:=ih oZ;show _<=iq gone b+_;omega}
theorem Dt(gone:List Int){a b:Nat}(h:a<b)(ha:((a:Nat):Int)∉gone):iq gone a<iq gone b:=by
 have h1:=DW gone (a:=a+1) (b:=b) oZ;have h2:iq gone (a+1)=iq gone a+1:=by show iq gone a+_=_;rw[Rc ha]
 omega
theorem gR(gone sg:List Int):∀k,(dV gone sg k).length=iq gone k
 |0=>rfl
 |k+1=>by show(dV gone sg k++_).length=iq gone k+_;rw[Rz,gR gone sg k];split<;>rfl
theorem lQ(gone mt:List Int):∀k,(dP gone mt k).length=4*iq gone k
 |0=>rfl
 |k+1=>by show(dP gone mt k++_).length=4*(iq gone k+_);rw[Rz,lQ gone mt k];split;{simp};{rw[yo];omega}
theorem yv{gone sg:List Int}{c:Nat}(hc:((c:Nat):Int)∉gone):∀n,c<n->gi (dV gone sg n) (iq gone c)=gi sg c
 |0,h=>absurd h (RG _)
 |n+1,h=>by show gi (dV gone sg n++_) _=_;by_cases e:c=n;{subst e;rw[Rc hc];have:=gE (xs:=dV gone sg c) (ys:=[gi sg c]) 0;rw[gR]at this;exact this};{rw[cZ (by rw[gR];exact Dt gone oZ hc)];exact yv hc n oZ}
theorem MO{gone mt:List Int}{c j i:Nat}(hi:i<j):gi (yQ gone mt c j) i=((AK gone (gn mt (4*c+i)):Nat):Int):=by unfold yQ;rw[fW (by simpa using hi)];simp
theorem Dj{gone mt:List Int}{c:Nat}(hc:((c:Nat):Int)∉gone){i:Nat}(hi:i<4):∀n,c<n->gi (dP gone mt n) (4*iq gone c+i)=((AK gone (gn mt (4*c+i)):Nat):Int)
 |0,h=>absurd h (RG _)
 |n+1,h=>by show gi (dP gone mt n++_) _=_;by_cases e:c=n;{subst e;rw[Rc hc];have:=gE (xs:=dP gone mt c) (ys:=yQ gone mt c 4) i;rw[lQ]at this;rw[this,MO hi]};{rw[cZ (by rw[lQ];have:=Dt gone (show c<n by omega) hc;omega)];exact Dj hc hi n oZ}
theorem CQ{gone mt:List Int}{c n i:Nat}(hc:((c:Nat):Int)∉gone)(hi:i<4)(hn:c<n):gn (dP gone mt n) (4*iq gone c+i)=AK gone (gn mt (4*c+i)):=by unfold gn;rw[Dj hc hi n hn];rfl
theorem rX{g:Nat}:∀k,iq [(g:Int)] k=if g<k then k-1 else k
 |0=>by rw[Rc oZ];rfl
 |k+1=>by show iq [(g:Int)] k+_=_;rw[rX k];by_cases e:k=g;{subst e;rw[Rc oZ,Re oX,Re oZ];omega};{rw[Rc (show¬(k:Int)∈[(g:Int)] by simp;omega)];by_cases h:g<k;{rw[Re h,Re oZ];omega};{rw[Rc h,Rc oZ]}}
theorem Jf(g h:Nat):AK [(g:Int)] h=oH g h:=by unfold AK oH;by_cases e:g<h/4;{rw[Sw qj,Re e];rfl};{rw[Sx qj,Rc e];rfl}
theorem Fy{sg mt:List Int}{L:Int}(hd:cJ sg mt L){o:Nat}(ho:o<mt.length)(oo:ai sg o=true)(hk:gn mt o/4=o/4):
  ∃o':Nat,o'/4=o/4/\gn mt o'=ae o' 1/\gi sg (o/4)=eta o'/\((ae o' 2=ae o 2/\ae o' 3=ae (gn mt o) 2)\/(ae o' 3=ae o 2/\ae o' 2=ae (gn mt o) 2)):=by
 obtain⟨K,hK⟩:=xo hd;have h2:mt.length=4*sg.length:=hd.2.1;obtain⟨-,g1,g2,g3⟩:=hd.2.2.2.2.2.1.gn ho;have hout:=hd.2.2.2.2.2.2.1 o ho;rw[oo]at hout;have Vn:ai sg (gn mt o)=false:=by revert hout;cases ai sg (gn mt o)<;>simp
 obtain⟨c1,-,-⟩:=fI hd hK ho;have a1:=hK.alt o (Rm.2 oZ);have a2:=hK.alt (ae o 1) (by rw[af];exact Rm.2 oZ);rw[ar,a1]at a2;have hs:gi sg (o/4)=1\/gi sg (o/4)= -1:=hd.2.2.2.2.1 _ oZ;have ne2:gn mt o≠ae o 2:=by intro e;rw[e,show ae o 2=ae o (1+1)from rfl,a2]at c1;revert c1;cases K o<;>simp
 have four:gn mt o=ae o 1\/gn mt o=ae o 3:=by
  rcases aw (o:=o) (h:=gn mt o) hk with e|e|e|e
  {exact absurd e g2};{exact .inl e};{exact absurd e ne2};{exact .inr e}
 have e31:ae (ae o 3) 1=o:=by rw[ar,bC]
 have e32:ae (ae o 3) 2=ae o 1:=by rw[ar,show 3+2=1+4 from rfl,bF]
 have e33:ae (ae o 3) 3=ae o 2:=by rw[ar,show 3+3=2+4 from rfl,bF]
 have jG:ai sg o=true->ai sg (ae o 1)=false->gi sg (o/4)=eta o:=by intro x y;unfold ai at x y;rw[af,fH]at y;have:o%4=0\/o%4=1\/o%4=2\/o%4=3:=oZ;unfold eta;rcases this with m|m|m|m<;>rcases hs with s|s<;>rw[m,s]at x y<;>simp at x y<;>rw[s]<;>first|rw[Re oZ]|rw[Rc oZ]
 have sg3:ai sg o=true->ai sg (ae o 3)=false->gi sg (o/4)=eta (ae o 3):=by intro x y;unfold ai at x y;rw[af,fH]at y;have:o%4=0\/o%4=1\/o%4=2\/o%4=3:=oZ;have hp:=bQ o 3;unfold eta;rcases this with m|m|m|m<;>rcases hs with s|s<;>rw[m,s]at x y<;>simp at x y<;>rw[s]<;>first|rw[Re oZ]|rw[Rc oZ]
 rcases four with e|e
 {refine⟨o,rfl,e,jG oo (by rw[<-e];exact Vn),.inl ⟨rfl,?_⟩⟩;rw[e,ar]};{refine⟨ae o 3,af _ _,?_,sg3 oo (by rw[<-e];exact Vn),.inr ⟨e33,?_⟩⟩;{rw[<-e,g3,e,e31]};{rw[e]}}
theorem L6{sg mt:List Int}(hd:cJ sg mt 0){c o:Nat}(hc:c<sg.length)(hk:iP sg mt c=some o)(hL:oO mt (ae o 2) (ae (gn mt o) 2)=0):
  ∃o',MP sg (dV [(c:Int)] sg sg.length) mt (dP [(c:Int)] (gS mt (ae o 2) (ae (gn mt o) 2)) sg.length) o':=by
 obtain⟨k1,k2,k3⟩:=tT hk;have h2:mt.length=4*sg.length:=hd.2.1;have hI:=hd.2.2.2.2.2.1;have ho:o<mt.length:=oZ;obtain⟨o',q1,q2,q3,q4⟩:=Fy hd ho k2 (by rw[k3,k1]);have Ze:o'<mt.length:=oZ;have t2:ae o 2<mt.length:=by have:=af o 2;omega
 have t3:ae (gn mt o) 2<mt.length:=by have:=af (gn mt o) 2;omega
 obtain⟨a0,a1,a2,a3⟩:=hI.gn t2;obtain⟨b0,b1,b2,b3⟩:=hI.gn t3;have Vh:gn mt (ae o 2)≠ae (gn mt o) 2:=by intro e;unfold oO at hL;rw[Re (by rw[a0,e])]at hL;omega
 have Vo:gS mt (ae o 2) (ae (gn mt o) 2)=bH mt (gn mt (ae o 2)) (gn mt (ae (gn mt o) 2)):=by unfold gS;rw[Rc (by rw[a0];omega)]
 have hab:ae o 2≠ae (gn mt o) 2:=by
  rcases q4 with⟨x,y⟩|⟨x,y⟩
  {rw[<-x,<-y];exact aB oQ oQ oQ};{rw[<-x,<-y];exact aB oQ oQ oQ}
 have hng:∀k:Nat,k≠c->((k:Nat):Int)∉[(c:Int)]:=fun k hkc=>by simp;omega
 have Xg:∀k:Nat,iq [(c:Int)] k=ts c k:=fun k=>by rw[rX];rfl
 refine⟨o',Ze,?_,q2,?_,?_,?_,?_⟩;{rw[gR,rX,Re hc];omega}
 ·rcases q4 with⟨x,y⟩|⟨x,y⟩
  {rw[x,y];exact Vh};{rw[x,y];intro e;exact Vh (by rw[<-e,b3])}
 ·intro h hh hhc
  rw[q1,k1]at hhc⊢;have e1:oH c h=4*iq [(c:Int)] (h/4)+h%4:=by rw[Xg];unfold oH ts;split<;>omega
  rw[e1,CQ (hng _ hhc) oZ oZ,Jf,show 4*(h/4)+h%4=h by omega,Vo,bO a1 b1];congr 1;unfold fh;have huv:gn mt (ae o 2)≠gn mt (ae (gn mt o) 2):=fun e=>hab (dX hI t2 t3 e)
  rcases q4 with⟨x,y⟩|⟨x,y⟩
  {rw[x,y];by_cases u:h=gn mt (ae o 2);{rw[Rc (by rw[u];exact huv),Re u,Re u]};{rw[Rc u,Rc u]}};{rw[x,y]}
 {intro k hk hkc;rw[q1,k1]at hkc⊢;rw[<-Xg];exact yv (hng _ hkc) _ hk};{rw[q1];exact q3}
def mE(g k h:Nat):Nat:=oH g (oH k h)
def u_(g k h:Nat):Nat:=AJ k (AJ g h)
def z_(g k c:Nat):Nat:=ts g (ts k c)
theorem GI{g k h:Nat}(Wv:g<k)(_:h/4≠g)(_:h/4≠k):mE g k h=if k<h/4 then h-8 else if g<h/4 then h-4 else h:=by unfold mE oH;by_cases e:k<h/4;{rw[Re e,Re e,Re oZ];omega};{rw[Rc e,Rc e]}
theorem lP{g k c:Nat}(Wv:g<k)(_:c≠g)(_:c≠k):z_ g k c=if k<c then c-2 else if g<c then c-1 else c:=by unfold z_ ts;by_cases e:k<c;{rw[Re e,Re e,Re oZ];omega};{rw[Rc e,Rc e]}
theorem rM{g k h:Nat}:mE g k h/4=z_ g k (h/4):=by unfold mE z_;rw[rH,rH]
theorem iT(g k h i:Nat):mE g k (ae h i)=ae (mE g k h) i:=by unfold mE;rw[lL,lL]
theorem Du{g k h:Nat}(Wv:g<k)(h1:h/4≠g)(h2:h/4≠k):u_ g k (mE g k h)=h:=by unfold u_ mE;rw[jh (by rw[rH];unfold ts;split<;>omega),jh h2]
theorem Dw{g k c d:Nat}(Wv:g<k)(hc:c≠g)(XX:c≠k)(hd:d≠g)(Xe:d≠k)(e:z_ g k c=z_ g k d):c=d:=by rw[lP Wv hc XX,lP Wv hd Xe]at e;split at e<;>split at e<;>(try split at e)<;>(try split at e)<;>omega
theorem Jk(g k h:Nat):mE g k h%2=h%2:=by unfold mE;rw[xr,xr]
abbrev aY(n g k:Nat):List Nat:=(List.range n).filter fun c=>decide (c≠g)&&decide (c≠k)
theorem dC{n g k c:Nat}:c∈aY n g k↔c<n/\c≠g/\c≠k:=by rw[R3,Rm];simp
theorem tf{n g k:Nat}(Wv:g<k)(hk:k<n):((aY n g k).map (z_ g k)).Perm (List.range (n-2)):=by
 have Yz:((aY n g k).map (z_ g k)).Nodup:=by
  rw[List.Nodup,Tq];refine((SD (n:=n)).filter _).imp_of_mem fun{a b} ha hb hab e=>?_
  have a1:=dC.1 ha;have b1:=dC.1 hb;exact hab (Dw Wv a1.2.1 a1.2.2 b1.2.1 b1.2.2 e)
 refine(SJ Yz SD).2 fun y=>?_
 rw[So,Rm];constructor;{rintro⟨c,hc,rfl⟩;have:=dC.1 hc;rw[lP Wv this.2.1 this.2.2];split;{omega};{split<;>omega}};{intro hy;by_cases e1:y<g;{exact⟨y,dC.2 oZ,by rw[lP Wv oZ oZ,Rc oZ,Rc oZ]⟩};{by_cases e2:y+1<k;{exact⟨y+1,dC.2 oZ,by rw[lP Wv oZ oZ,Rc oZ,Re oZ];omega⟩};{exact⟨y+2,dC.2 oZ,by rw[lP Wv oZ oZ,Re oZ];omega⟩}}}
theorem G'{n g k:Nat}(Wv:g<k)(hk:k<n){K:Nat->Bool}{m m':Nat->Nat}{s s':Nat->Int}(halt:∀h,h/4∈aY n g k->K (ae h 1)= !K h)(Y2:∀h,h/4∈aY n g k->K (ae (m h) 3)=K h)
  (hm:∀h,h/4∈aY n g k->m' (mE g k h)=mE g k (m h)/\m h/4∈aY n g k)(hs:∀c∈aY n g k,s' (z_ g k c)=s c):
  EK (List.range (n-2)) (fun z=>K (u_ g k z)) m'/\∀t,fJ (aY n g k) K m s t->fJ (List.range (n-2)) (fun z=>K (u_ g k z)) m' s' t:=by
 have un:∀h,h/4∈aY n g k->u_ g k (mE g k h)=h:=fun h hh=>by have:=dC.1 hh;exact Du Wv this.2.1 this.2.2
 have H:yS (aY n g k) K (fun z=>K (u_ g k z)) m m' (z_ g k) (mE g k) 1:=by refine⟨fun c hc d hd e=>?_,fun h _=>rM,fun h i _=>iT g k h i,fun h hh=>(hm h hh).1,fun h hh=>(hm h hh).2,fun h hh=>?_,fun h _=>?_,halt⟩;{have a1:=dC.1 hc;have b1:=dC.1 hd;exact Dw Wv a1.2.1 a1.2.2 b1.2.1 b1.2.2 e};{show K (u_ g k (mE g k h))=K h;rw[un h hh]};{unfold eta;rw[Jk];omega}
 have hp:=tf Wv hk;refine⟨⟨fun z hz=>?_,fun z hz=>?_⟩,fun t ht=>?_⟩;{obtain⟨h,hh,rfl⟩:=H.nI (z:=z) (hp.mem_iff.2 hz);show K (u_ g k (ae (mE g k h) 1))= !K (u_ g k (mE g k h));rw[<-iT,un _ (by rw[af];exact hh),un h hh];exact halt h hh};{obtain⟨h,hh,rfl⟩:=H.nI (z:=z) (hp.mem_iff.2 hz);obtain⟨e1,e2⟩:=hm h hh;show K (u_ g k (ae (m' (mE g k h)) 3))=K (u_ g k (mE g k h));rw[e1,<-iT,un _ (by rw[af];exact e2),un h hh];exact Y2 h hh}
 ·have:=H.sg (s:=s) (s':=s') (.inl rfl) (fun c hc=>by
   unfold cT;rw[hs c hc,SH];have h4:4*c/4∈aY n g k:=by rw[show 4*c/4=c by omega];exact hc
   have e:K (u_ g k (4*z_ g k c))=K (4*c):=by
    have hr:=dC.1 hc;have:4*z_ g k c=mE g k (4*c):=by rw[GI Wv oZ oZ,lP Wv hr.2.1 hr.2.2,show 4*c/4=c by omega];split;{omega};{split<;>omega}
    rw[this,un _ h4]
   show(if s c=1 then(if K (u_ g k (4*z_ g k c))=true then 1 else 0)else if K (u_ g k (4*z_ g k c))=true then 0 else-1)=_;rw[e]) ht
  rw[SH]at this;exact this.perm hp
def uK(mt:List Int)(p q:Nat):Nat->Nat:=fh (gn mt) (gn mt (ae p 2)) (gn mt q)
def mC(mt:List Int)(p q:Nat):Nat->Nat:=fh (uK mt p q) (uK mt p q (ae p 3)) (uK mt p q (ae q 3))
structure uq(sg sg' mt mt':List Int)(L':Int)(p q:Nat):Prop where
 hp:p<mt.length
 hq:q<mt.length
 hPQ:p/4≠q/4
 par:p%2=q%2
 nn:gn mt (ae p 1)=ae q 1
 ew:gn mt p=ae q 2
 ne1:gn mt (ae p 2)≠q
 ne2:uK mt p q (ae p 3)≠ae q 3
 ls:sg'.length+2=sg.length
 tab:∀h,h<mt.length->h/4≠p/4->h/4≠q/4->gn mt' (mE (min (p/4) (q/4)) (max (p/4) (q/4)) h)=mE (min (p/4) (q/4)) (max (p/4) (q/4)) (mC mt p q h)
 so:∀c,c<sg.length->c≠p/4->c≠q/4->gi sg' (z_ (min (p/4) (q/4)) (max (p/4) (q/4)) c)=gi sg c
 y:cJ sg' mt' L'
 one:av mt' sg'.length sg'.length=1
theorem DV{sg mt:List Int}{L:Int}(hd:cJ sg mt L){p q:Nat}(hp:p<mt.length)(hq:q<mt.length)(par:p%2=q%2)(nn:gn mt (ae p 1)=ae q 1)(ew:gn mt p=ae q 2):(gi sg (p/4)=1/\gi sg (q/4)= -1)\/(gi sg (p/4)= -1/\gi sg (q/4)=1):=by have hn:=hd.2.1;have hs:=hd.2.2.2.2.1;have sp:=hs (p/4) oZ;have sq:=hs (q/4) oZ;have d1:=af p 1;have e1:=af q 1;have e2:=af q 2;have o1:=hd.2.2.2.2.2.2.1 p hp;have o2:=hd.2.2.2.2.2.2.1 (ae p 1) oZ;rw[ew]at o1;rw[nn]at o2;unfold ai at o1 o2;rw[e2,fH]at o1;rw[d1,e1,fH,fH]at o2;have hp4:p%4=0\/p%4=1\/p%4=2\/p%4=3:=oZ;have hq4:q%4=0\/q%4=1\/q%4=2\/q%4=3:=oZ;rcases hp4 with c1|c1|c1|c1<;>rcases hq4 with c2|c2|c2|c2<;>(first|(exfalso;omega)|skip)<;>rw[c1,c2]at o1 o2<;>rcases sp with s1|s1<;>rcases sq with s2|s2<;>rw[s1,s2]at o1 o2⊢<;>simp at o1 o2⊢
section
variable{sg sg' mt mt':List Int}{p q:Nat}{L L':Int}(hd:cJ sg mt L)(h:uq sg sg' mt mt' L' p q)
include hd h
theorem uq.facts:gn mt (ae q 1)=ae p 1/\gn mt (ae q 2)=p/\p/4<sg.length/\q/4<sg.length:=by have hI:=hd.2.2.2.2.2.1;have hn:=hd.2.1;have hp:=h.hp;have hq:=h.hq;have a:=(hI.gn hp).2.2.2;have b:=(hI.gn (show ae p 1<mt.length by have:=af p 1;omega)).2.2.2;rw[h.ew]at a;rw[h.nn]at b;exact⟨b,a,oZ,oZ⟩
end
section
variable{sg sg' mt mt':List Int}{p q:Nat}{L L':Int}(hd:cJ sg mt L)(h:uq sg sg' mt mt' L' p q)
include hd h
theorem uq.gk:min (p/4) (q/4)<max (p/4) (q/4)/\max (p/4) (q/4)<sg.length:=by obtain⟨-,-,f3,f4⟩:=h.facts hd;have:=h.hPQ;omega
omit hd in
theorem uq.mem{c:Nat}:c∈aY sg.length (min (p/4) (q/4)) (max (p/4) (q/4))↔c<sg.length/\c≠p/4/\c≠q/4:=by rw[dC];have:=h.hPQ;omega
theorem uq.perm:(List.range sg.length).Perm (p/4::q/4::aY sg.length (min (p/4) (q/4)) (max (p/4) (q/4))):=by
 obtain⟨-,-,f3,f4⟩:=h.facts hd;have hPQ:=h.hPQ;refine(SJ SD (SC.2 ⟨fun hh=>?_,SC.2 ⟨fun hh=>?_,SD.filter _⟩⟩)).2 fun c=>?_
 ·rcases RV.1 hh with e|e
  {exact hPQ e};{exact(h.mem.1 e).2.1 rfl}
 {exact(h.mem.1 hh).2.2 rfl};{rw[Rm,RV,RV,h.mem];omega}
theorem uq.NH{K:Nat->Bool}(hK:cA sg mt K):uo (aY sg.length (min (p/4) (q/4)) (max (p/4) (q/4))) K (gn mt) (mC mt p q) (gi sg) p q:=by obtain⟨f1,f2,f3,f4⟩:=h.facts hd;have hn:=hd.2.1;have VM:=h.perm hd;refine⟨fun hh=>(h.mem.1 hh).2.1 rfl,fun hh=>(h.mem.1 hh).2.2 rfl,h.hPQ,⟨fun z hz=>hK.alt z (VM.mem_iff.2 hz),fun z hz=>hK.cE z (VM.mem_iff.2 hz)⟩,h.par,h.nn,f1,h.ew,f2,fun z hz z' XZ e=>?_,DV hd h.hp h.hq h.par h.nn h.ew⟩;have a:=Rm.1 (VM.mem_iff.2 hz);have b:=Rm.1 (VM.mem_iff.2 XZ);exact dX hd.2.2.2.2.2.1 oZ oZ e
theorem uq.out{e:Nat}(he:e<mt.length)(WB:e≠p)(he1:e≠ae p 1)(WG:e≠ae q 1)(YB:e≠ae q 2)(n1:gn mt e≠ae p 2)(n2:gn mt e≠ae p 3)(n3:gn mt e≠q)(n4:gn mt e≠ae q 3):gn mt e/4∈aY sg.length (min (p/4) (q/4)) (max (p/4) (q/4)):=by
 have hI:=hd.2.2.2.2.2.1;have hn:=hd.2.1;have hg:=hI.gn he;obtain⟨f1,f2,f3,f4⟩:=h.facts hd;refine h.mem.2 ⟨by have:=hg.2.1;omega,fun e1=>?_,fun e1=>?_⟩
 ·rcases aw e1 with e2|e2|e2|e2
  {rw[e2,h.ew]at hg;exact YB hg.2.2.2.symm};{rw[e2,h.nn]at hg;exact WG hg.2.2.2.symm};{exact n1 e2};{exact n2 e2}
 ·rcases aw e1 with e2|e2|e2|e2
  {exact n3 e2};{rw[e2,f1]at hg;exact he1 hg.2.2.2.symm};{rw[e2,f2]at hg;exact WB hg.2.2.2.symm};{exact n4 e2}
theorem uq.cE{K:Nat->Bool}(hK:cA sg mt K){u v w z:Nat}(hu:gn mt (ae p 2)=u)(hv:gn mt q=v)(hw:gn mt (ae p 3)=w)(hz:gn mt (ae q 3)=z)
  (cu:u/4∈aY sg.length (min (p/4) (q/4)) (max (p/4) (q/4)))(cv:v/4∈aY sg.length (min (p/4) (q/4)) (max (p/4) (q/4)))(cw:w/4∈aY sg.length (min (p/4) (q/4)) (max (p/4) (q/4)))(cz:z/4∈aY sg.length (min (p/4) (q/4)) (max (p/4) (q/4)))
  (mu:mC mt p q u=v)(mv:mC mt p q v=u)(mw:mC mt p q w=z)(mz:mC mt p q z=w)(mo:∀e,e/4∈aY sg.length (min (p/4) (q/4)) (max (p/4) (q/4))->e≠u->e≠v->e≠w->e≠z->mC mt p q e=gn mt e/\gn mt e/4∈aY sg.length (min (p/4) (q/4)) (max (p/4) (q/4)))
  (hk:K p=true){x:bB}(hx:PG (aY sg.length (min (p/4) (q/4)) (max (p/4) (q/4))) K (mC mt p q) x):x v=x w:=by
 have hI:=hd.2.2.2.2.2.1;have hn:=hd.2.1;have hF:=dG hd;obtain⟨f1,f2,f3,f4⟩:=h.facts hd;obtain⟨Wv,Zl⟩:=h.gk hd;obtain⟨k1,k2,k3,k4,k5,k6,k7⟩:=(h.NH hd hK).pB;have hp:=h.hp;have hq:=h.hq;have dp1:=af p 1;have dp2:=af p 2;have dp3:=af p 3;have dq1:=af q 1;have dq2:=af q 2;have dq3:=af q 3;have gu:=hI.gn (show ae p 2<mt.length by omega);have gv:=hI.gn hq;have gw:=hI.gn (show ae p 3<mt.length by omega);have gz:=hI.gn (show ae q 3<mt.length by omega);rw[hu]at gu;rw[hv]at gv;rw[hw]at gw;rw[hz]at gz;have mem:=fun{c:Nat}=>h.mem (c:=c)
 have cu':=mem.1 cu;have cv':=mem.1 cv;have cw':=mem.1 cw;have cz':=mem.1 cz;have Fu:au mt u=ae p 1:=by unfold au;rw[gu.2.2.2];exact(tt _).2.1
 have Fv:au mt v=ae q 3:=by unfold au;rw[gv.2.2.2]
 have Fw:au mt w=ae p 2:=by unfold au;rw[gw.2.2.2];exact(tt _).2.2.1
 have Fz:au mt z=ae q 2:=by unfold au;rw[gz.2.2.2];exact(tt _).2.2.1
 have Fpn:au mt (ae p 1)=q:=by unfold au;rw[h.nn];exact(tt _).1
 have Fqw:au mt (ae q 2)=ae p 3:=by unfold au;rw[f2]
 have Fp:au mt p=ae q 1:=by unfold au;rw[h.ew];exact(tt _).2.1
 have Fqn:au mt (ae q 1)=p:=by unfold au;rw[f1];exact(tt _).1
 have XE:∀a,a<mt.length->au mt a∈bJ (au mt) mt.length a:=fun a ha=>bT hF ha (bE hF ha)
 have big:∀a,a∈bJ (au mt) mt.length p->a=p\/a=ae q 1:=fun a ha=>by
  obtain⟨k,rfl⟩:=(aG hF hp).1 ha;clear ha
  induction k with
  |zero=>exact .inl rfl
  |succ k ih=>
   rcases ih with e|e
   {right;show au mt (it (au mt) k p)=_;rw[e,Fp]};{left;show au mt (it (au mt) k p)=_;rw[e,Fqn]}
 have step1:ae q 3∉bJ (au mt) mt.length (ae p 2):=fun hqs=>by
  have hpw:ae p 2<mt.length:=oZ;have YJ:=h.y.2.1;have hls:=h.ls;have hF':=aU h.y.2.2.2.2.2.1 YJ;have hpr:=tf Wv Zl;have Yy:∀a b,a<mt.length->b∈bJ (au mt) mt.length a->fv (au mt) mt.length b=fv (au mt) mt.length a:=fun a b ha hb=>iD hF ha hb
  have key:∀e,e/4∈aY sg.length (min (p/4) (q/4)) (max (p/4) (q/4))->fv (au mt) mt.length (ae (mC mt p q e) 3)=fv (au mt) mt.length e:=fun e he=>by
   have Xi:e<mt.length:=by have:=(mem.1 he).1;omega
   by_cases e1:e=u
   ·subst e1
    rw[mu];have WG:ae p 1<mt.length:=oZ;have a1:=Yy e _ Xi (XE e Xi);rw[Fu]at a1;have a2:=Yy _ _ WG (XE _ WG);rw[Fpn]at a2;have a3:=Yy _ _ hq (XE _ hq);have a4:au mt q=ae v 3:=by unfold au;rw[hv]
    rw[a4]at a3;omega
   ·by_cases e2:e=v
    ·subst e2
     rw[mv];have a1:=Yy e _ Xi (XE e Xi);rw[Fv]at a1;have a2:=Yy _ _ hpw hqs;have a3:=Yy _ _ hpw (XE _ hpw);have a4:au mt (ae p 2)=ae u 3:=by unfold au;rw[hu]
     rw[a4]at a3;omega
    ·by_cases e3:e=w
     ·subst e3
      rw[mw];have a1:=Yy e _ Xi (XE e Xi);rw[Fw]at a1;have a2:=Yy _ _ hpw hqs;have hq3:ae q 3<mt.length:=oZ;have a3:=Yy _ _ hq3 (XE _ hq3);have a4:au mt (ae q 3)=ae z 3:=by unfold au;rw[hz]
      rw[a4]at a3;omega
     ·by_cases e4:e=z
      ·subst e4
       rw[mz];have YB:ae q 2<mt.length:=oZ;have hp3:ae p 3<mt.length:=oZ;have a1:=Yy e _ Xi (XE e Xi);rw[Fz]at a1;have a2:=Yy _ _ YB (XE _ YB);rw[Fqw]at a2;have a3:=Yy _ _ hp3 (XE _ hp3);have a4:au mt (ae p 3)=ae w 3:=by unfold au;rw[hw]
       rw[a4]at a3;omega
      {rw[(mo e he e1 e2 e3 e4).1];exact Yy e _ Xi (XE e Xi)}
  have un:∀e,e/4∈aY sg.length (min (p/4) (q/4)) (max (p/4) (q/4))->u_ (min (p/4) (q/4)) (max (p/4) (q/4)) (mE (min (p/4) (q/4)) (max (p/4) (q/4)) e)=e:=fun e he=>by have:=dC.1 he;exact Du Wv this.2.1 this.2.2
  have nI:∀y,y<mt'.length->∃e,e/4∈aY sg.length (min (p/4) (q/4)) (max (p/4) (q/4))/\mE (min (p/4) (q/4)) (max (p/4) (q/4)) e=y:=fun y hy=>by
   have YF:y/4∈(aY sg.length (min (p/4) (q/4)) (max (p/4) (q/4))).map (z_ (min (p/4) (q/4)) (max (p/4) (q/4))):=hpr.mem_iff.2 (Rm.2 oZ);obtain⟨c,hc,e⟩:=So.1 YF;have h0:4*c/4∈aY sg.length (min (p/4) (q/4)) (max (p/4) (q/4)):=by rw[show 4*c/4=c by omega];exact hc
   have e4:y/4=mE (min (p/4) (q/4)) (max (p/4) (q/4)) (4*c)/4:=by rw[rM,show 4*c/4=c by omega,e]
   rcases aw e4 with e1|e1|e1|e1
   {exact⟨_,h0,e1.symm⟩};{exact⟨ae (4*c) 1,by rw[af];exact h0,by rw[iT,e1]⟩};{exact⟨ae (4*c) 2,by rw[af];exact h0,by rw[iT,e1]⟩};{exact⟨ae (4*c) 3,by rw[af];exact h0,by rw[iT,e1]⟩}
  have clm:∀e,e/4∈aY sg.length (min (p/4) (q/4)) (max (p/4) (q/4))->mC mt p q e/4∈aY sg.length (min (p/4) (q/4)) (max (p/4) (q/4)):=fun e he=>by by_cases e1:e=u;{rw[e1,mu];exact cv};{by_cases e2:e=v;{rw[e2,mv];exact cu};{by_cases e3:e=w;{rw[e3,mw];exact cz};{by_cases e4:e=z;{rw[e4,mz];exact cw};{rw[(mo e he e1 e2 e3 e4).1];exact(mo e he e1 e2 e3 e4).2}}}}
  have inv:∀y,y<mt'.length->(fun y=>fv (au mt) mt.length (u_ (min (p/4) (q/4)) (max (p/4) (q/4)) y)) (au mt' y)=(fun y=>fv (au mt) mt.length (u_ (min (p/4) (q/4)) (max (p/4) (q/4)) y)) y:=fun y hy=>by obtain⟨e,he,rfl⟩:=nI y hy;have WB:=mem.1 he;show fv _ _ (u_ _ _ (ae (gn mt' _) 3))=fv _ _ (u_ _ _ (mE _ _ e));rw[h.tab e oZ WB.2.1 WB.2.2,<-iT,un _ (by rw[af];exact clm e he),un e he];exact key e he
  have rem:∀a,∃e,a<mt.length->a∉bJ (au mt) mt.length p->e/4∈aY sg.length (min (p/4) (q/4)) (max (p/4) (q/4))/\fv (au mt) mt.length e=fv (au mt) mt.length a:=fun a=>by
   by_cases hc:a/4∈aY sg.length (min (p/4) (q/4)) (max (p/4) (q/4));{exact⟨a,fun _ _=>⟨hc,rfl⟩⟩}
   ·by_cases ha:a<mt.length/\a∉bJ (au mt) mt.length p
    ·have hu':u<mt.length:=gu.2.1
     have hv':v<mt.length:=gv.2.1;have hw':w<mt.length:=gw.2.1;have XZ:z<mt.length:=gz.2.1;have l1:=Yy u _ hu' (XE u hu');rw[Fu]at l1;have V3:ae p 1<mt.length:=oZ;have l2:=Yy _ _ V3 (XE _ V3);rw[Fpn]at l2;have l3:=Yy v _ hv' (XE v hv');rw[Fv]at l3;have l4:=Yy w _ hw' (XE w hw');rw[Fw]at l4;have l5:=Yy z _ XZ (XE z XZ);rw[Fz]at l5;have YB:ae q 2<mt.length:=oZ;have l6:=Yy _ _ YB (XE _ YB);rw[Fqw]at l6;have hPQ4:a/4=p/4\/a/4=q/4:=by by_cases c1:a/4=p/4;{exact .inl c1};{by_cases c2:a/4=q/4;{exact .inr c2};{exact absurd (mem.2 ⟨oZ,c1,c2⟩) hc}}
     rcases hPQ4 with c1|c1
     ·rcases aw c1 with rfl|rfl|rfl|rfl
      {exact absurd (bE hF hp) ha.2};{exact⟨u,fun _ _=>⟨cu,oZ⟩⟩};{exact⟨w,fun _ _=>⟨cw,oZ⟩⟩};{exact⟨z,fun _ _=>⟨cz,oZ⟩⟩}
     ·rcases aw c1 with rfl|rfl|rfl|rfl
      {exact⟨u,fun _ _=>⟨cu,oZ⟩⟩};{have:=XE p hp;rw[Fp]at this;exact absurd this ha.2};{exact⟨z,fun _ _=>⟨cz,oZ⟩⟩};{exact⟨v,fun _ _=>⟨cv,oZ⟩⟩}
    {exact⟨0,fun a1 a2=>absurd ⟨a1,a2⟩ ha⟩}
  obtain⟨rm,hrm⟩:=Sp rem;have hdec:∀a,(aZ (au mt) mt.length a&& !decide (a∈bJ (au mt) mt.length p))=true->aZ (au mt) mt.length a=true/\a∉bJ (au mt) mt.length p:=fun a ha=>by rw[RA,U5,decide_eq_false_iff_not]at ha;exact ha
  have Yf:=zM hF' (fun y=>fv (au mt) mt.length (u_ (min (p/4) (q/4)) (max (p/4) (q/4)) y)) inv (A:=fun a=>aZ (au mt) mt.length a&& !decide (a∈bJ (au mt) mt.length p)) (M:=mt.length) (fun a=>mE (min (p/4) (q/4)) (max (p/4) (q/4)) (rm a)) (fun a ha aa=>by
   obtain⟨b1,b2⟩:=hdec a aa;obtain⟨r1,-⟩:=hrm a ha b2;have:mE (min (p/4) (q/4)) (max (p/4) (q/4)) (rm a)/4∈List.range (sg.length-2):=by rw[rM];exact hpr.mem_iff.1 (Sb r1)
   have:=Rm.1 this;omega) (fun a b ha hb aa ab e=>by
   obtain⟨a1,a2⟩:=hdec a aa;obtain⟨b1,b2⟩:=hdec b ab;obtain⟨r1,r2⟩:=hrm a ha a2;obtain⟨s1,s2⟩:=hrm b hb b2;rw[un _ r1,un _ s1,r2,s2,ja hF ha a1,ja hF hb b1]at e;exact e)
  have hsp:=mB (aZ (au mt) mt.length) (fun a=>decide (a∈bJ (au mt) mt.length p)) mt.length;have h1:cV (fun a=>aZ (au mt) mt.length a&&decide (a∈bJ (au mt) mt.length p)) mt.length<=1:=mV fun a b ha hb pa pb=>by rw[RA,RE]at pa pb;have hm:=aM hF ha (aL hF hp pa.2) pb.2;exact T_ (dF.1 pa.1 _ hm) (dF.1 pb.1 _ (aL hF ha hm))
  have he:=jW hd;have hy:=jW h.y;rw[h.one]at hy;have V_:1<=av mt sg.length sg.length:=by have h0:=tI hd.2.2.2.2.2.1 hn (c:=0) oZ;have h00:gN (eL mt sg.length) 0=0:=oZ;have:=kl (eL mt sg.length) (a:=0) (b:=sg.length) oZ h00;unfold av;omega
  omega
 have hpw:ae p 2<mt.length:=oZ;obtain⟨P0,-,PE,PM⟩:=bz hF hpw;obtain⟨T,hT⟩:∃T,eC (au mt) mt.length (ae p 2)=T:=⟨_,rfl⟩
 rw[hT]at P0 PE PM;have onf:∀j,it (au mt) j (ae p 2)∈bJ (au mt) mt.length (ae p 2):=fun j=>(aG hF hpw).2 ⟨j,rfl⟩
 have kf:∀j,K (it (au mt) j (ae p 2))=true:=fun j=>by rw[(kI hd hK (x:=fun _=>0) (fun _ _ _=>rfl) hpw (onf j)).1,k2,hk]
 have inr:∀j,0<j->j<T->it (au mt) j (ae p 2)/4∈aY sg.length (min (p/4) (q/4)) (max (p/4) (q/4)):=fun j hj0 hj=>by
  have hl:=hF.bL j hpw;have ha:=onf j;have hkj:=kf j;refine mem.2 ⟨oZ,fun e=>?_,fun e=>?_⟩
  ·rcases aw e with e|e|e|e
   ·rw[e]at ha
    have:=big _ (aL hF hpw ha);rcases this with e2|e2
    {exact an oQ oQ e2};{omega}
   {rw[e,k1,hk]at hkj;cases hkj};{exact PM j hj0 hj e};{rw[e,k3,hk]at hkj;cases hkj}
  ·rcases aw e with e|e|e|e
   {rw[e,k4,hk]at hkj;cases hkj}
   ·rw[e]at ha
    have h2:=XE (ae q 1) oZ;rw[Fqn]at h2;have:=big _ (aL hF hpw (aM hF hpw ha h2));rcases this with e2|e2
    {exact an oQ oQ e2};{omega}
   {rw[e,k6,hk]at hkj;cases hkj};{rw[e]at ha;exact step1 ha}
 have hT2:2<=T:=by
  rcases SN T 2 with Vg|Yf
  ·have e1:T=1:=oZ
   rw[e1]at PE;have:au mt w=au mt (ae p 2):=by rw[Fw];exact PE.symm
   have:=hF.2 w (ae p 2) gw.2.1 hpw this;rw[this]at cw';omega
  {exact Yf}
 have last:it (au mt) (T-1) (ae p 2)=w:=by refine hF.2 _ _ (hF.bL _ hpw) gw.2.1 ?_;rw[Fw];show it (au mt) (T-1+1) (ae p 2)=_;rw[show T-1+1=T by omega,PE]
 have run:∀j,j+1<T->x (it (au mt) (j+1) (ae p 2))=x (au mt (ae p 2)):=fun j=>by
  induction j with
  |zero=>intro _;rfl
  |succ j ih=>
   intro hj;obtain⟨a,ha⟩:∃a,it (au mt) (j+1) (ae p 2)=a:=⟨_,rfl⟩
   have i1:=ih oZ;have c1:=inr (j+1) oZ oZ;have ka:=kf (j+1);have c2:=inr (j+1+1) oZ hj;have on2:=onf (j+1+1);have nx:it (au mt) (j+1+1) (ae p 2)=au mt a:=by show au mt (it (au mt) (j+1) (ae p 2))=_;rw[ha]
   rw[nx]at c2 on2;rw[ha]at i1 c1 ka;rw[nx,<-i1];have n1:a≠u:=fun e=>by rw[e,Fu]at c2;have:=mem.1 c2;omega
   have n2:a≠v:=fun e=>by rw[e,Fv]at c2;have:=mem.1 c2;omega
   have n3:a≠w:=fun e=>by rw[e,Fw]at c2;have:=mem.1 c2;omega
   have n4:a≠z:=fun e=>by rw[e,Fz]at c2;have:=mem.1 c2;omega
   have:=hx a c1 ka;rw[(mo a c1 n1 n2 n3 n4).1]at this;exact this.symm
 have kv:K v=true:=by have:=hK.cE v (Rm.2 cv'.1);rw[gv.2.2.2,k7,hk]at this;exact this.symm
 have h1:=hx v cv kv;rw[mv]at h1;have h2:au mt (ae p 2)=ae u 3:=by unfold au;rw[hu]
 rw[h1,<-h2,<-run (T-1-1) oZ,show T-1-1+1=T-1 by omega,last]
omit hd in
theorem uq.cr(i j:Nat):ae p i≠ae q j:=fun e=>h.hPQ (by rw[<-af p i,<-af q j,e])
omit hd in
theorem uq.M7(i:Nat):ae p i≠q:=fun e=>h.cr i 0 (by rw[eG,e])
omit hd in
theorem uq.Px(j:Nat):p≠ae q j:=fun e=>h.cr 0 j (by rw[eG];exact e)
theorem uq.lt(i:Nat):ae p i<mt.length/\ae q i<mt.length:=by have hn:=hd.2.1;have hp:=h.hp;have hq:=h.hq;have:=af p i;have:=af q i;omega
omit h in
theorem fe{K:Nat->Bool}(hK:cA sg mt K){e:Nat}(he:e<mt.length):K (ae (gn mt e) 3)=K e:=hK.cE e (Rm.2 (by have:=hd.2.1;omega))
theorem uq.jo{e:Nat}(he:e/4∈aY sg.length (min (p/4) (q/4)) (max (p/4) (q/4)))(e1:e≠gn mt (ae p 2))(e2:e≠gn mt q)(e3:e≠gn mt (ae p 3))(e4:e≠gn mt (ae q 3)):gn mt e/4∈aY sg.length (min (p/4) (q/4)) (max (p/4) (q/4)):=by
 have WB:=h.mem.1 he;have Xi:e<mt.length:=by have:=hd.2.1;omega
 have g:=(hd.2.2.2.2.2.1.gn Xi).2.2.2;refine h.out hd Xi (fun c=>WB.2.1 (by rw[c])) (fun c=>WB.2.1 (by rw[c,af])) (fun c=>WB.2.2 (by rw[c,af])) (fun c=>WB.2.2 (by rw[c,af])) (fun c=>e1 (by rw[<-c,g])) (fun c=>e3 (by rw[<-c,g])) (fun c=>e2 (by rw[<-c,g])) (fun c=>e4 (by rw[<-c,g]))
theorem uq.fin{K:Nat->Bool}(hK:cA sg mt K)(Vo:∀e,e/4∈aY sg.length (min (p/4) (q/4)) (max (p/4) (q/4))->mC mt p q e/4∈aY sg.length (min (p/4) (q/4)) (max (p/4) (q/4))/\K (ae (mC mt p q e) 3)=K e)
  (hb:∀n,fJ (aY sg.length (min (p/4) (q/4)) (max (p/4) (q/4))) K (mC mt p q) (gi sg) n->fJ (p/4::q/4::aY sg.length (min (p/4) (q/4)) (max (p/4) (q/4))) K (gn mt) (gi sg) n):∃K',cA sg' mt' K'/\∀n,jE sg mt K n->jE sg' mt' K' n:=by
 obtain⟨Wv,Zl⟩:=h.gk hd;have key:=G' Wv Zl (K:=K) (m:=mC mt p q) (m':=gn mt') (s:=gi sg) (s':=gi sg') (fun e he=>hK.alt e (Rm.2 (h.mem.1 he).1)) (fun e he=>(Vo e he).2) (fun e he=>by
  have WB:=h.mem.1 he;exact⟨h.tab e (by have:=hd.2.1;omega) WB.2.1 WB.2.2,(Vo e he).1⟩) (fun c hc=>by have:=h.mem.1 hc;exact h.so c this.1 this.2.1 this.2.2)
 rw[show sg.length-2=sg'.length by have:=h.ls;omega]at key;exact⟨_,key.1,fun n Yo=>key.2 n (fJ.back hb (fJ.perm (h.perm hd) Yo))⟩
theorem uq.Qu{K:Nat->Bool}(hK:cA sg mt K):gn mt (ae p 2)≠ae q 3:=fun e=>by
 obtain⟨k1,k2,k3,k4,k5,k6,k7⟩:=(h.NH hd hK).pB;have:=fe hd hK (h.lt hd 2).1;rw[e,(tt _).2.2.1,k6,k2]at this
 cases hh:K p<;>rw[hh]at this<;>cases this
theorem uq.Qy{K:Nat->Bool}(hK:cA sg mt K):gn mt (ae p 3)≠q:=fun e=>by
 obtain⟨k1,k2,k3,k4,k5,k6,k7⟩:=(h.NH hd hK).pB;have:=fe hd hK (h.lt hd 3).1;rw[e,k7,k3]at this
 cases hh:K p<;>rw[hh]at this<;>cases this
omit h in
theorem mH{e f:Nat}(he:e<mt.length)(x:gn mt e=f):f<mt.length/\gn mt f=e/\f≠e:=by have:=hd.2.2.2.2.2.1.gn he;rw[x]at this;exact⟨this.2.1,this.2.2.2,this.2.2.1⟩
theorem uq.Qb{K:Nat->Bool}(hK:cA sg mt K)(hC:gn mt (ae p 2)=ae p 3):∃K',cA sg' mt' K'/\∀n,jE sg mt K n->jE sg' mt' K' n:=by
 have B:=h.NH hd hK;obtain⟨k1,k2,k3,k4,k5,k6,k7⟩:=B.pB;obtain⟨v,hv⟩:∃v,gn mt q=v:=⟨_,rfl⟩
 obtain⟨z,hz⟩:∃z,gn mt (ae q 3)=z:=⟨_,rfl⟩
 have gps:=(mH hd (h.lt hd 2).1 hC).2.1;obtain⟨lv,gv,vq⟩:=mH hd h.hq hv;obtain⟨lz,gz,zq⟩:=mH hd (h.lt hd 3).2 hz;have np23:=aB (h:=p) (i:=2) (j:=3) oQ oQ oQ;have nq3:=an (h:=q) (j:=3) oQ oQ;have ne2:=h.ne2;unfold uK fh at ne2;rw[hC,hv,Re rfl]at ne2;have nvp3:v≠ae p 3:=fun e=>by rw[e,gps]at gv;exact h.M7 2 gv
 have nvp2:v≠ae p 2:=fun e=>by rw[e,hC]at gv;exact h.M7 3 gv
 have nzq:z≠q:=fun e=>by rw[e,hv]at gz;exact ne2 gz
 have nzp3:z≠ae p 3:=fun e=>by rw[e,gps]at gz;exact h.cr 2 3 gz
 have nzp2:z≠ae p 2:=fun e=>by rw[e,hC]at gz;exact h.cr 3 3 gz
 have cv:v/4∈aY sg.length (min (p/4) (q/4)) (max (p/4) (q/4)):=by rw[<-hv];exact h.out hd h.hq (fun e=>h.Px 0 (by rw[eG];exact e.symm)) (fun e=>h.M7 1 e.symm) (an oQ oQ).symm (an oQ oQ).symm (by rw[hv];exact nvp2) (by rw[hv];exact nvp3) (by rw[hv];exact vq) (by rw[hv];exact ne2)
 have cz:z/4∈aY sg.length (min (p/4) (q/4)) (max (p/4) (q/4)):=by rw[<-hz];exact h.out hd (h.lt hd 3).2 (fun e=>h.Px 3 e.symm) (fun e=>h.cr 1 3 e.symm) (aB oQ oQ oQ) (aB oQ oQ oQ) (by rw[hz];exact nzp2) (by rw[hz];exact nzp3) (by rw[hz];exact nzq) (by rw[hz];exact zq)
 have vz:v≠z:=fun e=>nq3 (dX hd.2.2.2.2.2.1 h.hq (h.lt hd 3).2 (by rw[hv,hz,e])).symm
 have l1:∀e,uK mt p q e=if e=ae p 3 then v else if e=v then ae p 3 else gn mt e:=fun e=>by unfold uK fh;rw[hC,hv]
 have s1:uK mt p q (ae p 3)=v:=by rw[l1,Re rfl]
 have s2:uK mt p q (ae q 3)=z:=by rw[l1,Rc (fun e=>h.cr 3 3 e.symm),Rc (fun e=>ne2 e.symm),hz]
 have l2:∀e,mC mt p q e=if e=v then z else if e=z then v else uK mt p q e:=fun e=>by unfold mC;rw[s1,s2];rfl
 have mv:mC mt p q v=z:=by rw[l2,Re rfl]
 have mz:mC mt p q z=v:=by rw[l2,Rc vz.symm,Re rfl]
 have nw:∀e,e/4∈aY sg.length (min (p/4) (q/4)) (max (p/4) (q/4))->e≠ae p 3/\e≠ae p 2:=fun e he=>by have WB:=h.mem.1 he;exact⟨fun c=>WB.2.1 (by rw[c,af]),fun c=>WB.2.1 (by rw[c,af])⟩
 have mo:∀e,e/4∈aY sg.length (min (p/4) (q/4)) (max (p/4) (q/4))->e≠v->e≠z->mC mt p q e=gn mt e:=fun e he e1 e2=>by rw[l2,Rc e1,Rc e2,l1,Rc (nw e he).1,Rc e1]
 have jo:∀e,e/4∈aY sg.length (min (p/4) (q/4)) (max (p/4) (q/4))->e≠v->e≠z->gn mt e/4∈aY sg.length (min (p/4) (q/4)) (max (p/4) (q/4)):=fun e he e1 e2=>h.jo hd he (by rw[hC];exact(nw e he).1) (by rw[hv];exact e1) (by rw[gps];exact(nw e he).2) (by rw[hz];exact e2)
 have kv:=fe hd hK lv;rw[gv,k7]at kv;have kz:=fe hd hK lz;rw[gz,(tt _).2.2.1,k6]at kz;have tv:=fe hd hK h.hq;rw[hv,k4]at tv;have tz:=fe hd hK (h.lt hd 3).2;rw[hz,k7]at tz;refine h.fin hd hK (fun e he=>?_) fun n Yo=>B.K_ (v:=v) (v':=z) hv cv gv mv hz cz gz mz hC gps (fun e he e1 e2=>⟨mo e he e1 e2,jo e he e1 e2⟩) Yo
 by_cases e1:e=v;{rw[e1,mv];exact⟨cz,by rw[tz,kv]⟩};{by_cases e2:e=z;{rw[e2,mz];exact⟨cv,by rw[tv,<-kz]⟩};{rw[mo e he e1 e2];exact⟨jo e he e1 e2,fe hd hK (by have:=(h.mem.1 he).1;have:=hd.2.1;omega)⟩}}
theorem uq.Qn{K:Nat->Bool}(hK:cA sg mt K)(hC:gn mt (ae p 2)≠ae p 3)(hB:gn mt q=ae q 3):∃K',cA sg' mt' K'/\∀n,jE sg mt K n->jE sg' mt' K' n:=by
 have B:=h.NH hd hK;obtain⟨k1,k2,k3,k4,k5,k6,k7⟩:=B.pB;obtain⟨u,hu⟩:∃u,gn mt (ae p 2)=u:=⟨_,rfl⟩
 obtain⟨w,hw⟩:∃w,gn mt (ae p 3)=w:=⟨_,rfl⟩
 have gqs:=(mH hd h.hq hB).2.1;obtain⟨lu,gu,up⟩:=mH hd (h.lt hd 2).1 hu;obtain⟨lw,gw,wp⟩:=mH hd (h.lt hd 3).1 hw;have np23:=aB (h:=p) (i:=2) (j:=3) oQ oQ oQ;have ne1:=h.ne1;have x1:=h.Qu hd hK;have x2:=h.Qy hd hK;rw[hu]at ne1 x1 hC;rw[hw]at x2;have nwp2:w≠ae p 2:=fun e=>by rw[e,hu]at gw;exact hC gw
 have nwq:w≠ae q 3:=fun e=>by rw[e,gqs]at gw;exact h.M7 3 gw.symm
 have cu:u/4∈aY sg.length (min (p/4) (q/4)) (max (p/4) (q/4)):=by rw[<-hu];exact h.out hd (h.lt hd 2).1 (an oQ oQ) (aB oQ oQ oQ) (h.cr 2 1) (h.cr 2 2) (by rw[hu];exact up) (by rw[hu];exact hC) (by rw[hu];exact ne1) (by rw[hu];exact x1)
 have cw:w/4∈aY sg.length (min (p/4) (q/4)) (max (p/4) (q/4)):=by rw[<-hw];exact h.out hd (h.lt hd 3).1 (an oQ oQ) (aB oQ oQ oQ) (h.cr 3 1) (h.cr 3 2) (by rw[hw];exact nwp2) (by rw[hw];exact wp) (by rw[hw];exact x2) (by rw[hw];exact nwq)
 have uw:u≠w:=fun e=>np23 (dX hd.2.2.2.2.2.1 (h.lt hd 2).1 (h.lt hd 3).1 (by rw[hu,hw,e]))
 have l1:∀e,uK mt p q e=if e=u then ae q 3 else if e=ae q 3 then u else gn mt e:=fun e=>by unfold uK fh;rw[hu,hB]
 have s1:uK mt p q (ae p 3)=w:=by rw[l1,Rc (fun e=>hC e.symm),Rc (h.cr 3 3),hw]
 have s2:uK mt p q (ae q 3)=u:=by rw[l1,Rc (fun e=>x1 e.symm),Re rfl]
 have l2:∀e,mC mt p q e=if e=w then u else if e=u then w else uK mt p q e:=fun e=>by unfold mC;rw[s1,s2];rfl
 have mw:mC mt p q w=u:=by rw[l2,Re rfl]
 have mu:mC mt p q u=w:=by rw[l2,Rc uw,Re rfl]
 have nz:∀e,e/4∈aY sg.length (min (p/4) (q/4)) (max (p/4) (q/4))->e≠ae q 3/\e≠q:=fun e he=>by have WB:=h.mem.1 he;exact⟨fun c=>WB.2.2 (by rw[c,af]),fun c=>WB.2.2 (by rw[c])⟩
 have mo:∀e,e/4∈aY sg.length (min (p/4) (q/4)) (max (p/4) (q/4))->e≠u->e≠w->mC mt p q e=gn mt e:=fun e he e1 e2=>by rw[l2,Rc e2,Rc e1,l1,Rc e1,Rc (nz e he).1]
 have jo:∀e,e/4∈aY sg.length (min (p/4) (q/4)) (max (p/4) (q/4))->e≠u->e≠w->gn mt e/4∈aY sg.length (min (p/4) (q/4)) (max (p/4) (q/4)):=fun e he e1 e2=>h.jo hd he (by rw[hu];exact e1) (by rw[hB];exact(nz e he).1) (by rw[hw];exact e2) (by rw[gqs];exact(nz e he).2)
 have ku:=fe hd hK lu;rw[gu,(tt _).2.1,k1]at ku;have kw:=fe hd hK lw;rw[gw,(tt _).2.2.1,k2]at kw;have tu:=fe hd hK (h.lt hd 2).1;rw[hu,k2]at tu;have tw:=fe hd hK (h.lt hd 3).1;rw[hw,k3]at tw;refine h.fin hd hK (fun e he=>?_) fun n Yo=>B.KP (u:=u) (u':=w) hu cu gu mu hw cw gw mw gqs hB (fun e he e1 e2=>⟨mo e he e1 e2,jo e he e1 e2⟩) Yo
 by_cases e1:e=u;{rw[e1,mu];exact⟨cw,by rw[tw,<-ku]⟩};{by_cases e2:e=w;{rw[e2,mw];exact⟨cu,by rw[tu,kw]⟩};{rw[mo e he e1 e2];exact⟨jo e he e1 e2,fe hd hK (by have:=(h.mem.1 he).1;have:=hd.2.1;omega)⟩}}
theorem uq.Qo{K:Nat->Bool}(hK:cA sg mt K)(hC:gn mt (ae p 2)≠ae p 3)(hB:gn mt q≠ae q 3):∃K',cA sg' mt' K'/\∀n,jE sg mt K n->jE sg' mt' K' n:=by
 have B:=h.NH hd hK;obtain⟨k1,k2,k3,k4,k5,k6,k7⟩:=B.pB;obtain⟨u,hu⟩:∃u,gn mt (ae p 2)=u:=⟨_,rfl⟩
 obtain⟨v,hv⟩:∃v,gn mt q=v:=⟨_,rfl⟩
 obtain⟨w,hw⟩:∃w,gn mt (ae p 3)=w:=⟨_,rfl⟩
 obtain⟨z,hz⟩:∃z,gn mt (ae q 3)=z:=⟨_,rfl⟩
 obtain⟨lu,gu,up⟩:=mH hd (h.lt hd 2).1 hu;obtain⟨lv,gv,vq⟩:=mH hd h.hq hv;obtain⟨lw,gw,wp⟩:=mH hd (h.lt hd 3).1 hw;obtain⟨lz,gz,zq⟩:=mH hd (h.lt hd 3).2 hz;have hPQ:=h.hPQ;have np23:=aB (h:=p) (i:=2) (j:=3) oQ oQ oQ;have nq3:=an (h:=q) (j:=3) oQ oQ;have ne1:=h.ne1;have ne2:=h.ne2;have x1:=h.Qu hd hK;have x2:=h.Qy hd hK;rw[hu]at ne1 x1 hC;rw[hv]at hB;rw[hw]at x2;have l1:∀e,uK mt p q e=if e=u then v else if e=v then u else gn mt e:=fun e=>by unfold uK fh;rw[hu,hv]
 have nvp2:v≠ae p 2:=fun e=>by rw[e,hu]at gv;exact ne1 gv
 have nvp3:v≠ae p 3:=fun e=>by rw[e,hw]at gv;exact x2 gv
 have nwp2:w≠ae p 2:=fun e=>by rw[e,hu]at gw;exact hC gw
 have s1:uK mt p q (ae p 3)=w:=by rw[l1,Rc (fun e=>hC e.symm),Rc (fun e=>nvp3 e.symm),hw]
 rw[s1]at ne2;have nzp2:z≠ae p 2:=fun e=>by rw[e,hu]at gz;exact x1 gz
 have nzp3:z≠ae p 3:=fun e=>by rw[e,hw]at gz;exact ne2 gz
 have nzq:z≠q:=fun e=>by rw[e,hv]at gz;exact hB gz
 have cu:u/4∈aY sg.length (min (p/4) (q/4)) (max (p/4) (q/4)):=by rw[<-hu];exact h.out hd (h.lt hd 2).1 (an oQ oQ) (aB oQ oQ oQ) (h.cr 2 1) (h.cr 2 2) (by rw[hu];exact up) (by rw[hu];exact hC) (by rw[hu];exact ne1) (by rw[hu];exact x1)
 have cv:v/4∈aY sg.length (min (p/4) (q/4)) (max (p/4) (q/4)):=by rw[<-hv];exact h.out hd h.hq (fun e=>h.Px 0 (by rw[eG];exact e.symm)) (fun e=>h.M7 1 e.symm) (an oQ oQ).symm (an oQ oQ).symm (by rw[hv];exact nvp2) (by rw[hv];exact nvp3) (by rw[hv];exact vq) (by rw[hv];exact hB)
 have cw:w/4∈aY sg.length (min (p/4) (q/4)) (max (p/4) (q/4)):=by rw[<-hw];exact h.out hd (h.lt hd 3).1 (an oQ oQ) (aB oQ oQ oQ) (h.cr 3 1) (h.cr 3 2) (by rw[hw];exact nwp2) (by rw[hw];exact wp) (by rw[hw];exact x2) (by rw[hw];exact ne2)
 have cz:z/4∈aY sg.length (min (p/4) (q/4)) (max (p/4) (q/4)):=by rw[<-hz];exact h.out hd (h.lt hd 3).2 (fun e=>h.Px 3 e.symm) (fun e=>h.cr 1 3 e.symm) (aB oQ oQ oQ) (aB oQ oQ oQ) (by rw[hz];exact nzp2) (by rw[hz];exact nzp3) (by rw[hz];exact nzq) (by rw[hz];exact zq)
 have inj:=fun{a b:Nat} (ha:a<mt.length) (hb:b<mt.length) (e:gn mt a=gn mt b)=>dX hd.2.2.2.2.2.1 ha hb e
 have uv:u≠v:=fun e=>h.M7 2 (inj (h.lt hd 2).1 h.hq (by rw[hu,hv,e]))
 have uw:u≠w:=fun e=>np23 (inj (h.lt hd 2).1 (h.lt hd 3).1 (by rw[hu,hw,e]))
 have uz:u≠z:=fun e=>h.cr 2 3 (inj (h.lt hd 2).1 (h.lt hd 3).2 (by rw[hu,hz,e]))
 have vw:v≠w:=fun e=>h.M7 3 (inj (h.lt hd 3).1 h.hq (by rw[hv,hw,e]))
 have vz:v≠z:=fun e=>nq3 (inj (h.lt hd 3).2 h.hq (by rw[hv,hz,e]))
 have wz:w≠z:=fun e=>h.cr 3 3 (inj (h.lt hd 3).1 (h.lt hd 3).2 (by rw[hw,hz,e]))
 have s2:uK mt p q (ae q 3)=z:=by rw[l1,Rc (fun e=>x1 e.symm),Rc (fun e=>hB e.symm),hz]
 have l2:∀e,mC mt p q e=if e=w then z else if e=z then w else uK mt p q e:=fun e=>by unfold mC;rw[s1,s2];rfl
 have mu:mC mt p q u=v:=by rw[l2,Rc uw,Rc uz,l1,Re rfl]
 have mv:mC mt p q v=u:=by rw[l2,Rc vw,Rc vz,l1,Rc uv.symm,Re rfl]
 have mw:mC mt p q w=z:=by rw[l2,Re rfl]
 have mz:mC mt p q z=w:=by rw[l2,Rc wz.symm,Re rfl]
 have mo:∀e,e/4∈aY sg.length (min (p/4) (q/4)) (max (p/4) (q/4))->e≠u->e≠v->e≠w->e≠z->mC mt p q e=gn mt e/\gn mt e/4∈aY sg.length (min (p/4) (q/4)) (max (p/4) (q/4)):=fun e he e1 e2 e3 e4=>⟨by rw[l2,Rc e3,Rc e4,l1,Rc e1,Rc e2],h.jo hd he (by rw[hu];exact e1) (by rw[hv];exact e2) (by rw[hw];exact e3) (by rw[hz];exact e4)⟩
 have ku:=fe hd hK lu;rw[gu,(tt _).2.1,k1]at ku;have kv:=fe hd hK lv;rw[gv,k7]at kv;have kw:=fe hd hK lw;rw[gw,(tt _).2.2.1,k2]at kw;have kz:=fe hd hK lz;rw[gz,(tt _).2.2.1,k6]at kz;have tu:=fe hd hK (h.lt hd 2).1;rw[hu,k2]at tu;have tv:=fe hd hK h.hq;rw[hv,k4]at tv;have tw:=fe hd hK (h.lt hd 3).1;rw[hw,k3]at tw;have tz:=fe hd hK (h.lt hd 3).2;rw[hz,k7]at tz;refine h.fin hd hK (fun e he=>?_) fun n Yo=>B.K7 (u:=u) (v:=v) (u':=w) (v':=z) hu cu gu mu hv cv gv mv hw cw gw mw hz cz gz mz mo (fun hk x hx=>h.cE hd hK hu hv hw hz cu cv cw cz mu mv mw mz mo hk hx) Yo
 by_cases e1:e=u;{rw[e1,mu];exact⟨cv,by rw[tv,<-ku]⟩};{by_cases e2:e=v;{rw[e2,mv];exact⟨cu,by rw[tu,kv]⟩};{by_cases e3:e=w;{rw[e3,mw];exact⟨cz,by rw[tz,kw]⟩};{by_cases e4:e=z;{rw[e4,mz];exact⟨cw,by rw[tw,<-kz]⟩};{rw[(mo e he e1 e2 e3 e4).1];exact⟨(mo e he e1 e2 e3 e4).2,fe hd hK (by have:=(h.mem.1 he).1;have:=hd.2.1;omega)⟩}}}}
theorem uq.num{K:Nat->Bool}(hK:cA sg mt K):∃K',cA sg' mt' K'/\∀n,jE sg mt K n->jE sg' mt' K' n:=by by_cases hC:gn mt (ae p 2)=ae p 3;{exact h.Qb hd hK hC};{by_cases hB:gn mt q=ae q 3;{exact h.Qn hd hK hC hB};{exact h.Qo hd hK hC hB}}
end
theorem sf{x y:Nat}(Vw:x<y):∀k,iq [(x:Int),(y:Int)] k=if y<k then k-2 else if x<k then k-1 else k
 |0=>by rw[Rc oZ,Rc oZ];rfl
 |k+1=>by show iq [(x:Int),(y:Int)] k+_=_;rw[sf Vw k];by_cases e:k=x;{subst e;rw[Rc oZ,Rc oZ,Re oX,Rc oZ,Re oZ];omega};{by_cases e':k=y;{subst e';rw[Rc oZ,Re Vw,Re oX,Re oZ];omega};{rw[Rc (show¬(k:Int)∈[(x:Int),(y:Int)] by simp;omega)];by_cases h:y<k;{rw[Re h,Re oZ];omega};{rw[Rc h];by_cases h':x<k;{rw[Re h',Rc oZ,Re oZ];omega};{rw[Rc h',Rc oZ,Rc oZ]}}}}
theorem I8{x y:Nat}(Vw:x<y)(z:Nat):AK [(x:Int),(y:Int)] z=mE x y z:=by unfold AK mE oH;by_cases e:y<z/4;{rw[Sw qj,Sw qj,Re e,Re oZ];show z-4*2=z-4-4;omega};{rw[Rc e];by_cases e':x<z/4;{rw[Sw qj,Sx qj,Re e'];rfl};{rw[Sx qj,Sx qj,Rc e'];rfl}}
theorem Da{x y c:Nat}(Vw:x<y)(h1:c≠x)(h2:c≠y):z_ x y c=iq [(x:Int),(y:Int)] c:=by rw[sf Vw,lP Vw h1 h2]
theorem zg{xs:List Int}(hn:∀k,k<xs.length->gi xs k=(gn xs k:Int)/\gn xs k<xs.length){a b:Nat}(ha:a<xs.length)(hb:b<xs.length)(h0:oO xs a b=0):
  gn xs a≠b/\(∀k,gn (gS xs a b) k=fh (gn xs) (gn xs a) (gn xs b) k)/\∀k,k<(gS xs a b).length->gi (gS xs a b) k=(gn (gS xs a b) k:Int)/\gn (gS xs a b) k<(gS xs a b).length:=by
 have Vh:gn xs a≠b:=by intro e;unfold oO at h0;rw[Re (by rw[(hn a ha).1,e])]at h0;omega
 have e1:gS xs a b=bH xs (gn xs a) (gn xs b):=by unfold gS;rw[Rc (by rw[(hn a ha).1];omega)]
 have ga:=(hn a ha).2;have gb:=(hn b hb).2;refine⟨Vh,fun k=>?_,fun k hk=>?_⟩;{rw[e1,bO ga gb,sL]};{rw[e1]at hk⊢;rw[al]at hk⊢;rw[bO ga gb,pU ga gb];split;{exact⟨rfl,ga⟩};{split;{exact⟨rfl,gb⟩};{exact hn k hk}}}
theorem MD{sg mt:List Int}(hd:cJ sg mt 0){x y h o:Nat}{L':Int}(Vw:x<y)(hy:y<sg.length)(hp:(h/4=x/\o=y)\/(h/4=y/\o=x))(hl:AQ mt h o=true)
  (l1:oO mt (ae h 2) (ae (gn mt h) 2)=0)(l2:oO (gS mt (ae h 2) (ae (gn mt h) 2)) (ae (gn mt (au mt h)) 2) (ae (au mt h) 2)=0)
  (Xe:cJ (dV [(x:Int),(y:Int)] sg sg.length) (dP [(x:Int),(y:Int)] (gS (gS mt (ae h 2) (ae (gn mt h) 2)) (ae (gn mt (au mt h)) 2) (ae (au mt h) 2)) sg.length) L')
  (h1:av (dP [(x:Int),(y:Int)] (gS (gS mt (ae h 2) (ae (gn mt h) 2)) (ae (gn mt (au mt h)) 2) (ae (au mt h) 2)) sg.length) (dV [(x:Int),(y:Int)] sg sg.length).length (dV [(x:Int),(y:Int)] sg sg.length).length=1):
  uq sg (dV [(x:Int),(y:Int)] sg sg.length) mt (dP [(x:Int),(y:Int)] (gS (gS mt (ae h 2) (ae (gn mt h) 2)) (ae (gn mt (au mt h)) 2) (ae (au mt h) 2)) sg.length) L' h (ae (gn mt h) 2):=by
 have h2:mt.length=4*sg.length:=hd.2.1;have hI:=hd.2.2.2.2.2.1;have hh:h<mt.length:=oZ;unfold AQ at hl;rw[RA,RA]at hl;obtain⟨c1,c2,c3⟩:=hl;have c1:=RU c1;have c2:=RU c2;have c3:=RU c3;obtain⟨-,m1,m2,m3⟩:=hI.gn hh;have hg:au mt h=ae (gn mt h) 3:=rfl;have VS:au mt h<mt.length:=by rw[hg];have:=af (gn mt h) 3;omega
 have hup:gn mt (au mt h)=ae h 1:=by
  have:ae (gn mt (au mt h)) 3=ae (ae h 1) 3:=by rw[ar,bC];exact c2
  exact dD this
 have Yq:ae (gn mt (au mt h)) 2=ae h 3:=by rw[hup,ar]
 have hqs:ae (au mt h) 2=ae (ae (gn mt h) 2) 3:=by rw[hg,ar,ar]
 rw[Yq,hqs]at l2 Xe h1⊢;have hq4:ae (gn mt h) 2/4=o:=by rw[af,<-c1,hg,af]
 have Xf:ae (gn mt h) 2<mt.length:=oZ;have Ze:o<sg.length:=oZ;have t2:ae h 2<mt.length:=by have:=af h 2;omega
 have t3:ae h 3<mt.length:=by have:=af h 3;omega
 have u3:ae (ae (gn mt h) 2) 3<mt.length:=by have:=af (ae (gn mt h) 2) 3;omega
 have Zr:min (h/4) (ae (gn mt h) 2/4)=x:=by rw[hq4];omega
 have hmax:max (h/4) (ae (gn mt h) 2/4)=y:=by rw[hq4];omega
 obtain⟨n1,j1,r1⟩:=zg (fun k hk=>⟨(hI.gn hk).1,(hI.gn hk).2.1⟩) t2 Xf l1;obtain⟨n2,j2,r2⟩:=zg r1 (by rw[gl];exact t3) (by rw[gl];exact u3) l2;have e1:∀k,gn (gS mt (ae h 2) (ae (gn mt h) 2)) k=uK mt h (ae (gn mt h) 2) k:=j1
 have e2:∀k,gn (gS (gS mt (ae h 2) (ae (gn mt h) 2)) (ae h 3) (ae (ae (gn mt h) 2) 3)) k=mC mt h (ae (gn mt h) 2) k:=by intro k;rw[j2,e1,e1];unfold mC;unfold fh;rw[e1]
 have hng:∀c:Nat,c≠x->c≠y->((c:Nat):Int)∉[(x:Int),(y:Int)]:=fun c a b=>by simp;omega
 refine⟨hh,Xf,by rw[hq4];omega,?_,?_,?_,n1,by rw[<-e1];exact n2,?_,?_,?_,Xe,h1⟩;{rw[bQ];omega};{rw[ar,<-hg,<-hup,(hI.gn VS).2.2.2]};{rw[ar,bC]};{rw[gR,sf Vw,Re hy];omega}
 ·intro k hk k1 k2
  have k1':k/4≠x:=oZ;have k2':k/4≠y:=oZ;rw[Zr,hmax];have es:mE x y k=4*iq [(x:Int),(y:Int)] (k/4)+k%4:=by rw[<-Da Vw k1' k2',<-rM,<-show mE x y k%4=k%4 by rw[GI Vw k1' k2'];split<;>(try split)<;>omega];omega
  rw[es,CQ (hng _ k1' k2') oZ oZ,I8 Vw,show 4*(k/4)+k%4=k by omega,e2]
 {intro c hc a b;have a':c≠x:=oZ;have b':c≠y:=oZ;rw[Zr,hmax,Da Vw a' b'];exact yv (hng _ a' b') _ hc}
open Go.RowKit
def Ov(sg mt sg' mt':List Int)(L':Int):Prop:=cJ sg' mt' 0->av mt' sg'.length sg'.length=1->L'=0->AV sg mt sg' mt'
def Py(sg mt:List Int)(w:World)(e:Ending)(w':World):Prop:=
 ∃(er:Int) (A1 A2:Option Addr) (n1 k1 n2 k2:Nat) (L a b c d:Int) (o:Bool),e= .returned (.tuple #[.agg #[.slice A1 n1 k1,.slice A2 n2 k2,.int .i64 L],.agg #[.int .i64 a,.int .i64 b,.int .i64 c,.int .i64 d,.bool o],.int .i64 er])/\Below w.heap.size w w'/\
  (er=0->∃sg' mt',n1=sg'.length/\n2=mt'.length/\RI w' (·<w'.heap.size) A1 sg'/\RI w' (·<w'.heap.size) A2 mt'/\sg'.length<=maxLen/\mt'.length<=maxLen/\Ov sg mt sg' mt' L)
theorem GO{sg mt:List Int}{w w':World}{er:Int}{e:Ending}(h:PN w er (fun sg' mt' L'=>Ov sg mt sg' mt' L') e w'):Py sg mt w e w':=by
 obtain⟨dv,mv,rfl,⟨⟨A1',A2',n1,k1,n2,k2,L,rfl⟩,a,b,c,d,o,rfl⟩,hb,h0⟩:=h;refine⟨er,A1',A2',n1,k1,n2,k2,L,a,b,c,d,o,rfl,hb,fun hz=>?_⟩;obtain⟨v1,v2,sg',mt',L',hv,WU,hP⟩:=h0 hz;injection hv with hv
 simp only[Array.mk.injEq,List.cons.injEq,UZ]at hv;obtain⟨rfl,rfl,h3⟩:=hv;injection h3 with _ h3
 subst h3;obtain⟨A,c9,e1,-,-,hr⟩:=WU.os.reads;obtain⟨A',c9',e2,-,-,Wi⟩:=WU.om.reads;injection e1 with e1 e3 _
 injection e2 with e2 e4 _
 subst e1 e2;exact⟨sg',mt',e3,e4,hr.imp fun b hb=>hb.2,Wi.imp fun b hb=>hb.2,WU.os.len,WU.om.len,hP⟩
theorem Fi{sg mt:List Int}{w w':World}{e:Ending}(h:Nm w (fun sg' mt' L'=>Ov sg mt sg' mt' L') e w'):Py sg mt w e w':=by obtain⟨dv,mv,er,h1,h2,h3,h4⟩:=h;exact GO ⟨dv,mv,h1,h2,h3,h4⟩
theorem H7(xs:List Int)(a b:Nat):0<=oO xs a b:=by unfold oO;split<;>omega
section
variable{A1 A2:Option Addr}{c1 c2:Nat}{sg mt:List Int}(kd X Y s:Int)(ov:Bool)(w:World)(S:Nat->Prop)(hx:RI w S A1 sg)(hy:RI w S A2 mt)(hS:∀b,S b->b<w.heap.size)(V:I7 sg mt)
include hx hy hS V
theorem DX:Calls Tryz.prog 9 #[.agg #[.slice A1 sg.length c1,.slice A2 mt.length c2,.int .i64 0],.agg #[.int .i64 kd,.int .i64 X,.int .i64 Y,.int .i64 s,.bool ov]] w (Py sg mt w):=by
 by_cases hk:kd<1\/5<kd;{exact(AZ A1 A2 c1 c2 sg mt kd X Y s ov w S hx hy hS V.d hk _).mono fun _ _=>Fi};by_cases h3:kd=3
 ·subst h3
  refine(sF A1 A2 c1 c2 sg mt X Y s ov w S hx hy hS V.d V.one V.pos (fun sg' mt' L'=>Ov sg mt sg' mt' L') ?_).mono fun _ _ h=>by obtain⟨er,-,h⟩:=h;exact GO h
  rintro Vn lf-hf hz sg' mt' L' ⟨x,y,rfl,rfl,V7,VJ,rfl,rfl,rfl⟩- - -K hK;have VN:¬(0<=(x:Int)/\0<=(y:Int)/\(x:Int)≠(y:Int)/\jR lf mt (x:Int).toNat (y:Int).toNat=false):=fun h=>by unfold yB at hz;rw[Re (.inr (.inr h))]at hz;exact absurd hz oQ
  unfold pf at Vn;by_cases Vw:x=y
  ·subst Vw
   have hs:s=1\/s= -1:=oZ;rcases hs with rfl|rfl
   {exact⟨_,((KH V.d (ai sg x) (ai sg x) ov V7).num V.d hK (fJ.ex _ _ _ _).choose_spec).1,fun n hn=>((KH V.d (ai sg x) (ai sg x) ov V7).num V.d hK hn).2⟩};{exact⟨_,((Lc V.d (ai sg x) (ai sg x) ov V7).num V.d hK (fJ.ex _ _ _ _).choose_spec).1,fun n hn=>((Lc V.d (ai sg x) (ai sg x) ov V7).num V.d hK hn).2⟩}
  ·have hs:s=0:=oZ
   subst hs;have hn:jR lf mt x y=true:=by
    cases hb:jR lf mt x y with
    |true=>rfl
    |false=>exact absurd ⟨oZ,oZ,oZ,by rw[Si,Si];exact hb⟩ VN
   unfold jR at hn;rw[RA]at hn;have f1:=(nA (aU V.d.2.2.2.2.2.1 V.d.2.1) hf V7 VJ).1 (RU hn.1);have f3:=RU hn.2;have P:=E5 V.d (ai sg x) (ai sg y) ov V7 VJ Vw f3;exact⟨_,(P.num V.d hK f1 (fJ.ex _ _ _ _).choose_spec).1,fun n hn=>(P.num V.d hK f1 hn).2⟩
 ·refine(Bo A1 A2 c1 c2 sg mt kd X Y s ov w S hx hy hS V.d oZ (fun sg' mt' L'=>Ov sg mt sg' mt' L') ?_ ?_ ?_ ?_).mono fun _ _=>Fi
  ·rintro rfl Vn sg' mt' L' ⟨h,rfl,hh,ho,VO,rfl,rfl,rfl⟩- - -K hK
   have hs:s=1\/s= -1:=by unfold pf at Vn;omega
   obtain⟨o,u,hc⟩:=Mn V.d hh hs ov;exact⟨_,hc.num V.d hK⟩
  ·rintro rfl Vn sg' mt' L' ⟨o,ho,rfl,rfl,rfl⟩- -hL K hK
   have hX:0<=X/\X<sg.length:=by unfold pf at Vn;omega
   obtain⟨c,rfl⟩:∃c:Nat,X=c:=⟨X.toNat,oZ⟩
   rw[Si]at ho;obtain⟨o',hu⟩:=L6 V.d oZ ho hL;exact hu.num V.d hK
  {rintro rfl Vn sg' mt' L' ⟨x,y,h,o,rfl,rfl,Vw,VJ,hp,hl,rfl,rfl,rfl⟩ Xe h1 hL K hK;have n1:=H7 mt (ae h 2) (ae (gn mt h) 2);have n2:=H7 (gS mt (ae h 2) (ae (gn mt h) 2)) (ae (gn mt (au mt h)) 2) (ae (au mt h) 2);have hu:=MD V.d Vw VJ hp hl oZ oZ Xe h1;exact hu.num V.d hK};{rintro rfl Vn sg' mt' L' ⟨a,b,c,rfl,ha,hb,hc,hl,hab,hbc,hca,par,rfl,rfl,rfl⟩- - -K hK;exact(Ny V.d ha hb hc hl hab hbc hca par).num V.d hK}
end
theorem Fs(w:World)(xs:List Int)(S:Nat->Prop)(hS:S w.heap.size)(cs:Array Value)(VE:cs=(xs.map (Value.int .i64)).toArray):RI (w.alloc (.cells cs 3)) S (some ⟨w.heap.size,0,none⟩) xs:=fun _=>by subst VE;refine⟨w.heap.size,0,rfl,hS,fun k hk=>?_⟩;rw[Rt _ _ _ _ _ _ (Ru w _),Sr];have:=xk hk;simpa using this
theorem RI.alloc{w:World}{S:Nat->Prop}{A:Option Addr}{xs:List Int}(h:RI w S A xs)(hS:∀b,S b->b<w.heap.size)(o:Obj):RI (w.alloc o) S A xs:=h.ak fun b hb=>Rx w o b (hS b hb)
theorem AY{mt:List Int}(hI:cN mt){n:Nat}(hn:mt.length=4*n)(h1:(dq mt n).length=1):av mt n n=1/\0<n:=by
 have e:=i_ hI hn;have hl:(dq mt n).length=av mt n n:=by rw[<-e];simp
 refine⟨by rw[<-hl,h1],?_⟩;rcases Se n with h|h
 {subst h;rw[hl]at h1;exact absurd (show 0=1 from h1) oQ};{exact h}
def qJ(sg mt:List Int)(L:Int):Bool:=decide (cJ sg mt L)&&decide ((dq mt sg.length).length=1)&&decide (L=0)
theorem zK{sg mt:List Int}{L:Int}(h:qJ sg mt L=true):L=0/\I7 sg mt:=by unfold qJ at h;rw[RA,RA]at h;obtain⟨⟨h1,h2⟩,h3⟩:=h;have h1:=RU h1;have h2:=RU h2;have h3:=RU h3;subst h3;obtain⟨a,b⟩:=AY h1.2.2.2.2.2.1 h1.2.1 h2;exact⟨rfl,h1,a,b⟩
theorem J0(w:World)(xs ys:List Int)(L:Int)(cs ds:Array Value)(VE:cs=(xs.map (Value.int .i64)).toArray)(hds:ds=(ys.map (Value.int .i64)).toArray):
  bI (((w.alloc (.cells cs 3)).alloc (.cells ds 3)).alloc (.cells #[.slice (some ⟨w.heap.size,0,none⟩) xs.length xs.length,.slice (some ⟨w.heap.size+1,0,none⟩) ys.length ys.length,.int .i64 L] 24)) (w.heap.size+1+1)
   (some ⟨w.heap.size,0,none⟩) (some ⟨w.heap.size+1,0,none⟩) xs.length ys.length xs ys L/\
  Below w.heap.size w (((w.alloc (.cells cs 3)).alloc (.cells ds 3)).alloc (.cells #[.slice (some ⟨w.heap.size,0,none⟩) xs.length xs.length,.slice (some ⟨w.heap.size+1,0,none⟩) ys.length ys.length,.int .i64 L] 24)):=by
 have h1:=((Fs w xs (·<w.heap.size+1) oZ cs VE).alloc (fun b hb=>by simpa using hb) (.cells ds 3)).imp (T:=(·<w.heap.size+1+1)) fun b hb=>by omega
 have h2:=Fs (w.alloc (.cells cs 3)) ys (·<w.heap.size+1+1) oX ds hds;have e1:(w.alloc (.cells cs 3)).heap.size=w.heap.size+1:=oX;have hb:Below w.heap.size w ((w.alloc (.cells cs 3)).alloc (.cells ds 3)):=((Rh _ _).alloc (Rf _) _).alloc oX _;rw[e1]at h2;generalize hW:(w.alloc (.cells cs 3)).alloc (.cells ds 3)=W at*;have hs:W.heap.size=w.heap.size+1+1:=by rw[<-hW];simp
 have:=bI.start (c1:=xs.length) (c2:=ys.length) (L:=L) (w:=W) (·<w.heap.size+1+1) h1 h2 (fun b hb=>by omega);rw[hs]at this;exact⟨this,hb.alloc oZ _⟩
abbrev JW:List Int:=[1]
abbrev I3:List Int:=[1,0,3,2]
theorem GD:cJ JW I3 0:=by decide+kernel
theorem Ja:rows (aC I3)=[[0],[1,3],[2]]:=by decide+kernel
theorem Mf:(iN JW I3).length=1:=by decide+kernel
theorem Fb(w:World):Calls Tryz.prog 4 #[] w fun e w'=>e= .returned (.bool true)/\Below w.heap.size w w':=by
 have Wx:=J0 w JW I3 0 #[.int .i64 1] #[.int .i64 1,.int .i64 0,.int .i64 3,.int .i64 2] rfl rfl;have HX:=Rb Wx;clear Wx;go_enter Tryz.func4,Tryz.ntmps4
 go_wp2_with fail;obtain⟨W,hW⟩:∃W,((w.alloc (.cells #[.int .i64 1] 3)).alloc (.cells #[.int .i64 1,.int .i64 0,.int .i64 3,.int .i64 2] 3)).alloc (.cells #[.slice (some ⟨w.heap.size,0,none⟩) 1 1,.slice (some ⟨w.heap.size+1,0,none⟩) 4 4,.int .i64 0] 24)=W:=⟨_,rfl⟩
 have hD:bI W (w.heap.size+1+1) (some ⟨w.heap.size,0,none⟩) (some ⟨w.heap.size+1,0,none⟩) 1 4 JW I3 0:=by rw[<-hW];exact HX.out.1
 have hB:Below w.heap.size w W:=by rw[<-hW];exact HX.out.2
 rw[hW];have HD:=Rb hD;have HB:=Rb hB;clear hW hD hB HX;refine(eQ (sg:=JW) (mt:=I3) (c1:=1) (c2:=4) (·<W.heap.size) true HD.out.rs HD.out.rm (fun _ h=>h) oQ oQ (Rj GD)).mono ?_;rintro e w1 ⟨rfl,Vi⟩;have Vp:=Rb (HD.out.below Vi);have Vr:=Rb (HB.out.trans (Vi.mono HB.out.size));have k0:=Vp.out.c0;have k1:=Vp.out.c1;have k2:=Vp.out.c2;simp only[show JW.length=1 from rfl]at k0;simp only[show I3.length=4 from rfl]at k1;clear Vi HD HB;go_wp2_with fail;refine(uD _ _ 1 4 JW I3 0 w1 (·<w1.heap.size) Vp.out.rs Vp.out.rm (fun _ h=>h) GD).mono ?_;rintro e w2 ⟨rfl,Vj⟩;rw[Mf];have Ws:=Rb (Vp.out.below Vj);have VD:=Rb (Vr.out.trans (Vj.mono Vr.out.size));clear Vj Vp Vr k0 k1 k2;have k0:=Ws.out.c0;have k1:=Ws.out.c1;have k2:=Ws.out.c2;simp only[show JW.length=1 from rfl]at k0;simp only[show I3.length=4 from rfl]at k1;go_wp2_with fail;refine(oB _ _ 1 4 JW I3 0 w2 (·<w2.heap.size) Ws.out.rs Ws.out.rm (fun _ h=>h) GD).mono ?_;rintro e w3 ⟨v,rfl,hr,Vt⟩;obtain⟨Av,cv,rfl,-,-,-⟩:=hr.shape;rw[Ja];have XY:=Rb (VD.out.trans (Vt.mono VD.out.size));clear Vt hr VD Ws k0 k1 k2;go_wp2_with fail;go_ret;exact⟨rfl,XY.out⟩
theorem gh(e:Int)(w:World):Calls Tryz.prog 8 #[.int .i64 e] w fun r w'=>r= .returned (.bool (decide (e=5\/e=9)))/\w'=w:=by
 by_cases h5:e=5
 ·subst h5
  go_enter Tryz.func8,Tryz.ntmps8
  go_wp2_with fail;go_ret;exact⟨rfl,rfl⟩
 ·have q5:(e==5)=false:=by rw[Rs];exact h5
  by_cases h9:e=9
  ·subst h9
   go_enter Tryz.func8,Tryz.ntmps8
   go_wp2_with fail;go_ret;exact⟨rfl,rfl⟩
  ·have q9:(e==9)=false:=by rw[Rs];exact h9
   have hd:decide (e=5\/e=9)=false:=Rl oZ;go_enter Tryz.func8,Tryz.ntmps8
   go_wp2_with fail;go_ret;exact⟨by rw[hd];rfl,rfl⟩
section
variable{A1 A2:Option Addr}{c1 c2:Nat}{sg mt:List Int}{L:Int}(w:World)(S:Nat->Prop)(hx:RI w S A1 sg)(hy:RI w S A2 mt)(hS:∀b,S b->b<w.heap.size)
include hx hy hS
theorem tc(VL:sg.length<=maxLen)(Wb:mt.length<=maxLen):
  Calls Tryz.prog 5 #[.agg #[.slice A1 sg.length c1,.slice A2 mt.length c2,.int .i64 L]] w fun e w'=>e= .returned (.bool (qJ sg mt L))/\Below w.heap.size w w':=by
 have HD:=Rb (bI.start (c1:=c1) (c2:=c2) (L:=L) S hx hy hS);have VW:Hid (Below w.heap.size w (w.alloc (.cells #[.slice A1 sg.length c1,.slice A2 mt.length c2,.int .i64 L] 24))):=Rb ((Rh _ _).alloc (Rf _) _);clear hx hy hS;go_enter Tryz.func5,Tryz.ntmps5
 go_wp2_with fail;obtain⟨W,hW⟩:∃W,w.alloc (.cells #[.slice A1 sg.length c1,.slice A2 mt.length c2,.int .i64 L] 24)=W:=⟨_,rfl⟩
 rw[hW]at HD VW⊢;clear hW;refine(gC A1 A2 c1 c2 sg mt L W (·<W.heap.size) HD.out.rs HD.out.rm (fun _ h=>h) VL Wb).mono ?_;rintro e w1 ⟨rfl,hb⟩;have Vp:=Rb (HD.out.below hb);have Vr:=Rb (VW.out.trans (hb.mono VW.out.size));clear HD VW hb;have k0:=Vp.out.c0;have k1:=Vp.out.c1;have k2:=Vp.out.c2;by_cases hd:cJ sg mt L
 ·rw[Rj hd]
  have HV:=Rb hd;have hl256:(dq mt sg.length).length<=1000:=by
   have e:=i_ hd.2.2.2.2.2.1 hd.2.1;have hl:(dq mt sg.length).length=av mt sg.length sg.length:=by rw[<-e];simp
   have h1:=hd.1;have h2:av mt sg.length sg.length<=sg.length:=ry _ _;omega
  clear hd;go_wp2_with fail;refine(sD A1 A2 c1 c2 sg mt L w1 (·<w1.heap.size) Vp.out.rs Vp.out.rm (fun _ h=>h) HV.out).mono ?_;rintro e w2 ⟨v,rfl,hr,hb⟩;obtain⟨Ag,cg,rfl,-,-,-⟩:=hr.shape;rw[show(rows (dq mt sg.length)).length=(dq mt sg.length).length by unfold rows;rw[Sa]];have Ws:=Rb (Vp.out.below hb);have VD:=Rb (Vr.out.trans (hb.mono Vr.out.size));clear hr hb k0 k1 k2 Vp Vr;have k2:=Ws.out.c2;obtain⟨g,hg⟩:∃g,(dq mt sg.length).length=g:=⟨_,rfl⟩
  rw[hg]at hl256⊢;have HG:=Rb hg;clear hg;by_cases h1:g=1
  ·subst h1
   by_cases hL:L=0;{subst hL;go_wp2_with fail;go_ret;exact⟨by unfold qJ;rw[Rj HV.out,HG.out];rfl,VD.out⟩}
   ·have q:(L==0)=false:=by rw[Rs];exact hL
    have hq:=Rl hL;go_wp2_with fail;go_ret;exact⟨by unfold qJ;rw[hq,UX];rfl,VD.out⟩
  ·have q:((g:Int)==1)=false:=by rw[Rs];omega
   have hq:=Rl h1;go_wp2_with fail;go_ret;exact⟨by unfold qJ;rw[HG.out,hq,UX,UU];rfl,VD.out⟩
 {rw[Rl hd];have HQ:=Rb (Rl hd);clear hd;go_wp2_with fail;go_ret;exact⟨by unfold qJ;rw[HQ.out,UU,UU];rfl,Vr.out⟩}
end

open Classical



theorem mg(x y b:Nat)(hb:b<=1)(w:World):(callFunc 107 #[.int .u64 x,.int .u64 y,.int .u64 b]).run Tryz.prog w=
  .ok (.value (.tuple #[.int .u64 (((x+18446744073709551616-y-b)%18446744073709551616:Nat):Int),.int .u64 ((if x<y+b then 1 else 0:Nat):Int)])) w:=by
 rw[run_callFunc_extern Tryz.func107 qk qk qk (e:=(Extern.MathBitsCarry.rows[1]).2) qk];have:b=0\/b=1:=oZ;rcases this with rfl|rfl<;>rfl
theorem Bz(h l h1 l1 b1:Nat)(e1:(18446744073709551616-l)%18446744073709551616=l1)(e2:(if 0<l then 1 else 0)=b1)(e3:(18446744073709551616-h-b1)%18446744073709551616=h1)(w:World):
  Calls Tryz.prog 108 #[.int .u64 h,.int .u64 l] w fun e w'=>e= .returned (.tuple #[.int .u64 h1,.int .u64 l1])/\w=w':=by
 have s1:∀w,(callFunc 107 #[.int .u64 0,.int .u64 (l:Int),.int .u64 0]).run Tryz.prog w= .ok (.value (.tuple #[.int .u64 (l1:Int),.int .u64 (b1:Int)])) w:=fun w=>by have:=mg 0 l 0 oZ w;rw[show 0+18446744073709551616-l-0=18446744073709551616-l by omega,e1,show(if 0<l+0 then 1 else 0)=b1 from e2]at this;exact this
 obtain⟨b2,Vj⟩:∃x,(if 0<h+b1 then 1 else 0:Nat)=x:=⟨_,rfl⟩
 have s2:∀w,(callFunc 107 #[.int .u64 0,.int .u64 (h:Int),.int .u64 (b1:Int)]).run Tryz.prog w= .ok (.value (.tuple #[.int .u64 (h1:Int),.int .u64 (b2:Int)])) w:=fun w=>by have:=mg 0 h b1 (by rw[<-e2];split<;>omega) w;rw[show 0+18446744073709551616-h-b1=18446744073709551616-h-b1 by omega,e3,Vj]at this;exact this
 clear e1 e2 e3 Vj;go_enter Tryz.func108,Tryz.ntmps108
 go_wp2_with(simp only[s1,s2]);go_ret2;exact⟨rfl,rfl⟩
def kK(h l:Nat)(v:Int):Prop:=h<18446744073709551616/\l<18446744073709551616/\(h:Int)*18446744073709551616+l=if v<0 then v+340282366920938463463374607431768211456 else v
theorem kK.neg{h l:Nat}{v:Int}(hp:kK h l v)(hv:v.natAbs<170141183460469231731687303715884105728)(w:World):
  Calls Tryz.prog 108 #[.int .u64 h,.int .u64 l] w fun e w'=>∃h' l':Nat,e= .returned (.tuple #[.int .u64 h',.int .u64 l'])/\w=w'/\kK h' l' (-v):=by
 refine(Bz h l _ _ _ rfl rfl rfl w).mono ?_;rintro e w' ⟨rfl,rfl⟩;refine⟨_,_,rfl,rfl,?_⟩;obtain⟨h1,h2,h3⟩:=hp;unfold kK;refine⟨RY _ oQ,RY _ oQ,?_⟩;by_cases hl:0<l;{rw[Re hl];split at h3<;>split<;>omega};{rw[Rc hl];split at h3<;>split<;>omega}
theorem yT(a b:Int)(x y:Nat)(hx:(if a< -a then-a else a)=x)(hy:(if b< -b then-b else b)=y)(xl:x<9223372036854775808)(yl:y<9223372036854775808)
    (wa:IntKind.i64.wrap (-a)= -a)(wb:IntKind.i64.wrap (-b)= -b)(v:Int)(hv:(x:Int)*y=v)(sa sb:Bool)(hsa:decide (a<0)=sa)(hsb:decide (b<0)=sb)(w:World):
    Calls Tryz.prog 106 #[.int .i64 a,.int .i64 b] w fun e w'=>∃h l:Nat,e= .returned (.tuple #[.int .u64 h,.int .u64 l])/\w=w'/\kK h l (if(sa !=sb)=true then-v else v):=by
  have wx:IntKind.u64.wrap (x:Int)=(x:Int):=bN _ oZ;have wy:IntKind.u64.wrap (y:Int)=(y:Int):=bN _ oZ;have XL:=Rb (show x<18446744073709551616 by omega);have YL:=Rb (show y<18446744073709551616 by omega);have hb:x*y<=9223372036854775807*9223372036854775807:=S4 oZ oZ;have hm:=xz x y;rw[hv]at hm;have HP:Hid (kK (x*y/18446744073709551616) (x*y%18446744073709551616) v):=by
    refine⟨Nat.div_lt_of_lt_mul oZ,RY _ oQ,?_⟩;generalize x*y=m at hb hm⊢;rw[Rc oZ];omega
  have HV:Hid (v.natAbs<170141183460469231731687303715884105728):=Rb oZ;obtain⟨h,hh⟩:∃z,x*y/18446744073709551616=z:=⟨_,rfl⟩
  obtain⟨l,hl⟩:∃z,x*y%18446744073709551616=z:=⟨_,rfl⟩
  rw[hh,hl]at HP;have HH:=Rb hh;have HL:=Rb hl;clear hb hm hh hl xl yl hv;go_enter Tryz.func106,Tryz.ntmps106
  go_wp2_with(simp only[hx,hy]);refine(vW x y XL.out YL.out w).mono ?_;rintro e w1 ⟨rfl,rfl⟩;rw[HH.out,HL.out]
  cases sa<;>cases sb
  (all_goals go_wp2_with fail)
  all_goals first
    |(
       refine(HP.out.neg HV.out w).mono ?_;rintro e w1 ⟨h',l',rfl,rfl,hp⟩;have X7:=Rb hp;clear hp;go_wp2_with fail;go_ret2;exact⟨h',l',rfl,rfl,X7.out⟩)
    |(
       go_ret2;exact⟨_,_,rfl,rfl,HP.out⟩)
theorem qi(a b:Int)(ha:a.natAbs<4611686018427387904)(hb:b.natAbs<4611686018427387904)(w:World):
  Calls Tryz.prog 106 #[.int .i64 a,.int .i64 b] w fun e w'=>∃h l:Nat,e= .returned (.tuple #[.int .u64 h,.int .u64 l])/\w=w'/\kK h l (a*b):=by
 have hx:(if a< -a then-a else a)=(a.natAbs:Int):=by split<;>omega
 have hy:(if b< -b then-b else b)=(b.natAbs:Int):=by split<;>omega
 refine(yT a b a.natAbs b.natAbs hx hy oZ oZ (by rw[Sg];omega) (by rw[Sg];omega) _ rfl _ _ rfl rfl w).mono ?_;rintro e w' ⟨h,l,rfl,hw,hp⟩;refine⟨h,l,rfl,hw,?_⟩;have:(if(decide (a<0)!=decide (b<0))=true then-((a.natAbs:Int)*b.natAbs)else(a.natAbs:Int)*b.natAbs)=a*b:=by by_cases h1:a<0<;>by_cases h2:b<0;{rw[Rj h1,Rj h2,Rc oQ,show(a.natAbs:Int)= -a by omega,show(b.natAbs:Int)= -b by omega,UM]};{rw[Rj h1,Rl h2,Re oQ,show(a.natAbs:Int)= -a by omega,show(b.natAbs:Int)=b by omega,SG,Ue]};{rw[Rl h1,Rj h2,Re oQ,show(a.natAbs:Int)=a by omega,show(b.natAbs:Int)= -b by omega,SX,Ue]};{rw[Rl h1,Rl h2,Rc oQ,show(a.natAbs:Int)=a by omega,show(b.natAbs:Int)=b by omega]}
 rw[this]at hp;exact hp
theorem kK.sub{h1 l1 h2 l2:Nat}{v1 v2:Int}(p1:kK h1 l1 v1)(p2:kK h2 l2 v2)(Yx:v1.natAbs<85070591730234615865843651857942052864)(WA:v2.natAbs<85070591730234615865843651857942052864):
  kK ((h1+18446744073709551616-h2-(if l1<l2+0 then 1 else 0))%18446744073709551616) ((l1+18446744073709551616-l2-0)%18446744073709551616) (v1-v2):=by
 obtain⟨a1,a2,a3⟩:=p1;obtain⟨b1,b2,b3⟩:=p2;unfold kK;refine⟨RY _ oQ,RY _ oQ,?_⟩;by_cases hl:l1<l2+0;{rw[Re hl];split at a3<;>split at b3<;>split<;>omega};{rw[Rc hl];split at a3<;>split at b3<;>split<;>omega}
theorem kK.top{h l:Nat}{v:Int}(p:kK h l v)(hv:v.natAbs<170141183460469231731687303715884105728):((h:Int)/9223372036854775808==1)=decide (v<0):=by obtain⟨a1,a2,a3⟩:=p;by_cases h0:v<0;{rw[Re h0]at a3;rw[Rj h0,SA];omega};{rw[Rc h0]at a3;rw[Rl h0,Rs];omega}
theorem rh{h l E R:Nat}{v:Int}(p:kK h l v)(hv:v=(R:Int)*E)(h0:E≠0)(hR:R<4611686018427387904):h<E/\(h*18446744073709551616+l)/E=R:=by obtain⟨a1,a2,a3⟩:=p;rw[hv,xz]at a3;rw[Rc oZ]at a3;have e:h*18446744073709551616+l=R*E:=oZ;have hRE:R*E<=4611686018427387903*E:=To _ oZ;refine⟨oZ,?_⟩;rw[e];exact Nat.mul_div_cancel _ oZ
theorem yt(a b c d e r:Int)(ha:a.natAbs<=9007199254740992)(hb:b.natAbs<=9007199254740992)(hc:c.natAbs<=9007199254740992)(hd:d.natAbs<=9007199254740992)(he:e.natAbs<=9007199254740992)
  (h0:e≠0)(hr:a*b-c*d=r*e)(hrb:r.natAbs<4611686018427387904)(w:World):
  Calls Tryz.prog 97 #[.int .i64 a,.int .i64 b,.int .i64 c,.int .i64 d,.int .i64 e] w fun x w'=>x= .returned (.int .i64 r)/\∃n,w'=w.drewN n:=by
 have HA:=Rb (show a.natAbs<4611686018427387904 by omega);have HB:=Rb (show b.natAbs<4611686018427387904 by omega);have HC:=Rb (show c.natAbs<4611686018427387904 by omega);have HD:=Rb (show d.natAbs<4611686018427387904 by omega);have b1:(a*b).natAbs<=9007199254740992*9007199254740992:=by rw[Ud];exact S4 ha hb
 have b2:(c*d).natAbs<=9007199254740992*9007199254740992:=by rw[Ud];exact S4 hc hd
 have HS:=Rb (fun h1 l1 h2 l2 (p1:kK h1 l1 (a*b)) (p2:kK h2 l2 (c*d))=>kK.sub p1 p2 oZ oZ);have hvb:(a*b-c*d).natAbs<170141183460469231731687303715884105728:=oZ;have HVB:=Rb hvb;have HTOP:=Rb (fun h l (p:kK h l (a*b-c*d))=>p.top hvb);have HR:=Rb hr;have HRB:=Rb hrb;have HE:=Rb he;have Xq:=Rb h0;have HAB:=Rb (Ud r e);clear ha hb hc hd b1 b2 hvb hr hrb he h0;go_enter Tryz.func97,Tryz.ntmps97
 go_wp2_with fail;refine(qi a b HA.out HB.out w).mono ?_;rintro x w1 ⟨h1,l1,rfl,rfl,hp⟩;have P1:=Rb hp;clear hp;go_wp2_with fail;refine(qi c d HC.out HD.out w).mono ?_;rintro x w1 ⟨h2,l2,rfl,rfl,hp⟩;have P2:=Rb hp;clear hp;have p3:=HS.out _ _ _ _ P1.out P2.out;obtain⟨br,ZF⟩:∃x,(if l1<l2+0 then 1 else 0:Nat)=x:=⟨_,rfl⟩
 obtain⟨l3,hl3⟩:∃x,(l1+18446744073709551616-l2-0)%18446744073709551616=x:=⟨_,rfl⟩
 have s1:∀w,(callFunc 107 #[.int .u64 (l1:Int),.int .u64 (l2:Int),.int .u64 0]).run Tryz.prog w= .ok (.value (.tuple #[.int .u64 (l3:Int),.int .u64 (br:Int)])) w:=fun w=>by have:=mg l1 l2 0 oZ w;rw[hl3,ZF]at this;exact this
 rw[hl3,ZF]at p3;obtain⟨h3,hh3⟩:∃x,(h1+18446744073709551616-h2-br)%18446744073709551616=x:=⟨_,rfl⟩
 rw[hh3]at p3;obtain⟨bo,hbo⟩:∃x,(if h1<h2+br then 1 else 0:Nat)=x:=⟨_,rfl⟩
 have s2:∀w,(callFunc 107 #[.int .u64 (h1:Int),.int .u64 (h2:Int),.int .u64 (br:Int)]).run Tryz.prog w= .ok (.value (.tuple #[.int .u64 (h3:Int),.int .u64 (bo:Int)])) w:=fun w=>by have:=mg h1 h2 br (by rw[<-ZF];split<;>omega) w;rw[hh3,hbo]at this;exact this
 have t1:=HTOP.out _ _ p3;have t2:((h3:Int)/2^63==1)=decide (a*b-c*d<0):=t1;have P3:=Rb p3;clear p3 ZF hl3 hh3 hbo;obtain⟨v,hv⟩:∃x,a*b-c*d=x:=⟨_,rfl⟩
 rw[hv]at t1 t2 P3 HVB HR;clear hv HTOP HS;by_cases hv0:v<0
 ·rw[Rj hv0]at t1 t2
  by_cases e0:e<0
  ·obtain⟨E,hE⟩:∃E:Nat,e= -(E:Int):=⟨e.natAbs,oZ⟩
   obtain⟨R,hR⟩:∃R:Nat,r=(R:Int):=⟨r.natAbs,by
    have hh:=HR.out;have hn:=Xq.out;have:0<=r:=Rq fun hr=>by have:=TW (show 0<=-r by omega) (show 0<=-e by omega);rw[UM]at this;omega
    omega⟩
   have HM:=Rb (show-v=(R:Int)*E by rw[HR.out,hR,hE,SX,Ue]);have Vi:=HE.out;have Vj:=Xq.out;have Vt:=HRB.out;have Zv:=Rb (show E≠0 by omega);have HRR:=Rb (show R<4611686018427387904 by omega);have HEL:=Rb (show E<18446744073709551616 by omega);have we:IntKind.i64.wrap (-e)=(E:Int):=by rw[Sg];omega
   have te:decide (e<0)=true:=Rj e0;have wu:IntKind.u64.wrap (E:Int)=(E:Int):=bN _ oZ;have wr:IntKind.i64.wrap (R:Int)=(R:Int):=by rw[Sg];omega
   have wn:IntKind.i64.wrap (-(R:Int))= -(R:Int):=by rw[Sg];omega
   clear e0 Vi Vj Vt hE hv0;go_wp2_with(first|rw[s1]|rw[s2]);refine(P3.out.neg HVB.out w).mono ?_;rintro x w1 ⟨h4,l4,rfl,rfl,hp⟩;obtain⟨q1,q2⟩:=rh hp HM.out Zv.out HRR.out;have HL4:=Rb hp.2.1;have g1:decide ((E:Int)<=(h4:Int))=false:=Rl oZ;have g2:decide (E<=h4)=false:=Rl oZ;have Xo:=Rb q1;have Zp:=Rb q2;clear q1 q2 hp;go_wp2_with fail;refine(jL h4 l4 E HEL.out Zv.out Xo.out HL4.out w).mono ?_;rintro x w1 ⟨rfl,n,hw⟩;have HW:=Rb hw;clear hw;rw[Zp.out];generalize(((h4*18446744073709551616+l4)%E:Nat):Int)=rm;subst hR;go_wp2_with fail;go_ret;exact⟨rfl,n,HW.out⟩
  ·obtain⟨E,hE⟩:∃E:Nat,e=(E:Int):=⟨e.natAbs,oZ⟩
   obtain⟨R,hR⟩:∃R:Nat,r= -(R:Int):=⟨r.natAbs,by
    have hh:=HR.out;have hn:=Xq.out;have:r<=0:=Rq fun hr=>by have:=TW (show 0<=r by omega) (show 0<=e by omega);omega
    omega⟩
   have HM:=Rb (show-v=(R:Int)*E by rw[HR.out,hR,hE,SG,Ue]);have Vi:=HE.out;have Vj:=Xq.out;have Vt:=HRB.out;have Zv:=Rb (show E≠0 by omega);have HRR:=Rb (show R<4611686018427387904 by omega);have HEL:=Rb (show E<18446744073709551616 by omega);subst hE;have te:decide ((E:Int)<0)=false:=Rl e0;have wu:IntKind.u64.wrap (E:Int)=(E:Int):=bN _ oZ;have wr:IntKind.i64.wrap (R:Int)=(R:Int):=by rw[Sg];omega
   have wn:IntKind.i64.wrap (-(R:Int))= -(R:Int):=by rw[Sg];omega
   clear e0 Vi Vj Vt hv0;go_wp2_with(first|rw[s1]|rw[s2]);refine(P3.out.neg HVB.out w).mono ?_;rintro x w1 ⟨h4,l4,rfl,rfl,hp⟩;obtain⟨q1,q2⟩:=rh hp HM.out Zv.out HRR.out;have HL4:=Rb hp.2.1;have g1:decide ((E:Int)<=(h4:Int))=false:=Rl oZ;have g2:decide (E<=h4)=false:=Rl oZ;have Xo:=Rb q1;have Zp:=Rb q2;clear q1 q2 hp;go_wp2_with fail;refine(jL h4 l4 E HEL.out Zv.out Xo.out HL4.out w).mono ?_;rintro x w1 ⟨rfl,n,hw⟩;have HW:=Rb hw;clear hw;rw[Zp.out];generalize(((h4*18446744073709551616+l4)%E:Nat):Int)=rm;subst hR;go_wp2_with fail;go_ret;exact⟨rfl,n,HW.out⟩
 ·rw[Rl hv0]at t1 t2
  by_cases e0:e<0
  ·obtain⟨E,hE⟩:∃E:Nat,e= -(E:Int):=⟨e.natAbs,oZ⟩
   obtain⟨R,hR⟩:∃R:Nat,r= -(R:Int):=⟨r.natAbs,by
    have hh:=HR.out;have hn:=Xq.out;have:r<=0:=Rq fun hr=>by have:=TA (show 0<r by omega) (show 0< -e by omega);rw[SX]at this;omega
    omega⟩
   have HM:=Rb (show v=(R:Int)*E by rw[HR.out,hR,hE,UM]);have Vi:=HE.out;have Vj:=Xq.out;have Vt:=HRB.out;have Zv:=Rb (show E≠0 by omega);have HRR:=Rb (show R<4611686018427387904 by omega);have HEL:=Rb (show E<18446744073709551616 by omega);have we:IntKind.i64.wrap (-e)=(E:Int):=by rw[Sg];omega
   have te:decide (e<0)=true:=Rj e0;have wu:IntKind.u64.wrap (E:Int)=(E:Int):=bN _ oZ;have wr:IntKind.i64.wrap (R:Int)=(R:Int):=by rw[Sg];omega
   have wn:IntKind.i64.wrap (-(R:Int))= -(R:Int):=by rw[Sg];omega
   clear e0 Vi Vj Vt hE hv0;obtain⟨q1,q2⟩:=rh P3.out HM.out Zv.out HRR.out;have HL4:=Rb P3.out.2.1;have g1:decide ((E:Int)<=(h3:Int))=false:=Rl oZ;have g2:decide (E<=h3)=false:=Rl oZ;have Xo:=Rb q1;have Zp:=Rb q2;clear q1 q2;go_wp2_with(first|rw[s1]|rw[s2]);refine(jL h3 l3 E HEL.out Zv.out Xo.out HL4.out w).mono ?_;rintro x w1 ⟨rfl,n,hw⟩;have HW:=Rb hw;clear hw;rw[Zp.out];generalize(((h3*18446744073709551616+l3)%E:Nat):Int)=rm;subst hR;go_wp2_with fail;go_ret;exact⟨rfl,n,HW.out⟩
  ·obtain⟨E,hE⟩:∃E:Nat,e=(E:Int):=⟨e.natAbs,oZ⟩
   obtain⟨R,hR⟩:∃R:Nat,r=(R:Int):=⟨r.natAbs,by
    have hh:=HR.out;have hn:=Xq.out;have:0<=r:=Rq fun hr=>by have:=TA (show 0< -r by omega) (show 0<e by omega);rw[SG]at this;omega
    omega⟩
   have HM:=Rb (show v=(R:Int)*E by rw[HR.out,hR,hE]);have Vi:=HE.out;have Vj:=Xq.out;have Vt:=HRB.out;have Zv:=Rb (show E≠0 by omega);have HRR:=Rb (show R<4611686018427387904 by omega);have HEL:=Rb (show E<18446744073709551616 by omega);subst hE;have te:decide ((E:Int)<0)=false:=Rl e0;have wu:IntKind.u64.wrap (E:Int)=(E:Int):=bN _ oZ;have wr:IntKind.i64.wrap (R:Int)=(R:Int):=by rw[Sg];omega
   have wn:IntKind.i64.wrap (-(R:Int))= -(R:Int):=by rw[Sg];omega
   clear e0 Vi Vj Vt hv0;obtain⟨q1,q2⟩:=rh P3.out HM.out Zv.out HRR.out;have HL4:=Rb P3.out.2.1;have g1:decide ((E:Int)<=(h3:Int))=false:=Rl oZ;have g2:decide (E<=h3)=false:=Rl oZ;have Xo:=Rb q1;have Zp:=Rb q2;clear q1 q2;go_wp2_with(first|rw[s1]|rw[s2]);refine(jL h3 l3 E HEL.out Zv.out Xo.out HL4.out w).mono ?_;rintro x w1 ⟨rfl,n,hw⟩;have HW:=Rb hw;clear hw;rw[Zp.out];generalize(((h3*18446744073709551616+l3)%E:Nat):Int)=rm;subst hR;go_wp2_with fail;go_ret;exact⟨rfl,n,HW.out⟩
structure Ly where
 (ba bd bb bp bq bA bD:Nat)
 (bs cp:Nat->Nat)
 (P Q:Option Addr)
structure EW(w:World)(L:Ly)(n:Nat)(a:Mx)(dn:Nat->Bool)(b:Int)(p q:Nat):Prop where
 ca:w.cell? ⟨L.ba,0,none⟩=some (.slice L.P n n)
 cd:w.cell? ⟨L.bd,0,none⟩=some (.slice L.Q n n)
 cb:w.cell? ⟨L.bb,0,none⟩=some (.int .i64 b)
 cp:w.cell? ⟨L.bp,0,none⟩=some (.int .i64 p)
 cq:w.cell? ⟨L.bq,0,none⟩=some (.int .i64 q)
 fb:w.frozen? ⟨L.bb,0,none⟩=false
 fp:w.frozen? ⟨L.bp,0,none⟩=false
 fq:w.frozen? ⟨L.bq,0,none⟩=false
 tp:0<n->L.P=some ⟨L.bA,0,none⟩/\L.Q=some ⟨L.bD,0,none⟩
 hd:∀i,i<n->w.cell? ⟨L.bA,i,none⟩=some (.slice (some ⟨L.bs i,0,none⟩) n (L.cp i))
 en:∀i j,i<n->j<n->w.cell? ⟨L.bs i,j,none⟩=some (.int .i64 (a i j))
 fr:∀i j,i<n->j<n->w.frozen? ⟨L.bs i,j,none⟩=false
 dc:∀i,i<n->w.cell? ⟨L.bD,i,none⟩=some (.bool (dn i))
 fd:∀i,i<n->w.frozen? ⟨L.bD,i,none⟩=false
 od:L.bp<L.bq/\L.bq<L.bA/\L.bA<L.ba/\L.ba<L.bD/\L.bD<L.bd/\L.bd<L.bb/\L.bb<w.heap.size
 os:∀i,i<n->L.ba<L.bs i/\L.bs i<L.bD
 oi:∀i j,i<j->j<n->L.bs i<L.bs j
theorem aJ{w:World}{b c j k:Nat}{v:Value}(h:b≠c):(w.setCell ⟨b,j,none⟩ v).cell? ⟨c,k,none⟩=w.cell? ⟨c,k,none⟩:=aW fun e=>by injection e with e;exact h e
theorem iU{w:World}{b j k:Nat}{v:Value}(h:j≠k):(w.setCell ⟨b,j,none⟩ v).cell? ⟨b,k,none⟩=w.cell? ⟨b,k,none⟩:=aW fun e=>by injection e with _ e;exact h e
section
variable{w w':World}{L:Ly}{n:Nat}{a:Mx}{dn:Nat->Bool}{b:Int}{p q:Nat}
theorem EW.heap(h:EW w L n a dn b p q)(e:w'.heap=w.heap):EW w' L n a dn b p q:=by
 have c:∀x,w'.cell? x=w.cell? x:=fun x=>Ri (by rw[e])
 have f:∀x,w'.frozen? x=w.frozen? x:=fun x=>Ro (by rw[e])
 exact⟨by rw[c];exact h.ca,by rw[c];exact h.cd,by rw[c];exact h.cb,by rw[c];exact h.cp,by rw[c];exact h.cq,by rw[f];exact h.fb,by rw[f];exact h.fp,by rw[f];exact h.fq,h.tp,fun i hi=>by rw[c];exact h.hd i hi,
  fun i j hi hj=>by rw[c];exact h.en i j hi hj,fun i j hi hj=>by rw[f];exact h.fr i j hi hj,fun i hi=>by rw[c];exact h.dc i hi,fun i hi=>by rw[f];exact h.fd i hi,by rw[e];exact h.od,h.os,h.oi⟩
theorem EW.congr{a':Mx}{dn':Nat->Bool}(h:EW w L n a dn b p q)(he:∀i j,i<n->j<n->a i j=a' i j)(hd:∀i,i<n->dn i=dn' i):EW w L n a' dn' b p q:=
 {h with en:=fun i j hi hj=>by rw[<-he i j hi hj];exact h.en i j hi hj,dc:=fun i hi=>by rw[<-hd i hi];exact h.dc i hi}
theorem EW.Qf(h:EW w L n a dn b p q){i j:Nat}(hi:i<n)(hj:j<n)(Vh:i≠j):L.bs i≠L.bs j:=by
 rcases US Vh with k|k
 {have:=h.oi i j k hj;omega};{have:=h.oi j i k hi;omega}
theorem EW.store(h:EW w L n a dn b p q){i j:Nat}(hi:i<n)(hj:j<n)(v:Int):
  EW (w.setCell ⟨L.bs i,j,none⟩ (.int .i64 v)) L n (fun x y=>if x=i/\y=j then v else a x y) dn b p q:=by
 obtain⟨o1,o2,o3,o4,o5,o6,o7⟩:=h.od;obtain⟨s1,s2⟩:=h.os i hi;refine⟨by rw[aJ oZ];exact h.ca,by rw[aJ oZ];exact h.cd,by rw[aJ oZ];exact h.cb,by rw[aJ oZ];exact h.cp,by rw[aJ oZ];exact h.cq,by rw[Rp];exact h.fb,
  by rw[Rp];exact h.fp,by rw[Rp];exact h.fq,h.tp,fun x hx=>by rw[aJ oZ];exact h.hd x hx,fun x y hx hy=>?_,fun x y hx hy=>by rw[Rp];exact h.fr x y hx hy,
  fun x hx=>by rw[aJ oZ];exact h.dc x hx,fun x hx=>by rw[Rp];exact h.fd x hx,by rw[RS];exact h.od,h.os,h.oi⟩
 by_cases e:x=i/\y=j;{obtain⟨rfl,rfl⟩:=e;rw[Re ⟨rfl,rfl⟩];exact bV (h.en x y hx hy)};{rw[Rc e];by_cases ex:x=i;{subst ex;rw[iU oZ];exact h.en x y hx hy};{rw[aJ (h.Qf hi hx (TM ex))];exact h.en x y hx hy}}
theorem EW.PQ(h:EW w L n a dn b p q){i:Nat}(hi:i<n)(v:Bool):EW (w.setCell ⟨L.bD,i,none⟩ (.bool v)) L n a (fun x=>if x=i then v else dn x) b p q:=by
 obtain⟨o1,o2,o3,o4,o5,o6,o7⟩:=h.od;refine⟨by rw[aJ oZ];exact h.ca,by rw[aJ oZ];exact h.cd,by rw[aJ oZ];exact h.cb,by rw[aJ oZ];exact h.cp,by rw[aJ oZ];exact h.cq,by rw[Rp];exact h.fb,
  by rw[Rp];exact h.fp,by rw[Rp];exact h.fq,h.tp,fun x hx=>by rw[aJ oZ];exact h.hd x hx,fun x y hx hy=>by have:=h.os x hx;rw[aJ oZ];exact h.en x y hx hy,
  fun x y hx hy=>by rw[Rp];exact h.fr x y hx hy,fun x hx=>?_,fun x hx=>by rw[Rp];exact h.fd x hx,by rw[RS];exact h.od,h.os,h.oi⟩
 by_cases e:x=i;{subst e;rw[Re rfl];exact bV (h.dc x hx)};{rw[Rc e,iU (TM e)];exact h.dc x hx}
theorem EW.Qr(h:EW w L n a dn b p q)(v:Int):EW (w.setCell ⟨L.bb,0,none⟩ (.int .i64 v)) L n a dn v p q:=by
 obtain⟨o1,o2,o3,o4,o5,o6,o7⟩:=h.od;exact⟨by rw[aJ oZ];exact h.ca,by rw[aJ oZ];exact h.cd,bV h.cb,by rw[aJ oZ];exact h.cp,by rw[aJ oZ];exact h.cq,by rw[Rp];exact h.fb,
  by rw[Rp];exact h.fp,by rw[Rp];exact h.fq,h.tp,fun x hx=>by rw[aJ oZ];exact h.hd x hx,fun x y hx hy=>by have:=h.os x hx;rw[aJ oZ];exact h.en x y hx hy,
  fun x y hx hy=>by rw[Rp];exact h.fr x y hx hy,fun x hx=>by rw[aJ oZ];exact h.dc x hx,fun x hx=>by rw[Rp];exact h.fd x hx,by rw[RS];exact h.od,h.os,h.oi⟩
theorem EW.PA(h:EW w L n a dn b p q)(v:Nat):EW (w.setCell ⟨L.bp,0,none⟩ (.int .i64 v)) L n a dn b v q:=by
 obtain⟨o1,o2,o3,o4,o5,o6,o7⟩:=h.od;exact⟨by rw[aJ oZ];exact h.ca,by rw[aJ oZ];exact h.cd,by rw[aJ oZ];exact h.cb,bV h.cp,by rw[aJ oZ];exact h.cq,by rw[Rp];exact h.fb,
  by rw[Rp];exact h.fp,by rw[Rp];exact h.fq,h.tp,fun x hx=>by rw[aJ oZ];exact h.hd x hx,fun x y hx hy=>by have:=h.os x hx;rw[aJ oZ];exact h.en x y hx hy,
  fun x y hx hy=>by rw[Rp];exact h.fr x y hx hy,fun x hx=>by rw[aJ oZ];exact h.dc x hx,fun x hx=>by rw[Rp];exact h.fd x hx,by rw[RS];exact h.od,h.os,h.oi⟩
theorem EW.Qk(h:EW w L n a dn b p q)(v:Nat):EW (w.setCell ⟨L.bq,0,none⟩ (.int .i64 v)) L n a dn b p v:=by
 obtain⟨o1,o2,o3,o4,o5,o6,o7⟩:=h.od;exact⟨by rw[aJ oZ];exact h.ca,by rw[aJ oZ];exact h.cd,by rw[aJ oZ];exact h.cb,by rw[aJ oZ];exact h.cp,bV h.cq,by rw[Rp];exact h.fb,
  by rw[Rp];exact h.fp,by rw[Rp];exact h.fq,h.tp,fun x hx=>by rw[aJ oZ];exact h.hd x hx,fun x y hx hy=>by have:=h.os x hx;rw[aJ oZ];exact h.en x y hx hy,
  fun x y hx hy=>by rw[Rp];exact h.fr x y hx hy,fun x hx=>by rw[aJ oZ];exact h.dc x hx,fun x hx=>by rw[Rp];exact h.fd x hx,by rw[RS];exact h.od,h.os,h.oi⟩
end
theorem xX{w:World}{L:Ly}{n:Nat}{a:Mx}{dn:Nat->Bool}{b:Int}{p q:Nat}(h:EW w L n a dn b p q)(hn:n<=64):
  Calls Tryz.prog 98 #[.slice L.P n n,.slice L.Q n n] w fun e w'=>w=w'/\((∃i,i<n/\dn i=false/\a i i≠0/\e= .returned (.tuple #[.int .i64 i,.bool true]))\/((∀i,i<n->dn i=false->a i i=0)/\e= .returned (.tuple #[.int .i64 0,.bool false]))):=by
 have HE:=Rb h;clear h;go_enter Tryz.func98,Tryz.ntmps98
 go_wp2_with fail;go_loopw[9] (fun i' wr=>∃i:Nat,i'= .int .i64 i/\i<=n/\w=wr/\Hid (∀j,j<i->dn j=false->a j j=0)) (fun i _=>n-(intOf i).toNat)
 case atStart=>exact⟨0,rfl,Rv _,rfl,Rb fun j hj=>absurd hj (RG _)⟩
 case round=>
  obtain⟨i,rfl,Vn,rfl,HZ⟩:=hrel;by_cases Vg:i<n
  ·obtain⟨t1,t2⟩:=HE.out.tp oZ
   rw[t1,t2];have h1:=HE.out.hd i Vg;have h2:=HE.out.en i i Vg Vg;have h3:=HE.out.dc i Vg;clear t1 t2;obtain⟨v,hv⟩:∃v,a i i=v:=⟨_,rfl⟩
   rw[hv]at h2;have HV:=Rb hv;clear hv
   cases hd:dn i
   ·rw[hd]at h3
    have HD:=Rb hd;clear hd;by_cases hz:v=0
    ·subst hz
     have HN:Hid (∀j,j<i+1->dn j=false->a j j=0):=Rb fun j hj hd=>by by_cases e:j=i;{rw[e];exact HV.out};{exact HZ.out j oZ hd}
     go_wp2_with fail;go_roundw
     case rel=>exact⟨i+1,by go_num,oZ,by trivial,HN⟩
     case measure=>simp[intOf];omega
    ·have hv':(v !=0)=true:=by rw[RZ];exact hz
     have HZV:=Rb hz;clear hz;go_wp2_with fail;go_ret2;exact⟨rfl,Or.inl ⟨i,Vg,HD.out,by rw[HV.out];exact HZV.out,rfl⟩⟩
   ·rw[hd]at h3
    have HD:=Rb hd;clear hd;have HN:Hid (∀j,j<i+1->dn j=false->a j j=0):=Rb fun j hj hd=>by by_cases e:j=i;{rw[e,HD.out]at hd;exact absurd hd oQ};{exact HZ.out j oZ hd}
    go_wp2_with fail;go_roundw
    case rel=>exact⟨i+1,by go_num,oZ,by trivial,HN⟩
    case measure=>simp[intOf];omega
  {obtain rfl:i=n:=oZ;go_wp2_with fail;go_ret2;exact⟨rfl,Or.inr ⟨HZ.out,rfl⟩⟩}
theorem GQ{w:World}{L:Ly}{n:Nat}{a:Mx}{dn:Nat->Bool}{b:Int}{p q:Nat}(h:EW w L n a dn b p q)(hn:n<=64):
  Calls Tryz.prog 99 #[.slice L.P n n,.slice L.Q n n] w fun e w'=>w=w'/\((∃i j,i<n/\j<n/\dn i=false/\dn j=false/\a i j≠0/\e= .returned (.tuple #[.int .i64 i,.int .i64 j,.bool true]))\/
   ((∀i j,i<n->j<n->dn i=false->dn j=false->a i j=0)/\e= .returned (.tuple #[.int .i64 0,.int .i64 0,.bool false]))):=by
 have HE:=Rb h;clear h;go_enter Tryz.func99,Tryz.ntmps99
 go_wp2_with fail;go_loopw[11] (fun i' wr=>∃i:Nat,i'= .int .i64 i/\i<=n/\w=wr/\Hid (∀x j,x<i->j<n->dn x=false->dn j=false->a x j=0)) (fun i _=>n-(intOf i).toNat)
 case atStart=>exact⟨0,rfl,Rv _,rfl,Rb fun x j hj=>absurd hj (RG _)⟩
 case round=>
  obtain⟨i,rfl,Vn,rfl,HZ⟩:=hrel;by_cases Vg:i<n
  ·go_wp2_with fail
   go_loopw[16] (fun j' wr=>∃j:Nat,j'= .int .i64 j/\j<=n/\w=wr/\Hid (∀y,y<j->dn i=false->dn y=false->a i y=0)) (fun j _=>n-(intOf j).toNat)
   case atStart=>exact⟨0,rfl,Rv _,rfl,Rb fun y hj=>absurd hj (RG _)⟩
   case round=>
    obtain⟨j,rfl,hjn,rfl,HY⟩:=hrel;by_cases WH:j<n
    ·obtain⟨t1,t2⟩:=HE.out.tp oZ
     rw[t1,t2];have h1:=HE.out.hd i Vg;have h2:=HE.out.en i j Vg WH;have h3:=HE.out.dc i Vg;have h4:=HE.out.dc j WH;clear t1 t2;obtain⟨v,hv⟩:∃v,a i j=v:=⟨_,rfl⟩
     rw[hv]at h2;have HV:=Rb hv;clear hv;obtain⟨d1,XR⟩:∃d,dn i=d:=⟨_,rfl⟩
     obtain⟨d2,hd2⟩:∃d,dn j=d:=⟨_,rfl⟩
     rw[XR]at h3;rw[hd2]at h4;have Vp:=Rb XR;have Ws:=Rb hd2;clear XR hd2;by_cases V8:d1=false/\d2=false/\v≠0
     ·obtain⟨rfl,rfl,hz⟩:=V8
      have hv':(v !=0)=true:=by rw[RZ];exact hz
      have HZV:=Rb hz;clear hz;go_wp2_with fail
      go_ret3
      exact⟨rfl,Or.inl ⟨i,j,Vg,WH,Vp.out,Ws.out,by rw[HV.out];exact HZV.out,rfl⟩⟩
     ·have HN:Hid (∀y,y<j+1->dn i=false->dn y=false->a i y=0):=Rb fun y hy e1 e2=>by
       by_cases e:y=j;{subst e;rw[Vp.out]at e1;rw[Ws.out]at e2;rw[HV.out];exact Rq fun hz=>V8 ⟨e1,e2,hz⟩};{exact HY.out y oZ e1 e2}
      cases d1
      ·cases d2
       ·obtain rfl:v=0:=Rq fun hz=>V8 ⟨rfl,rfl,hz⟩
        clear V8;go_wp2_with fail;go_roundw
        case rel=>exact⟨j+1,by go_num,oZ,by trivial,HN⟩
        case measure=>simp[intOf];omega
       ·clear V8
        go_wp2_with fail;go_roundw
        case rel=>exact⟨j+1,by go_num,oZ,by trivial,HN⟩
        case measure=>simp[intOf];omega
      ·clear V8
       go_wp2_with fail;go_roundw
       case rel=>exact⟨j+1,by go_num,oZ,by trivial,HN⟩
       case measure=>simp[intOf];omega
    ·obtain rfl:j=n:=oZ
     have HN:Hid (∀x y,x<i+1->y<j->dn x=false->dn y=false->a x y=0):=Rb fun x y hx hy e1 e2=>by by_cases e:x=i;{subst e;exact HY.out y hy e1 e2};{exact HZ.out x y oZ hy e1 e2}
     go_wp2_with fail;go_roundw
     case rel=>exact⟨i+1,by go_num,oZ,by trivial,HN⟩
     case measure=>simp[intOf];omega
  ·obtain rfl:i=n:=oZ
   go_wp2_with fail
   go_ret3
   exact⟨rfl,Or.inr ⟨HZ.out,rfl⟩⟩
def zP(i j t:Nat)(a:Mx):Mx:=fun x y=>if x=i/\y<t then IntKind.i64.wrap (a i y+a j y)else a x y
def AH(i j t:Nat)(a:Mx):Mx:=fun x y=>if y=i/\x<t then IntKind.i64.wrap (a x i+a x j)else a x y
theorem JD{w:World}{L:Ly}{n:Nat}{a:Mx}{dn:Nat->Bool}{b:Int}{p q:Nat}(h:EW w L n a dn b p q)(hn:n<=64){i j:Nat}(hi:i<n)(hj:j<n):
  Calls Tryz.prog 95 #[.int .i64 i,.int .i64 j,.pointer (some ⟨L.ba,0,none⟩)] w fun e w'=>e= .returned (.tuple #[])/\EW w' L n (AH i j n (zP i j n a)) dn b p q/\Below L.bp w w':=by
 have HE:=Rb h;obtain⟨t1,t2⟩:=h.tp oZ;have hca:=h.ca;rw[t1]at hca;have HT:=Rb t1;have hle:L.bp<=w.heap.size:=by have:=h.od;omega
 have Xb:=Rb hle;clear h t1 t2 hle;go_enter Tryz.func95,Tryz.ntmps95
 go_wp2_with fail;go_loopw[9] (fun k' wr=>∃k:Nat,k'= .int .i64 k/\k<=n/\Hid (EW wr L n (zP i j k a) dn b p q)/\Hid (Below L.bp w wr)) (fun k _=>n-(intOf k).toNat)
 case atStart=>exact⟨0,rfl,Rv _,Rb (HE.out.congr (fun x y _ _=>by unfold zP;rw[Rc oZ]) fun _ _=>rfl),Rb (Rh _ _)⟩
 case round=>
  obtain⟨k,rfl,Zl,HX,HB⟩:=hrel;have hca:=HX.out.ca;rw[HT.out]at hca;by_cases Vg:k<n
  ·have h1:=HX.out.hd i hi
   have h2:=HX.out.hd j hj;have h3:=HX.out.en i k hi Vg;have h4:=HX.out.en j k hj Vg;have h5:=HX.out.fr i k hi Vg;have e1:zP i j k a i k=a i k:=Rc oZ;have e2:zP i j k a j k=a j k:=Rc oZ;rw[e1]at h3;rw[e2]at h4;obtain⟨v1,Yx⟩:∃v,a i k=v:=⟨_,rfl⟩
   obtain⟨v2,WA⟩:∃v,a j k=v:=⟨_,rfl⟩
   obtain⟨v3,hv3⟩:∃v,IntKind.i64.wrap (v1+v2)=v:=⟨_,rfl⟩
   rw[Yx]at h3;rw[WA]at h4;have HN:Hid (EW (wr.setCell ⟨L.bs i,k,none⟩ (.int .i64 v3)) L n (zP i j (k+1) a) dn b p q):=Rb ((HX.out.store hi Vg v3).congr (fun x y _ _=>by
    unfold zP;by_cases e:x=i/\y=k;{rw[Re e,Re ⟨e.1,oZ⟩,e.2,Yx,WA,hv3]}
    ·rw[Rc e]
     by_cases e3:x=i/\y<k;{rw[Re e3,Re ⟨e3.1,oZ⟩]}
     ·rw[Rc e3,Rc oZ]) fun _ _=>rfl)
   have Y_:L.bp<=L.bs i:=by have:=HX.out.od;have:=HX.out.os i hi;omega
   have HNB:Hid (Below L.bp w (wr.setCell ⟨L.bs i,k,none⟩ (.int .i64 v3))):=Rb (HB.out.setCell (p:=⟨L.bs i,k,none⟩) Y_ _);clear e1 e2 Yx WA Y_;go_wp2_with fail;go_region
   all_goals
    go_wp2_with fail;go_roundw
    case rel=>exact⟨k+1,by go_num,oZ,Rb (HN.out.heap rfl),Rb (HNB.out.trans ⟨rfl,rfl,rfl,Rf _,fun _ _=>rfl⟩)⟩
    case measure=>simp[intOf];omega
  ·obtain rfl:k=n:=oZ
   have HX0:Hid (EW wr L k (AH i j 0 (zP i j k a)) dn b p q):=Rb (HX.out.congr (fun x y _ _=>by unfold AH;rw[Rc oZ]) fun _ _=>rfl);clear HX;obtain⟨a1,ha1⟩:∃z,zP i j k a=z:=⟨_,rfl⟩
   rw[ha1]at HX0;have HA1:=Rb ha1;clear ha1;go_wp2_with fail;go_loopw[31] (fun t' wr=>∃t:Nat,t'= .int .i64 t/\t<=k/\Hid (EW wr L k (AH i j t a1) dn b p q)/\Hid (Below L.bp w wr)) (fun t _=>k-(intOf t).toNat)
   case atStart=>exact⟨0,rfl,Rv _,HX0,HB⟩
   case round=>
    clear HX0 HB;obtain⟨t,rfl,htn,HX,HB⟩:=hrel;have hca:=HX.out.ca;rw[HT.out]at hca;by_cases Vg:t<k
    ·have h1:=HX.out.hd t Vg
     have h3:=HX.out.en t i Vg hi;have h4:=HX.out.en t j Vg hj;have h5:=HX.out.fr t i Vg hi;have e1:AH i j t a1 t i=a1 t i:=Rc oZ;have e2:AH i j t a1 t j=a1 t j:=Rc oZ;rw[e1]at h3;rw[e2]at h4;obtain⟨v1,Yx⟩:∃v,a1 t i=v:=⟨_,rfl⟩
     obtain⟨v2,WA⟩:∃v,a1 t j=v:=⟨_,rfl⟩
     obtain⟨v3,hv3⟩:∃v,IntKind.i64.wrap (v1+v2)=v:=⟨_,rfl⟩
     rw[Yx]at h3;rw[WA]at h4;have HN:Hid (EW (wr.setCell ⟨L.bs t,i,none⟩ (.int .i64 v3)) L k (AH i j (t+1) a1) dn b p q):=Rb ((HX.out.store Vg hi v3).congr (fun x y _ _=>by
      unfold AH;by_cases e:x=t/\y=i;{rw[Re e,Re ⟨e.2,oZ⟩,e.1,Yx,WA,hv3]}
      ·rw[Rc e]
       by_cases e3:y=i/\x<t;{rw[Re e3,Re ⟨e3.1,oZ⟩]}
       ·rw[Rc e3,Rc oZ]) fun _ _=>rfl)
     have Y_:L.bp<=L.bs t:=by have:=HX.out.od;have:=HX.out.os t Vg;omega
     have HNB:Hid (Below L.bp w (wr.setCell ⟨L.bs t,i,none⟩ (.int .i64 v3))):=Rb (HB.out.setCell (p:=⟨L.bs t,i,none⟩) Y_ _);clear e1 e2 Yx WA Y_;go_wp2_with fail;go_region
     all_goals
      go_wp2_with fail;go_roundw
      case rel=>exact⟨t+1,by go_num,oZ,Rb (HN.out.heap rfl),Rb (HNB.out.trans ⟨rfl,rfl,rfl,Rf _,fun _ _=>rfl⟩)⟩
      case measure=>simp[intOf];omega
    {obtain rfl:t=k:=oZ;go_wp2_with fail;refine UP (UQ rfl _ _ _) rfl ?_;rw[HA1.out];exact⟨rfl,HX.out,HB.out⟩}
def Dc(dn:Nat->Bool)(r:Mx)(s t:Nat)(a:Mx):Mx:=fun x y=>if dn x=false/\dn y=false/\(x<s\/x=s/\y<t)then r x y else a x y
def D'(dn:Nat->Bool)(r a:Mx):Mx:=fun x y=>if dn x=false/\dn y=false then r x y else a x y
def l_(p0:Nat)(dn:Nat->Bool):Nat->Bool:=fun x=>if x=p0 then true else dn x
structure QD(a:Mx)(b:Int)(r:Mx)(p0 i j:Nat):Prop where
 h1:(a i j).natAbs<=9007199254740992
 h2:(a i p0).natAbs<=9007199254740992
 h3:(a p0 j).natAbs<=9007199254740992
 eq:a p0 p0*a i j-a i p0*a p0 j=r i j*b
 hr:(r i j).natAbs<4611686018427387904
theorem sB{w:World}{L:Ly}{n:Nat}{a r:Mx}{dn:Nat->Bool}{b:Int}{p q:Nat}(h:EW w L n a dn b p q)(hn:n<=64)(hp:p<=64)(hq:q<=64){p0:Nat}(Yc:p0<n)(hb:b.natAbs<=9007199254740992)(Wn:b≠0)(hpv:(a p0 p0).natAbs<=9007199254740992)
    (hQ:∀i j,i<n->j<n->l_ p0 dn i=false->l_ p0 dn j=false->QD a b r p0 i j):
    Calls Tryz.prog 96 #[.int .i64 p0,.pointer (some ⟨L.bd,0,none⟩),.pointer (some ⟨L.ba,0,none⟩),.pointer (some ⟨L.bb,0,none⟩),.pointer (some ⟨L.bp,0,none⟩),.pointer (some ⟨L.bq,0,none⟩)] w
      fun e w'=>e= .returned (.tuple #[])/\EW w' L n (D' (l_ p0 dn) r a) (l_ p0 dn) (a p0 p0) (p+if(0<a p0 p0↔0<b)then 1 else 0) (q+if(0<a p0 p0↔0<b)then 0 else 1)/\Below L.bp w w':=by
  have HE:=Rb h;have HQ:=Rb hQ;have VW:=Rb hb;have HBZ:=Rb Wn;have HPV:=Rb hpv;obtain⟨t1,t2⟩:=h.tp oZ;have hca:=h.ca;have YR:=h.cd;rw[t1]at hca;rw[t2]at YR;have HT:=Rb (And.intro t1 t2);have hle:L.bp<=w.heap.size:=by have:=h.od;omega
  have Xb:=Rb hle;have HO:=Rb h.od;have hdp:=h.dc p0 Yc;have ZV:=h.fd p0 Yc;have Z':=h.PQ Yc true;have HW1:Hid (EW (w.setCell ⟨L.bD,p0,none⟩ (.bool true)) L n a (l_ p0 dn) b p q):=Rb Z';have HBL1:Hid (Below L.bp w (w.setCell ⟨L.bD,p0,none⟩ (.bool true))):=Rb ((Rh _ w).setCell (p:=⟨L.bD,p0,none⟩) (by have:=HO.out;show L.bp<=L.bD;omega) _);obtain⟨pv,hpv'⟩:∃v,a p0 p0=v:=⟨_,rfl⟩
  have c1:=Z'.ca;have c2:=Z'.hd p0 Yc;have c3:=Z'.en p0 p0 Yc Yc;have c4:=Z'.cb;rw[t1]at c1;rw[hpv']at c3;have HPE:=Rb hpv';clear h hQ hb Wn hpv t1 t2 hle Z' hpv' hca;obtain⟨s1,VV⟩:∃x,decide (0<pv)=x:=⟨_,rfl⟩
  obtain⟨s2,Xp⟩:∃x,decide (0<b)=x:=⟨_,rfl⟩
  have Xy:Hid ((0<a p0 p0↔0<b)↔s1=s2):=by
    rw[HPE.out,<-VV,<-Xp];exact⟨fun h=>Sj.2 h,fun h=>Sj.1 h⟩
  go_enter Tryz.func96,Tryz.ntmps96
  go_upto_if 24 with fail
  generalize w.setCell ⟨L.bD,p0,none⟩ (.bool true)=w1 at c1 c2 c3 c4 HW1 HBL1⊢;clear YR hdp ZV VV Xp
  go_cut []from 24 to 28 (fun wx=>Hid (EW wx L n a (l_ p0 dn) b (p+if s1=s2 then 1 else 0) (q+if s1=s2 then 0 else 1))/\Hid (Below L.bp w wx))
  case first=>
    obtain⟨-,-,-,c5,c6,-,f5,f6,-,-,-,-,-,-,-,-,-⟩:=HW1.out;have X7:=Rb (HW1.out.PA (p+1));have ZT:=Rb (HW1.out.Qk (q+1));have B5:=Rb (HBL1.out.setCell (p:=⟨L.bp,0,none⟩) (Rf _) (.int .i64 ((p+1:Nat):Int)));have B6:=Rb (HBL1.out.setCell (p:=⟨L.bq,0,none⟩) (by have:=HO.out;show L.bp<=L.bq;omega) (.int .i64 ((q+1:Nat):Int)))
    cases s1<;>cases s2
    all_goals
      go_wp2_with fail
      go_meet
    · case rel=>exact⟨Rb (X7.out.heap rfl),Rb (B5.out.trans ⟨rfl,rfl,rfl,Rf _,fun _ _=>rfl⟩)⟩
    · case rel=>exact⟨Rb (ZT.out.heap rfl),Rb (B6.out.trans ⟨rfl,rfl,rfl,Rf _,fun _ _=>rfl⟩)⟩
    · case rel=>exact⟨Rb (ZT.out.heap rfl),Rb (B6.out.trans ⟨rfl,rfl,rfl,Rf _,fun _ _=>rfl⟩)⟩
    · case rel=>exact⟨Rb (X7.out.heap rfl),Rb (B5.out.trans ⟨rfl,rfl,rfl,Rf _,fun _ _=>rfl⟩)⟩
  case rest=>
    obtain⟨HX,HB⟩:=hcut;obtain⟨P',Xl⟩:∃x,(p+if s1=s2 then 1 else 0)=x:=⟨_,rfl⟩
    obtain⟨Q',hQ'⟩:∃x,(q+if s1=s2 then 0 else 1)=x:=⟨_,rfl⟩
    rw[Xl,hQ']at HX;have X7:=Rb Xl;have ZT:=Rb hQ';obtain⟨dp,hdp⟩:∃x,l_ p0 dn=x:=⟨_,rfl⟩
    have HDP:Hid (dp p0=true):=by rw[<-hdp];exact Re rfl
    rw[hdp]at HX HQ;have HDE:=Rb hdp;clear c1 c2 c3 c4 HW1 HBL1 HE Xl hQ' hdp;have hca:=HX.out.ca;rw[HT.out.1]at hca;have HX0:Hid (EW wc L n (Dc dp r 0 0 a) dp b P' Q'):=Rb (HX.out.congr (fun x y _ _=>by unfold Dc;rw[Rc oZ]) fun _ _=>rfl);clear HX;go_wp2_with fail;go_loopw[31] (fun i' wr=>∃i:Nat,i'= .int .i64 i/\i<=n/\Hid (EW wr L n (Dc dp r i 0 a) dp b P' Q')/\Hid (Below L.bp w wr)) (fun i _=>n-(intOf i).toNat)
    case atStart=>exact⟨0,rfl,Rv _,HX0,HB⟩
    case round=>
      clear HX0 HB hca;obtain⟨i,rfl,Vn,HX,HB⟩:=hrel;have hca:=HX.out.ca;rw[HT.out.1]at hca;by_cases Vg:i<n
      · go_wp2_with fail
        go_loopw[36] (fun j' wr=>∃j:Nat,j'= .int .i64 j/\j<=n/\Hid (EW wr L n (Dc dp r i j a) dp b P' Q')/\Hid (Below L.bp w wr)) (fun j _=>n-(intOf j).toNat)
        case atStart=>exact⟨0,rfl,Rv _,HX,HB⟩
        case round=>
          clear HX HB hca;obtain⟨j,rfl,hjn,HX,HB⟩:=hrel;have hca:=HX.out.ca;have YR:=HX.out.cd;rw[HT.out.1]at hca;rw[HT.out.2]at YR;by_cases WH:j<n
          · have d1:=HX.out.dc i Vg
            have d2:=HX.out.dc j WH;by_cases V8:dp i=false/\dp j=false
            · have HGO:=Rb V8
              rw[V8.1]at d1;rw[V8.2]at d2;have h1:=HX.out.hd i Vg;have h2:=HX.out.hd p0 Yc;have h3:=HX.out.en i j Vg WH;have h4:=HX.out.en i p0 Vg Yc;have h5:=HX.out.en p0 j Yc WH;have h6:=HX.out.cb;have h7:=HX.out.fr i j Vg WH;have e1:Dc dp r i j a i j=a i j:=Rc oZ;have e2:Dc dp r i j a i p0=a i p0:=Rc (by rw[HDP.out];simp);have e3:Dc dp r i j a p0 j=a p0 j:=Rc (by rw[HDP.out];simp);rw[e1]at h3;rw[e2]at h4;rw[e3]at h5;have hqd:=HQ.out i j Vg WH V8.1 V8.2;obtain⟨v,hv⟩:∃v,r i j=v:=⟨_,rfl⟩
              have HQU:Hid (∀w,Calls Tryz.prog 97 #[.int .i64 pv,.int .i64 (a i j),.int .i64 (a i p0),.int .i64 (a p0 j),.int .i64 b] w fun x w'=>x= .returned (.int .i64 v)/\∃n,w'=w.drewN n):=Rb fun w=>by
                have q1:=hqd.eq;rw[HPE.out,hv]at q1;exact yt _ _ _ _ _ v (by rw[<-HPE.out];exact HPV.out) hqd.h1 hqd.h2 hqd.h3 VW.out HBZ.out q1 (by rw[<-hv];exact hqd.hr) w
              have HN:Hid (EW (wr.setCell ⟨L.bs i,j,none⟩ (.int .i64 v)) L n (Dc dp r i (j+1) a) dp b P' Q'):=Rb ((HX.out.store Vg WH v).congr (fun x y _ _=>by
                unfold Dc;by_cases e:x=i/\y=j
                · rw[Re e,Re ⟨by rw[e.1];exact V8.1,by rw[e.2];exact V8.2,oZ⟩,e.1,e.2,hv]
                · rw[Rc e]
                  by_cases e3:dp x=false/\dp y=false/\(x<i\/x=i/\y<j)
                  · rw[Re e3,Re ⟨e3.1,e3.2.1,oZ⟩]
                  · rw[Rc e3,Rc (fun h=>e3 ⟨h.1,h.2.1,oZ⟩)]) fun _ _=>rfl)
              have Y_:L.bp<=L.bs i:=by have:=HX.out.od;have:=HX.out.os i Vg;omega
              have HNB:Hid (Below L.bp w (wr.setCell ⟨L.bs i,j,none⟩ (.int .i64 v))):=Rb (HB.out.setCell (p:=⟨L.bs i,j,none⟩) Y_ _);generalize a i j=x1 at h3 HQU;generalize a i p0=x2 at h4 HQU;generalize a p0 j=x3 at h5 HQU;clear e1 e2 e3 hqd hv Y_ V8 HX HB;go_wp2_with fail;refine aV 29 qk qk ?_;simp only[Sy,SR,Sz,S5];(repeat (go_big_quiet_step (exact Uz (HQU.out _))));refine TB ?_;rintro _ ⟨nq,rfl⟩
              all_goals
                go_wp2_with fail;go_roundw
                case rel=>exact⟨j+1,by go_num,oZ,Rb (HN.out.heap rfl),Rb (HNB.out.trans ⟨rfl,rfl,rfl,Rf _,fun _ _=>rfl⟩)⟩
                case measure=>simp[intOf];omega
            · have HN:Hid (EW wr L n (Dc dp r i (j+1) a) dp b P' Q'):=Rb (HX.out.congr (fun x y _ _=>by
                unfold Dc;by_cases e3:dp x=false/\dp y=false/\(x<i\/x=i/\y<j)
                · rw[Re e3,Re ⟨e3.1,e3.2.1,oZ⟩]
                · rw[Rc e3,Rc (fun h=>by
                    by_cases e:x=i/\y=j
                    · rw[e.1,e.2]at h
                      exact V8 ⟨h.1,h.2.1⟩
                    · exact e3 ⟨h.1,h.2.1,oZ⟩)]) fun _ _=>rfl)
              cases XR:dp i
              · cases hd2:dp j
                · exact absurd ⟨XR,hd2⟩ V8
                · rw[XR]at d1
                  rw[hd2]at d2;clear V8 XR hd2 HX;go_wp2_with fail;go_roundw
                  case rel=>exact⟨j+1,by go_num,oZ,HN,HB⟩
                  case measure=>simp[intOf];omega
              · rw[XR]at d1
                clear V8 XR HX;go_wp2_with fail;go_roundw
                case rel=>exact⟨j+1,by go_num,oZ,HN,HB⟩
                case measure=>simp[intOf];omega
          · obtain rfl:j=n:=oZ
            have HN:Hid (EW wr L j (Dc dp r (i+1) 0 a) dp b P' Q'):=Rb (HX.out.congr (fun x y _ hy=>by
              unfold Dc;by_cases e3:dp x=false/\dp y=false/\(x<i\/x=i/\y<j)
              · rw[Re e3,Re ⟨e3.1,e3.2.1,oZ⟩]
              · rw[Rc e3,Rc (fun h=>e3 ⟨h.1,h.2.1,oZ⟩)]) fun _ _=>rfl)
            go_wp2_with fail;go_roundw
            case rel=>exact⟨i+1,by go_num,oZ,HN,HB⟩
            case measure=>simp[intOf];omega
      · obtain rfl:i=n:=oZ
        have c4:=HX.out.cb;have f4:=HX.out.fb;have HN:=Rb (((HX.out.congr (a':=D' dp r a) (dn':=dp) (fun x y hx hy=>by
          unfold Dc D';by_cases e:dp x=false/\dp y=false
          · rw[Re e,Re ⟨e.1,e.2,Or.inl hx⟩]
          · rw[Rc e,Rc (fun h=>e ⟨h.1,h.2.1⟩)]) fun _ _=>rfl)).Qr pv)
        have HNB:=Rb (HB.out.setCell (p:=⟨L.bb,0,none⟩) (by have:=HO.out;show L.bp<=L.bb;omega) (.int .i64 pv));clear HX HB;go_wp2_with fail
        all_goals
          refine UP (UQ rfl _ _ _) rfl ?_;rw[HDE.out,HPE.out];have p1:=X7.out;have q1:=ZT.out
          first
            |(
               have e:=Xy.out.1 (by assumption);rw[Re e]at p1 q1;subst p1 q1;exact⟨rfl,HN.out,HNB.out⟩)
            |(
               have e:¬s1=s2:=fun e=>absurd (Xy.out.2 e) (by assumption)
               rw[Rc e]at p1 q1;subst p1 q1;exact⟨rfl,HN.out,HNB.out⟩)





end Go.Proofs.YtdbhigmklejicaaGreat
