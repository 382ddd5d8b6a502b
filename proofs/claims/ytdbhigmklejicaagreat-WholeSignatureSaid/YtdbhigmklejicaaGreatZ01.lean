/- Lemmas, each under its own premises. -/
import Derived.Test.YtdbhigmklejicaaGreatRows
import Derived.WalkKit
import Derived.WalkSpells
import Derived.WalkLawsBesides
import Derived.Lib.Hide
import Derived.Deep.QuietTactic
import Derived.BigQuiet
import Derived.Maps.AppendAt
import Derived.Deep.LoopGhost
namespace Go.Proofs.YtdbhigmklejicaaGreat
set_option maxHeartbeats 16000000
set_option maxRecDepth 100000
theorem oZ{p:Prop}(h:p:=by omega):p:=h
theorem oQ{p:Prop}(h:p:=by decide):p:=h
theorem oX{p:Prop}(h:p:=by simp):p:=h
theorem oJ{p:Prop}(h:p:=by dsimp only;omega):p:=h
theorem qj{p:Prop}(h:p:=by simp;omega):p:=h
theorem qk{p:Prop}(h:p:=by kernel_rfl):p:=h
abbrev Rb:=@Go.Lib.hid
abbrev Rc:=@if_neg
abbrev Re:=@if_pos
abbrev Rf:=@Nat.le_refl
abbrev Rh:=@Go.RowKit.Below.refl
abbrev Ri:=@Go.World.cell?_of_block
abbrev Rj:=@decide_eq_true
abbrev Rl:=@decide_eq_false
abbrev Rm:=@List.mem_range
abbrev Rn:=@Go.RowKit.Below.heap_setCell
abbrev Ro:=@Go.World.frozen?_of_block
abbrev Rp:=@Go.World.frozen?_setCell
abbrev Rq:=@Classical.byContradiction
abbrev Rs:=@beq_eq_false_iff_ne
abbrev Rt:=@Go.cell_of_row
abbrev Ru:=@Go.heap_alloc_new
abbrev Rv:=@Nat.zero_le
abbrev Rw:=@List.getD_eq_getElem?_getD
abbrev Rx:=@Go.RowKit.Below.heap_alloc
abbrev Ry:=@List.length_set
abbrev Rz:=@List.length_append
abbrev RA:=@Bool.and_eq_true
abbrev RB:=@Nat.lt_of_lt_of_le
abbrev RC:=@Go.bodyPost_ret
abbrev RD:=@Go.frozen_of_row
abbrev RE:=@decide_eq_true_eq
abbrev RF:=@Int.mul_zero
abbrev RG:=@Nat.not_lt_zero
abbrev RH:=@List.getElem?_eq_getElem
abbrev RJ:=@Go.below_drewN
abbrev RK:=@bne_eq_false_iff_eq
abbrev RM:=@Go.RowKit.Below.setCell
abbrev RO:=@Int.mul_assoc
abbrev RP:=@Go.Calls.quiet_of_same
abbrev RQ:=@Nat.le_trans
abbrev RS:=@Go.World.size_setCell
abbrev RT:=@Go.World.cell?_alloc_new
abbrev RU:=@of_decide_eq_true
abbrev RV:=@List.mem_cons
abbrev RW:=@Int.mul_comm
abbrev RX:=@Go.World.block_lt_of_cell?
abbrev RY:=@Nat.mod_lt
abbrev RZ:=@bne_iff_ne
abbrev R3:=@List.mem_filter
abbrev R4:=@Go.World.cell?_setCell_other
abbrev R5:=@Nat.lt_of_lt_of_eq
abbrev R6:=@Int.add_zero
abbrev R7:=@List.getElem_mem
abbrev R8:=@Array.getElem?_eq_getElem
abbrev R9:=@Nat.lt_succ_self
abbrev R_:=@Bool.eq_iff_iff
abbrev Sa:=@List.length_map
abbrev Sb:=@List.mem_map_of_mem
abbrev Sc:=@Int.zero_mul
abbrev Sd:=@List.length_replicate
abbrev Se:=@Nat.eq_zero_or_pos
abbrev Sf:=@Bool.eq_false_iff
abbrev Sg:=@Go.IntKind.wrap_i64
abbrev Sh:=@List.eq_nil_of_length_eq_zero
abbrev Si:=@Int.toNat_natCast
abbrev Sj:=@decide_eq_decide
abbrev Sk:=@List.range_succ
abbrev Sl:=@Nat.lt_or_eq_of_le
abbrev Sm:=@Go.World.cell?_alloc_lt
abbrev So:=@List.mem_map
abbrev Sp:=@Classical.axiomOfChoice
abbrev Sq:=@Nat.lt_irrefl
abbrev Sr:=@Nat.zero_add
abbrev Ss:=@Go.World.cell?_setCell_same
abbrev St:=@Go.IntKind.wrap_u64
abbrev Su:=@Int.mul_eq_zero
abbrev Sv:=@Bool.not_not
abbrev Sw:=@List.filter_cons_of_pos
abbrev Sx:=@List.filter_cons_of_neg
abbrev Sy:=@List.take_succ_cons
abbrev Sz:=@List.drop_succ_cons
abbrev SA:=@beq_iff_eq
abbrev SB:=@List.map_append
abbrev SC:=@List.nodup_cons
abbrev SD:=@List.nodup_range
abbrev SE:=@List.mem_cons_of_mem
abbrev SF:=@Go.IntWalk.i64_in
abbrev SG:=@Int.neg_mul
abbrev SH:=@Int.one_mul
abbrev SI:=@List.length_cons
abbrev SJ:=@List.perm_ext_iff_of_nodup
abbrev SK:=@Nat.lt_trichotomy
abbrev SL:=@Go.lt_of_block
abbrev SM:=@List.mem_cons_self
abbrev SN:=@Nat.lt_or_ge
abbrev SO:=@Nat.le_of_lt_succ
abbrev SP:=@Nat.mul_comm
abbrev SQ:=@Nat.mul_mod
abbrev SR:=@List.take_zero
abbrev SS:=@List.mem_append
abbrev SU:=@Array.getElem_modify_self
abbrev SV:=@Go.Result.andThen_ok
abbrev SW:=@List.length_range
abbrev SX:=@Int.mul_neg
abbrev SY:=@List.length_singleton
abbrev SZ:=@Int.ofNat_tdiv
abbrev S4:=@Nat.mul_le_mul
abbrev S5:=@List.drop_zero
abbrev S6:=@List.append_nil
abbrev S7:=@Go.info_parts
abbrev S8:=@Bool.false_eq_true
abbrev S9:=@Nat.lt_of_le_of_lt
abbrev S_:=@List.map_toArray
abbrev Ta:=@Nat.mul_one
abbrev Tb:=@Go.World.frozen?_alloc_old
abbrev Tc:=@List.pairwise_lt_range
abbrev Td:=@Go.RowKit.Below.drew
abbrev Te:=@List.getElem_of_mem
abbrev Tf:=@List.getElem?_eq_some_iff
abbrev Tg:=@List.length_filter_le
abbrev Th:=@List.filter_append
abbrev Ti:=@List.mem_singleton
abbrev Tj:=@Nat.add_sub_cancel
abbrev Tk:=@List.map_cons
abbrev Tl:=@Nat.mul_assoc
abbrev Tm:=@Go.World.ownsRow.cellAt
abbrev Tn:=@Go.toList_madeCells_one
abbrev To:=@Nat.mul_le_mul_right
abbrev Tp:=@Go.run_append_own_at
abbrev Tq:=@List.pairwise_map
abbrev Ts:=@Go.World.frozen?_alloc_new
abbrev Tt:=@Nat.div_add_mod
abbrev Tu:=@Nat.mul_le_mul_left
abbrev Tv:=@List.getElem_set_ne
abbrev Tw:=@List.map_nil
abbrev Tx:=@Nat.add_zero
abbrev Ty:=@Int.mul_add
abbrev Tz:=@Nat.pow_add
abbrev TA:=@Int.mul_pos
abbrev TB:=@Go.wpQuiet_nil
abbrev TC:=@List.getElem_set_self
abbrev TD:=@Nat.div_lt_iff_lt_mul
abbrev TE:=@List.getElem?_append_left
abbrev TF:=@List.pairwise_iff_getElem
abbrev TG:=@Int.eq_of_mul_eq_mul_left
abbrev TH:=@Bool.or_eq_true
abbrev TI:=@Go.Sem.run_bind
abbrev TJ:=@Go.Sem.run_pure
abbrev TK:=@Int.le_refl
abbrev TL:=@List.take_succ_eq_append_getElem
abbrev TM:=@Ne.symm
abbrev TN:=@Go.World.drewN_drewN
abbrev TO:=@Nat.add_assoc
abbrev TP:=@Int.dvd_mul_of_dvd_right
abbrev TQ:=@Bool.eq_false_or_eq_true
abbrev TR:=@List.ext_getElem
abbrev TT:=@Array.toList_inj
abbrev TU:=@List.getElem?_cons_succ
abbrev TV:=@Nat.mod_eq_of_lt
abbrev TW:=@Int.mul_nonneg
abbrev TX:=@Int.dvd_add
abbrev TY:=@Nat.sub_add_cancel
abbrev TZ:=@List.toArray_replicate
abbrev T_:=@Nat.le_antisymm
abbrev T':=@Int.natCast_mul
abbrev Ua:=@List.getElem?_set_ne
abbrev Ub:=@Array.getElem?_eq_some_iff
abbrev Uc:=@List.getElem?_append_right
abbrev Ud:=@Int.natAbs_mul
abbrev Ue:=@Int.neg_neg
abbrev Uf:=@List.getElem_map
abbrev Ug:=@Nat.succ_mul
abbrev Uh:=@Nat.zero_mul
abbrev Ui:=@Int.mul_pos_of_neg_of_neg
abbrev Uj:=@List.getElem_append_left
abbrev Uk:=@Int.mul_ne_zero
abbrev Ul:=@Nat.pos_of_ne_zero
abbrev Um:=@Int.lt_or_gt_of_ne
abbrev Un:=@decide_eq_true_iff
abbrev Uo:=@Int.mul_one
abbrev Uq:=@Nat.one_mul
abbrev Ur:=@Go.World.ownsRow_nil
abbrev Us:=@Array.getElem?_eq_none
abbrev Ut:=@Go.wpList_plain
abbrev Uu:=@Classical.not_imp
abbrev Uv:=@Nat.le_of_lt
abbrev Uw:=@Nat.add_comm
abbrev Ux:=@List.take_of_length_le
abbrev Uy:=@List.take_add_one
abbrev Uz:=@Go.Calls.quiet_of
abbrev UA:=@Go.DataW.trod_int
abbrev UB:=@List.perm_append_comm
abbrev UC:=@Go.World.ownsRow.lt
abbrev UD:=@List.length_take
abbrev UE:=@List.take_length
abbrev UF:=@beq_self_eq_true
abbrev UG:=@if_false
abbrev UH:=@Classical.not_forall
abbrev UI:=@Nat.pow_pos
abbrev UJ:=@Nat.mod_mod
abbrev UK:=@Nat.pow_mod
abbrev UL:=@Int.dvd_sub
abbrev UM:=@Int.neg_mul_neg
abbrev UN:=@Go.World.ownsRow.alloc
abbrev UO:=@Int.zero_add
abbrev UP:=@Go.bodyPost_end
abbrev UQ:=@Go.results_none
abbrev UR:=@Go.World.grownBy.refl
abbrev US:=@Nat.lt_or_gt_of_ne
abbrev UT:=@Int.ofNat_tmod
abbrev UU:=@Bool.false_and
abbrev UW:=@Int.sub_eq_add_neg
abbrev UX:=@Bool.and_false
abbrev UY:=@List.map_singleton
abbrev UZ:=@and_true
abbrev U0:=@Nat.le_succ
abbrev U1:=@List.append_assoc
abbrev U2:=@Nat.lt_succ_of_le
abbrev U3:=@Nat.add_mul
abbrev U4:=@Int.mul_sub
abbrev U5:=@Bool.not_eq_true'
abbrev U6:=@List.nodup_append
abbrev U7:=@iff_false
abbrev U8:=@Nat.lt_of_not_le
abbrev U9:=@false_and
abbrev U_:=@Nat.le_max_right
abbrev U':=@and_false
abbrev Va:=@Nat.mul_succ
abbrev Vb:=@Nat.pow_zero
abbrev Vc:=@And.left
abbrev Vd:=@true_iff
abbrev Ve:=@iff_true
abbrev Vf:=@false_iff
open Go.RowKit
def gi(xs:List Int)(k:Nat):Int:=xs.getD k 0
theorem fP{xs:List Int}{k:Nat}(h:k<xs.length):gi xs k=xs[k]:=by simp[gi,h]
theorem xu{xs:List Int}{k:Nat}(h:k<xs.length):(xs.map (Value.int .i64))[k]?=some (.int .i64 (gi xs k)):=by simp[gi,h]
theorem cX{xs ys:List Int}{k:Nat}(h:k<xs.length):gi (xs++ys) k=gi xs k:=by simp[gi,TE h]
theorem nS(xs:List Int)(y:Int):gi (xs++[y]) xs.length=y:=by simp[gi]
theorem dB{xs:List Int}{i k:Nat}{y:Int}(hi:i<xs.length):gi (xs.set i y) k=if k=i then y else gi xs k:=by by_cases h:k=i;{subst h;simp[gi,hi]};{simp only[h,UG];unfold gi;rw[Rw,Rw,Ua (fun e=>h e.symm)]}
theorem mZ{xs ys:List Int}(hl:xs.length=ys.length)(h:∀k,k<xs.length->gi xs k=gi ys k):xs=ys:=by apply TR hl;intro k h1 h2;have:=h k h1;rwa [fP h1,fP h2]at this
theorem ir{n k:Nat}{y:Int}(h:k<n):gi (List.replicate n y) k=y:=by simp[gi,h]
theorem xU(w:World)(n m:Nat):(w.drewN n).drewN m=w.drewN (n+m):=oX
theorem aF{a b:Bool}(h:a=b):Ending.returned (.bool a)= .returned (.bool b):=by rw[h]
theorem cE{k:IntKind}{a b:Int}(h:a=b):Ending.returned (.int k a)= .returned (.int k b):=by rw[h]
def RI(w:World)(S:Nat->Prop)(A:Option Addr)(xs:List Int):Prop:=
 xs≠[]->∃b off,A=some ⟨b,off,none⟩/\S b/\∀k,k<xs.length->w.cell? ⟨b,off+k,none⟩=some (.int .i64 (gi xs k))
section
variable{w w':World}{S T:Nat->Prop}{A:Option Addr}{xs:List Int}{B:Nat}{v:Value}
theorem RI.at_{k:Nat}(h:RI w S A xs)(hk:k<xs.length):
  ∃b off,A=some ⟨b,off,none⟩/\S b/\∀k,k<xs.length->w.cell? ⟨b,off+k,none⟩=some (.int .i64 (gi xs k)):=
 h (by intro e;subst e;simp at hk)
theorem RI.imp(h:RI w S A xs)(hS:∀b,S b->T b):RI w T A xs:=fun Vh=>by obtain⟨b,off,e,hb,hc⟩:=h Vh;exact⟨b,off,e,hS b hb,hc⟩
theorem RI.ak(h:RI w S A xs)(hk:∀b,S b->w'.heap[b]?=w.heap[b]?):RI w' S A xs:=fun Vh=>by obtain⟨b,off,e,hb,hc⟩:=h Vh;exact⟨b,off,e,hb,fun k Vg=>(Ri (a:=⟨b,off+k,none⟩) (hk b hb)).trans (hc k Vg)⟩
theorem RI.below(h:RI w (·<B) A xs)(hb:Below B w w'):RI w' (·<B) A xs:=h.ak fun b Vg=>hb.block b Vg
theorem RI.nil:RI w S A []:=fun h=>absurd rfl h
end
def OR{α:Type}(e:TypeId)(f:α->Value)(w:World)(B:Nat)(v:Value)(xs:List α):Prop:=w.ownsRow B e 1 v xs.length (xs.map f)
section
variable{α:Type}{e:TypeId}{f:α->Value}{w w':World}{B:Nat}{v:Value}{xs:List α}
theorem OR.nil(w:World)(B:Nat):OR e f w B (.slice none 0 0) []:=Ur w B _ _
theorem OR.shape(h:OR e f w B v xs):∃A c,v= .slice A xs.length c/\xs.length<=c/\c<=maxLen/\(xs≠[]->∃g,A=some ⟨g,0,none⟩):=by
 rcases h.2 with⟨rfl,hn⟩|⟨g,c,cur,rfl,hb,hh,hnc,Wy,VE,ht⟩
 {have:xs=[]:=Sh hn;subst this;exact⟨none,0,rfl,Rf _,Rv _,fun h=>absurd rfl h⟩};{exact⟨_,c,rfl,hnc,Wy,fun _=>⟨g,rfl⟩⟩}
theorem OR.len(h:OR e f w B v xs):xs.length<=maxLen:=by obtain⟨A,c,_,h1,h2,_⟩:=h.shape;omega
theorem OR.block(h:OR e f w B v xs)(Vh:0<xs.length):∃g c,v= .slice (some ⟨g,0,none⟩) xs.length c/\B<=g/\g<w.heap.size/\xs.length<=c/\c<=maxLen/\
  (∀k (hk:k<xs.length),w.cell? ⟨g,k,none⟩=some (f xs[k]))/\(∀k,w.frozen? ⟨g,k,none⟩=false):=by
 have h0:=h;rcases h.2 with⟨rfl,hn⟩|⟨g,c,cur,rfl,hb,hh,hnc,Wy,VE,ht⟩
 {omega}
 ·refine⟨g,c,rfl,hb,?_,hnc,Wy,fun k hk=>?_,fun k=>World.ownsRow.frozenAt h0 k⟩
  ·rcases SN g w.heap.size with h|h
   {exact h};{rw[Us h]at hh;cases hh}
  {have:=Tm h0 k oZ;rw[this];simp[hk]}
theorem OR.stored{g c:Nat}{k:Nat}(h:OR e f w B (.slice (some ⟨g,0,none⟩) xs.length c) xs)(y:α):
  OR e f (w.setCell ⟨g,k,none⟩ (f y)) B (.slice (some ⟨g,0,none⟩) (xs.set k y).length c) (xs.set k y):=by
 have:=(World.ownsRow.stored h k (f y)).1;unfold OR;rw[List.map_set,Ry];exact this
theorem OR.ak(h:OR e f w B v xs)(hg:∀g,v.ownBlock=some g->w'.heap[g]?=w.heap[g]?):OR e f w' B v xs:=by
 refine⟨h.1,?_⟩;rcases h.2 with h2|⟨g,c,cur,rfl,hb,hh,hr⟩
 {exact .inl h2};{exact .inr ⟨g,c,cur,rfl,hb,by rw[hg g rfl];exact hh,hr⟩}
theorem OR.lt(h:OR e f w B v xs):∀g,v.ownBlock=some g->B<=g/\g<w.heap.size:=UC h
theorem OR.mono{B':Nat}(h:OR e f w B v xs)(hB:B'<=B):OR e f w B' v xs:=by
 refine⟨h.1,?_⟩;rcases h.2 with h2|⟨g,c,cur,rfl,hb,hh,hr⟩
 {exact .inl h2};{exact .inr ⟨g,c,cur,rfl,oZ,hh,hr⟩}
theorem OR.drewN(h:OR e f w B v xs)(n:Nat):OR e f (w.drewN n) B v xs:=h
theorem OR.alloc(h:OR e f w B v xs)(o:Obj):OR e f (w.alloc o) B v xs:=UN h o
theorem OR.below{C:Nat}(h:OR e f w B v xs)(hb:Below C w w')(hC:w.heap.size<=C):OR e f w' B v xs:=
 h.ak fun g hg=>hb.block g (by have:=(h.lt g hg).2;omega)
theorem OR.eL{W:World}(h:OR e f w B v xs)(hb:Below B W w)(hB:B<=w.heap.size)(o:Obj)(hg:(w.alloc o).grownBy w' v.ownBlock):Below B W w':=
 (hb.alloc hB o).grown hg qj fun k hk=>(h.lt k hk).1
theorem OR.made(w:World)(B:Nat)(cs:Array Value)(hB:B<=w.heap.size)(hm:xs.length<=maxLen)(hs:cs.toList=xs.map f):
  OR e f (w.alloc (.cells cs e)) B (.slice (some ⟨w.heap.size,0,none⟩) xs.length xs.length) xs:=by
 unfold OR;rw[<-hs];exact World.ownsRow_lit w cs xs.length hB hm (by rw[<-Array.length_toList,hs];simp)
theorem ub{o:Oper}{a:Act}{K:Act->World->Prop}{Q:Exit->Act->World->Prop}{s x:Operand}{t:TypeId}{y:α}{z:Value}{bytes:Nat}
  (YH:(Tryz.prog.info? e).map (fun i=>(i.zero,i.size,i.bytes))=some (some z,1,bytes))(hz:z.cells.size=1)(Y':bytes<=24)(h1:(f y).oneCell'=true)
  (Vq:OR e f w B v xs)(hl:xs.length<1099511627776)(hB:B<=w.heap.size)
  (ho:o.op= .call {callee:= .builtin .append,args:=#[s,x],argTypes:=#[t,t]})
  (ht:Tryz.prog.underlying t=some (.slice e))(hs:a.eval s=v)(hx:a.eval x= .slice (some ⟨w.heap.size,0,none⟩) 1 1)
  (h:∀v' w',OR e f w' B v' (xs++[y])->(w.alloc (.cells #[f y] e)).grownBy w' v.ownBlock->(v'.ownBlock=v.ownBlock\/v'.ownBlock=some (w.heap.size+1))->K (a.put o.dst v') w'):
  o.wp Tryz.prog a (w.alloc (.cells #[f y] e)) K Q:=by
 obtain⟨i0,hi,V6,VU,VN⟩:=S7 YH;have YI:=Vq.alloc (.cells #[f y] e);have hm:(xs.length+1)*bytes<=(xs.length+1)*24:=Tu _ Y'
 obtain⟨v',w',VG,h2,h3,_,h5⟩:=Tp (P:=Tryz.prog) (w.alloc (.cells #[f y] e)) B t o.type e i0 z 1 bytes ht hi V6 VU VN hz oQ v xs.length _ YI
  ⟨w.heap.size,0,none⟩ 1 1 [f y] rfl (cell_one_new _ _ _) (by intro u hu;simp at hu;subst hu;exact h1) (by unfold maxLen;omega) oZ qj
 unfold Oper.wp execOp;simp only[ho,resolve,invoke,builtin,TI,TJ,SV,S_,Tk,Tw,hs,hx,VG];refine h v' w' ?_ h3 (by simpa using h5);unfold OR;simpa using h2
theorem nG{ops:Array Oper}{rest:List Oper}{o:Oper}{a:Act}{Q:Exit->Act->World->Prop}{s x:Operand}{t:TypeId}{y:α}{z:Value}{bytes:Nat}
  (YH:(Tryz.prog.info? e).map (fun i=>(i.zero,i.size,i.bytes))=some (some z,1,bytes))(hz:z.cells.size=1)(Y':bytes<=24)(h1:(f y).oneCell'=true)
  (Vq:OR e f w B v xs)(hl:xs.length<1099511627776)(hB:B<=w.heap.size)
  (XO:o.guard=none)(ho:o.op= .call {callee:= .builtin .append,args:=#[s,x],argTypes:=#[t,t]})
  (ht:Tryz.prog.underlying t=some (.slice e))(hs:a.eval s=v)(hx:a.eval x= .slice (some ⟨w.heap.size,0,none⟩) 1 1)
  (h:∀v' w',OR e f w' B v' (xs++[y])->(w.alloc (.cells #[f y] e)).grownBy w' v.ownBlock->(v'.ownBlock=v.ownBlock\/v'.ownBlock=some (w.heap.size+1))->
   wpList Tryz.prog ops Q rest (a.put o.dst v') w'):
  wpList Tryz.prog ops Q (o::rest) a (w.alloc (.cells #[f y] e)):=
 Ut XO fun _ hK=>ub YH hz Y' h1 Vq hl hB ho ht hs hx fun v' w' h2 h3 h5=>hK _ _ (h v' w' h2 h3 h5)
theorem oI{ops:Array Oper}{o:Oper}{a:Act}{K:Act->World->Prop}{Q:Exit->Act->World->Prop}{E:Prop}{s x:Operand}{t:TypeId}{y:α}{z:Value}{bytes:Nat}
  (YH:(Tryz.prog.info? e).map (fun i=>(i.zero,i.size,i.bytes))=some (some z,1,bytes))(hz:z.cells.size=1)(Y':bytes<=24)(h1:(f y).oneCell'=true)
  (Vq:OR e f w B v xs)(hl:xs.length<1099511627776)(hB:B<=w.heap.size)
  (XO:o.guard=none)(ho:o.op= .call {callee:= .builtin .append,args:=#[s,x],argTypes:=#[t,t]})
  (ht:Tryz.prog.underlying t=some (.slice e))(hs:a.eval s=v)(hx:a.eval x= .slice (some ⟨w.heap.size,0,none⟩) 1 1)
  (h:∀v' w',OR e f w' B v' (xs++[y])->(w.alloc (.cells #[f y] e)).grownBy w' v.ownBlock->(v'.ownBlock=v.ownBlock\/v'.ownBlock=some (w.heap.size+1))->K (a.put o.dst v') w'):
  if Region.wanted o (yielded ops a.tmps)=true then Oper.wp Tryz.prog o a (w.alloc (.cells #[f y] e)) K Q else E:=by
 have hw:Region.wanted o (yielded ops a.tmps)=true:=by simp[Region.wanted,XO]
 rw[Re hw];exact ub YH hz Y' h1 Vq hl hB ho ht hs hx h
end
abbrev OI(w:World)(B:Nat)(v:Value)(xs:List Int):Prop:=OR 3 (Value.int .i64) w B v xs
abbrev OB(w:World)(B:Nat)(v:Value)(xs:List Bool):Prop:=OR 4 Value.bool w B v xs
def gb(xs:List Bool)(k:Nat):Bool:=xs.getD k true
theorem CR{xs:List Bool}{k:Nat}(h:k<xs.length):gb xs k=xs[k]:=by simp[gb,h]
theorem mJ{xs:List Bool}{i k:Nat}{y:Bool}(hi:i<xs.length):gb (xs.set i y) k=if k=i then y else gb xs k:=by by_cases h:k=i;{subst h;simp[gb,hi]};{simp only[h,UG];unfold gb;rw[Rw,Rw,Ua (fun e=>h e.symm)]}
section
variable{w w':World}{B:Nat}{v:Value}{xs:List Int}{bs:List Bool}
theorem OR.ints(h:OI w B v xs)(Vh:0<xs.length):∃g c,v= .slice (some ⟨g,0,none⟩) xs.length c/\B<=g/\g<w.heap.size/\xs.length<=c/\c<=maxLen/\
  (∀k,k<xs.length->w.cell? ⟨g,k,none⟩=some (.int .i64 (gi xs k)))/\(∀k,w.frozen? ⟨g,k,none⟩=false):=by
 obtain⟨g,c,h1,h2,h3,h4,h5,h6,h7⟩:=h.block Vh;exact⟨g,c,h1,h2,h3,h4,h5,fun k hk=>by rw[fP hk];exact h6 k hk,h7⟩
theorem OR.O7(h:OB w B v bs)(Vh:0<bs.length):∃g c,v= .slice (some ⟨g,0,none⟩) bs.length c/\B<=g/\g<w.heap.size/\bs.length<=c/\c<=maxLen/\
  (∀k,k<bs.length->w.cell? ⟨g,k,none⟩=some (.bool (gb bs k)))/\(∀k,w.frozen? ⟨g,k,none⟩=false):=by
 obtain⟨g,c,h1,h2,h3,h4,h5,h6,h7⟩:=h.block Vh;exact⟨g,c,h1,h2,h3,h4,h5,fun k hk=>by rw[CR hk];exact h6 k hk,h7⟩
theorem OR.ints_at{g n c:Nat}(h:OI w B (.slice (some ⟨g,0,none⟩) n c) xs)(Vh:0<xs.length):n=xs.length/\B<=g/\g<w.heap.size/\xs.length<=c/\
  (∀k,k<xs.length->w.cell? ⟨g,k,none⟩=some (.int .i64 (gi xs k)))/\(∀k,w.frozen? ⟨g,k,none⟩=false):=by
 obtain⟨g',c',h1,h2,h3,h4,h5,h6,h7⟩:=h.ints Vh;injection h1 with e1 e2 e3
 injection e1 with e1
 injection e1 with e1
 subst e1;subst e3;exact⟨e2,h2,h3,h4,h6,h7⟩
theorem OR.dO{g n c:Nat}(h:OB w B (.slice (some ⟨g,0,none⟩) n c) bs)(Vh:0<bs.length):n=bs.length/\B<=g/\g<w.heap.size/\bs.length<=c/\
  (∀k,k<bs.length->w.cell? ⟨g,k,none⟩=some (.bool (gb bs k)))/\(∀k,w.frozen? ⟨g,k,none⟩=false):=by
 obtain⟨g',c',h1,h2,h3,h4,h5,h6,h7⟩:=h.O7 Vh;injection h1 with e1 e2 e3
 injection e1 with e1
 injection e1 with e1
 subst e1;subst e3;exact⟨e2,h2,h3,h4,h6,h7⟩
theorem OR.reads(h:OI w B v xs):∃A c,v= .slice A xs.length c/\xs.length<=c/\c<=maxLen/\RI w (fun b=>B<=b/\b<w.heap.size) A xs:=by
 rcases Se xs.length with h0|h0
 {obtain⟨A,c,h1,h2,h3,_⟩:=h.shape;have:xs=[]:=Sh h0;exact⟨A,c,h1,h2,h3,fun Vh=>absurd this Vh⟩};{obtain⟨g,c,h1,h2,h3,h4,h5,h6,h7⟩:=h.ints h0;exact⟨_,c,h1,h4,h5,fun _=>⟨g,0,rfl,⟨h2,h3⟩,fun k hk=>by rw[Sr];exact h6 k hk⟩⟩}
end
theorem fU:(Tryz.prog.info? 3).map (fun i=>(i.zero,i.size,i.bytes))=some (some (.int .i64 0),1,8):=by kernel_rfl
theorem D8:(Tryz.prog.info? 4).map (fun i=>(i.zero,i.size,i.bytes))=some (some (.bool false),1,1):=by kernel_rfl
theorem BV{ops:Array Oper}{rest:List Oper}{o:Oper}{a:Act}{Q:Exit->Act->World->Prop}{w:World}{B:Nat}{v:Value}{xs:List Int}{s x:Operand}{t:TypeId}{y:Int}
  (Vq:OI w B v xs)(hl:xs.length<1099511627776)(hB:B<=w.heap.size)
  (XO:o.guard=none)(ho:o.op= .call {callee:= .builtin .append,args:=#[s,x],argTypes:=#[t,t]})
  (ht:Tryz.prog.underlying t=some (.slice 3))(hs:a.eval s=v)(hx:a.eval x= .slice (some ⟨w.heap.size,0,none⟩) 1 1)
  (h:∀v' w',OI w' B v' (xs++[y])->(w.alloc (.cells #[.int .i64 y] 3)).grownBy w' v.ownBlock->(v'.ownBlock=v.ownBlock\/v'.ownBlock=some (w.heap.size+1))->
   wpList Tryz.prog ops Q rest (a.put o.dst v') w'):
  wpList Tryz.prog ops Q (o::rest) a (w.alloc (.cells #[.int .i64 y] 3)):=
 nG fU rfl oQ rfl Vq hl hB XO ho ht hs hx h
theorem pX{w:World}{B:Nat}{v:Value}{xs:List Int}{t ty:TypeId}(ht:Tryz.prog.underlying t=some (.slice 3))(Vq:OI w B v xs)(c:Nat):
  (Builtin.append_ #[t,t] ty #[v,.slice none 0 c]).run Tryz.prog w= .ok v w:=by
 obtain⟨i0,hi,V6,VU,VN⟩:=S7 fU;rcases Vq.2 with⟨rfl,_⟩|⟨g,cap,cur,rfl,_,_,hnc,_⟩
 {simp[Builtin.append_,run_underlying ht,sizeOf,typeInfo,hi,Builtin.lenOf,Builtin.firstCells]};{simp[Builtin.append_,run_underlying ht,sizeOf,typeInfo,hi,Builtin.lenOf,Builtin.firstCells,hnc,storeCells]}
theorem J_{ops:Array Oper}{rest:List Oper}{o:Oper}{a:Act}{Q:Exit->Act->World->Prop}{w:World}{B c:Nat}{v:Value}{xs ys:List Int}{s x:Operand}{t:TypeId}{S:Nat->Prop}{A:Option Addr}
  (Vq:OI w B v xs)(hr:RI w S A ys)(hl:xs.length+ys.length<1099511627776)(hB:B<=w.heap.size)
  (XO:o.guard=none)(ho:o.op= .call {callee:= .builtin .append,args:=#[s,x],argTypes:=#[t,t]})
  (ht:Tryz.prog.underlying t=some (.slice 3))(hs:a.eval s=v)(hx:a.eval x= .slice A ys.length c)
  (h:∀v' w',OI w' B v' (xs++ys)->w.grownBy w' v.ownBlock->(v'.ownBlock=v.ownBlock\/v'.ownBlock=some w.heap.size)->
   wpList Tryz.prog ops Q rest (a.put o.dst v') w'):
  wpList Tryz.prog ops Q (o::rest) a w:=by
 obtain⟨i0,hi,V6,VU,VN⟩:=S7 fU;refine Ut XO fun _ hK=>?_
 have VG:∃v' w',(Builtin.append_ #[t,t] o.type #[v,.slice A ys.length c]).run Tryz.prog w= .ok v' w'/\OI w' B v' (xs++ys)/\w.grownBy w' v.ownBlock/\(v'.ownBlock=v.ownBlock\/v'.ownBlock=some w.heap.size):=by
  rcases A with _|ad
  ·have hy:ys=[]:=by
    rcases ys with _|⟨y,ys⟩
    {rfl};{obtain⟨b,off,he,_⟩:=hr oX;cases he}
   subst hy;exact⟨v,w,pX ht Vq c,by simpa using Vq,UR w _,.inl rfl⟩
  ·have Zq:∀j u,(ys.map (Value.int .i64))[j]?=some u->w.cell? (ad.add j)=some u:=by
    intro j u hu;have hj:j<ys.length:=by have:=(Tf.1 hu).1;simpa using this
    obtain⟨b,off,he,_,hc⟩:=hr.at_ hj;injection he with he
    subst he;have:=hc j hj;rw[xu hj]at hu;injection hu with hu
    subst hu;unfold Addr.add;split;{rename_i h0;subst h0;simpa using this};{exact this}
   obtain⟨v',w',VG,h2,h3,_,h5⟩:=Tp (P:=Tryz.prog) w B t o.type 3 i0 (.int .i64 0) 1 8 ht hi V6 VU VN rfl oQ v xs.length _ Vq
    ad ys.length c (ys.map (Value.int .i64)) oX Zq (ints_oneCell _ _) (by unfold maxLen;omega) oZ hB
   refine⟨v',w',VG,?_,h3,h5⟩;show OR _ _ _ _ _ _;unfold OR;simpa using h2
 obtain⟨v',w',VG,h2,h3,h5⟩:=VG;unfold Oper.wp execOp;simp only[ho,resolve,invoke,builtin,TI,TJ,SV,S_,Tk,Tw,hs,hx,VG];exact hK _ _ (h v' w' h2 h3 h5)
theorem dN(t:TypeId)(ht:Tryz.prog.underlying t=some (.slice 3))(n:Nat)(hn:n<=1099511627776)(w:World):
  (Instr.makeSlice t (.int .i64 (n:Int)) (.int .i64 (n:Int))).run Tryz.prog w= .ok (.slice (some ⟨w.heap.size,0,none⟩) n n) (w.alloc (.cells (List.replicate n (Value.int .i64 0)).toArray 3)):=by
 obtain⟨i0,hi,V6,VU,VN⟩:=S7 fU;have h:=run_make (P:=Tryz.prog) w t 3 i0 (.int .i64 0) ht hi V6 .i64 .i64 n n oZ (TK _) (by rw[VN];omega) oZ;simp only[Si]at h;rw[h,VU];have e:madeCells (Value.int .i64 0).cells (n*1)=(List.replicate n (Value.int .i64 0)).toArray:=by apply TT.1;rw[Ta,show(Value.int .i64 0).cells=#[Value.int .i64 0]from rfl,Tn]
 rw[e]
theorem gH(t:TypeId)(ht:Tryz.prog.underlying t=some (.slice 4))(n:Nat)(hn:n<=1099511627776)(w:World):
  (Instr.makeSlice t (.int .i64 (n:Int)) (.int .i64 (n:Int))).run Tryz.prog w= .ok (.slice (some ⟨w.heap.size,0,none⟩) n n) (w.alloc (.cells (List.replicate n (Value.bool false)).toArray 4)):=by
 obtain⟨i0,hi,V6,VU,VN⟩:=S7 D8;have h:=run_make (P:=Tryz.prog) w t 4 i0 (.bool false) ht hi V6 .i64 .i64 n n oZ (TK _) (by rw[VN];omega) oZ;simp only[Si]at h;rw[h,VU];have e:madeCells (Value.bool false).cells (n*1)=(List.replicate n (Value.bool false)).toArray:=by apply TT.1;rw[Ta,show(Value.bool false).cells=#[Value.bool false]from rfl,Tn]
 rw[e]
theorem OI.new(w:World)(B n:Nat)(hB:B<=w.heap.size)(hn:n<=maxLen):
  OI (w.alloc (.cells (List.replicate n (Value.int .i64 0)).toArray 3)) B (.slice (some ⟨w.heap.size,0,none⟩) n n) (List.replicate n 0):=by
 have:=OR.made (e:=3) (f:=Value.int .i64) (xs:=List.replicate n (0:Int)) w B (List.replicate n (Value.int .i64 0)).toArray hB (by simpa using hn) oX;simpa using this
theorem OB.new(w:World)(B n:Nat)(hB:B<=w.heap.size)(hn:n<=maxLen):
  OB (w.alloc (.cells (List.replicate n (Value.bool false)).toArray 4)) B (.slice (some ⟨w.heap.size,0,none⟩) n n) (List.replicate n false):=by
 have:=OR.made (e:=4) (f:=Value.bool) (xs:=List.replicate n false) w B (List.replicate n (Value.bool false)).toArray hB (by simpa using hn) oX;simpa using this
structure aO(f:Nat->Nat)(N:Nat):Prop where
 lt:∀h,h<N->f h<N
 inj:∀a b,a<N->b<N->f a=f b->a=b
def it(f:Nat->Nat):Nat->Nat->Nat
 |0,h=>h
 |k+1,h=>f (it f k h)
theorem zp(f:Nat->Nat)(k h:Nat):it f (k+1) h=it f k (f h):=by
 induction k with
 |zero=>rfl
 |succ k ih=>show f (it f (k+1) h)=_;rw[ih];rfl
theorem fO(f:Nat->Nat)(a b h:Nat):it f (a+b) h=it f a (it f b h):=by
 induction a with
 |zero=>rw[Sr];rfl
 |succ a ih=>rw[Nat.add_right_comm];show f (it f (a+b) h)=f _;rw[ih]
section
variable{f:Nat->Nat}{N:Nat}
theorem aO.bL(hP:aO f N)(k:Nat){h:Nat}(hh:h<N):it f k h<N:=by
 induction k with
 |zero=>exact hh
 |succ k ih=>exact hP.lt _ ih
theorem aO.ki(hP:aO f N)(k:Nat){a b:Nat}(ha:a<N)(hb:b<N)(h:it f k a=it f k b):a=b:=by
 induction k with
 |zero=>exact h
 |succ k ih=>exact ih (hP.inj _ _ (hP.bL k ha) (hP.bL k hb) h)
theorem aO.returns(hP:aO f N){h:Nat}(hh:h<N):∃p,0<p/\p<=N/\it f p h=h:=by
 apply Rq;intro VT;have Yz:((List.range (N+1)).map (fun k=>it f k h)).Nodup:=by
  rw[List.Nodup,Tq];refine(Tc (n:=N+1)).imp_of_mem ?_;intro a b ha hb hab e;rw[Rm]at ha hb;have e2:it f b h=it f a (it f (b-a) h):=by rw[<-fO];congr 1;omega
  rw[e2]at e;have:=hP.ki a hh (hP.bL _ hh) e;exact VT ⟨b-a,oZ,oZ,this.symm⟩
 have Ye:(List.range (N+1)).map (fun k=>it f k h)⊆List.range N:=by intro x hx;rw[So]at hx;obtain⟨k,_,rfl⟩:=hx;exact Rm.2 (hP.bL k hh)
 have:=Yz.length_le_of_subset Ye;simp at this;omega
end
def wH(f:Nat->Nat)(h:Nat):Nat->Nat->Nat
 |0,k=>k
 |u+1,k=>if it f k h=h then k else wH f h u (k+1)
def eC(f:Nat->Nat)(N h:Nat):Nat:=wH f h N 1
def bJ(f:Nat->Nat)(N h:Nat):List Nat:=(List.range (eC f N h)).map fun k=>it f k h
theorem DK{f:Nat->Nat}{h p:Nat}(hp:it f p h=h):∀(u k:Nat),(∀j,0<j->j<k->it f j h≠h)->0<k->k<=p->p-k<u->
  k<=wH f h u k/\wH f h u k<=p/\it f (wH f h u k) h=h/\∀j,0<j->j<wH f h u k->it f j h≠h:=by
 intro u
 induction u with
 |zero=>intro k _ _ _ h;omega
 |succ u ih=>
  intro k hk h0 hkp hu;rw[wH];by_cases e:it f k h=h;{rw[Re e];exact⟨Rf _,hkp,e,hk⟩}
  ·rw[Rc e]
   have Vh:k≠p:=by rintro rfl;exact e hp
   have:=ih (k+1) (fun j h1 h2=>by
    rcases Sl (SO h2)with h3|rfl
    {exact hk j h1 h3}
    ·exact e) oZ oZ oZ
   exact⟨oZ,this.2⟩
section
variable{f:Nat->Nat}{N:Nat}(hP:aO f N){h g:Nat}(hh:h<N)
include hP hh
theorem bz:0<eC f N h/\eC f N h<=N/\it f (eC f N h) h=h/\∀j,0<j->j<eC f N h->it f j h≠h:=by obtain⟨p,h0,h1,h2⟩:=hP.returns hh;have:=DK h2 N 1 (by intro j a b;omega) oZ h0 oZ;exact⟨this.1,by have:=this.2.1;unfold eC;omega,this.2.2⟩
theorem jv(k:Nat):it f k h=it f (k%eC f N h) h:=by
 obtain⟨h0,_,h1,_⟩:=bz hP hh;have hm:∀q,it f (eC f N h*q) h=h:=by
  intro q
  induction q with
  |zero=>rfl
  |succ q ih=>rw[Va,fO,h1,ih]
 have hk:=Nat.mod_add_div k (eC f N h)
 conv=>lhs;rw[<-hk]
 rw[fO,hm]
theorem aG:g∈bJ f N h↔∃k,it f k h=g:=by obtain⟨h0,_,_,_⟩:=bz hP hh;unfold bJ;rw[So];constructor;{rintro⟨k,_,e⟩;exact⟨k,e⟩};{rintro⟨k,e⟩;exact⟨k%eC f N h,Rm.2 (RY _ h0),by rw[<-jv hP hh];exact e⟩}
theorem bE:h∈bJ f N h:=(aG hP hh).2 ⟨0,rfl⟩
theorem dJ(hg:g∈bJ f N h):g<N:=by obtain⟨k,rfl⟩:=(aG hP hh).1 hg;exact hP.bL k hh
theorem bU(hg:g∈bJ f N h):f g∈bJ f N h:=by obtain⟨k,rfl⟩:=(aG hP hh).1 hg;exact(aG hP hh).2 ⟨k+1,rfl⟩
theorem aL(hg:g∈bJ f N h):h∈bJ f N g:=by have hgN:=dJ hP hh hg;obtain⟨k,rfl⟩:=(aG hP hh).1 hg;obtain⟨h0,_,_,_⟩:=bz hP hh;rw[aG hP hgN];have Vg:=RY k h0;refine⟨eC f N h-k%eC f N h,?_⟩;rw[jv hP hh k,<-fO,TY oZ];exact(bz hP hh).2.2.1
theorem aM{x:Nat}(hg:g∈bJ f N h)(hx:x∈bJ f N g):x∈bJ f N h:=by have hgN:=dJ hP hh hg;obtain⟨j,rfl⟩:=(aG hP hgN).1 hx;obtain⟨k,rfl⟩:=(aG hP hh).1 hg;exact(aG hP hh).2 ⟨j+k,by rw[fO]⟩
theorem vm:(bJ f N h).Nodup:=by
 obtain⟨h0,_,_,Zr⟩:=bz hP hh;unfold bJ;rw[List.Nodup,Tq];refine(Tc (n:=eC f N h)).imp_of_mem ?_;intro a b ha hb hab e;rw[Rm]at ha hb;have e2:it f b h=it f a (it f (b-a) h):=by rw[<-fO];congr 1;omega
 rw[e2]at e;have:=hP.ki a hh (hP.bL _ hh) e;exact Zr (b-a) oZ oZ this.symm
theorem fk:(bJ f N h).length<=N:=by obtain⟨_,h1,_,_⟩:=bz hP hh;unfold bJ;simpa using h1
end
theorem eJ(f:Nat->Nat)(N h:Nat):(bJ f N h).length=eC f N h:=by simp[bJ]
theorem jz{f:Nat->Nat}{N h k:Nat}(hk:k<eC f N h):(bJ f N h).take k++[it f k h]=(bJ f N h).take (k+1):=by rw[TL (by rw[eJ];exact hk)];congr 1;simp[bJ]
def a_(f:Nat->Nat)(N h:Nat):Bool:=(bJ f N h).all fun g=>decide (h<=g)
theorem dG{f:Nat->Nat}{N h:Nat}:a_ f N h=true↔∀g,g∈bJ f N h->h<=g:=by unfold a_;rw[List.all_eq_true];simp
theorem oM{P:Nat->Prop}{n:Nat}(h:P n):∃m,P m/\∀k,P k->m<=k:=by
 induction n using Nat.strongRecOn with
 |_ n ih=>
  by_cases hex:∃k,k<n/\P k
  {obtain⟨k,hk,hp⟩:=hex;exact ih k hk hp}
  ·refine⟨n,h,fun k hk=>?_⟩
   rcases SN k n with Vg|Yf
   {exact absurd ⟨k,Vg,hk⟩ hex};{exact Yf}
theorem pw{f:Nat->Nat}{N:Nat}(hP:aO f N){h:Nat}(hh:h<N):∃m,m∈bJ f N h/\m<N/\h∈bJ f N m/\a_ f N m=true/\m<=h:=by obtain⟨m,hm,hl⟩:=oM (P:=fun x=>x∈bJ f N h) (bE hP hh);have hmN:=dJ hP hh hm;exact⟨m,hm,hmN,aL hP hh hm,dG.2 fun g hg=>hl g (aM hP hh hm hg),hl h (bE hP hh)⟩
def bR(f:Nat->Nat)(N:Nat)(wt:Nat->Bool)(n:Nat):List (List Nat):=((List.range n).filter fun h=>wt h&&a_ f N h).map (bJ f N)
theorem dS(f:Nat->Nat)(N:Nat)(wt:Nat->Bool)(n:Nat):bR f N wt (n+1)=bR f N wt n++(if(wt n&&a_ f N n)=true then[bJ f N n]else[]):=by unfold bR;rw[Sk,Th,SB];congr 1;by_cases h:(wt n&&a_ f N n)=true;{rw[Re h];simp[h]};{rw[Rc h];simp[h]}
def Seen(f:Nat->Nat)(N:Nat)(wt:Nat->Bool)(n g:Nat):Prop:=∃h,h<n/\wt h=true/\a_ f N h=true/\g∈bJ f N h
section
variable{f:Nat->Nat}{N:Nat}(hP:aO f N){wt:Nat->Bool}(hw:∀h,h<N->wt (f h)=wt h)
include hP hw
theorem lA{h g:Nat}(hh:h<N)(hg:g∈bJ f N h):wt g=wt h:=by
 obtain⟨k,rfl⟩:=(aG hP hh).1 hg;clear hg
 induction k with
 |zero=>rfl
 |succ k ih=>show wt (f _)=_;rw[hw _ (hP.bL k hh),ih]
theorem oO{n:Nat}(hn:n<N)(hwn:wt n=true):Seen f N wt n n↔a_ f N n=false:=by
 constructor;{rintro⟨h,Vg,_,_,hm⟩;rw[Sf];intro hl;have:=dG.1 hl h (aL hP oZ hm);omega}
 ·intro hl
  obtain⟨m,h1,h2,h3,h4,h5⟩:=pw hP hn;refine⟨m,?_,by rw[lA hP hw hn h1];exact hwn,h4,h3⟩;rcases Sl h5 with h6|rfl
  {exact h6};{rw[h4]at hl;cases hl}
end
theorem l_{f:Nat->Nat}{N:Nat}{wt:Nat->Bool}{n g:Nat}:Seen f N wt (n+1) g↔Seen f N wt n g\/(wt n=true/\a_ f N n=true/\g∈bJ f N n):=by
 constructor
 ·rintro⟨h,Vg,h1⟩
  rcases Sl (SO Vg)with h2|rfl
  {exact .inl ⟨h,h2,h1⟩};{exact .inr h1}
 {rintro(⟨h,Vg,h1⟩|h1);{exact⟨h,oZ,h1⟩};{exact⟨n,oZ,h1⟩}}
theorem uW{f:Nat->Nat}{N:Nat}{wt:Nat->Bool}{g:Nat}:¬Seen f N wt 0 g:=by rintro⟨h,Vg,_⟩;omega
end Go.Proofs.YtdbhigmklejicaaGreat
