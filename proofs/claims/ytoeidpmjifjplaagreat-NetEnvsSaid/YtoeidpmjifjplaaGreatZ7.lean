/- Texts put together. No statement is proved here. -/
import Derived.Test.YtoeidpmjifjplaaGreatZ6
set_option linter.all false
set_option maxRecDepth 10000
set_option maxHeartbeats 8000000
namespace Go.Proofs.YtoeidpmjifjplaaGreat
open Go.RowKit Tryz
section
attribute [local push_cast] Br Bl BV V.cells_mk V.cells_len Nat.mul_one Int.sub_zero List.map_nil beq_self_eq_true List.head?_cons
theorem YR(bx gs cS gc cC:Nat)(zS zC:List D)(x:Vr)(stp:Stp)(hx:VW x)(hs:stp.Ok)(hz:VL cS zS cC zC x)(s:St):TrF prog 189 [.ptr bx 0,.agg stp.cells] (VB bx gs cS zS gc cC zC x s) (GU Sch.widenS x stp bx s):=by
 obtain⟨ls,lc,hcs⟩:=hx
 obtain⟨hn,hbg,ho⟩:=hs
 obtain⟨hz1,hz2⟩:=hz
 have hK:=LV x stp [] q_o q_o
 have hB:=Mv stp.slot false true hbg
 have hT:=QS stp.slot.types
 have hF:Hid (Sch.widenS x stp=if Sch.column x stp=true/\Sch.bare stp.slot false true=true/\Sch.takes stp.slot.types=true/\(x.slots[Sch.at_ x stp]?).any (λy=>bits .or .i64 y.types stp.slot.types != y.types)=true then some ⟨x.slots.modify (Sch.at_ x stp) λy=>{y with types:=bits .or .i64 y.types stp.slot.types},x.cols⟩else none):=rfl
 have e1:=Aa (Fp x.slots)
 have e2:=Aa (Fz x.cols)
 have f1:=Aa (IL x)
 have f2:=Aa (IB x)
 have l1:Hid ((x.slots.map Sl.cells).length=x.slots.length):=Ab ..
 have l2:Hid ((x.cols.map BV).length=x.cols.length):=Ab ..
 unfold GU VL VB Stp.cells
 generalize Sch.widenS x stp=F at *
 cases hcl:Sch.column x stp with
|false =>
  rw[hcl]at hK hF
  unfold Vr.cells Stp.cells at hK
  clear hcl
  cases stp with
  | mk kd col slot order =>
  cases slot with
  | mk nm ty rq dv =>
  cases dv with
  | mk k n sv l =>
  dsimp only at ho |-
  generalize Db x.slots=R1 at *
  generalize DK x.cols=R2 at *
  generalize x.slots.map Sl.cells=L1 at *
  generalize x.cols.map BV=L2 at *
  rw[Sl.cells_mk]at *
  dsimp only[List.cons_append,List.nil_append]at hK |-
  generalize x.slots.length=m1 at *
  generalize x.cols.length=m2 at *
  replace hK:=Aa hK
  refine Qin [4] func189 results189 ntmps189 ?_
  repeat' (first|refine QX ?_|refine QB ?_;intro b|with_reducible refine QZ ?_<;>(try constructor)<;>intro hb<;>try intro hb1|((with_reducible apply(Ft call202));(focus exact hK.out);(focus exact⟨RD q_m q_m q_m f1.out e1.out l1.out f2.out e2.out l2.out,Lend.refl _,trivial⟩))|fail)
  all_goals((refine Bf q_x q_y q_u (LE.of_eq ?_) (.inl ⟨?_,rfl,rfl⟩));(focus simp(disch:=omega) only[push_cast,simprocAttr, *]);(focus(rw[hF.out];refine if_neg ?_;rintro⟨h1,h2,h3,h4⟩;(first|omega|exact Bool.noConfusion (h1.symm.trans (by assumption):true=false)|exact Bool.noConfusion (h2.symm.trans (by assumption):true=false)|exact Bool.noConfusion (h3.symm.trans (by assumption):true=false)|exact Bool.noConfusion (h4.symm.trans (by assumption):true=false)|(exact Bool.noConfusion (h1:false=true))))))
|true =>
  obtain⟨hk1,hk2,hk3⟩:0<=stp.col/\stp.col<x.cols.length/\stp.order.length=0:=by
   unfold Sch.column at hcl
   simpa [and_assoc]using hcl
  obtain⟨i,hi⟩:=DZ hk1
  have hlt:i<x.cols.length:=by omega
  rw[hcl]at hK hF
  unfold Vr.cells Stp.cells at hK
  clear hcl hk1 hk2
  obtain⟨c,hc⟩:=gEx hlt
  have hcm:c<x.slots.length:=hcs c (Ah hc)
  obtain⟨y,hy⟩:=gEx hcm
  have hat:Sch.at_ x stp=c:=by
   unfold Sch.at_
   rw[hi,BR,AW,hc];rfl
  have hL2:(x.cols.map BV)[i]?=some [D.i c]:=by rw[Aq,hc];rfl
  have hL1:(x.slots.map Sl.cells)[c]?=some y.cells:=by rw[Aq,hy];rfl
  obtain⟨t1,hld⟩:∃tl,List.drop i (DK x.cols++zC)=D.i c::tl:=by
   obtain⟨tl,h⟩:=JA (sz:=1) (o:=0) zC _ i (Fz x.cols) hL2 q_o
   rw[CG,Ed]at h
   exact⟨tl,h⟩
  obtain⟨w,hw⟩:∃w,bits .or .i64 y.types stp.slot.types=w:=⟨_,rfl⟩
  obtain⟨wb,hwb⟩:∃wb,(w != y.types)=wb:=⟨_,rfl⟩
  obtain⟨x',hx'⟩:∃x':Vr,x'=⟨x.slots.modify (Sch.at_ x stp) λy=>{y with types:=bits .or .i64 y.types stp.slot.types},x.cols⟩:=⟨_,rfl⟩
  rw[<-hx']at hF
  rw[hat,hy,gX,hw,hwb]at hF
  rw[hat,Pn hy]at hx'
  rw[hw]at hx'
  have s1:Hid (x'.slots=x.slots.set c {y with types:=w}):=Aa (by rw[hx'])
  have s2:Hid (x'.cols=x.cols):=Aa (by rw[hx'])
  have s3:Hid ((x.slots.set c {y with types:=w}).length=x.slots.length):=AV
  have hsp:List.take (c*7+1) (Db x.slots++zS)++[D.i w]++List.drop (c*7+1+1) (Db x.slots++zS)=Db (x.slots.set c {y with types:=w})++zS:=by
   have h:=GX (o:=1) (ds:=[D.i w]) zS _ c (Fp x.slots) hL1 (by simp)
   rw[show DJ y.cells 1 [D.i w]=Sl.cells {y with types:=w}from rfl,show(x.slots.map Sl.cells).set c (Sl.cells {y with types:=w})=(x.slots.set c {y with types:=w}).map Sl.cells from(Ff ..).symm]at h
   exact h
  obtain⟨t2,hld2⟩:∃tl,List.drop (c*7+1) (Db x.slots++zS)=D.i y.types::tl:=by
   obtain⟨tl,h⟩:=JA (sz:=7) (o:=1) zS _ c (Fp x.slots) hL1 q_o
   exact⟨_,h⟩
  obtain⟨t3,hld3⟩:∃tl,List.drop (c*7+1) (Db (x.slots.set c {y with types:=w})++zS)=D.i w::tl:=by
   obtain⟨tl,h⟩:=JA (sz:=7) (o:=1) (e:=Sl.cells {y with types:=w}) zS _ c (Fp (x.slots.set c {y with types:=w})) (by rw[Aq,BA hcm];rfl) q_o
   exact⟨_,h⟩
  have hle:c*7+1+1<=cS*7:=by
   have:=EX x.slots
   rw[Ad]at hz1
   omega
  have hl3:(Db (x.slots.set c {y with types:=w})++zS).length=cS*7:=by
   rw[Ad]at hz1 |-
   rw[EX,AV,<-EX];exact hz1
  clear hx' hat hL1 hL2 hy hc
  generalize Sch.bare stp.slot false true=q at *
  generalize Sch.takes stp.slot.types=qt at *
  generalize hRE:Db (x.slots.set c {y with types:=w})=RE at *
  replace hRE:=Aa hRE
  replace hl3:=Aa hl3
  generalize y.types=yt at *
  cases stp with
  | mk kd col slot order =>
  cases slot with
  | mk nm ty rq dv =>
  cases dv with
  | mk k n sv l =>
  dsimp only at hB hT ho hi hF |-
  subst hi
  generalize hR1:Db x.slots=R1 at *
  generalize hR2:DK x.cols=R2 at *
  generalize x.slots.map Sl.cells=L1 at *
  generalize x.cols.map BV=L2 at *
  rw[Sl.cells_mk]at *
  dsimp only[List.cons_append,List.nil_append]at hK |-
  generalize hm1:x.slots.length=m1 at *
  generalize hm2:x.cols.length=m2 at *
  replace hR1:=Aa hR1
  replace hR2:=Aa hR2
  replace hm1:=Aa hm1
  replace hm2:=Aa hm2
  replace hK:=Aa hK
  replace hB:=Aa hB
  replace hT:=Aa hT
  cases wb
  all_goals skip
  all_goals(
   refine Qin [4] func189 results189 ntmps189 ?_
   repeat' (first|refine QV ?_|((with_reducible refine OE ?_ ?_ ?_ ?_);(iterate 3 (focus kernel_rfl));intro hne1 hne2 hne3)|refine QY ?_|refine QB ?_;intro b|with_reducible refine QZ ?_<;>(try constructor)<;>intro hb<;>try intro hb1|((with_reducible apply(Ft call202));(focus exact hK.out);(focus exact⟨RD q_m q_m q_m f1.out e1.out l1.out f2.out e2.out l2.out,Lend.refl _,trivial⟩))|fail)
   all_goals first
    | ((refine Bf q_x q_y q_u (LE.of_eq ?_) (.inl ⟨?_,rfl,rfl⟩));(focus simp(disch:=omega) only[push_cast,simprocAttr, *]);(focus(rw[hF.out];refine if_neg ?_;rintro⟨h1,h2,h3,h4⟩;(first|omega|exact Bool.noConfusion (h1.symm.trans (by assumption):true=false)|exact Bool.noConfusion (h2.symm.trans (by assumption):true=false)|exact Bool.noConfusion (h3.symm.trans (by assumption):true=false)|exact Bool.noConfusion (h4.symm.trans (by assumption):true=false)|(exact Bool.noConfusion (h1:false=true))))))
    | ((refine Bf q_x q_y q_u (LE.of_eq ?_) (.inl ⟨?_,rfl,rfl⟩));(focus(simp(disch:=omega) only[push_cast,simprocAttr, *];done));(focus(rw[hF.out];refine if_neg ?_;rintro⟨h1,h2,h3,h4⟩;exact Bool.noConfusion h4)))
    | ((refine Bf q_x q_y (Aj _) (LE.of_eq ?_) (.inr ⟨x',gs,cS,zS,gc,cC,zC,?_,⟨?_,?_⟩,rfl,?_⟩));(focus simp(disch:=omega) only[push_cast,simprocAttr, *]);(focus(rw[hF.out];refine if_pos ⟨rfl,?_,?_,?_⟩<;>first|assumption|omega|rfl));(focus(rw[s1.out,hRE.out];exact hl3.out));(focus(rw[s2.out,hR2.out];exact hz2));(focus(rw[s1.out,s2.out,s3.out,hRE.out,hR2.out,hm2.out]))))
theorem Zg{ts:List Tmp}{R:D->St->Prop}{ex:Exit}{A:AA}{X:D}{st st0 s2:St}(hex:ex=.normal\/ex=.ret)(hdf:A.df=[])(hp:st.Perm s2)(hs:st0.Sublist s2)(hd:LE (OY ts A.e) X)(hR:R X st0):Ut ts R ex A st:=by
 rcases hex with rfl|rfl<;>exact⟨[],X,s2,st0,hdf,hp,hs,hd,hR⟩
theorem bN{cols:List Nat}{order:List Int}{j:Nat}{k:Int}{out:List Nat}(h:order[j]?=some k):Sch.reo cols (order.drop j) out=if 0<=k/\k<cols.length/\cols.getD k.toNat 0∉out then Sch.reo cols (order.drop (j+1)) (out++[cols.getD k.toNat 0])else none:=by
 obtain⟨h1,rfl⟩:=Af.1 h
 rw[BM h1,Sch.reo]
theorem Uf(bx gs cS gc cC:Nat)(zS zC:List D)(x:Vr)(stp:Stp)(hx:VW x)(hc1:1<=x.cols.length)(hs:stp.Ok)(hz:VL cS zS cC zC x)(s:St):TrF prog 190 [.ptr bx 0,.agg stp.cells] (VB bx gs cS zS gc cC zC x s) (GU Sch.reorderS x stp bx s):=by
 obtain⟨ls,lc,hcs⟩:=hx
 obtain⟨hn,hbg,ho⟩:=hs
 obtain⟨hz1,hz2⟩:=hz
 have hB:=Mv stp.slot false false hbg
 have e2:=Aa (Fz x.cols)
 have f2:=Aa (IB x)
 have l2:Hid ((x.cols.map BV).length=x.cols.length):=Ab ..
 have hF:Hid (Sch.reorderS x stp=if stp.col=0/\Sch.bare stp.slot false false=true/\stp.order.length=x.cols.length then(Sch.reo x.cols stp.order []).map λc=>⟨x.slots,c⟩else none):=rfl
 by_cases hno:¬(stp.col=0/\Sch.bare stp.slot false false=true/\stp.order.length=x.cols.length)
 . have hF2:Hid (Sch.reorderS x stp=none):=Aa (by rw[hF.out,if_neg hno])
   unfold GU VL VB Stp.cells
   generalize Sch.reorderS x stp=F at *
   clear hF
   cases stp with
   | mk kd col slot order =>
   cases slot with
   | mk nm ty rq dv =>
   cases dv with
   | mk k n sv l =>
   dsimp only at hB ho hno |-
   generalize Sch.bare _ false false=q at *
   generalize Db x.slots=R1 at *
   generalize DK x.cols=R2 at *
   rw[Sl.cells_mk]at *
   dsimp only[List.cons_append,List.nil_append]at|-
   generalize x.slots.length=m1 at *
   generalize x.cols.length=m2 at *
   replace hB:=Aa hB
   have hno':col≠0\/(col=0/\q=false)\/(col=0/\q=true/\(order.length:Int)≠m2):=by
    by_cases h1:col=0
    . cases q
      . exact .inr (.inl ⟨h1,rfl⟩)
      . refine .inr (.inr ⟨h1,rfl,λh=>hno ⟨h1,rfl,by omega⟩⟩)
    . exact .inl h1
   clear hno
   rcases hno' with h0|⟨rfl,rfl⟩|⟨rfl,rfl,h0⟩
   all_goals skip
   all_goals(
    refine Qin [4] func190 results190 ntmps190 ?_
    repeat' (first|refine QV ?_|((with_reducible refine FL [(bx,[.ar gs 0 m1 cS,.ar gc 0 m2 cC])] ?_ ?_ ?_ ?_ ?_);(iterate 3 (focus kernel_rfl));(focus((repeat(first|exact BI|refine BX q_m ?_));done)))|((with_reducible refine And.intro ?_ ?_);(focus exact q_k))|refine QY ?_|refine QB ?_;intro b|with_reducible refine QZ ?_<;>(try constructor)<;>intro hb<;>try intro hb1|fail)
    all_goals((refine Bf q_x q_y q_u (LE.of_eq ?_) (.inl ⟨hF2.out,rfl,rfl⟩));simp(disch:=omega) only[push_cast,simprocAttr, *]))
 have hyes:=Decidable.of_not_not hno
 obtain⟨h1,h2,h3⟩:=hyes
 have hF2:Hid (Sch.reorderS x stp=(Sch.reo x.cols stp.order []).map λc=>⟨x.slots,c⟩):=Aa (by rw[hF.out,if_pos ⟨h1,h2,h3⟩])
 clear hF hno
 rw[h2]at hB
 clear h2
 have hcl:=Gn x.cols
 have hle2:x.cols.length<=cC:=by rw[Ad]at hz2;omega
 have hcell:Hid (∀(i c:Nat),x.cols[i]?=some c->∃tl,List.drop i (DK x.cols++zC)=D.i c::tl):=λi c hc=>by
  have hL2:(x.cols.map BV)[i]?=some [D.i c]:=by rw[Aq,hc];rfl
  obtain⟨tl,h⟩:=JA (sz:=1) (o:=0) zC _ i (Fz x.cols) hL2 q_o
  rw[CG,Ed]at h
  exact⟨tl,h⟩
 unfold GU VL VB Stp.cells
 generalize Sch.reorderS x stp=F at *
 cases stp with
|mk kd col slot order =>
 cases slot with
|mk nm ty rq dv =>
 cases dv with
|mk k n sv l =>
 dsimp only at hB ho h1 h3 hF2 |-
 subst h1
 rw[Sl.cells_mk]at *
 dsimp only[List.cons_append,List.nil_append]at|-
 obtain⟨R1,hR1⟩:∃R1,Db x.slots=R1:=⟨_,rfl⟩
 obtain⟨R2,hR2⟩:∃R2,DK x.cols=R2:=⟨_,rfl⟩
 obtain⟨m1,hm1⟩:∃m1,x.slots.length=m1:=⟨_,rfl⟩
 obtain⟨m2,hm2⟩:∃m2,x.cols.length=m2:=⟨_,rfl⟩
 simp only[hR1,hR2,hm1,hm2]at hz1 hz2 hcl hle2 h3 hc1 hcell lc ls |-
 replace hR1:=Aa hR1
 replace hR2:=Aa hR2
 replace hm1:=Aa hm1
 replace hm2:=Aa hm2
 replace hB:=Aa hB
 obtain⟨B,hBr⟩:∃B,Sch.reo x.cols order []=B:=⟨_,rfl⟩
 have HB:Hid (Sch.reo x.cols (order.drop 0) []=B):=hBr
 rw[hBr]at hF2
 clear hBr
 refine Qin [4] func190 results190 ntmps190 ?_
 repeat' (first|refine QV ?_|((with_reducible refine FL [(bx,[.ar gs 0 m1 cS,.ar gc 0 m2 cC])] ?_ ?_ ?_ ?_ ?_);(iterate 3 (focus kernel_rfl));(focus((repeat(first|exact BI|refine BX q_m ?_));done)))|((with_reducible refine And.intro ?_ ?_);(focus exact q_k))|refine QY ?_|refine QB ?_;intro b|with_reducible refine QZ ?_<;>(try constructor)<;>intro hb<;>try intro hb1|fail)
 refine Bs (ι:=Nat) (λj A st'=>j<=order.length/\A.df=[]/\A.e 0=.ptr bx 0/\A.e 29=.sl .shared (order.map Bl)/\A.e 30=.i order.length/\A.e 31=.i j/\∃out:List Nat,out.length=j/\Hid (Sch.reo x.cols (order.drop j) out=B)/\((j=0/\A.e 5=.sl .tight []/\st'=.box bx 146 [.ar gs 0 m1 cS,.ar gc 0 m2 cC]::.box gs 184 (R1++zS)::.box gc 3 (R2++zC)::s) \/
  (0<j/\∃go co zo,A.e 5=.ar go 0 j co/\(DK out++zo).length=co*1/\st'=.box go 3 (DK out++zo)::.box bx 146 [.ar gs 0 m1 cS,.ar gc 0 m2 cC]::.box gs 184 (R1++zS)::.box gc 3 (R2++zC)::s))) (λj=>order.length - j) 0 ⟨Ao _,Qf,Qf,Qf,Qf,Qf,[],rfl,HB,.inl ⟨rfl,Qf,rfl⟩⟩ ?_
 rintro j A st' ⟨hj,hdf,e0,e29,e30,e31,out,hol,HT,hcase⟩
 clear HB
 by_cases hlt:j<order.length
 . obtain⟨k,hk⟩:=gEx hlt
   have HE:=HT.out
   rw[bN hk,hm2.out]at HE
   clear HT
   by_cases hkr:0<=k/\k<(m2:Int)
   . obtain⟨hk0,hk1⟩:=hkr
     obtain⟨kn,rfl⟩:=DZ hk0
     obtain⟨c,hc⟩:∃c,x.cols[kn]?=some c:=⟨_,Al (by rw[hm2.out];omega)⟩
     obtain⟨t1,hld⟩:=hcell.out kn c hc
     have hgd:x.cols.getD kn 0=c:=by rw[AW,hc];rfl
     rw[BR,hgd]at HE
     have hCt:=ak .shared out c []
     have f3:Hid ((out.map BV).flatten=DK out):=rfl
     have e3:=Aa (Fz out)
     have l3:Hid ((out.map BV).length=j):=Aa (by rw[Ab,hol])
     have g3:=Aa (PQ out c)
     have hro:(DK out).length=j*1:=by rw[Gn,hol]
     clear hgd hc
     by_cases hmem:c∈out
     . rw[if_neg (λh=>h.2.2 hmem)]at HE
       replace HE:=Aa HE
       rw[decide_eq_true hmem]at hCt
       replace hCt:=Aa hCt
       rcases hcase with⟨rfl,e5,rfl⟩|⟨hj0,go,co,zo,e5,hlo,rfl⟩
       . rw[Ay hol]at hmem;cases hmem
       . generalize DK out=Ro at *
         generalize out.map BV=Lo at *
         repeat' (first|refine QX ?_|refine QB ?_;intro b|with_reducible refine QZ ?_<;>(try constructor)<;>intro hb<;>try intro hb1|((with_reducible apply(Ft call205));(focus exact hCt.out);(focus exact⟨Lend.rowE q_m f3.out (by decide) e3.out l3.out,Lend.refl _,trivial⟩))|fail)
         all_goals((refine Bf q_x q_y q_u (LE.of_eq ?_) (.inl ⟨by rw[hF2.out,<-HE.out];rfl,rfl,rfl⟩));simp(disch:=omega) only[push_cast,simprocAttr, *])
     . rw[if_pos ⟨hk0,hk1,hmem⟩]at HE
       replace HE:=Aa HE
       rw[decide_eq_false hmem]at hCt
       replace hCt:=Aa hCt
       rcases hcase with⟨rfl,e5,rfl⟩|⟨hj0,go,co,zo,e5,hlo,rfl⟩
       . have hno:=Ay hol
         subst hno
         rw[BH]at hCt
         repeat' (first|refine QV ?_|with_reducible refine Hz ?_|with_reducible refine Kj ?_|((with_reducible apply HH);(focus exact q_n);(focus exact CP rfl);(focus exact q_n);(focus exact q_n);intro go' co' zo' hco hlo')|refine QY ?_|refine QB ?_;intro b|with_reducible refine QZ ?_<;>(try constructor)<;>intro hb<;>try intro hb1|((with_reducible apply(Ft call205));(focus exact hCt.out);(focus exact⟨Lend.sl _ _,Lend.refl _,trivial⟩))|fail)
         refine⟨1,.box go' 3 ([[.i c]].flatten++zo')::.box bx 146 [.ar gs 0 m1 cS,.ar gc 0 m2 cC]::.box gs 184 (R1++zS)::.box gc 3 (R2++zC)::s,q_u,⟨hlt,?_,?_,?_,?_,?_,[c],rfl,HE,.inr ⟨Nat.zero_lt_one,go',co',zo',?_,?_,?_⟩⟩,?_⟩
         . exact Qf
         . exact Qf
         . exact Qf
         . exact Qf
         . exact Qf
         . exact Qf
         . exact hlo'
         . rfl
         . omega
       . generalize DK out=Ro at *
         generalize out.map BV=Lo at *
         repeat' (first|refine QV ?_|with_reducible refine Hy ?_|with_reducible refine Kl ?_|((with_reducible apply(Ii hro hlo));(focus(intro g' cs';repeat(first|exact Hn|apply Hm)));(focus exact CP rfl);(focus exact q_n);(focus exact q_n);intro go' co' zo' hco hlo')|refine QY ?_|refine QB ?_;intro b|with_reducible refine QZ ?_<;>(try constructor)<;>intro hb<;>try intro hb1|((with_reducible apply(Ft call205));(focus exact hCt.out);(focus exact⟨Lend.rowE q_m f3.out (by decide) e3.out l3.out,Lend.refl _,trivial⟩))|fail)
         refine⟨j+1,.box go' 3 (Ro++[[.i c]].flatten++zo')::.box bx 146 [.ar gs 0 m1 cS,.ar gc 0 m2 cC]::.box gs 184 (R1++zS)::.box gc 3 (R2++zC)::s,q_u,⟨hlt,?_,?_,?_,?_,?_,out++[c],by rw[Ad,hol];rfl,HE,.inr ⟨nM _,go',co',zo',?_,?_,?_⟩⟩,?_⟩
         . exact Qf
         . exact Qf
         . exact Qf
         . exact Qf
         . exact Qf
         . exact Qf
         . rw[g3.out];exact hlo'
         . rw[g3.out]
         . omega
   . rw[if_neg (λh=>hkr ⟨h.1,h.2.1⟩)]at HE
     replace HE:=Aa HE
     have hkr':k<0\/(0<=k/\(m2:Int)<=k):=by omega
     clear hkr
     rcases hkr' with hk0|⟨hk0,hk1⟩<;>rcases hcase with⟨rfl,e5,rfl⟩|⟨hj0,go,co,zo,e5,hlo,rfl⟩
     all_goals skip
     all_goals(
      repeat' (first|refine QX ?_|refine QB ?_;intro b|with_reducible refine QZ ?_<;>(try constructor)<;>intro hb<;>try intro hb1|fail)
      all_goals((refine Bf q_x q_y q_u (LE.of_eq ?_) (.inl ⟨by rw[hF2.out,<-HE.out];rfl,rfl,rfl⟩));simp(disch:=omega) only[push_cast,simprocAttr, *]))
 . have HE:=HT.out
   rw[Az q_o,Sch.reo]at HE
   have hjm:j=m2:=by omega
   subst hjm
   rcases hcase with⟨rfl,e5,rfl⟩|⟨hj0,go,co,zo,e5,hlo,rfl⟩
   . omega
   . have hco:Hid (DK out=DK out):=rfl
     generalize hRo:DK out=Ro at *
     replace hRo:=Aa hRo
     replace HE:=Aa HE
     clear HT
     repeat' (first|refine QX ?_|refine QB ?_;intro b|with_reducible refine QZ ?_<;>(try constructor)<;>intro hb<;>try intro hb1|fail)
     all_goals((refine Zg (s2:=.box bx 146 [.ar gs 0 m1 cS,.ar go 0 j co]::.box gs 184 (R1++zS)::.box go 3 (Ro++zo)::.box gc 3 (R2++zC)::s) (st0:=.box bx 146 [.ar gs 0 m1 cS,.ar go 0 j co]::.box gs 184 (R1++zS)::.box go 3 (Ro++zo)::s) q_x q_y ?_ (((AK _ _).cons₂ _).cons₂ _ |>.cons₂ _) (LE.of_eq ?_) (.inr ⟨⟨x.slots,out⟩,gs,cS,zS,go,co,zo,?_,⟨?_,?_⟩,rfl,?_⟩));(focus exact(List.Perm.swap _ _ _).trans (.cons _ (.swap _ _ _)));(focus simp(disch:=omega) only[push_cast,simprocAttr, *]);(focus(rw[hF2.out,<-HE.out];rfl));(focus(rw[hR1.out];exact hz1));(focus(rw[hRo.out];exact hlo));(focus(rw[hR1.out,hRo.out,hm1.out,hol])))
theorem OO(gs cS gc cC:Nat)(zS zC:List D)(x:Vr)(h1:x.slots≠[])(h2:x.cols≠[])(hx:VW x)(st:St)(m1:Res.box gs 184 (Db x.slots++zS)∈st)(m2:Res.box gc 3 (DK x.cols++zC)∈st):TrF prog 158 [.agg [.ar gs 0 x.slots.length cS,.ar gc 0 x.cols.length cC]] st λd st'=>d=.agg x.cells/\st'=st:=by
 have hA:=Aa λb cs=>gt gs cS x.slots zS h1 (by have:=hx.ls;omega) (.box b 146 cs::st) (Ae _ m1)
 have hB:=Aa λb cs=>gu gc cC x.cols zC h2 (by have:=hx.lc;omega) (.box b 146 cs::st) (Ae _ m2)
 unfold Vr.cells
 refine gW 2 146 func158 ntmps158 ?_
 repeat' (first|refine QX ?_|refine QB ?_;intro b|with_reducible refine QZ ?_<;>(try constructor)<;>intro hb<;>try intro hb1|refine Qc call185 (hA.out _ _) ?_|refine Qc call89 (hB.out _ _) ?_|fail)
 all_goals exact VP
theorem YT(st:St):TrF prog 159 [] st λd st'=>d=.agg [.s .nilFunc,.fn (.func 186) [] [],.fn (.func 187) [] [],.fn (.func 188) [] [],.fn (.func 189) [] [],.fn (.func 190) [] []]/\st'=st:=by
 refine OH (G:=Oh 0 232 prog) func159 rfl (by rw[ntmps159];exact BD rfl) (λh1 h2 h3=>Uu rfl h1 h2 h3) ?_
 simp only[ntmps159]
 repeat' (first|refine QX ?_|refine QB ?_;intro b|with_reducible refine QZ ?_<;>(try constructor)<;>intro hb<;>try intro hb1|fail)
 all_goals exact VP
end
section
section
variable {P:Program} {f:FuncId} {args:List D} {st:St} {R:D->St->Prop} {w:World} {A:AA}
def iZ (P:Program)(r:ResultVar)(A:AA)(st:St)(d:D):Prop :=
 match r with
|.tmp t=>A.e t=d
|.cell t T=>Oh t T P A st d
def SI (P:Program)(r1 r2:ResultVar)(A:AA)(st:St)(d:D):Prop:=∃d1 d2,d=.tup [d1,d2]/\iZ P r1 A st d1/\iZ P r2 A st d2
def XT (tmps:Array Value):ResultVar->Sem Value
|.tmp t=>pure (tmps.getD t undef)
|.cell a t=>do loadVar t (<-asAddr (tmps.getD a undef))
theorem XO{r:ResultVar}{a:Act}{N:Nat}{d:D}(h1:RelA N (OwnS st) w a A)(h2:Holds st w)(h3:iZ P r A st d):∃v,(XT a.tmps r).run P w=.ok v w/\Rep (OwnS st) w v d:=by
 cases r with
|tmp t =>
  have:A.e t=d:=h3
  exact⟨_,rfl,this▸h1.2.2 t⟩
|cell t T =>
  obtain⟨b,off,ty,cs,ti,k1,k2,k3,k4⟩:=h3
  have hp:=h1.2.2 t
  rw[k1]at hp
  have hv:a.tmps.getD t undef=.pointer (some ⟨b,off,none⟩):=by
   generalize a.tmps.getD t undef=v at hp
   cases hp;rfl
  obtain⟨v,q1,q2⟩:=Jc h2 k2 k3 k4
  refine⟨v,?_,q2⟩
  have q3:(loadVar T ⟨b,off,none⟩).run P w=.ok v w:=by
   simpa [Instr.loadAt,Instr.sureAddr]using q1
  show((do loadVar T (<-asAddr (a.tmps.getD t undef))):Sem Value).run P w=_
  rw[hv]
  simp[asAddr,q3]
theorem Jd{fn:Func}{r1 r2:ResultVar}(hr:fn.results=#[r1,r2]){a:Act}{N:Nat}{d:D}(h1:RelA N (OwnS st) w a A)(h2:Holds st w)(h3:SI P r1 r2 A st d):∃v,(results fn a.tmps).run P w=.ok v w/\Rep (OwnS st) w v d:=by
 obtain⟨d1,d2,rfl,k1,k2⟩:=h3
 obtain⟨v1,q1,p1⟩:=XO h1 h2 k1
 obtain⟨v2,q2,p2⟩:=XO h1 h2 k2
 refine⟨.tuple #[v1,v2],?_,?_⟩
 . have hm : results fn a.tmps = (do
    let vs <-fn.results.mapM (XT a.tmps)
    pure (if h:vs.size=1 then vs[0]else .tuple vs)):=by
    unfold results
    congr 2
   rw[hm,hr]
   simp only[Array.mapM_eq_mapM_toList,List.mapM_cons,List.mapM_nil,AG,q1,q2,Am,AN,map_eq_pure_bind]
   rfl
 . exact .tup [v1,v2] [d1,d2] rfl (RepL.cons p1 (RepL.cons p2 .nil)).2
def kB (G:AA->St->D->Prop)(R:D->St->Prop):Exit->AA->St->Prop
|.normal,A,st|.ret,A,st=>∃(rs:List Nat) (d0 d:D) (s2 st':St),A.df=rs.map Fx/\st.Perm (rs.map BK++s2)/\G A s2 d0/\st'.Sublist s2/\LE d0 d/\R d st'
|_,_,_=>False
theorem LI{fn:Func}{tmps:Array Value}{Rw:Ending->World->Prop}:∀(rs:List Nat) (w:World),rs.Nodup->(∀r∈rs,w.heap[r]?=some (.deferred (some []))) ->
 (∀w',w'.os=w.os->w'.tape=w.tape->w'.output=w.output->w'.drawn=w.drawn->w'.heap.size=w.heap.size->(∀b,b∉rs->w'.heap[b]?=w.heap[b]?)->∃v,(results fn tmps).run P w'=.ok v w'/\Rw (.returned v) w')->LeavesInM Fence.wide 0 P fn tmps Rw (rs.map Fx) .returning w
|[],w,_,_,hw=>by
  obtain⟨v,h1,h2⟩:=hw w rfl rfl rfl rfl rfl λ_ _=>rfl
  show LeavesIn Fence.wide 0 P fn tmps Rw [] .returning w
  exact⟨v,h1,h2⟩
|r::rs,w,hn,hb,hw=>by
  have hr:=hb r (Ag ..)
  have hlt:=(AE.1 hr).1
  refine⟨(by intro h;cases h),.inl ⟨r,_,rfl,run_takeDeferred hr,LI rs _ (Bb.1 hn).2 (λx hx=>?_) λw' h1 h2 h3 h0 h4 h5=>?_⟩⟩
  . rw[DV (by intro e;subst e;exact(Bb.1 hn).1 hx)]
    exact hb x (Ae _ hx)
  . refine hw w' h1 h2 h3 h0 (by rw[h4];simp) λb hb=>?_
    rw[h5 b λh=>hb (Ae _ h)]
    exact DV λe=>hb (e▸Ag ..)
theorem FN{fn:Func}{c:Code}{G:AA->St->D->Prop}(hf:P.funcs[f]?=some fn)(hb:fn.body=some c)(hn:args.length<=fn.ntmps)(hres:∀{a A w st d},RelA fn.ntmps (OwnS st) w a A->Holds st w->G A st d->∃v,(results fn a.tmps).run P w=.ok v w/\Rep (OwnS st) w v d)
 (h:Tr P fn.ntmps none c ⟨LJ args,[]⟩ st (kB G R)):TrF P f args st R:=by
 intro vs w hv hw
 refine(callsIn_wide (n:=0)).1 (callsIn_of_wp_marks hf hb trivial ?_ rfl)
 have hvl:vs.size=args.length:=by rw[<-AR];exact hv.1
 have hrel:RelA fn.ntmps (OwnS st) w {tmps:=vs++Array.replicate (fn.ntmps - vs.size) undef,defers:=[]} ⟨LJ args,[]⟩:=by
  refine⟨by simp[hvl];omega,rfl,λt=>?_⟩
  show Rep _ _ _ (args.getD t D.un)
  simp only[Cv,AW]
  rcases Dv t args.length with ht|ht
  . have h1:t<vs.toList.length:=by simp;omega
    have:=hv.2 t h1 ht
    rw[Cq q_o,Al ht,Be q_o]
    simpa using this
  . rw[GO q_o,Bz ht]
    simp only[dW]
    by_cases h2:t - vs.size<fn.ntmps - vs.size
    . rw[Ez,if_pos h2]
      exact .s undef rfl
    . rw[Ez,if_neg h2]
      exact .s undef rfl
 refine wpIn_mono (h _ w hrel hw) λex a' w' ⟨A',st',k1,k2,k3,k4⟩=>?_
 have main:(∃(rs:List Nat) (d0 d:D) (s2 st'':St),A'.df=rs.map Fx/\st'.Perm (rs.map BK++s2)/\G A' s2 d0/\st''.Sublist s2/\LE d0 d/\R d st'')->LeavesInM (FR none) 0 P fn a'.tmps (λe w'=>∃v,e=.returned v/\PostV st w R v w') a'.defers .returning w':=by
  rintro⟨rs,d0,d,s2,st'',q1,q2,qg,qs,q3,q4⟩
  rw[k1.2.1,q1]
  have hh:=k2.perm q2
  have hnd:rs.Nodup:=by
   have:=oe (Dd _ _) hh.1
   rw[EE]at this
   exact this.imp λ{a b} hab e=>hab a rfl (by rw[e];rfl)
  have hblk:∀r∈rs,w'.heap[r]?=some (.deferred (some [])):=λr hr=>hh.2 (BK r) (Bp _ (BJ hr))
  refine LI rs w' hnd hblk λw'' e1 e2 e3 e0 e4 e5=>?_
  have hown:∀b off,OwnS s2 b off->OwnS st' b off:=λb off ⟨x,hx,ho⟩=>⟨x,q2.mem_iff.2 (Bh _ hx),ho⟩
  have hmk:∀r∈rs,∀off,OwnS st' r off:=λr hr off=>⟨BK r,q2.mem_iff.2 (Bp _ (BJ hr)),rfl,Ao _⟩
  have he:Ext (OwnS st') w' (OwnS s2) w'':=by
   refine⟨nN e0.symm,e1,e2,e3,by omega,λb off _ ho=>hown b off ho,λb hb hno=>e5 b λhr=>hno 0 (hmk b hr 0),λb c E fr hc=>⟨c,fr,?_,rfl,λ_ _=>rfl⟩⟩
   rw[e5 b λhr=>by rw[hblk b hr]at hc;cases hc]
   exact hc
  have hh2:Holds s2 w'':=by
   refine⟨(EA.1 hh.1).2.1,λx hx=>(k2.2 x (q2.mem_iff.2 (Bh _ hx))).ext he λb hb=>e5 b λhr=>?_⟩
   exact(EA.1 hh.1).2.2 (BK b) (BJ hr) x hx b rfl hb
  obtain⟨v,r1,r2⟩:=hres (a:=a') (A:=A') ⟨k1.1,k1.2.1,λt=>(k1.2.2 t).ext he⟩ hh2 qg
  have hd:=Ext.drop (st:=s2) (st':=st'') (λ_ h=>qs.subset h) w''
  exact⟨v,r1,v,rfl,d,st'',q3 _ _ _ (r2.ext hd),hh2.sub qs,(k3.trans he).trans hd,q4⟩
 cases ex with
|normal=>exact main k4
|ret=>exact main k4
|exit id=>exact k4.elim
|goto l=>exact k4.elim
|panic c=>exact k4.elim
|outgrown=>exact k4.elim
theorem DU{t:Tmp}{T:TypeId}{ti:TI}{b off:Nat}{ty:TypeId}{cs:List D}{d:D}(hp:A.e t=.ptr b off)(hm:Res.box b ty cs∈st)(ht:Bt P T=some ti)(hd:Je ti (cs.drop off)=some d):Oh t T P A st d:=⟨b,off,ty,cs,ti,hp,hm,ht,hd⟩
theorem Fq{G:AA->St->D->Prop}{ex:Exit}{A:AA}{d X:D}{st st0 s2:St}{rs:List Nat}(hex:ex=.normal\/ex=.ret)(hdf:A.df=rs.map Fx)(hp:st.Perm (rs.map BK++s2))(hG:G A s2 d)(hs:st0.Sublist s2)(hl:LE d X)(hR:R X st0):kB G R ex A st:=by
 rcases hex with rfl|rfl<;>exact⟨rs,d,X,s2,st0,hdf,hp,hG,hs,hl,hR⟩
end
end
section
attribute [local push_cast] Br Bl BV V.cells_mk V.cells_len Nat.mul_one Int.sub_zero List.map_nil beq_self_eq_true List.head?_cons
def NX (t:Tm)(st:St)(d:D)(st':St):Prop :=
 (Sch.firstV t=none/\(d=.tup [.agg [.sl .tight [],.sl .tight []],.b false]\/∃gs n cS gc m cC,d=.tup [.agg [.ar gs 0 n cS,.ar gc 0 m cC],.b false])/\st'=st) \/
  ∃x gs cS zS gc cC zC,Sch.firstV t=some x/\VL cS zS cC zC x/\d=.tup [.agg [.ar gs 0 x.slots.length cS,.ar gc 0 x.cols.length cC],.b true]/\st'=.box gs 184 (Db x.slots++zS)::.box gc 3 (DK x.cols++zC)::st
theorem Vu{slots:List Sl}{i:Nat}{s:Sl}{x:Vr}(h:slots[i]?=some s):Sch.firstL (slots.drop i) x=if Sch.sound s=true/\Sch.col x s.name<0 then Sch.firstL (slots.drop (i+1)) ⟨x.slots++[s],x.cols++[x.slots.length]⟩else none:=by
 obtain⟨h1,rfl⟩:=Af.1 h
 rw[BM h1,Sch.firstL]
theorem YS(t:Tm)(hs:∀s∈t.slots,s.dv.nodes<=1000)(hl:t.slots.length<=1000)(ht:t.steps.length<=1000)(st:St):TrF prog 157 [.agg t.cells] st (NX t st):=by
 have hN:=Aa (II t.name)
 have hF:Hid (Sch.firstV t=if V.isName t.name.data.toList=true/\1<=t.slots.length/\t.slots.length<=8/\t.steps.length<=8 then Sch.firstL t.slots ⟨[],[]⟩else none):=rfl
 unfold NX VL
 generalize Sch.firstV t=F at *
 cases t with
|mk nm slots steps =>
 unfold Tm.cells
 dsimp only at hN hF hs hl ht |-
 generalize V.isName nm.data.toList=qn at *
 generalize hTS:steps.map Stp.cells=TS at *
 have hTSl:TS.length=steps.length:=by rw[<-hTS,Ab]
 generalize steps.length=ms at *
 clear hTS
 refine FN (G:=SI prog (.cell 2 146) (.tmp 3)) func157 rfl (by rw[ntmps157];exact BD rfl) (λh1 h2 h3=>Jd rfl h1 h2 h3) ?_
 simp only[ntmps157]
 by_cases hc:qn=true/\1<=slots.length/\slots.length<=8/\ms<=8
 case neg =>
  have hF2:Hid (F=none):=Aa (by rw[hF.out,if_neg hc])
  have hno:qn=false\/(qn=true/\(slots.length:Int)<1)\/(qn=true/\1<=(slots.length:Int)/\8<(slots.length:Int))\/(qn=true/\1<=(slots.length:Int)/\(slots.length:Int)<=8/\8<(ms:Int)):=by
   cases qn
   . exact .inl rfl
   . refine .inr ?_
     by_cases h1:1<=slots.length
     . by_cases h2:slots.length<=8
       . by_cases h3:ms<=8
         . exact absurd ⟨rfl,h1,h2,h3⟩ hc
         . exact .inr (.inr ⟨rfl,by omega,by omega,by omega⟩)
       . exact .inr (.inl ⟨rfl,by omega,by omega⟩)
     . exact .inl ⟨rfl,by omega⟩
  clear hc hF
  rcases hno with rfl|⟨rfl,h1⟩|⟨rfl,h1,h2⟩|⟨rfl,h1,h2,h3⟩
  all_goals skip
  all_goals(
   repeat' (first|refine QX ?_|refine QB ?_;intro b|with_reducible refine QZ ?_<;>(try constructor)<;>intro hb<;>try intro hb1|fail)
   all_goals((refine Fq (rs:=[]) q_x q_y (Ar _) ⟨_,_,rfl,DU q_s q_m q_s q_v,q_w⟩ q_u (LE.refl _) (.inl ⟨hF2.out,(by first|exact .inl rfl|exact .inr ⟨_,_,_,_,_,_,rfl⟩),rfl⟩))))
 case pos =>
  have hF2:Hid (F=Sch.firstL slots ⟨[],[]⟩):=Aa (by rw[hF.out,if_pos hc])
  obtain⟨rfl,h1,h2,h3⟩:=hc
  clear hF
  obtain⟨B,hB⟩:∃B,Sch.firstL slots ⟨[],[]⟩=B:=⟨_,rfl⟩
  have HB:Hid (Sch.firstL (slots.drop 0) ⟨[],[]⟩=B):=hB
  rw[hB]at hF2
  clear hB
  have hsN:=Aa hs
  clear hs
  repeat' (first|refine QX ?_|refine QB ?_;intro b|with_reducible refine QZ ?_<;>(try constructor)<;>intro hb<;>try intro hb1|fail)
  rename_i b2 _ _
  revert b
  intro b4
  refine Bs (ι:=Nat) (λi A st'=>i<=slots.length/\A.df=[]/\A.e 2=.ptr b2 0/\A.e 4=.ptr b4 0/\A.e 32=.sl .shared (slots.map Sl.cells)/\A.e 33=.i slots.length/\A.e 34=.i i/\∃x:Vr,x.slots.length=i/\x.cols.length=i/\Hid (Sch.firstL (slots.drop i) x=B) /\
   ((i=0/\x=⟨[],[]⟩/\st'=.box b4 146 [.sl .tight [],.sl .tight []]::.box b2 146 [.sl .tight [],.sl .tight []]::st)\/(0<i/\∃gs cS zS gc cC zC,(Db x.slots++zS).length=cS*7/\(DK x.cols++zC).length=cC*1/\st'=.box gc 3 (DK x.cols++zC)::.box gs 184 (Db x.slots++zS)::.box b4 146 [.ar gs 0 i cS,.ar gc 0 i cC]::.box b2 146 [.sl .tight [],.sl .tight []]::st))) (λi=>slots.length - i) 0 ⟨Ao _,Qf,Qf,Qf,Qf,Qf,Qf,⟨[],[]⟩,rfl,rfl,HB,.inl ⟨rfl,rfl,rfl⟩⟩ ?_
  rintro i A st' ⟨hi,hdf,e2,e4,e32,e33,e34,x,hxs,hxc,HT,hcase⟩
  clear HB
  by_cases hlt:i<slots.length
  . obtain⟨sl,hsl⟩:=gEx hlt
    have HE:=HT.out
    rw[Vu hsl]at HE
    clear HT
    have hn:=hsN.out sl (Ah hsl)
    have hS:=QT sl q_o
    have hC:=SR x.slots x.cols sl.name q_o q_o []
    have hcl:(slots.map Sl.cells)[i]?=some sl.cells:=by rw[Aq,hsl];rfl
    have hml:(slots.map Sl.cells).length=slots.length:=Ab ..
    clear hsl
    unfold Sch.col at HE
    have g1:=Aa (QR x.slots sl)
    have g2:=Aa (PQ x.cols x.slots.length)
    have hF3:Hid (F=B):=hF2
    cases sl with
    | mk snm sty srq sdv =>
    cases sdv with
    | mk sk sn ss sL =>
    rw[Sl.cells_mk]at hS hcl g1
    dsimp only at hS hC HE hn g1
    generalize Sch.sound _=q at *
    rcases hcase with⟨rfl,hx0,rfl⟩|⟨hi0,gs,cS,zS,gc,cC,zC,hz1,hz2,rfl⟩
    . have hl1:x.slots=[]:=Ay hxs
      have hl2:x.cols=[]:=Ay hxc
      rw[hl1,hl2,BH,BH]at hC
      rw[hl1,hl2]at HE
      rw[Sch.colL]at hC HE
      generalize slots.map Sl.cells=SL at *
      replace hS:=Aa hS
      replace hC:=Aa hC
      replace hcl:=hcl
      cases q with
      | false =>
       rw[if_neg (λh=>Bool.noConfusion h.1)]at HE
       have hF4:Hid (F=none):=Aa (hF3.out.trans HE.symm)
       clear HE
       repeat' (first|refine QX ?_|refine QB ?_;intro b|with_reducible refine QZ ?_<;>(try constructor)<;>intro hb<;>try intro hb1|((with_reducible apply(Ft call184));(focus exact hC.out);(focus exact⟨Lend.agg ⟨Lend.sl _ _,Lend.sl _ _,trivial⟩,Lend.refl _,trivial⟩))|fail)
       all_goals((refine Fq (rs:=[]) q_x q_y (Ar _) ⟨_,_,rfl,DU q_s q_m q_s q_v,q_w⟩ q_u (LE.refl _) (.inl ⟨hF4.out,(by first|exact .inl rfl|exact .inr ⟨_,_,_,_,_,_,rfl⟩),rfl⟩)))
      | true =>
       rw[if_pos ⟨rfl,by decide⟩]at HE
       replace HE:=Aa HE
       repeat' (first|refine QV ?_|((with_reducible apply(SH [(b4,[.sl .tight [],.sl .tight []]),(b,[.str snm,.i sty,.b srq,.i sk,.i sn,.str ss,.sl .shared (sL.map V.cells)])] 9));(iterate 4 (focus kernel_rfl));(focus(simp only[Eg,CX];exact rfl));(focus(simp only[Lu,Ch];exact rfl));(focus exact q_k);intro hne;simp only[nes,ne1,and_assoc]at hne;repeat(have hq:=hne.1;replace hne:=hne.2))|((with_reducible refine Exists.intro [] ?_);(with_reducible refine And.intro ?_ ?_);(focus exact q_k))|((with_reducible refine And.intro ?_ ?_);(focus exact q_k))|with_reducible refine Hz ?_|with_reducible refine Kj ?_|((with_reducible apply HH);(focus exact q_n);(focus exact CP rfl);(focus exact q_n);(focus exact q_n);intro g' c' z' hc' hl')|refine QY ?_|refine QB ?_;intro b|with_reducible refine QZ ?_<;>(try constructor)<;>intro hb<;>try intro hb1|((with_reducible apply(Ft call184));(focus exact hC.out);(focus exact⟨Lend.agg ⟨Lend.sl _ _,Lend.sl _ _,trivial⟩,Lend.refl _,trivial⟩))|fail)
       rename_i gs' cS' zS' hcs' hls'
       refine⟨1,.box g' 3 ([[D.i 0]].flatten++z')::.box gs' 184 ([[.str snm,.i sty,.b srq,.i sk,.i sn,.str ss,.sl .shared (sL.map V.cells)]].flatten++zS')::.box b4 146 [.ar gs' 0 1 cS',.ar g' 0 1 c']::.box b2 146 [.sl .tight [],.sl .tight []]::st,?_,⟨hlt,?_,?_,?_,?_,?_,?_,⟨[]++[.mk snm sty srq (.mk sk sn ss sL)],[]++[([]:List Sl).length]⟩,rfl,rfl,HE,.inr ⟨Nat.zero_lt_one,gs',cS',zS',g',c',z',?_,?_,?_⟩⟩,?_⟩
       . (repeat(first|exact Aj _|with_reducible apply List.Sublist.cons_cons|apply List.Sublist.cons))
       iterate 6 (focus exact Qf)
       . rw[show Db ([]++[Sl.mk snm sty srq (.mk sk sn ss sL)])=[(Sl.mk snm sty srq (.mk sk sn ss sL)).cells].flatten from rfl,Sl.cells_mk]
         exact hls'
       . exact hl'
       . rw[show Db ([]++[Sl.mk snm sty srq (.mk sk sn ss sL)])=[(Sl.mk snm sty srq (.mk sk sn ss sL)).cells].flatten from rfl,Sl.cells_mk]
         rfl
       . omega
    . have hr1:=EX x.slots
      have hr2:=Gn x.cols
      have e1:=Aa (Fp x.slots)
      have e2:=Aa (Fz x.cols)
      have f1:=Aa (IL x)
      have f2:=Aa (IB x)
      have l1:Hid ((x.slots.map Sl.cells).length=i):=Aa (by rw[Ab,hxs])
      have l2:Hid ((x.cols.map BV).length=i):=Aa (by rw[Ab,hxc])
      rw[hxs]at hr1 HE g2
      rw[hxc]at hr2
      generalize Sch.colL x.slots snm x.cols=cv at *
      obtain⟨S1,hS1⟩:∃S1,Db x.slots=S1:=⟨_,rfl⟩
      obtain⟨C1,hC1⟩:∃C1,DK x.cols=C1:=⟨_,rfl⟩
      rw[hS1]at hz1 hr1 f1 g1
      rw[hC1]at hz2 hr2 f2 g2
      rw[hS1,hC1]
      clear hS1 hC1
      generalize x.slots.map Sl.cells=L1 at *
      generalize x.cols.map BV=L2 at *
      generalize slots.map Sl.cells=SL at *
      replace hS:=Aa hS
      replace hC:=Aa hC
      by_cases hqc:q=true/\cv<0
      . obtain⟨rfl,hcv⟩:=hqc
        rw[if_pos ⟨rfl,hcv⟩]at HE
        replace HE:=Aa HE
        replace hxs:=Aa hxs
        replace hxc:=Aa hxc
        repeat' (first|refine QV ?_|((with_reducible apply(SH [(b4,[.ar gs 0 i cS,.ar gc 0 i cC]),(b,[.str snm,.i sty,.b srq,.i sk,.i sn,.str ss,.sl .shared (sL.map V.cells)])] 9));(iterate 4 (focus kernel_rfl));(focus(simp only[Eg,CX];exact rfl));(focus(simp only[Lu,Ch];exact rfl));(focus exact q_k);intro hne;simp only[nes,ne1,and_assoc]at hne;repeat(have hq:=hne.1;replace hne:=hne.2))|((with_reducible refine Exists.intro [] ?_);(with_reducible refine And.intro ?_ ?_);(focus exact q_k))|((with_reducible refine And.intro ?_ ?_);(focus exact q_k))|with_reducible refine Hy ?_|with_reducible refine Kl ?_|((with_reducible apply(Ii hr1 hz1));(focus(intro g' cs';repeat(first|exact Hn|apply Hm)));(focus exact CP rfl);(focus exact q_n);(focus exact q_n);intro gs' cS' zS' hcs hls)|((with_reducible apply(Ii hr2 hz2));(focus(intro g' cs';repeat(first|exact Hn|apply Hm)));(focus exact CP rfl);(focus exact q_n);(focus exact q_n);intro gc' cC' zC' hcc hlc)|refine QY ?_|refine QB ?_;intro b|with_reducible refine QZ ?_<;>(try constructor)<;>intro hb<;>try intro hb1|((with_reducible apply(Ft call184));(focus exact hC.out);(focus exact⟨Lend.agg ⟨Lend.rowE q_m f1.out (by decide) e1.out l1.out,Lend.rowE q_m f2.out (by decide) e2.out l2.out,trivial⟩,Lend.refl _,trivial⟩))|fail)
        refine⟨i+1,.box gc' 3 (C1++[[D.i i]].flatten++zC')::.box gs' 184 (S1++[[.str snm,.i sty,.b srq,.i sk,.i sn,.str ss,.sl .shared (sL.map V.cells)]].flatten++zS')::.box b4 146 [.ar gs' 0 (i+1) cS',.ar gc' 0 (i+1) cC']::.box b2 146 [.sl .tight [],.sl .tight []]::st,?_,⟨hlt,?_,?_,?_,?_,?_,?_,⟨x.slots++[.mk snm sty srq (.mk sk sn ss sL)],x.cols++[i]⟩,?_,?_,HE,.inr ⟨nM _,gs',cS',zS',gc',cC',zC',?_,?_,?_⟩⟩,?_⟩
        . (repeat(first|exact Aj _|with_reducible apply List.Sublist.cons_cons|apply List.Sublist.cons))
        iterate 6 (focus exact Qf)
        . rw[Ad,hxs.out];rfl
        . rw[Ad,hxc.out];rfl
        . rw[g1.out];exact hls
        . rw[g2.out];exact hlc
        . rw[g1.out,g2.out]
        . omega
      . rw[if_neg hqc]at HE
        have hF4:Hid (F=none):=Aa (hF3.out.trans HE.symm)
        clear HE
        have hno:q=false\/(q=true/\0<=cv):=by
         cases q
         . exact .inl rfl
         . exact .inr ⟨rfl, by
            have:¬cv<0:=λh=>hqc ⟨rfl,h⟩
            omega⟩
        clear hqc
        rcases hno with rfl|⟨rfl,hcv⟩
        all_goals skip
        all_goals(
         repeat' (first|refine QX ?_|refine QB ?_;intro b|with_reducible refine QZ ?_<;>(try constructor)<;>intro hb<;>try intro hb1|((with_reducible apply(Ft call184));(focus exact hC.out);(focus exact⟨Lend.agg ⟨Lend.rowE q_m f1.out (by decide) e1.out l1.out,Lend.rowE q_m f2.out (by decide) e2.out l2.out,trivial⟩,Lend.refl _,trivial⟩))|fail)
         all_goals((refine Fq (rs:=[]) q_x q_y (Ar _) ⟨_,_,rfl,DU q_s q_m q_s q_v,q_w⟩ q_u (LE.refl _) (.inl ⟨hF4.out,(by first|exact .inl rfl|exact .inr ⟨_,_,_,_,_,_,rfl⟩),rfl⟩))))
  . have HE:=HT.out
    rw[Az q_o,Sch.firstL]at HE
    clear HT
    have hil:Hid (i=slots.length):=Aa q_o
    rcases hcase with⟨rfl,hx0,rfl⟩|⟨hi0,gs,cS,zS,gc,cC,zC,hz1,hz2,rfl⟩
    . have:=hil.out
      omega
    . obtain⟨S1,hS1⟩:∃S1,Db x.slots=S1:=⟨_,rfl⟩
      obtain⟨C1,hC1⟩:∃C1,DK x.cols=C1:=⟨_,rfl⟩
      rw[hS1,hC1]
      generalize slots.map Sl.cells=SL at *
      replace hS1:=Aa hS1
      replace hC1:=Aa hC1
      replace HE:=Aa HE
      replace hxs:=Aa hxs
      replace hxc:=Aa hxc
      repeat' (first|refine QX ?_|refine QB ?_;intro b|with_reducible refine QZ ?_<;>(try constructor)<;>intro hb<;>try intro hb1|fail)
      replace HE:=HE.out
      replace hxs:=hxs.out
      replace hxc:=hxc.out
      all_goals((refine Fq (rs:=[]) (s2:=.box gs 184 (S1++zS)::.box gc 3 (C1++zC)::.box b4 146 [.ar gs 0 i cS,.ar gc 0 i cC]::.box b2 146 [.ar gs 0 i cS,.ar gc 0 i cC]::st) (st0:=.box gs 184 (S1++zS)::.box gc 3 (C1++zC)::st) q_x q_y (.swap _ _ _) ⟨_,_,rfl,DU q_s q_m q_s q_v,q_w⟩ (((Aj _).cons _).cons _ |>.cons_cons _ |>.cons_cons _) (LE.refl _) (.inr ⟨x,gs,cS,zS,gc,cC,zC,by rw[hF2.out,<-HE],⟨?_,?_⟩,by rw[hxs,hxc],?_⟩));(focus exact hz1);(focus exact hz2);(focus(rw[hS1.out,hC1.out])))
end
structure TOk (t:Tm):Prop where
 ls:t.slots.length<=1000
 lt:t.steps.length<=1000
 os:∀s∈t.slots,s.dv.nodes<=1000
 ot:∀s∈t.steps,s.Ok
namespace Sch
structure VI (n:Nat)(x:Vr):Prop where
 ls:x.slots.length<=n
 lp:1<=x.slots.length
 cp:1<=x.cols.length
 lc:x.cols.length<=8
 cs:∀c∈x.cols,c<x.slots.length
theorem VI.vw{n:Nat}{x:Vr}(h:VI n x)(hn:n<=1000):VW x:=⟨by have:=h.ls;omega,h.lc,h.cs⟩
theorem VI.mono{n m:Nat}{x:Vr}(h:VI n x)(hn:n<=m):VI m x:=⟨by have:=h.ls;omega,h.lp,h.cp,h.lc,h.cs⟩
theorem XQ{cols:List Nat}:∀(l:List Int) (out r:List Nat),reo cols l out=some r->(∀c∈out,c∈cols)->(∀c∈r,c∈cols)/\r.length=out.length+l.length
|[],out,r,h,ho=>by cases h;exact⟨ho,rfl⟩
|k::l,out,r,h,ho=>by
  rw[reo]at h
  split at h
  . rename_i hk
    have hc:cols.getD k.toNat 0∈cols:=by
     have:k.toNat<cols.length:=by omega
     rw[AW,Al this]
     exact Hu this
    obtain⟨h1,h2⟩:=XQ l _ r h (by
     intro c hc'
     rcases Bc.1 hc' with h|h
     . exact ho c h
     . rw[AB]at h
       subst h;exact hc)
    refine⟨h1,?_⟩
    rw[h2,Ad,An,An,Cd];omega
  . cases h
theorem eI{n:Nat}{x y:Vr}{s:Stp}(hx:VI n x)(h:stepV x s=some y):VI (n+1) y:=by
 obtain⟨h1,h2,h3,h4,h5⟩:=hx
 unfold stepV at h
 split at h
 . unfold addS at h
   split at h
   . rename_i hc
     cases h
     refine⟨by simp;omega,by simp,by simp,by simp;omega,λc hc'=>?_⟩
     rcases Bc.1 hc' with h|h
     . have:=h5 c h;simp;omega
     . rw[AB]at h
       subst h;simp
   . cases h
 . split at h
   . unfold loseS at h
     split at h
     . rename_i hc
       cases h
       have hi:s.col.toNat<x.cols.length:=by
        have:=hc.1
        unfold column at this
        simp at this;omega
       refine⟨by simp;omega,by simp;omega,?_,?_,λc hc'=>h5 c (List.mem_of_mem_eraseIdx hc')⟩
       . show 1<=(x.cols.eraseIdx _).length
         rw[Hh hi];omega
       . show(x.cols.eraseIdx _).length<=8
         rw[Hh hi];omega
     . cases h
   . split at h
     . unfold renameS at h
       split at h
       . cases h
         exact⟨by simp;omega,by simp;omega,h3,h4,λc hc'=>by have:=h5 c hc';simpa using this⟩
       . cases h
     . split at h
       . unfold widenS at h
         split at h
         . cases h
           exact⟨by simp;omega,by simp;omega,h3,h4,λc hc'=>by have:=h5 c hc';simpa using this⟩
         . cases h
       . split at h
         . unfold reorderS at h
           split at h
           . rename_i hc
             cases hr:reo x.cols s.order []with
             | none=>rw[hr]at h;cases h
             | some r =>
              rw[hr]at h
              cases h
              obtain⟨k1,k2⟩:=XQ _ _ _ hr (λc h=>by cases h)
              have hl:r.length=x.cols.length:=by rw[k2];simp;omega
              exact⟨by show x.slots.length<=_;omega,h2,by show 1<=r.length;omega,by show r.length<=8;omega,λc hc'=>h5 c (k1 c hc')⟩
           . cases h
         . cases h
theorem RZ:∀(l:List Sl) (x y:Vr),(∀c∈x.cols,c<x.slots.length)->x.cols.length=x.slots.length->firstL l x=some y->(∀c∈y.cols,c<y.slots.length)/\y.cols.length=y.slots.length/\y.slots=x.slots++l
|[],x,y,h1,h2,h=>by cases h;exact⟨h1,h2,(AY _).symm⟩
|s::l,x,y,h1,h2,h=>by
  rw[firstL]at h
  split at h
  . obtain ⟨k1, k2, k3⟩ := RZ l _ y (λc hc => by
     rcases Bc.1 hc with h|h
     . have:=h1 c h;simp;omega
     . rw[AB]at h
       subst h;simp) (by simp;omega) h
    refine⟨k1,k2,?_⟩
    rw[k3,Ai];rfl
  . cases h
theorem Vt{t:Tm}{x:Vr}(h:firstV t=some x):VI 8 x/\x.slots=t.slots/\t.steps.length<=8:=by
 unfold firstV at h
 split at h
 . rename_i hc
   obtain⟨k1,k2,k3⟩:=RZ _ _ _ (λc h=>by cases h) rfl h
   rw[AM]at k3
   have hl:x.slots.length=t.slots.length:=by rw[k3]
   exact⟨⟨by omega,by omega,by omega,by omega,k1⟩,k3,hc.2.2.2⟩
 . cases h
theorem versL_drop{x:Vr}{l:List Stp}{i:Nat}{s:Stp}(h:l[i]?=some s):versL x (l.drop i)=match stepV x s with
|none=>[]
|some y=>y::versL y (l.drop (i+1)):=by
 obtain⟨h1,rfl⟩:=Af.1 h
 rw[BM h1,versL]
 all_goals(cases stepV x l[i]<;>rfl)
theorem TU:∀(l:List Stp) (n:Nat) (x:Vr),VI n x->∀y∈versL x l,VI (n+l.length) y
|[],_,_,_,y,hy=>by cases hy
|s::l,n,x,hx,y,hy=>by
  rw[versL]at hy
  cases hs:stepV x s with
  | none=>rw[hs]at hy;cases hy
  | some z =>
   rw[hs]at hy
   have hz:=eI hx hs
   rcases Ax.1 hy with rfl|hy
   . exact hz.mono (by rw[An];omega)
   . exact(TU l _ z hz y hy).mono (by rw[An];omega)
theorem QH:∀(l:List Stp) (x:Vr),(versL x l).length<=l.length
|[],_=>Ap _
|s::l,x=>by
  rw[versL]
  split
  . exact Ao _
  . rename_i y hy
    have:=QH l y
    rw[An,An];omega
theorem vers_vi{t:Tm}{y:Vr}(h:y∈vers t):VI 16 y:=by
 unfold vers at h
 split at h
 . cases h
 . rename_i x hx
   obtain⟨k1, -,k2⟩:=Vt hx
   rcases Ax.1 h with rfl|h
   . exact k1.mono q_o
   . exact(TU _ _ _ k1 y h).mono q_o
theorem vers_len(t:Tm):(vers t).length<=t.steps.length+1/\(vers t).length<=9:=by
 unfold vers
 split
 . exact⟨Ao _,Ao _⟩
 . rename_i x hx
   have:=QH t.steps x
   have:=(Vt hx).2.2
   rw[An];omega
end Sch
section
attribute [local push_cast] Br Bl BV V.cells_mk V.cells_len Nat.mul_one Int.sub_zero List.map_nil beq_self_eq_true List.head?_cons
def doTab:List D:=[.s .nilFunc,.fn (.func 186) [] [],.fn (.func 187) [] [],.fn (.func 188) [] [],.fn (.func 189) [] [],.fn (.func 190) [] []]
theorem Ky{F G:Vr->Stp->Option Vr}{x:Vr}{stp:Stp}{bx:Nat}{s:St}(h:F x stp=G x stp):GU F x stp bx s=GU G x stp bx s:=by
 unfold GU;rw[h]
theorem jm(x:Vr)(stp:Stp)(hx:VW x)(hc1:1<=x.cols.length)(hs:stp.Ok)(hk:1<=stp.kind/\stp.kind<=5):∃(n:Nat) (f:FuncId),stp.kind=n/\n<=5/\(∃tl,doTab.drop n=.fn (.func f) [] []::tl)/\(∀args w,(callFunc f args).run prog w=.ok (.enter f args) w) /\
 ∀(bx gs cS gc cC:Nat) (zS zC:List D),VL cS zS cC zC x->∀s,TrF prog f [.ptr bx 0,.agg stp.cells] (VB bx gs cS zS gc cC zC x s) (GU Sch.stepV x stp bx s):=by
 have hk':stp.kind=1\/stp.kind=2\/stp.kind=3\/stp.kind=4\/stp.kind=5:=by omega
 rcases hk' with h|h|h|h|h
 . exact⟨1,_,h,by decide,⟨_,rfl⟩,call186,λbx gs cS gc cC zS zC hz s=>Ky (G:=Sch.stepV) (by unfold Sch.stepV;rw[if_pos h])▸eP bx gs cS gc cC zS zC x stp hx hs hz s⟩
 . exact⟨2,_,h,by decide,⟨_,rfl⟩,call187,λbx gs cS gc cC zS zC hz s=>Ky (G:=Sch.stepV) (by unfold Sch.stepV;rw[if_neg (show¬stp.kind=1 by omega),if_pos h])▸bo bx gs cS gc cC zS zC x stp hx hs hz s⟩
 . exact⟨3,_,h,by decide,⟨_,rfl⟩,call188,λbx gs cS gc cC zS zC hz s=>Ky (G:=Sch.stepV) (by unfold Sch.stepV;rw[if_neg (show¬stp.kind=1 by omega),if_neg (show¬stp.kind=2 by omega),if_pos h])▸Wi bx gs cS gc cC zS zC x stp hx hs hz s⟩
 . exact⟨4,_,h,by decide,⟨_,rfl⟩,call189,λbx gs cS gc cC zS zC hz s=>Ky (G:=Sch.stepV) (by unfold Sch.stepV;rw[if_neg (show¬stp.kind=1 by omega),if_neg (show¬stp.kind=2 by omega),if_neg (show¬stp.kind=3 by omega),if_pos h])▸YR bx gs cS gc cC zS zC x stp hx hs hz s⟩
 . exact⟨5,_,h,by decide,⟨_,rfl⟩,call190,λbx gs cS gc cC zS zC hz s=>Ky (G:=Sch.stepV) (by unfold Sch.stepV;rw[if_neg (show¬stp.kind=1 by omega),if_neg (show¬stp.kind=2 by omega),if_neg (show¬stp.kind=3 by omega),if_neg (show¬stp.kind=4 by omega),if_pos h])▸Uf bx gs cS gc cC zS zC x stp hx hc1 hs hz s⟩
theorem ae(t:Tm)(st:St):∃d st',NX t st d st':=by
 unfold NX
 cases h:Sch.firstV t with
|none=>exact⟨_,_,.inl ⟨rfl,.inl rfl,rfl⟩⟩
|some x=>exact⟨_,_,.inr ⟨x,0,x.slots.length,[],0,x.cols.length,[],rfl,⟨by rw[AY,EX],by rw[AY,Gn]⟩,rfl,rfl⟩⟩
theorem bf(x:Vr)(stp:Stp)(bx:Nat)(s:St):∃d st',GU Sch.stepV x stp bx s d st':=by
 unfold GU
 cases h:Sch.stepV x stp with
|none=>exact⟨_,_,.inl ⟨rfl,rfl,rfl⟩⟩
|some y=>exact⟨_,_,.inr ⟨y,0,y.slots.length,[],0,y.cols.length,[],rfl,⟨by rw[AY,EX],by rw[AY,Gn]⟩,rfl,rfl⟩⟩
def jP (p:Vr×Nat):List D:=[.i p.2,.agg p.1.cells]
theorem jO(t:Tm)(st:St):TrF prog 123 [.agg t.cells] st λd st'=>∃tb,d=.fn (.func 156) [] [.ptr tb 0]/\st'=.box tb 136 t.cells::st:=by
 unfold Tm.cells
 generalize t.slots.map Sl.cells=SL
 generalize t.steps.map Stp.cells=TL
 refine Qin [2] func123 results123 ntmps123 ?_
 repeat' (first|with_reducible refine DR ?_|refine QX ?_|refine QB ?_;intro b|with_reducible refine QZ ?_<;>(try constructor)<;>intro hb<;>try intro hb1|fail)
 all_goals exact Bf q_x rfl q_u (LE.of_eq q_v) ⟨_,rfl,rfl⟩
theorem TV(tb:Nat)(t:Tm)(ht:TOk t):YE prog 156 [.ptr tb 0] jP ((Sch.vers t).zipIdx 1) [.box tb 136 t.cells] (λK=>K=[.box tb 136 t.cells]) (λ_ K=>K=[.box tb 136 t.cells]):=by
 intro l C J Jx hY hJ
 have HY:=Aa hY
 have HJ:=Aa hJ
 clear hY hJ
 have hFi:=Aa (YS t ht.os ht.ls ht.lt)
 have hot:=Aa ht.ot
 have hcells:Hid (t.cells=[.str t.name,.sl .shared (t.slots.map Sl.cells),.sl .shared (t.steps.map Stp.cells)]):=rfl
 obtain⟨Vs,hVs⟩:∃Vs,Sch.vers t=Vs:=⟨_,rfl⟩
 have hV:Hid (Vs=match Sch.firstV t with|none=>[]|some x=>x::Sch.versL x t.steps):=hVs.symm
 have hvi:Hid (∀y∈Vs,Sch.VI 16 y):=Aa (by rw[<-hVs];exactλy=>Sch.vers_vi)
 rw[hVs]at HY |-
 clear hVs
 have hLl:(Vs.zipIdx 1).length=Vs.length:=Xr
 have hget:Hid (∀i x,Vs[i]?=some x->(Vs.zipIdx 1)[i]?=some (x,1+i)):=λi x h=>by rw[TN,h];rfl
 generalize Vs.zipIdx 1=L at *
 unfold NX at hFi
 have hex:=Aa (ae t)
 unfold NX at hex
 generalize hTC:t.cells=TC at *
 have hTC2:=hcells.out
 subst hTC2
 generalize t.slots.map Sl.cells=SL at *
 generalize hSt:t.steps.map Stp.cells=TL at *
 replace hSt:=Aa hSt
 replace hTC:=Aa hTC
 refine Qin [] func156 results156 ntmps156 ?_
 refine Bn (st':=.box tb 136 [.str t.name,.sl .shared SL,.sl .shared TL]::C) (.refl _) ?_
 repeat' (first|refine QX ?_|refine QB ?_;intro b|with_reducible refine QZ ?_<;>(try constructor)<;>intro hb<;>try intro hb1|((with_reducible apply(DL call157));(focus exact Ar _);(focus exact hFi.out _);(focus exact LEL.refl _);(focus exact hex.out _);(rintro d st' (⟨hn,rfl|⟨gs,n1,cS,gc,n2,cC,rfl⟩,rfl⟩|⟨x,gs,cS,zS,gc,cC,zC,hx,hz,rfl,rfl⟩)))|fail)
 . have hL0:L.length=0:=by rw[hLl,hV.out,hn];rfl
   exact Bf q_x rfl q_u (LE.refl _) ⟨[_],C,rfl,.inl ⟨rfl,by rw[hL0];exact HJ.out⟩⟩
 . have hL0:L.length=0:=by rw[hLl,hV.out,hn];rfl
   exact Bf q_x rfl q_u (LE.refl _) ⟨[_],C,rfl,.inl ⟨rfl,by rw[hL0];exact HJ.out⟩⟩
 have hV1:Vs=x::Sch.versL x t.steps:=by rw[hV.out,hx]
 have hx0:Vs[0]?=some x:=by rw[hV1];rfl
 have hT0:Hid (Sch.versL x (t.steps.drop 0)=Vs.drop 1):=Aa (by rw[hV1];rfl)
 have hVx:=hvi.out x (Ah hx0)
 have hg0:=hget.out 0 x hx0
 replace hx0:=Aa hx0
 have hdoF:=YT
 have hLl2:=Aa hLl
 clear hV hV1 hex hFi hx hLl
 obtain⟨b3,rfl⟩:∃q,q=b:=⟨_,rfl⟩
 have hcp:=Aa (OO gs cS gc cC zS zC x (λh=>by have:=hVx.lp;rw[h]at this;simp at this) (λh=>by have:=hVx.cp;rw[h]at this;simp at this) (hVx.vw q_o))
 obtain⟨TB,hTB⟩:∃TB,TB=doTab:=⟨_,rfl⟩
 have hdo:Hid (∀st,TrF prog 159 [] st λd st'=>d=.agg TB/\st'=st):=by rw[hTB];exact hdoF
 have hTBl:TB.length=6:=by rw[hTB];rfl
 have hTBa:TB.all D.leaf=true:=by rw[hTB];rfl
 replace hTB:=Aa hTB
 clear hdoF
 repeat' (first|refine QV ?_|((with_reducible apply(SU HY.out HJ.out hg0));(focus exact q_v);(focus exact q_v);(focus exact q_l);(focus(repeat(first|exact OJ|apply Mo));done);all_goals(intro C' hC'))|refine QY ?_|refine QB ?_;intro b|with_reducible refine QZ ?_<;>(try constructor)<;>intro hb<;>try intro hb1|refine Qc call158 (hcp.out _ q_m q_m) ?_|fail)
 rotate_left
 . exact Bf q_x q_y q_u (LE.refl _) ⟨[_],C',rfl,.inr ⟨_,rfl,hC'⟩⟩
 obtain⟨b5,rfl⟩:∃q,q=b:=⟨_,rfl⟩
 refine Bn (st':=.box b3 146 [.ar gs 0 x.slots.length cS,.ar gc 0 x.cols.length cC]::.box gs 184 (Db x.slots++zS)::.box gc 3 (DK x.cols++zC)::.box b5 232 TB::.box tb 136 [.str t.name,.sl .shared SL,.sl .shared TL]::C') (by(repeat(first|exact Ar _|refine Dl (by repeat(first|exact DA|apply CV)) ?_))) ?_
 have hJ0:=Aa hC'
 have hTl:TL.length=t.steps.length:=by rw[<-hSt.out,Ab]
 have hms:=ht.lt
 clear hg0 hcp
 refine Bs (ι:=Nat) (λi A st'=>∃x gs cS zS gc cC zC C',i<=TL.length/\VL cS zS cC zC x/\Hid (Vs[i]?=some x)/\Hid (Sch.versL x (t.steps.drop i)=Vs.drop (i+1))/\Hid (J (i+1) C')/\A.df=[]/\A.e 0=.fn (.yield l) [] []/\A.e 1=.ptr tb 0/\A.e 3=.ptr b3 0/\A.e 5=.ptr b5 0/\A.e 24=.sl .shared TL/\A.e 25=.i TL.length/\A.e 26=.i i /\
  st'=.box b3 146 [.ar gs 0 x.slots.length cS,.ar gc 0 x.cols.length cC]::.box gs 184 (Db x.slots++zS)::.box gc 3 (DK x.cols++zC)::.box b5 232 TB::.box tb 136 [.str t.name,.sl .shared SL,.sl .shared TL]::C') (λi=>TL.length - i) 0 ⟨x,gs,cS,zS,gc,cC,zC,C',Ao _,hz,hx0,hT0,hJ0,Qf,Qf,Qf,Qf,Qf,Qf,Qf,Qf,rfl⟩ ?_
 clear hx0 hT0 hJ0 hz hVx hC' HJ
 rintro i A st' ⟨x,gs,cS,zS,gc,cC,zC,C',hi,hz,hxi,hTi,hJi,hdf,e0,e1,e3,e5,e24,e25,e26,rfl⟩
 have hVx:=hvi.out x (Ah hxi.out)
 by_cases hlt:i<TL.length
 . obtain⟨stp,hstp⟩:=gEx (l:=t.steps) (i:=i) q_o
   have hso:=hot.out stp (Ah hstp)
   have hTd:=hTi.out
   rw[Sch.versL_drop hstp]at hTd
   have hcl:TL[i]?=some stp.cells:=by rw[<-hSt.out,Aq,hstp];rfl
   have hin:i<Vs.length:=(Af.1 hxi.out).1
   by_cases hk:1<=stp.kind/\stp.kind<=5
   . obtain⟨nk,f,hkn,hn5,⟨tl,htl⟩,hent,hTr⟩:=jm x stp (hVx.vw q_o) hVx.cp hso hk
     have hTr2:=Aa (hTr b3 gs cS gc cC zS zC hz)
     have hSR:=Aa (bf x stp b3)
     obtain⟨hk1,hk2⟩:=hk
     clear hTr hTi
     rw[<-hTB.out]at htl
     unfold GU VB at hTr2 hSR
     have hvw:Hid (∀y,Sch.stepV x stp=some y->Vs[i+1]?=some y/\Sch.versL y (t.steps.drop (i+1))=Vs.drop (i+1+1)):=λy hy=>by
      rw[hy]at hTd
      have h1:Vs[i+1]?=some y:=by
       have:(Vs.drop (i+1))[0]?=some y:=by rw[<-hTd];rfl
       rwa[Fv,Ed]at this
      refine⟨h1,?_⟩
      rw[V.drop_cons h1]at hTd
      exact(List.cons.inj hTd).2
     have hvn:Hid (Sch.stepV x stp=none->Vs.length=i+1):=λh=>by
      rw[h]at hTd
      have:=congrArg List.length hTd
      rw[AO,Cd]at this
      omega
     obtain⟨n2,hn2⟩:∃n2:Nat,1+(i+1)=n2:=⟨_,rfl⟩
     have hn3:(i:Int)+2=(n2:Int):=by omega
     have hgY:Hid (∀y,Sch.stepV x stp=some y->L[i+1]?=some (y,n2)):=λy hy=>by rw[<-hn2];exact hget.out _ _ (hvw.out y hy).1
     have hcp:Hid (∀y,Sch.stepV x stp=some y->∀(gs cS gc cC:Nat) (zS zC:List D) (st:St),Res.box gs 184 (Db y.slots++zS)∈st->Res.box gc 3 (DK y.cols++zC)∈st->TrF prog 158 [.agg [.ar gs 0 y.slots.length cS,.ar gc 0 y.cols.length cC]] st λd st'=>d=.agg y.cells/\st'=st):=λy hy gs cS gc cC zS zC st m1 m2=>by
      have hVy:=hvi.out y (Ah (hvw.out y hy).1)
      exact OO gs cS gc cC zS zC y (λh=>by have:=hVy.lp;rw[h]at this;simp at this) (λh=>by have:=hVy.cp;rw[h]at this;simp at this) (hVy.vw q_o) st m1 m2
     have hn2b:n2<=2000/\i<=2000/\TL.length<=2000:=by omega
     obtain⟨hb1,hb2,hb3⟩:=hn2b
     replace hn2:=Aa hn2
     clear hTd hstp hxi hVx
     generalize Sch.stepV x stp=F at *
     cases stp with
     | mk kd col slot order =>
     cases slot with
     | mk nm ty rq dv =>
     cases dv with
     | mk k n sv lv =>
     unfold Stp.cells at hcl hTr2
     rw[Sl.cells_mk]at hcl hTr2
     dsimp only[List.cons_append,List.nil_append]at hcl hTr2 hkn hk1 hk2
     subst hkn
     replace hcl:=hcl
     have hentH:=Aa hent
     clear hent
     replace hin:=Aa hin
     replace hLl2:=Aa hLl2
     replace hTl:=Aa hTl
     repeat' (first|refine QV ?_|((with_reducible apply(SU HY.out hJi.out hgy.out));(focus exact q_v);(focus exact q_v);(focus exact q_l);(focus(repeat(first|exact OJ|apply Mo));done);all_goals(intro C' hC'))|((with_reducible apply(SH [(b5,TB),(b,[.i nk,.i col,.str nm,.i ty,.b rq,.i k,.i n,.str sv,.sl .shared (lv.map V.cells),.sl .shared (order.map Bl)])] 14));(iterate 4 (focus kernel_rfl));(focus(simp only[Eg,CX];exact rfl));(focus(simp only[Lu,Ch];exact rfl));(focus exact q_k);intro hne;simp only[nes,ne1,and_assoc]at hne;repeat(have hq:=hne.1;replace hne:=hne.2))|((with_reducible refine Exists.intro [(b3,[.ar gs1 0 y.slots.length cS1,.ar gc1 0 y.cols.length cC1])] ?_);(with_reducible refine And.intro ?_ ?_);(focus exact q_k))|((with_reducible refine And.intro ?_ ?_);(focus exact q_k))|((with_reducible refine Exists.intro [] ?_);(with_reducible refine And.intro ?_ ?_);(focus exact BI))|refine QY ?_|refine QB ?_;intro b|with_reducible refine QZ ?_<;>(try constructor)<;>intro hb<;>try intro hb1|((with_reducible apply(DL hentH.out));(focus(show List.Perm _ (VB b3 gs cS zS gc cC zC x (.box b 186 [.i nk,.i col,.str nm,.i ty,.b rq,.i k,.i n,.str sv,.sl .shared (lv.map V.cells),.sl .shared (order.map Bl)]::.box b5 232 TB::.box tb 136 [.str t.name,.sl .shared SL,.sl .shared TL]::C'));(repeat(first|exact Ar _|refine Dl (by repeat(first|exact DA|apply CV)) ?_));done));(focus exact hTr2.out _);(focus exact LEL.refl _);(focus exact hSR.out _);(rintro d st' (⟨hn1,rfl,rfl⟩|⟨y,gs1,cS1,zS1,gc1,cC1,zC1,hy,hz1,rfl,rfl⟩)<;>(try(have hgy:=Aa (hgY.out y hy);have hcy:=Aa (hcp.out y hy gs1 cS1 gc1 cC1 zS1 zC1);replace hy:=Aa hy))))|refine Qc call158 (hcy.out _ q_m q_m) ?_|fail)
     . have hL1:L.length=i+1:=by rw[hLl2.out.out,hvn.out hn1]
       exact Bf q_x q_y q_t (LE.refl _) ⟨[_],C',rfl,.inl ⟨rfl,by rw[hL1];exact hJi.out⟩⟩
     . obtain⟨q1,q2⟩:=hvw.out y hy.out
       refine⟨i+1,.box b3 146 [.ar gs1 0 y.slots.length cS1,.ar gc1 0 y.cols.length cC1]::.box gs1 184 (Db y.slots++zS1)::.box gc1 3 (DK y.cols++zC1)::.box b5 232 TB::.box tb 136 [.str t.name,.sl .shared SL,.sl .shared TL]::C',?_,⟨y,gs1,cS1,zS1,gc1,cC1,zC1,C',hlt,hz1,q1,q2,hC',?_,?_,?_,?_,?_,?_,?_,?_,rfl⟩,?_⟩
       . (repeat(first|exact Aj _|with_reducible apply List.Sublist.cons_cons|apply List.Sublist.cons))
       iterate 8 (focus exact Qf)
       . omega
     . exact Bf q_x q_y q_t (LE.refl _) ⟨[_],C',rfl,.inr ⟨_,rfl,hC'⟩⟩
   . have hn1 : Sch.stepV x stp = none := by
      unfold Sch.stepV
      rw[if_neg q_o,if_neg q_o,if_neg q_o,if_neg q_o,if_neg q_o]
     rw[hn1]at hTd
     have hL1:L.length=i+1:=by
      rw[hLl2.out]
      have:=congrArg List.length hTd
      rw[AO,Cd]at this
      omega
     have hk':stp.kind<1\/(1<=stp.kind/\5<stp.kind):=by omega
     clear hTd hstp hk hn1 hTi hxi
     replace hL1:=Aa hL1
     cases stp with
     | mk kd col slot order =>
     cases slot with
     | mk nm ty rq dv =>
     cases dv with
     | mk k n sv lv =>
     unfold Stp.cells at hcl
     rw[Sl.cells_mk]at hcl
     dsimp only[List.cons_append,List.nil_append]at hcl hk'
     have hb3:TL.length<=2000/\i<=2000:=by omega
     obtain⟨hb3,hb4⟩:=hb3
     replace hTl:=Aa hTl
     replace hLl2:=Aa hLl2
     replace hin:=Aa hin
     rcases hk' with hk1|⟨hk1,hk2⟩
     all_goals skip
     all_goals(
      repeat' (first|refine QV ?_|((with_reducible apply(Da [(b,[.i kd,.i col,.str nm,.i ty,.b rq,.i k,.i n,.str sv,.sl .shared (lv.map V.cells),.sl .shared (order.map Bl)])]));(iterate 3 (focus kernel_rfl));(focus exact q_k);intro hne;simp only[nes,ne1,and_assoc]at hne;repeat(have hq:=hne.1;replace hne:=hne.2))|((with_reducible refine And.intro ?_ ?_);(focus exact q_k))|refine QY ?_|refine QB ?_;intro b|with_reducible refine QZ ?_<;>(try constructor)<;>intro hb<;>try intro hb1|fail)
      all_goals exact Bf q_x q_y q_t (LE.refl _) ⟨[_],C',rfl,.inl ⟨rfl,by rw[hL1.out];exact hJi.out⟩⟩)
 . have hL1 : L.length = i + 1 := by
    have h1:=hTi.out
    rw[Az q_o,Sch.versL]at h1
    have:=congrArg List.length h1
    rw[AO,Cd]at this
    have hin:i<Vs.length:=(Af.1 hxi.out).1
    rw[hLl2.out];omega
   replace hL1:=Aa hL1
   replace hTl:=Aa hTl
   replace hLl2:=Aa hLl2
   repeat' (first|refine QX ?_|refine QB ?_;intro b|with_reducible refine QZ ?_<;>(try constructor)<;>intro hb<;>try intro hb1|fail)
   all_goals exact Bf q_x q_y q_t (LE.refl _) ⟨[_],C',rfl,.inl ⟨rfl,by rw[hL1.out];exact hJi.out⟩⟩
theorem aO(t:Tm)(st:St):TrF prog 123 [.agg t.cells] st λd st'=>∃tb:Nat,True/\d=.fn (.func 156) [] [.ptr tb 0]/\st'=.box tb 136 t.cells::st :=
 (jO t st).mono λ_ _ ⟨tb,h1,h2⟩=>⟨tb,trivial,h1,h2⟩
theorem Ug(t:Tm)(ht:TOk t)(st:St):TrF prog 82 [.agg t.cells] st λd st'=>d=.i (Sch.last t)/\st'=st:=by
 have hVF:=Aa (aO t)
 have hIt:=Aa λtb=>TV tb t ht
 have hLl:Hid (((Sch.vers t).zipIdx 1).length=(Sch.vers t).length):=Aa Xr
 have hget:Hid (∀i x,((Sch.vers t).zipIdx 1)[i]?=some x->x.2=i+1):=λi x h=>by
  rw[TN]at h
  cases hv:(Sch.vers t)[i]? with
  | none=>rw[hv]at h;cases h
  | some y=>rw[hv]at h;cases h;exact Dw 1 i
 have hlast:Hid (Sch.last t=if (Sch.vers t).length=t.steps.length+1 then t.steps.length+1 else 0):=rfl
 have hvl:=(Sch.vers_len t).1
 have hms:=ht.lt
 generalize Sch.last t=LT at *
 generalize (Sch.vers t).zipIdx 1=L at *
 generalize (Sch.vers t).length=vl at *
 have hTL:(t.steps.map Stp.cells).length=t.steps.length:=Ab ..
 unfold Tm.cells at hVF hIt |-
 generalize t.slots.map Sl.cells=SL at *
 generalize t.steps.map Stp.cells=TL at *
 generalize t.steps.length=ms at *
 generalize t.name=nm at *
 refine Qin [2] func82 results82 ntmps82 ?_
 repeat' (first|with_reducible refine DR ?_|refine QX ?_|refine QB ?_;intro b|with_reducible refine QZ ?_<;>(try constructor)<;>intro hb<;>try intro hb1|((with_reducible apply(Yt call123));(focus exact LEL.refl _);(focus exact hVF.out _);(focus exact⟨0,trivial⟩);intro tb htb)|fail)
 rename_i b1
 refine Bn (st':=[.box tb 136 [.str nm,.sl .shared SL,.sl .shared TL]]++(.box b 3 [.i 0]::.box b1 136 [.str nm,.sl .shared SL,.sl .shared TL]::st)) (.refl _) ?_
 refine TY (hIt.out tb) call156 q_v (λ_=>rfl) rfl (λi C=>C=.box b 3 [.i i]::.box b1 136 [.str nm,.sl .shared SL,.sl .shared TL]::st) (λ_ _ _=>False) rfl (λi _=>⟨_,rfl⟩) ?_ ?_ (λ_ _ _ _ _ _ h=>h.elim)
 . rintro l i ⟨y,v⟩ C K hx rfl
   have hv:v=i+1:=hget.out i _ hx
   subst hv
   have hil:i<L.length:=(Af.1 hx).1
   have hib:i<=2000:=by have:=hLl.out;omega
   clear hx hil
   refine(?_:Tr _ _ _ _ (AA.put (AA.put ⟨_,[]⟩ (some 7) (.i ((i+1:Nat):Int))) (some 8) (.agg y.cells)) (.box b 3 [.i i]::.box b1 136 [.str nm,.sl .shared SL,.sl .shared TL]::(st++K)) _)
   repeat' (first|refine QX ?_|refine QB ?_;intro b|with_reducible refine QZ ?_<;>(try constructor)<;>intro hb<;>try intro hb1|fail)
   refine⟨.box b 3 [.i i]::.box b1 136 [.str nm,.sl .shared SL,.sl .shared TL]::st,Aj _,λK'=>?_⟩
   refine(?_:Tr _ _ _ _ _ (.box b 3 [.i i]::.box b1 136 [.str nm,.sl .shared SL,.sl .shared TL]::(st++K')) _)
   repeat' (first|refine QX ?_|refine QB ?_;intro b|with_reducible refine QZ ?_<;>(try constructor)<;>intro hb<;>try intro hb1|fail)
   exact⟨_,Aj _,rfl⟩
 . rintro d K1 C' rfl rfl
   rw[hLl.out]
   clear hIt
   change Tr _ _ _ _ _ _ _
   by_cases hc:vl=ms+1
   . have hL2:LT=vl:=by rw[hlast.out,if_pos hc,hc]
     clear hlast
     have hc2:(vl:Int)=(ms:Int)+1:=by omega
     clear hc
     refine Bn (st':=.box b 3 [.i vl]::.box b1 136 [.str nm,.sl .shared SL,.sl .shared TL]::BK d::.box tb 136 [.str nm,.sl .shared SL,.sl .shared TL]::st) (by show List.Perm (BK d::.box tb 136 [.str nm,.sl .shared SL,.sl .shared TL]::.box b 3 [.i vl]::.box b1 136 [.str nm,.sl .shared SL,.sl .shared TL]::st) _;(repeat(first|exact Ar _|refine Dl (by repeat(first|exact DA|apply CV)) ?_))) ?_
     repeat' (first|refine QX ?_|refine QB ?_;intro b|with_reducible refine QZ ?_<;>(try constructor)<;>intro hb<;>try intro hb1|fail)
     all_goals(refine Em (by simp) q_y (by repeat(first|exact DA|apply CV)) q_u ?_ ⟨rfl,rfl⟩;(try simp(disch:=omega) only[push_cast,simprocAttr, *]);try(first|exact q_e|refine LE.of_eq ?_))
   . have hL2:LT=0:=by rw[hlast.out,if_neg hc]
     clear hlast
     have hc2:¬(vl:Int)=(ms:Int)+1:=by omega
     clear hc
     refine Bn (st':=.box b 3 [.i vl]::.box b1 136 [.str nm,.sl .shared SL,.sl .shared TL]::BK d::.box tb 136 [.str nm,.sl .shared SL,.sl .shared TL]::st) (by show List.Perm (BK d::.box tb 136 [.str nm,.sl .shared SL,.sl .shared TL]::.box b 3 [.i vl]::.box b1 136 [.str nm,.sl .shared SL,.sl .shared TL]::st) _;(repeat(first|exact Ar _|refine Dl (by repeat(first|exact DA|apply CV)) ?_))) ?_
     repeat' (first|refine QX ?_|refine QB ?_;intro b|with_reducible refine QZ ?_<;>(try constructor)<;>intro hb<;>try intro hb1|fail)
     all_goals(refine Em (by simp) q_y (by repeat(first|exact DA|apply CV)) q_u ?_ ⟨rfl,rfl⟩;(try simp(disch:=omega) only[push_cast,simprocAttr, *]);try(first|exact q_e|refine LE.of_eq ?_))
theorem QU(t:Tm)(ht:TOk t)(st:St):TrF prog 113 [.agg t.cells] st λd st'=>d=.b (decide (0<Sch.last t))/\st'=st:=by
 have hL:=Aa (Ug t ht)
 generalize Sch.last t=n at *
 unfold Tm.cells at *
 generalize t.slots.map Sl.cells=SL at *
 generalize t.steps.map Stp.cells=TL at *
 refine Qin [2] func113 results113 ntmps113 ?_
 repeat' (first|with_reducible refine DR ?_|refine QX ?_|refine QB ?_;intro b|with_reducible refine QZ ?_<;>(try constructor)<;>intro hb<;>try intro hb1|fail)
 all_goals(refine BZ (hd:=?_);(try simp(disch:=omega) only[push_cast,simprocAttr, *]);try(first|exact q_e|refine LE.of_eq ?_))
 all_goals(refine congrArg D.b (decide_eq_decide.2 ?_);omega)
def Sch.verX (t:Tm)(v:Int):Vr:=(Sch.ver t v).getD ⟨[],[]⟩
def Sch.verB (t:Tm)(v:Int):Bool:=(Sch.ver t v).isSome
theorem iL(t:Tm)(ht:TOk t)(v:Int)(st:St):TrF prog 81 [.agg t.cells,.i v] st λd st'=>d=.tup [.agg (Sch.verX t v).cells,.b (Sch.verB t v)]/\st'=st:=by
 have hVF:=Aa (aO t)
 have hRi:=QU t ht
 have hIt:=Aa λtb=>TV tb t ht
 have hLl:Hid (((Sch.vers t).zipIdx 1).length=(Sch.vers t).length):=Aa Xr
 have hget:Hid (∀i x,((Sch.vers t).zipIdx 1)[i]?=some x->x.2=i+1/\(Sch.vers t)[i]?=some x.1):=λi x h=>by
  rw[TN]at h
  cases hv:(Sch.vers t)[i]? with
  | none=>rw[hv]at h;cases h
  | some y=>rw[hv]at h;cases h;exact⟨Dw 1 i,rfl⟩
 have hver:Hid (Sch.ver t v=if 0<Sch.last t/\1<=v then(Sch.vers t)[(v - 1).toNat]? else none):=rfl
 have hvl:=(Sch.vers_len t).1
 have hms:=ht.lt
 have hvl2:Hid ((Sch.vers t).length<=2000):=Aa q_o
 unfold Sch.verX Sch.verB
 generalize Sch.ver t v=VT at *
 generalize (Sch.vers t).zipIdx 1=L at *
 generalize Sch.vers t=Vs at *
 clear hvl hms
 unfold Tm.cells at hVF hIt hRi |-
 generalize t.slots.map Sl.cells=SL at *
 generalize t.steps.map Stp.cells=TL at *
 generalize t.name=nm at *
 refine FN (G:=SI prog (.cell 4 146) (.cell 5 4)) func81 rfl (by rw[ntmps81];exact BD rfl) (λh1 h2 h3=>Jd rfl h1 h2 h3) ?_
 simp only[ntmps81]
 by_cases hr:0<Sch.last t
 . rw[decide_eq_true hr]at hRi
   replace hRi:=Aa hRi
   have hver2:Hid (VT=if 1<=v then Vs[(v - 1).toNat]? else none):=Aa (by rw[hver.out];simp[hr])
   clear hver
   repeat' (first|with_reducible refine DR ?_|refine QX ?_|refine QB ?_;intro b|with_reducible refine QZ ?_<;>(try constructor)<;>intro hb<;>try intro hb1|((with_reducible apply(Yt call123));(focus exact LEL.refl _);(focus exact hVF.out _);(focus exact⟨0,trivial⟩);intro tb htb)|fail)
   rename_i b2 b3 b4
   obtain⟨b5,rfl⟩:∃q,q=b:=⟨_,rfl⟩
   clear hRi
   refine Bn (st':=[.box tb 136 [.str nm,.sl .shared SL,.sl .shared TL]]++(.box b5 4 [.s (.bool false)]::.box b4 146 [.sl .tight [],.sl .tight []]::.box b3 3 [.i v]::.box b2 136 [.str nm,.sl .shared SL,.sl .shared TL]::st)) (.refl _) ?_
   refine QM (hIt.out tb) call156 q_v (λ_=>rfl) rfl (λi C=>Hid (∀j,j<i->(j:Int)+1≠v)/\C=.box b5 4 [.s (.bool false)]::.box b4 146 [.sl .tight [],.sl .tight []]::.box b3 3 [.i v]::.box b2 136 [.str nm,.sl .shared SL,.sl .shared TL]::st) (λc i C=>∃x:Vr,c=.ret/\Hid (VT=some x)/\C=.box b5 4 [.s (.bool true)]::.box b4 146 x.cells::.box b3 3 [.i v]::.box b2 136 [.str nm,.sl .shared SL,.sl .shared TL]::st)
    ⟨λj hj=>absurd hj (BL _),rfl⟩ ?_ ?_ ?_ ?_
   . rintro i ⟨x,k⟩ C hx ⟨hj,rfl⟩
     obtain⟨h1,h2⟩:=hget.out i _ hx
     by_cases hv:(i:Int)+1=v
     . exact .inr ⟨.ret,_,x,rfl,by rw[hver2.out,if_pos q_o,show(v - 1).toNat=i by omega];exact h2,rfl⟩
     . refine .inl ⟨_,λj hj'=>?_,rfl⟩
       by_cases hji:j=i
       . subst hji;exact hv
       . exact hj.out j q_o
   . rintro l i ⟨x,k⟩ C K hx ⟨hj,rfl⟩
     obtain⟨h1,h2⟩:=hget.out i _ hx
     dsimp only at h1 h2
     subst h1
     have hib:i<=2000:=by
      have:=(Af.1 hx).1
      have:=hLl.out
      have:=hvl2.out
      omega
     have hvx:Hid ((i:Int)+1=v->VT=some x):=λhv=>by rw[hver2.out,if_pos q_o,show(v - 1).toNat=i by omega];exact h2
     have hnx:Hid ((i:Int)+1≠v->∀j,j<i+1->(j:Int)+1≠v):=λhv j hj'=>by
      by_cases hji:j=i
      . subst hji;exact hv
      . exact hj.out j q_o
     clear hx h2 hj hIt
     dsimp only[jP,Vr.cells]
     generalize hX1:x.slots.map Sl.cells=X1 at *
     generalize hX2:x.cols.map BV=X2 at *
     replace hX1:=Aa hX1
     replace hX2:=Aa hX2
     refine(?_:Tr _ _ _ _ (AA.put (AA.put ⟨_,[]⟩ (some 14) (.i ((i+1:Nat):Int))) (some 15) (.agg [.sl .shared X1,.sl .shared X2])) (.box b5 4 [.s (.bool false)]::.box b4 146 [.sl .tight [],.sl .tight []]::.box b3 3 [.i v]::.box b2 136 [.str nm,.sl .shared SL,.sl .shared TL]::(st++K)) _)
     repeat' (first|refine QX ?_|refine QB ?_;intro b|with_reducible refine QZ ?_<;>(try constructor)<;>intro hb<;>try intro hb1|fail)
     obtain⟨b7,rfl⟩:∃q,q=b:=⟨_,rfl⟩
     refine⟨.box b7 146 [.sl .shared X1,.sl .shared X2]::.box b5 4 [.s (.bool false)]::.box b4 146 [.sl .tight [],.sl .tight []]::.box b3 3 [.i v]::.box b2 136 [.str nm,.sl .shared SL,.sl .shared TL]::st,Aj _,λK'=>?_⟩
     refine(?_:Tr _ _ _ _ _ (.box b7 146 [.sl .shared X1,.sl .shared X2]::.box b5 4 [.s (.bool false)]::.box b4 146 [.sl .tight [],.sl .tight []]::.box b3 3 [.i v]::.box b2 136 [.str nm,.sl .shared SL,.sl .shared TL]::(st++K')) _)
     repeat' (first|refine QX ?_|refine QB ?_;intro b|with_reducible refine QZ ?_<;>(try constructor)<;>intro hb<;>try intro hb1|fail)
     . exact⟨.box b5 4 [.s (.bool true)]::.box b4 146 [.sl .shared X1,.sl .shared X2]::.box b3 3 [.i v]::.box b2 136 [.str nm,.sl .shared SL,.sl .shared TL]::st,.cons _ (.refl _),⟨x,rfl,hvx.out hb,by rw[hX1.out,hX2.out]⟩⟩
     . exact⟨.box b5 4 [.s (.bool false)]::.box b4 146 [.sl .tight [],.sl .tight []]::.box b3 3 [.i v]::.box b2 136 [.str nm,.sl .shared SL,.sl .shared TL]::st,.cons _ (.refl _),hnx.out hb,rfl⟩
   . rintro d K1 C' rfl ⟨hj,rfl⟩
     have hVN:VT=none:=by
      rw[hver2.out]
      split
      . rename_i h1
        refine Bz ?_
        have hl:=hLl.out
        refine Nat.le_of_not_lt λhlt=>?_
        exact hj.out (v - 1).toNat q_o q_o
      . rfl
     subst hVN
     clear hIt hj hver2
     change Tr _ _ _ _ _ _ _
     repeat' (first|refine QX ?_|refine QB ?_;intro b|with_reducible refine QZ ?_<;>(try constructor)<;>intro hb<;>try intro hb1|fail)
     all_goals exact Fq (rs:=[d]) (s2:=.box tb 136 [.str nm,.sl .shared SL,.sl .shared TL]::.box b5 4 [.s (.bool false)]::.box b4 146 [.sl .tight [],.sl .tight []]::.box b3 3 [.i v]::.box b2 136 [.str nm,.sl .shared SL,.sl .shared TL]::st) q_x rfl (Ar _) ⟨_,_,rfl,DU q_s q_m q_s q_v,DU q_s q_m q_s q_v⟩ q_t (LE.tup (l':=[.agg [.sl .shared [],.sl .shared []],.b false]) ⟨LE.agg (l:=[.sl .tight [],.sl .tight []]) ⟨LE.sl _ _,LE.sl _ _,trivial⟩,LE.refl _,trivial⟩) ⟨rfl,rfl⟩
   . rintro c d i K1 C' rfl ⟨x,rfl,hx,rfl⟩
     have hVS:=hx.out
     subst hVS
     clear hIt hver2
     repeat' (first|refine QX ?_|refine QB ?_;intro b|with_reducible refine QZ ?_<;>(try constructor)<;>intro hb<;>try intro hb1|fail)
     all_goals exact Fq (rs:=[d]) (s2:=.box tb 136 [.str nm,.sl .shared SL,.sl .shared TL]::.box b5 4 [.s (.bool true)]::.box b4 146 x.cells::.box b3 3 [.i v]::.box b2 136 [.str nm,.sl .shared SL,.sl .shared TL]::st) q_x rfl (Ar _) ⟨_,_,rfl,DU q_s q_m q_s q_v,DU q_s q_m q_s q_v⟩ q_t (LE.refl _) ⟨rfl,rfl⟩
 . rw[decide_eq_false hr]at hRi
   replace hRi:=Aa hRi
   have hver2:VT=none:=by rw[hver.out];simp[hr]
   subst hver2
   repeat' (first|with_reducible refine DR ?_|refine QX ?_|refine QB ?_;intro b|with_reducible refine QZ ?_<;>(try constructor)<;>intro hb<;>try intro hb1|((with_reducible apply(Yt call123));(focus exact LEL.refl _);(focus exact hVF.out _);(focus exact⟨0,trivial⟩);intro tb htb)|fail)
   all_goals exact Fq (rs:=[]) q_x q_y (Ar _) ⟨_,_,rfl,DU q_s q_m q_s q_v,DU q_s q_m q_s q_v⟩ q_t (LE.tup (l':=[.agg [.sl .shared [],.sl .shared []],.b false]) ⟨LE.agg (l:=[.sl .tight [],.sl .tight []]) ⟨LE.sl _ _,LE.sl _ _,trivial⟩,LE.refl _,trivial⟩) ⟨rfl,rfl⟩
def mw:Tm:=⟨⟨#[116]⟩,[⟨⟨#[97]⟩,4,false,.mk 2 0 ⟨#[]⟩ []⟩,⟨⟨#[98]⟩,4,true,.mk 2 0 ⟨#[]⟩ []⟩],[⟨2,0,⟨⟨#[]⟩,0,false,.mk 0 0 ⟨#[]⟩ []⟩,[]⟩,⟨1,0,⟨⟨#[99]⟩,5,false,.mk 0 0 ⟨#[]⟩ []⟩,[]⟩]⟩
abbrev sA:List D:=[.str ⟨#[97]⟩,.i 4,.b false,.i 2,.i 0,.str ⟨#[]⟩,.sl .shared []]
abbrev sB:List D:=[.str ⟨#[98]⟩,.i 4,.b true,.i 2,.i 0,.str ⟨#[]⟩,.sl .shared []]
abbrev sC:List D:=[.str ⟨#[99]⟩,.i 5,.b false,.i 0,.i 0,.str ⟨#[]⟩,.sl .shared []]
end
section
attribute [local push_cast] Br Bl BV V.cells_mk V.cells_len Nat.mul_one Int.sub_zero List.map_nil beq_self_eq_true bne_self_eq_false List.head?_cons
namespace Reg
def findL (nm:ByteArray):List Tm->Nat->Int
|[],_ => -1
|t::l,i=>if t.name.toList == nm.toList then i else findL nm l (i+1)
def find (L:List Tm)(nm:ByteArray):Int:=findL nm L 0
theorem findL_drop{L:List Tm}{nm:ByteArray}{i:Nat}{t:Tm}(h:L[i]?=some t):findL nm (L.drop i) i=if t.name.toList == nm.toList then(i:Int)else findL nm (L.drop (i+1)) (i+1):=by
 obtain⟨h1,rfl⟩:=Af.1 h
 rw[BM h1,findL]
def rightL (L:List Tm):List Tm->Nat->Bool
|[],_=>true
|t::l,i=>decide (i<6) && (decide (0<Sch.last t) && ((find L t.name == (i:Int)) && rightL L l (i+1)))
def right (L:List Tm):Bool:=rightL L L 0
theorem rightL_drop{L l:List Tm}{i:Nat}{t:Tm}(h:l[i]?=some t):rightL L (l.drop i) i=(decide (i<6) && (decide (0<Sch.last t) && ((find L t.name == (i:Int)) && rightL L (l.drop (i+1)) (i+1)))):=by
 obtain⟨h1,rfl⟩:=Af.1 h
 rw[BM h1,rightL]
end Reg
theorem Zj(t:Tm)(nm:ByteArray)(st:St):TrF prog 147 [.agg t.cells,.ip [.str nm]] st λd st'=>d=.b (t.name.toList == nm.toList)/\st'=st:=by
 unfold Tm.cells
 generalize t.slots.map Sl.cells=SL at *
 generalize t.steps.map Stp.cells=TL at *
 generalize t.name=n at *
 refine Qin [3] func147 results147 ntmps147 ?_
 exact WR
theorem Zi(L:List Tm)(nm:ByteArray)(hl:L.length<=1000000)(st:St):TrF prog 146 [.sl .shared (L.map Tm.cells),.fn (.func 147) [] [.ip [.str nm]]] st λd st'=>d=.i (Reg.find L nm)/\st'=st:=by
 unfold Reg.find
 obtain⟨F,hF⟩:∃F,Reg.findL nm L 0=F:=⟨_,rfl⟩
 rw[hF]
 have HF:Hid (Reg.findL nm (L.drop 0) 0=F):=hF
 have hm:(L.map Tm.cells).length=L.length:=Ab ..
 have hc:=hMp Tm.cells L
 clear hF
 generalize L.map Tm.cells=LS at *
 refine Qin [4] func146 results146 ntmps146 ?_
 repeat' (first|refine QX ?_|refine QB ?_;intro b|with_reducible refine QZ ?_<;>(try constructor)<;>intro hb<;>try intro hb1|fail)
 refine Bs (ι:=Nat) (λi A st'=>i<=L.length/\Hid (Reg.findL nm (L.drop i) i=F)/\A.df=[]/\A.e 0=.sl .shared LS/\A.e 1=.fn (.func 147) [] [.ip [.str nm]]/\A.e 7=.i L.length/\A.e 8=.i i/\st=st') (λi=>L.length - i) 0 ⟨Ao _,HF,Qf,Qf,Qf,Qf,Qf,rfl⟩ ?_
 rintro i A st' ⟨hi,HT,hdf,e0,e1,e7,e8,rfl⟩
 clear HF
 by_cases hlt:i<L.length
 . obtain⟨t,ht⟩:=gEx hlt
   have h1:=hc.out i t ht
   have HE:=HT.out
   rw[Reg.findL_drop ht]at HE
   have hG:=Zj t nm
   clear HT ht
   generalize (t.name.toList == nm.toList)=q at *
   unfold Tm.cells at h1 hG
   generalize t.slots.map Sl.cells=SL at *
   generalize t.steps.map Stp.cells=TL at *
   replace hG:=Aa hG
   cases q with
   | true =>
    rw[if_pos rfl]at HE
    subst HE
    exact WR
   | false =>
    rw[if_neg AJ]at HE
    replace HE:=Aa HE
    repeat' (first|refine QX ?_|refine QB ?_;intro b|with_reducible refine QZ ?_<;>(try constructor)<;>intro hb<;>try intro hb1|fail)
    refine⟨i+1,st,q_u,⟨hlt,HE,?_,?_,?_,?_,?_,rfl⟩,by omega⟩
    all_goals exact Qf
 . have HE:=HT.out
   rw[Az q_o,Reg.findL]at HE
   subst HE
   clear HT
   exact WR
theorem bO(L:List Tm)(nm:ByteArray)(hl:L.length<=1000000)(st:St):TrF prog 114 [.sl .shared (L.map Tm.cells),.str nm] st λd st'=>d=.i (Reg.find L nm)/\st'=st:=by
 have hI:=Zi L nm hl
 generalize Reg.find L nm=q at *
 generalize L.map Tm.cells=LS at *
 replace hI:=Aa hI
 refine Qin [4] func114 results114 ntmps114 ?_
 exact WR
theorem Zh(L:List Tm)(hL:∀t∈L,TOk t)(hl:L.length<=1000000)(st:St):TrF prog 77 [.sl .shared (L.map Tm.cells)] st λd st'=>d=.b (Reg.right L)/\st'=st:=by
 unfold Reg.right
 obtain⟨F,hF⟩:∃F,Reg.rightL L L 0=F:=⟨_,rfl⟩
 rw[hF]
 have HF:Hid (Reg.rightL L (L.drop 0) 0=F):=hF
 have hm:(L.map Tm.cells).length=L.length:=Ab ..
 have hc:=hMp Tm.cells L
 have hFi:=Aa λ(nm:ByteArray)=>bO L nm hl
 have hL2:=Aa hL
 clear hF hL
 obtain⟨LS,hLS⟩:∃LS,L.map Tm.cells=LS:=⟨_,rfl⟩
 rw[hLS]at hm hc hFi |-
 clear hLS
 refine Qin [2] func77 results77 ntmps77 ?_
 repeat' (first|refine QX ?_|refine QB ?_;intro b|with_reducible refine QZ ?_<;>(try constructor)<;>intro hb<;>try intro hb1|fail)
 refine Bs (ι:=Nat) (λi A st'=>i<=L.length/\Hid (Reg.rightL L (L.drop i) i=F)/\A.df=[]/\A.e 0=.sl .shared LS/\A.e 5=.sl .shared LS/\A.e 6=.i L.length/\A.e 7=.i i/\st=st') (λi=>L.length - i) 0 ⟨Ao _,HF,Qf,Qf,Qf,Qf,Qf,rfl⟩ ?_
 rintro i A st' ⟨hi,HT,hdf,e0,e5,e6,e7,rfl⟩
 clear HF
 by_cases hlt:i<L.length
 . obtain⟨t,ht⟩:=gEx hlt
   have h1:=hc.out i t ht
   have HE:=HT.out
   rw[Reg.rightL_drop ht]at HE
   have hR:=QU t (hL2.out t (Ah ht))
   have hG:=hFi.out t.name
   clear HT ht
   obtain⟨G,hGG⟩:∃G,Reg.rightL L (L.drop (i+1)) (i+1)=G:=⟨_,rfl⟩
   rw[hGG]at HE
   replace hGG:=Aa hGG
   obtain⟨q2,hq2⟩:∃q,decide (0<Sch.last t)=q:=⟨_,rfl⟩
   rw[hq2]at HE hR
   generalize Reg.find L t.name=fi at *
   clear hq2
   unfold Tm.cells at h1 hR
   generalize t.slots.map Sl.cells=SL at *
   generalize t.steps.map Stp.cells=TL at *
   generalize t.name=nm at *
   replace hR:=Aa hR
   replace hG:=Aa hG
   by_cases hi6:i<6
   . rw[decide_eq_true hi6,AH]at HE
     cases q2 with
     | false =>
      rw[Aw]at HE
      subst HE
      exact WR
     | true =>
      rw[AH]at HE
      by_cases hf:fi=(i:Int)
      . rw[beq_iff_eq.2 hf,AH]at HE
        subst hf
        replace HE:=Aa (hGG.out.trans HE)
        clear hGG
        repeat' (first|refine QX ?_|refine QB ?_;intro b|with_reducible refine QZ ?_<;>(try constructor)<;>intro hb<;>try intro hb1|fail)
        refine⟨i+1,st,q_u,⟨hlt,HE,?_,?_,?_,?_,?_,rfl⟩,by omega⟩
        all_goals exact Qf
      . rw[beq_eq_false_iff_ne.2 hf,Aw]at HE
        subst HE
        exact WR
   . rw[decide_eq_false hi6,Aw]at HE
     subst HE
     exact WR
 . have HE:=HT.out
   rw[Az q_o,Reg.rightL]at HE
   subst HE
   clear HT
   exact WR
end
section
attribute [local push_cast] Br Bl Nat.mul_one
namespace B
def be:Nat->Nat->List UInt8
|0,_=>[]
|m+1,x=>UInt8.ofNat (x / 256 ^ m)::be m x
theorem TH:∀m x,(be m x).length=m
|0,_=>rfl
|m+1,x=>by rw[be,An,TH m x]
end B
namespace B
def tx (l:List UInt8):List UInt8:=be 4 l.length++l
end B
end
section
attribute [local push_cast] Br Bl Nat.mul_one
open Go.RowKit B
structure RS where
 o:Own
 l:List UInt8
 bad:Bool
namespace RS
def cells (s:RS):List D:=[.sl s.o (s.l.map Br),.b s.bad]
attribute [local push_cast] RS.cells
def fail:RS:=⟨.tight,[],true⟩
attribute [local push_cast] RS.fail
def cut (s:RS)(n:Nat):RS:=⟨.shared,s.l.drop n,s.bad⟩
attribute [local push_cast] RS.cut
end RS
attribute [local push_cast] RS.cells RS.fail RS.cut
def B.num (l:List UInt8):Nat:=l.foldl (λn c=>n*256+c.toNat) 0
end
section
attribute [local push_cast] Br Bl RS.cells RS.fail RS.cut Nat.mul_one
open Go.RowKit B
namespace RS
def byte (s:RS):Int×RS:=if s.bad=true then(0,fail)else match s.l with
|[]=>(0,fail)
|c::_=>(c.toNat,s.cut 1)
def rnum (s:RS):Int×RS:=if s.bad=true\/s.l.length<4 then(0,fail)else if num (s.l.take 4)<=2147483647 then(num (s.l.take 4),s.cut 4)else(0,fail)
def long (s:RS):Int×RS:=if s.bad=true\/s.l.length<8 then(0,fail)else(IntKind.i64.wrap (num (s.l.take 8)),s.cut 8)
def textN (s:RS)(n:Int):ByteArray×RS:=if s.bad=true\/n<0\/s.l.length<n then(⟨#[]⟩,fail)else(⟨(s.l.take n.toNat).toArray⟩,s.cut n.toNat)
def text (s:RS):ByteArray×RS:=s.rnum.2.textN s.rnum.1
end RS
end
section
attribute [local push_cast] Br Bl V.cells_mk V.cells_take V.cells_len Nat.mul_one
open Go.RowKit B
namespace V
mutual
def put:V->List UInt8
|.mk k n s l=>UInt8.ofNat k.toNat::(if k=1 then[UInt8.ofNat n.toNat]else if k=2 then be 8 (IntKind.u64.wrap n).toNat else if k=3\/k=4 then tx s.data.toList else if k=5 then be 4 l.length++cd l else[])
def cd:List V->List UInt8
|[]=>[]
|x::l=>x.put++cd l
end
theorem YQ{k n:Int}{s:ByteArray}{len:Nat}(h:sgl k n s len=true):0<=k/\k<=5/\(k≠2->0<=n/\n<=1)/\s.size<=200/\(k≠3/\k≠4->s.size=0)/\(k=5->len<=20):=by
 unfold sgl at h
 by_cases k0:k=0
 . subst k0;simp at h;obtain⟨h1,h2⟩:=h;subst h2;simp;omega
 by_cases k1:k=1
 . subst k1;simp at h;obtain⟨h1,h2⟩:=h;subst h2;simp;omega
 by_cases k2:k=2
 . subst k2;simp at h;subst h;simp
 by_cases k3:k=3
 . subst k3
   simp at h
   have:=h.2
   unfold isName at this
   simp at this
   simp;omega
 by_cases k4:k=4
 . subst k4;simp at h;simp;omega
 by_cases k5:k=5
 . subst k5;simp at h;obtain⟨h1,h2,h3⟩:=h;subst h2;simp;omega
 simp[k0,k1,k2,k3,k4,k5]at h
theorem UN{k n:Int}{s:ByteArray}{l:List V}(h:(V.mk k n s l).parts=true):sgl k n s l.length=true/\(k=5\/l=[])/\∀x∈l,x.parts=true:=by
 rw[parts]at h
 simp only[AF,Co,decide_eq_true_eq]at h
 obtain⟨⟨h1,h2⟩,h3⟩:=h
 refine⟨h1,h2.imp id Ay,?_⟩
 rw[Pi]at h3
 exact AU.1 h3
mutual
theorem iU:∀v:V,v.parts=true->v.put.length<=205*v.nodes
|.mk k n s l,h=>by
  obtain⟨h1,h2,h3⟩:=UN h
  obtain⟨f1,f2,f3,f4,f5,f6⟩:=YQ h1
  have h4:=XV l h3
  have h5:(tx s.data.toList).length=4+s.size:=by unfold tx;rw[Ad,TH];simp
  rw[put,nodes,An]
  split
  . simp;omega
  split
  . rw[TH];omega
  split
  . rw[h5];omega
  split
  . rw[Ad,TH];omega
  . simp;omega
theorem XV:∀l:List V,(∀x∈l,x.parts=true)->(cd l).length<=205*Ea l
|[],_=>by simp[cd]
|x::l,h=>by
  have:=iU x (h x (Ag ..))
  have:=XV l λy hy=>h y (Ae _ hy)
  rw[cd,Ea,Ad];omega
end
end V
namespace V
def bin (v:V):List UInt8:=if v.right=true then v.put else[]
end V
namespace RS
def vals (f:RS->V×RS):Nat->RS->List V×RS
|0,s=>([],s)
|n+1,s=>if s.bad=true then([],s)else((f s).1::(vals f n (f s).2).1,(vals f n (f s).2).2)
def kK (f:Option (RS->V×RS))(n:Int)(s:RS):V×RS :=
 match f with
|none=>(.mk 5 0 ⟨#[]⟩ [],fail)
|some f=>if 20<n then(.mk 5 0 ⟨#[]⟩ [],fail)else(.mk 5 0 ⟨#[]⟩ (vals f n.toNat s).1,(vals f n.toNat s).2)
def body (f:Option (RS->V×RS))(s:RS):V×RS :=
 if s.byte.1=1 then(.mk 1 s.byte.2.byte.1 ⟨#[]⟩ [],s.byte.2.byte.2)
 else if s.byte.1=2 then(.mk 2 s.byte.2.long.1 ⟨#[]⟩ [],s.byte.2.long.2)
 else if s.byte.1=3\/s.byte.1=4 then(.mk s.byte.1 0 s.byte.2.text.1 [],s.byte.2.text.2)
 else if s.byte.1=5 then kK f s.byte.2.rnum.1 s.byte.2.rnum.2
 else(.mk s.byte.1 0 ⟨#[]⟩ [],s.byte.2)
def value:Nat->RS->V×RS
|0=>body none
|d+1=>body (some (value d))
end RS
theorem MM{b:Nat}{ty:TypeId}{cs:List D}{st:St}(h:Res.box b ty cs∈st):CZ (some [(b,cs)]) st:=λb' cs' hl=>by
 rw[dZ]at hl
 split at hl
 . rename_i he
   cases hl
   have:b'=b:=eq_of_beq he
   subst this
   exact⟨ty,h⟩
 . cases hl
namespace RS
def sub:Nat->Option (RS->V×RS)
|0=>none
|e+1=>some (value e)
end RS
def V.zero:V:=.mk 0 0 ⟨#[]⟩ []
def RS.val (s:RS):V×RS:=if s.bad=true then(V.zero,s)else if (RS.value 4 s).2.bad=true\/(RS.value 4 s).1.right=false then(V.zero,RS.fail)else RS.value 4 s
end
structure Ts where
 kind:Int
 slot:Int
 var:Int
 val:V
structure Pt where
 tmpl:Int
 neg:Bool
 tests:List Ts
structure Ex where
 isVar:Bool
 var:Int
 val:V
structure Ac where
 kind:Int
 pat:Int
 tmpl:Int
 slot:Int
 vals:List Ex
structure Rl where
 name:ByteArray
 sal:Int
 pats:List Pt
 acts:List Ac
def Ts.cells (t:Ts):List D:=.i t.kind::.i t.slot::.i t.var::t.val.cells
def Pt.cells (p:Pt):List D:=[.i p.tmpl,.b p.neg,.sl .shared (p.tests.map Ts.cells)]
def Ex.cells (e:Ex):List D:=.b e.isVar::.i e.var::e.val.cells
def Ac.cells (a:Ac):List D:=[.i a.kind,.i a.pat,.i a.tmpl,.i a.slot,.sl .shared (a.vals.map Ex.cells)]
def Rl.cells (x:Rl):List D:=[.str x.name,.i x.sal,.sl .shared (x.pats.map Pt.cells),.sl .shared (x.acts.map Ac.cells)]
theorem Ts.cells_mk(kind slot var k n:Int)(s:ByteArray)(l:List V):(Ts.mk kind slot var (.mk k n s l)).cells=[.i kind,.i slot,.i var,.i k,.i n,.str s,.sl .shared (l.map V.cells)]:=by unfold Ts.cells;rw[V.cells_mk]
theorem Ex.cells_mk(iv:Bool)(var k n:Int)(s:ByteArray)(l:List V):(Ex.mk iv var (.mk k n s l)).cells=[.b iv,.i var,.i k,.i n,.str s,.sl .shared (l.map V.cells)]:=by unfold Ex.cells;rw[V.cells_mk]
theorem Ts.cells_len(t:Ts):t.cells.length=7:=by unfold Ts.cells;simp[V.cells_len]
theorem Ex.cells_len(e:Ex):e.cells.length=6:=by unfold Ex.cells;simp[V.cells_len]
namespace Rul
def slots (L:List Tm)(k:Int):List Sl:=if 0<=k/\k<L.length then(match L[k.toNat]? with|some t=>(Sch.verX t (Sch.last t)).slots|none=>[])else[]
def lq (l:List Ts):List Int:=(l.filter λt=>t.kind == 5).map Ts.var
def lr (l:List Pt):List Int:=l.flatMap λp=>lq p.tests
def ob (x:Rl):List Int:=lr x.pats
def testB (ns:Int)(neg:Bool)(B:List Int)(t:Ts):Bool :=
 (decide (0<=t.slot) && decide (t.slot<ns)) && (
 if t.kind=1\/t.kind=2\/t.kind=3\/t.kind=4 then(t.var == 0) && t.val.right
 else if t.kind=5 then(t.val.cmp V.zero == 0) && ((decide (0<=t.var) && decide (t.var<8)) && (!neg && decide (t.var∉B)))
 else if t.kind=6\/t.kind=7\/t.kind=8\/t.kind=9 then(t.val.cmp V.zero == 0) && ((decide (0<=t.var) && decide (t.var<8)) && decide (t.var∈B))
 else false)
def testN (B:List Int)(t:Ts):List Int:=if t.kind=5 then B++[t.var]else B
def testsF (ns:Int)(neg:Bool):List Ts->List Int->Bool×List Int
|[],B=>(true,B)
|t::l,B=>if testB ns neg B t=true then testsF ns neg l (testN B t)else(false,B)
def patF (L:List Tm)(B:List Int)(p:Pt):Bool×List Int :=
 if 0<=p.tmpl/\p.tmpl<L.length/\p.tests.length<=6 then testsF (slots L p.tmpl).length p.neg p.tests B else(false,B)
def patsF (L:List Tm):List Pt->List Int->Bool×List Int
|[],B=>(true,B)
|p::l,B=>if (patF L B p).1=true then patsF L l (patF L B p).2 else(false,(patF L B p).2)
def exprB (B:List Int)(e:Ex)(s:Sl):Bool:=if e.isVar=true then decide (e.var∈B) && (e.val.cmp V.zero == 0)else(e.var == 0) && Sch.fits s e.val
def exprsB (B:List Int):List Ex->List Sl->Bool
|e::l,s::m=>exprB B e s && exprsB B l m
|_,_=>true
def posB (ps:List Pt)(k:Int):Bool:=(decide (0<=k) && decide (k<ps.length)) && !((ps[k.toNat]?).any Pt.neg)
def actB (L:List Tm)(ps:List Pt)(B:List Int)(a:Ac):Bool :=
 if a.kind=1 then((a.pat == 0) && (a.slot == 0)) && ((decide ((slots L a.tmpl).length≠0) && decide (a.vals.length=(slots L a.tmpl).length)) && exprsB B a.vals (slots L a.tmpl))
 else if a.kind=2 then posB ps a.pat && ((a.tmpl == 0) && ((a.slot == 0) && decide (a.vals.length=0)))
 else if a.kind=3 then(posB ps a.pat && ((a.tmpl == 0) && decide (a.vals.length=1))) && (match ps[a.pat.toNat]?,a.vals with
  | some p,[e]=>decide (0<=a.slot) && (decide (a.slot<(slots L p.tmpl).length) && (match (slots L p.tmpl)[a.slot.toNat]? with|some s=>exprB B e s|none=>false))
  | _,_=>false)
 else(a.kind == 4) && ((a.pat == 0) && ((a.tmpl == 0) && ((a.slot == 0) && decide (a.vals.length=0))))
def headB (x:Rl):Bool:=V.isName x.name.data.toList && ((decide (-100<=x.sal) && decide (x.sal<=100)) && ((decide (1<=x.pats.length) && decide (x.pats.length<=4)) && (!((x.pats[0]?).any Pt.neg) && decide (x.acts.length<=4))))
def oneB (L:List Tm)(x:Rl):Bool:=headB x && ((patsF L x.pats []).1 && x.acts.all λa=>actB L x.pats (patsF L x.pats []).2 a)
def rightL (L:List Tm)(R:List Rl):List Rl->Nat->Bool
|[],_=>true
|x::l,i=>oneB L x && (!((R.take i).any λy=>y.name.toList == x.name.toList) && rightL L R l (i+1))
def right (L:List Tm)(R:List Rl):Bool:=Reg.right L && (decide (R.length<=8) && rightL L R R 0)
end Rul
structure Fc where
 id:Int
 time:Int
 tmpl:Int
 ver:Int
 s:List V
structure Mt where
 rule:Int
 ids:List Int
def Fc.cells (f:Fc):List D:=[.i f.id,.i f.time,.i f.tmpl,.i f.ver,.sl .shared (f.s.map V.cells)]
def Mt.cells (m:Mt):List D:=[.i m.rule,.sl .shared (m.ids.map Bl)]
theorem Fc.cells_len(f:Fc):f.cells.length=5:=rfl
theorem Mt.cells_len(m:Mt):m.cells.length=2:=rfl
def Fc.zero:Fc:=⟨0,0,0,0,[]⟩
namespace Mat
def empty:List V:=List.replicate 8 V.zero
def kd:V->Int|.mk k _ _ _=>k
def holds (k:Int)(x y:V):Bool:=if k=1 then x.cmp y == 0 else if k=2 then !(x.cmp y == 0)else(kd x == kd y) && ((k == 3 && decide (x.cmp y<0)) || (k == 4 && decide (0<x.cmp y)))
def test (t:Ts)(f:Fc)(env:List V):Option (List V) :=
 if 0<=t.slot/\t.slot<f.s.length/\0<=t.var/\t.var<env.length/\1<=t.kind/\t.kind<=9 then
  (if t.kind=5 then some (env.set t.var.toNat (f.s.getD t.slot.toNat V.zero))
  else if t.kind<5 then(if holds t.kind (f.s.getD t.slot.toNat V.zero) t.val=true then some env else none)
  else if holds (t.kind - 5) (f.s.getD t.slot.toNat V.zero) (env.getD t.var.toNat V.zero)=true then some env else none)
 else none
def tests (f:Fc):List Ts->List V->Option (List V)
|[],env=>some env
|t::l,env=>match test t f env with
  | some e=>tests f l e
  | none=>none
def pass (p:Pt)(f:Fc)(env:List V):Option (List V):=if p.tmpl=f.tmpl/\env.length=8 then tests f p.tests env else none
def passL (p:Pt)(F:List Fc)(env:List V):List (Int×List V):=F.filterMap λf=>(pass p f env).map λe=>(f.id,e)
def from_ (F:List Fc):List Pt->List Int->List V->List (List Int×List V)
|[],ids,env=>[(ids,env)]
|p::ps,ids,env=>if p.neg=true then(if passL p F env=[]then from_ F ps ids env else[])
  else(passL p F env).flatMap λx=>from_ F ps (ids++[x.1]) x.2
def mats (x:Rl)(F:List Fc):List (List Int×List V):=from_ F x.pats [] empty
def find (F:List Fc)(id:Int):Option Fc:=F.find? λf=>f.id == id
def envR (F:List Fc):List Pt->List Int->List V->Option (List V)
|[],ids,env=>if ids=[] then some env else none
|p::ps,ids,env=>if p.neg=true then(if passL p F env=[]then envR F ps ids env else none)
  else match ids with
   | []=>none
   | i::is=>match find F i with
    | none=>none
    | some f=>match pass p f env with
     | none=>none
     | some e=>envR F ps is e
def npos (ps:List Pt):Nat:=(ps.filter λp=>!p.neg).length
def rows (F:List Fc):Nat->List Int->List (List Int)
|0,h=>[h]
|n+1,h=>F.flatMap fun f=>rows F n (h++[f.id])
def cmpI:List Int->List Int->Int
|a::l,b::m=>if V.sgn a b≠0 then V.sgn a b else cmpI l m
|[],[]=>0
|[],_::_ => -1
|_::_,[]=>1
def ord (a b:Mt):Int:=if V.sgn a.rule b.rule≠0 then V.sgn a.rule b.rule else cmpI a.ids b.ids
def less (a b:Mt):Bool:=decide (ord a b<0)
def flatR (f:Rl->List (List Int)):List Rl->Int->List Mt
|[],_=>[]
|x::l,i=>(f x).map (Mt.mk i)++flatR f l (i+1)
def raws (R:List Rl)(F:List Fc):List Mt:=flatR (λx=>(mats x F).map Prod.fst) R 0
def refs (x:Rl)(F:List Fc):List (List Int):=(rows F (npos x.pats) []).filter λr=>(envR F x.pats r empty).isSome
def refRaws (R:List Rl)(F:List Fc):List Mt:=flatR (λx=>refs x F) R 0
def pos (m:Mt)(out:List Mt):Nat->Nat
|0=>0
|k+1=>if less m (out.getD k ⟨0,[]⟩)=true then pos m out k else k+1
def ins (out:List Mt)(m:Mt):List Mt:=out.take (pos m out out.length)++m::out.drop (pos m out out.length)
def nr (R:List Rl)(F:List Fc):List Mt:=(refRaws R F).foldl ins []
def same:List Mt->List Mt->Bool
|a::l,b::m=>(!less a b && !less b a) && same l m
|[],[]=>true
|_,_=>false
theorem Ud(a b:Int):V.sgn b a = - V.sgn a b:=by
 unfold V.sgn;split<;>split<;>(try split)<;>omega
theorem sgn_neg{a b:Int}:V.sgn a b<0↔a<b:=by
 unfold V.sgn;split
 . simp[*]
 . split<;>simp<;>omega
theorem So:∀a b:List Int,cmpI b a = - cmpI a b
|a::l,b::m=>by
  unfold cmpI
  rw[Ud a b,So l m]
  by_cases h:V.sgn a b=0
  . simp[h]
  . rw[if_pos q_o,if_pos h]
|[],[]=>rfl
|[],_::_=>rfl
|_::_,[]=>rfl
theorem Yq:∀a b:List Int,cmpI a b=0->a=b
|a::l,b::m,h=>by
  unfold cmpI at h
  by_cases h0:V.sgn a b=0
  . rw[if_neg (by simpa using h0)]at h
    rw[V.sgn_zero.1 h0,Yq l m h]
  . rw[if_pos h0]at h;exact absurd h h0
|[],[],_=>rfl
|[],_::_,h=>by cases h
|_::_,[],h=>by cases h
theorem Sn:∀a:List Int,cmpI a a=0
|[]=>rfl
|a::l=>by unfold cmpI;rw[V.sgn_self];simpa using Sn l
theorem PR:∀a b c:List Int,cmpI a b<0->cmpI b c<0->cmpI a c<0
|[],[],_,h,_=>absurd h (by decide)
|[],b::m,[],_,h=>absurd h (by simp[cmpI])
|[],b::m,c::n,_,_=>by simp[cmpI]
|a::l,[],_,h,_=>absurd h (by simp[cmpI])
|a::l,b::m,[],_,h=>absurd h (by simp[cmpI])
|a::l,b::m,c::n,h1,h2=>by
  unfold cmpI at h1 h2 |-
  by_cases h3:V.sgn a b=0
  . rw[if_neg (by simpa using h3)]at h1
    obtain rfl:=V.sgn_zero.1 h3
    by_cases h4:V.sgn a c=0
    . rw[if_neg (by simpa using h4)]at h2 |-
      exact PR l m n h1 h2
    . rw[if_pos h4]at h2 |-;exact h2
  . rw[if_pos h3]at h1
    have k1:=sgn_neg.1 h1
    by_cases h4:V.sgn b c=0
    . obtain rfl:=V.sgn_zero.1 h4
      rw[if_pos h3];exact h1
    . rw[if_pos h4]at h2
      have k2:=sgn_neg.1 h2
      have k3:V.sgn a c<0:=sgn_neg.2 q_o
      rw[if_pos q_o];exact k3
theorem ord_anti(a b:Mt):ord b a = - ord a b:=by
 unfold ord;rw[Ud a.rule,So a.ids]
 by_cases h:V.sgn a.rule b.rule=0
 . simp[h]
 . rw[if_pos q_o,if_pos h]
theorem ord_eq{a b:Mt}(h:ord a b=0):a=b:=by
 unfold ord at h
 by_cases h0:V.sgn a.rule b.rule=0
 . rw[if_neg (by simpa using h0)]at h
   cases a;cases b
   exact congr (congrArg Mt.mk (V.sgn_zero.1 h0)) (Yq _ _ h)
 . rw[if_pos h0]at h;exact absurd h h0
theorem ord_self(a:Mt):ord a a=0:=by unfold ord;rw[V.sgn_self,Sn];rfl
theorem ord_trans{a b c:Mt}(h1:ord a b<0)(h2:ord b c<0):ord a c<0:=by
 unfold ord at h1 h2 |-
 by_cases h3:V.sgn a.rule b.rule=0
 . rw[if_neg (by simpa using h3)]at h1
   rw[V.sgn_zero.1 h3]
   by_cases h4:V.sgn b.rule c.rule=0
   . rw[if_neg (by simpa using h4)]at h2 |-
     exact PR _ _ _ h1 h2
   . rw[if_pos h4]at h2 |-;exact h2
 . rw[if_pos h3]at h1
   have k1:=sgn_neg.1 h1
   by_cases h4:V.sgn b.rule c.rule=0
   . rw[<-V.sgn_zero.1 h4,if_pos h3];exact h1
   . rw[if_pos h4]at h2
     have k2:=sgn_neg.1 h2
     have k3:V.sgn a.rule c.rule<0:=sgn_neg.2 q_o
     rw[if_pos q_o];exact k3
theorem not_less{a b:Mt}:less a b=false↔ord b a<=0:=by
 unfold less;rw[ord_anti a b];simp
theorem le_trans{a b c:Mt}(h1:ord a b<=0)(h2:ord b c<=0):ord a c<=0:=by
 by_cases e1:ord a b=0
 . rw[ord_eq e1];exact h2
 . by_cases e2:ord b c=0
   . rw[<-ord_eq e2];exact h1
   . have k1:ord a b<0:=by omega
     have k2:ord b c<0:=by omega
     exact Int.le_of_lt (ord_trans k1 k2)
def Srt (l:List Mt):Prop:=l.Pairwise λa b=>ord a b<=0
theorem We{l m:List Mt}(hl:Srt l)(hm:Srt m)(hp:l.Perm m):l=m :=
 lJ (le:=λa b=>ord a b<=0) (λa b _ _ h1 h2=>ord_eq (by have:=ord_anti a b;omega)) hl hm hp
theorem cf(m:Mt)(out:List Mt):∀k,pos m out k<=k
|0=>Ap _
 | k + 1 => by unfold pos;split;· exact Nat.le_succ_of_le (cf m out k)
               . exact Ap _
theorem ins_perm(out:List Mt)(m:Mt):(ins out m).Perm (m::out):=by
 unfold ins
 refine AD.trans (.cons _ ?_)
 rw[Bv]
theorem Rr(m:Mt)(out:List Mt):∀k i,pos m out k<=i->i<k->less m (out.getD i ⟨0,[]⟩)=true
|0,_,_,h=>absurd h (BL _)
|k+1,i,h,hi=>by
  unfold pos at h
  by_cases hl:less m (out.getD k ⟨0,[]⟩)=true
  . rw[if_pos hl]at h
    by_cases e:i=k
    . rw[e];exact hl
    . exact Rr m out k i h q_o
  . rw[if_neg hl]at h;omega
theorem Rq(m:Mt)(out:List Mt):∀k,0<pos m out k->less m (out.getD (pos m out k - 1) ⟨0,[]⟩)=false
|0,h=>absurd h (Nat.lt_irrefl _)
|k+1,h=>by
  unfold pos at h |-
  by_cases hl:less m (out.getD k ⟨0,[]⟩)=true
  . rw[if_pos hl]at h |-;exact Rq m out k h
  . rw[if_neg hl];simpa using hl
theorem fX{out:List Mt}(m:Mt)(h:Srt out):Srt (ins out m):=by
 obtain⟨k,hk⟩:∃k,k=pos m out out.length:=⟨_,rfl⟩
 have h1:k<=out.length:=by rw[hk];exact cf _ _ _
 have hd:Srt (out.take k++out.drop k):=by rw[Bv];exact h
 have hs:=EA.1 hd
 have hbel:∀a∈out.take k,ord a m<=0:=by
  intro a ha
  by_cases hk0:k=0
  . rw[hk0]at ha;cases ha
  . have hb:=not_less.1 (hk▸Rq m out out.length q_o)
    have hlt:k - 1<out.length:=by omega
    rw[AW,Al hlt,Hs]at hb
    obtain⟨i,hi,rfl⟩:=Df ha
    rw[AQ]at hi
    rw[FI]
    by_cases e:i=k - 1
    . subst e;exact hb
    . exact le_trans (FA.1 h i (k - 1) q_o hlt q_o) hb
 have habv:∀a∈out.drop k,ord m a<=0:=by
  intro a ha
  obtain⟨i,hi,rfl⟩:=Df ha
  rw[AO]at hi
  rw[EG]
  have:=Rr m out out.length (k+i) q_o q_o
  rw[AW,Al q_o,Hs]at this
  unfold less at this
  have:=of_decide_eq_true this
  omega
 unfold ins
 rw[<-hk]
 exact EA.2 ⟨hs.1,AX.2 ⟨habv,hs.2.1⟩,λa ha b hb=>(Ax.1 hb).elim (λe=>e▸hbel a ha) λh'=>hs.2.2 a ha b h'⟩
theorem Vq:∀(l out:List Mt),Srt out->Srt (l.foldl ins out)/\(l.foldl ins out).Perm (l++out)
|[],out,h=>⟨h,.refl _⟩
|m::l,out,h=>by
  have:=Vq l (ins out m) (fX m h)
  exact⟨this.1,this.2.trans ((CU l (ins_perm out m)).trans AD)⟩
theorem IP(F:List Fc):∀(n:Nat) (h:List Int),rows F n h=(rows F n []).map (h++·)
|0,h=>by simp[rows]
|n+1,h=>by
  unfold rows
  rw[List.map_flatMap]
  congr 1;funext f
  rw[IP F n (h++[f.id]),IP F n ([]++[f.id]),Ey]
  congr 1;funext r
  simp
theorem find_self{F:List Fc}(hu:(F.map Fc.id).Nodup){f:Fc}(hf:f∈F):find F f.id=some f:=by
 induction F with
|nil=>cases hf
|cons g F ih =>
  unfold find
  rw[GA]
  rw[Au,Bb]at hu
  rcases Ax.1 hf with rfl|h
  . simp
  . have:g.id≠f.id:=λe=>hu.1 (e▸BJ h)
    rw[show(g.id == f.id)=false by simpa using this]
    exact ih hu.2 h
theorem flatMap_congr{α β:Type}{l:List α}{f g:α->List β}(h:∀a∈l,f a=g a):l.flatMap f=l.flatMap g:=by
 induction l with
|nil=>rfl
|cons a l ih=>rw[Ca,Ca,h a (Ag ..),ih λb hb=>h b (Ae _ hb)]
theorem Wt(p:Pt)(F:List Fc)(env:List V){β:Type}(g:Int×List V->List β):(passL p F env).flatMap g=F.flatMap λf=>match pass p f env with|some e=>g (f.id,e)|none=>[]:=by
 induction F with
|nil=>rfl
|cons f F ih =>
  unfold passL at ih |-
  rw[Ca,<-ih]
  cases h:pass p f env with
  | none=>rw[De (by rw[h];rfl)];rfl
  | some e=>rw[CQ (by rw[h];rfl)];rfl
theorem Lk{F:List Fc}(hu:(F.map Fc.id).Nodup):∀(ps:List Pt) (ids:List Int) (env:List V),from_ F ps ids env=(rows F (npos ps) []).filterMap λr=>(envR F ps r env).map λe=>(ids++r,e)
|[],ids,env=>by simp[from_,npos,rows,envR]
|p::ps,ids,env=>by
  unfold from_
  by_cases hn:p.neg=true
  . rw[if_pos hn]
    have e1:npos (p::ps)=npos ps:=by unfold npos;rw[Cg (by simp[hn])]
    rw[e1]
    by_cases h0:passL p F env=[]
    . rw[if_pos h0,Lk hu ps ids env]
      congr 1;funext r
      rw[envR.eq_def F (p::ps)];simp[hn,h0]
    . rw[if_neg h0]
      symm
      rw[Na]
      intro r _
      rw[envR.eq_def F (p::ps)];simp[hn,h0]
  . rw[if_neg hn,Wt]
    have e1:npos (p::ps)=npos ps+1:=by unfold npos;rw[Cf (by simpa using hn)];rfl
    rw[e1];unfold rows
    rw[List.filterMap_flatMap]
    refine flatMap_congr λf hf=>?_
    rw[IP,List.filterMap_map]
    have hstep:∀r,envR F (p::ps) (f.id::r) env=match pass p f env with|none=>none|some e=>envR F ps r e:=λr=>by
     rw[envR.eq_def];simp[hn,find_self hu hf]
    cases hp:pass p f env with
    | none =>
     symm
     rw[Na]
     intro r _
     show Option.map _ (envR F (p::ps) (f.id::r) env)=none
     rw[hstep,hp];rfl
    | some e =>
     show from_ F ps (ids++[f.id]) e=_
     rw[Lk hu ps _ e]
     congr 1;funext r
     show _=Option.map _ (envR F (p::ps) (f.id::r) env)
     rw[hstep,hp]
     simp
theorem mats_refs{F:List Fc}(hu:(F.map Fc.id).Nodup)(x:Rl):(mats x F).map Prod.fst=refs x F:=by
 unfold mats refs
 rw[Lk hu]
 generalize rows F (npos x.pats) []=L
 induction L with
|nil=>rfl
|cons r L ih =>
  cases h:envR F x.pats r empty with
  | none=>rw[De (by rw[h];rfl),Cg (by rw[h];simp),ih]
  | some e=>rw[CQ (by rw[h];rfl),Cf (by rw[h];rfl),Au,ih];rfl
theorem Oe{f g:Rl->List (List Int)}(h:∀x,f x=g x):∀(l:List Rl) (i:Int),flatR f l i=flatR g l i
|[],_=>rfl
|x::l,i=>by unfold flatR;rw[h,Oe h l]
theorem raws_eq{F:List Fc}(hu:(F.map Fc.id).Nodup)(R:List Rl):raws R F=refRaws R F:=Oe (mats_refs hu) R 0
end Mat
section
attribute [local push_cast] Br Bl BV V.cells_mk V.cells_len Nat.mul_one Int.sub_zero List.map_nil beq_self_eq_true bne_self_eq_false List.head?_cons Bool.not_true Bool.not_false Nat.zero_add List.append_assoc Kf Kg
attribute [-instance] Ck Cu BO
inductive MemP where
|no
|at_ (b:Nat)(l:List KE)(c gl cl:Nat)(zl:List D)(gk ck:Nat)(zk:List D)
def MemP.cells:MemP->Nat->List D
|.no,_=>[.s (.map none),.sl .tight [],.sl .tight []]
|.at_ b _ _ gl cl _ gk ck _,n=>[.mp b,.ar gl 0 n cl,.ar gk 0 n ck]
def MemP.res (tv tk:TypeId)(rows:List D)(K:List MK):MemP->St
|.no=>[]
|.at_ b l c gl _ zl gk _ zk=>[Ic b l c,.box gl tv (rows++zl),.box gk tk (K.map MK.d++zk)]
def MemP.ok (sz:Nat)(rows:List D)(K:List MK):MemP->Prop
|.no=>K=[]/\rows=[]
|.at_ _ l _ _ cl zl _ ck zk=>MRep l K/\(rows++zl).length=cl*sz/\(K.map MK.d++zk).length=ck/\rows.length=K.length*sz
def LiveO (o:Nat)(st:St)(b:Nat):Prop:=b=o\/dX st b
theorem LiveO.live{o:Nat}{st S:St}{b:Nat}(h:LiveO o st b){ty:TypeId}{cs:List D}(ho:Res.box o ty cs∈S)(hs:∀r∈st,r∈S):dX S b:=by
 rcases h with rfl|⟨ty',cs',h⟩
 . exact⟨ty,cs,ho⟩
 . exact⟨ty',cs',hs _ h⟩
section
variable {P:Program} {r:Option Nat} {m:Option Ro} {A:AA} {st:St} {k:D->St->Prop} {dst:Option Tmp} {ty:TypeId} {pos:String} {aft:Array Edge} {gd:Option (Nat×Bool)} {t:TypeId} {b c kb:Nat} {l:List KE} {n kn:Int} {kt:TypeId}
theorem bq{x y z:Operand}{s1:St}(hx:ev A.e x=some (.mp b))(hy:ev A.e y=some (.ptr kb 0))(hz:ev A.e z=some (.i n))(hm:ResAt (Ic b l c) (Ic b (ET l c (.p kb) n).1 (ET l c (.p kb) n).2) st s1)(ht:kmT P t=some kt)(hk:KeyS P kt st (.p kb) l)(h:CZ m s1/\k D.un s1):S P r m ⟨dst,.mapUpdate t x y z,ty,pos,aft,gd⟩ A st k:=My (key:=.p kb) hx hy hz hm ht hk h
theorem br{x y z:Operand}{s1:St}(hx:ev A.e x=some (.mp b))(hy:ev A.e y=some (.i kn))(hz:ev A.e z=some (.i n))(hm:ResAt (Ic b l c) (Ic b (ET l c (.i kn) n).1 (ET l c (.i kn) n).2) st s1)(ht:kmT P t=some kt)(hk:KeyS P kt st (.i kn) l)(h:CZ m s1/\k D.un s1):S P r m ⟨dst,.mapUpdate t x y z,ty,pos,aft,gd⟩ A st k:=My (key:=.i kn) hx hy hz hm ht hk h
theorem kr{x y:Operand}(hx:ev A.e x=some (.mp b))(hy:ev A.e y=some (.ptr kb 0))(hm:Ic b l c∈st)(ht:kmT P t=some kt)(hk:KeyS P kt st (.p kb) l)(h:CZ m st/\k (lkD l (.p kb)) st):S P r m ⟨dst,.lookup t x y true,ty,pos,aft,gd⟩ A st k:=Re (key:=.p kb) hx hy hm ht hk h
theorem bz{x y:Operand}(hx:ev A.e x=some (.mp b))(hy:ev A.e y=some (.i kn))(hm:Ic b l c∈st)(ht:kmT P t=some kt)(hk:KeyS P kt st (.i kn) l)(h:CZ m st/\k (lkD l (.i kn)) st):S P r m ⟨dst,.lookup t x y true,ty,pos,aft,gd⟩ A st k:=Re (key:=.i kn) hx hy hm ht hk h
theorem kv{x y:Operand}{t2:TypeId}{s1:St}(hx:ev A.e x=some (.mp b))(hy:ev A.e y=some (.ptr kb 0))(hm:ResAt (Ic b l c) (Ic b (IV l (.p kb)) c) st s1)(ht:kmT P t=some kt)(hk:KeyS P kt st (.p kb) l)(h:CZ m s1/\k (.tup []) s1):S P r m ⟨dst,.call ⟨.builtin .delete,#[x,y],#[t,t2]⟩,ty,pos,aft,gd⟩ A st k:=Um (key:=.p kb) hx hy hm ht hk h
theorem kw{x y:Operand}{t2:TypeId}{s1:St}(hx:ev A.e x=some (.mp b))(hy:ev A.e y=some (.i kn))(hm:ResAt (Ic b l c) (Ic b (IV l (.i kn)) c) st s1)(ht:kmT P t=some kt)(hk:KeyS P kt st (.i kn) l)(h:CZ m s1/\k (.tup []) s1):S P r m ⟨dst,.call ⟨.builtin .delete,#[x,y],#[t,t2]⟩,ty,pos,aft,gd⟩ A st k:=Um (key:=.i kn) hx hy hm ht hk h
end
section
variable {P:Program} {r:Option Nat} {A:AA} {st:St} {k:D->St->Prop} {dst:Option Tmp} {ty:TypeId} {pos:String} {aft:Array Edge} {gd:Option (Nat×Bool)} {t t' kt:TypeId} {x:Operand}
theorem Rd(ht:kmT P t=some kt)(hx:ev A.e x=some (.s (.map none)))(hk:k (.b true) st):S P r none ⟨dst,.binOp .eql t x (.const (.map none)) t',ty,pos,aft,gd⟩ A st k:=Uj (mv:=none) ht hx hk
theorem Rb{b:Nat}(ht:kmT P t=some kt)(hx:ev A.e x=some (.mp b))(hk:k (.b false) st):S P r none ⟨dst,.binOp .eql t x (.const (.map none)) t',ty,pos,aft,gd⟩ A st k:=Uj (mv:=some b) ht hx hk
end
def Eb (K:List Nat):List D:=K.map λb=>D.ptr b 0
theorem GY(K:List Nat):(K.map MK.p).map MK.d=Eb K:=by rw[Ey];rfl
def MemP.resT (K:List Nat)(M:MemP):St:=M.res 117 117 (Eb K) (K.map MK.p)
def MemP.okT (K:List Nat)(M:MemP):Prop:=M.ok 1 (Eb K) (K.map MK.p)
structure Within (off:Nat)(pre post:List D):Prop where
 d0:∀l:List D,List.drop off (pre++l)=l
 d1:∀(a:D) (l:List D),List.drop (off+1) (pre++a::l)=l
 d2:∀(a b:D) (l:List D),List.drop (off+2) (pre++a::b::l)=l
 d3:∀(a b c:D) (l:List D),List.drop (off+3) (pre++a::b::c::l)=l
 t0:∀l:List D,List.take off (pre++l)=pre
 t1:∀(a:D) (l:List D),List.take (off+1) (pre++a::l)=pre++[a]
 t2:∀(a b:D) (l:List D),List.take (off+2) (pre++a::b::l)=pre++[a,b]
 l1:∀a b c:D,off+1<=(pre++a::b::c::post).length
 l2:∀a b c:D,off+2<=(pre++a::b::c::post).length
 l3:∀a b c:D,off+3<=(pre++a::b::c::post).length
theorem LQ(pre post:List D):Within pre.length pre post:=by
 constructor<;>intros<;>first|(rw[Ad];simp only[An];omega)|(simp[Kd,dY,Bj];done)
theorem XF(o : Nat)(ty:TypeId)(pre post:List D)(M:MemP)(K:List Nat)(kb:Nat)(hok:M.okT K)(hk:kb∉K)(hn:K.length<=10000000000000)(st:St)(hl:∀b∈kb::K,LiveO o st b) :
 TrF prog 96 [.ptr o pre.length,.ptr kb 0,.ptr kb 0] (.box o ty (pre++(M.cells K.length++post))::(M.resT K++st)) λd st'=>∃M':MemP,M'.okT (K++[kb])/\d=.tup []/\(Res.box o ty (pre++(M'.cells (K.length+1)++post))::(M'.resT (K++[kb])++st)).Perm st':=by
 have hW:=LQ pre post
 generalize hpl:pre.length=off at *
 obtain⟨hd0,hd1,hd2,hd3,ht0,ht1,ht2,hl1,hl2,hl3⟩:=hW
 have hL:=Aa hl
 clear hl
 cases M with
|no =>
  obtain⟨hK, -⟩:=hok
  obtain rfl:K=[]:=Eh.1 hK
  have hm:=MRep.put (k:=.p kb) MRep.nil 0 AP
  have hlk:=hL.out kb (Ag ..)
  clear hL hK
  unfold MemP.resT
  dsimp only[MemP.cells,MemP.res,List.length_nil,List.nil_append,List.cons_append]
  refine Qin [] func96 results96 ntmps96 ?_
  repeat' (first|refine QV ?_|((with_reducible refine Rd (kt:=117) ?_ ?_ ?_);(focus kernel_rfl);(focus exact q_v))|((with_reducible refine OS ?_);intro bm)|((with_reducible apply(GE (id:=3) [(o,pre++D.mp bm::D.sl .tight []::D.sl .tight []::post)] [0,2,3,4,5,6,7,8,9,10,11,12,13,14,15,16,17] 18 [1,19,20,21]));(iterate 3 (focus kernel_rfl));(iterate 2 (focus(simp only[Gy,AI,AM,BB,Bq];exact rfl)));(focus exact q_k);intro hne;(try simp only[nes,ne1,and_assoc]at hne);repeat(have hq:=hne.1;replace hne:=hne.2))|((with_reducible refine Exists.intro [] ?_);(with_reducible refine And.intro ?_ ?_);(focus exact q_k))|((with_reducible refine And.intro ?_ ?_);(focus exact q_k))|((with_reducible refine FL (id:=2) [(o,pre++D.mp bm::D.sl .tight []::D.sl .tight []::post)] ?_ ?_ ?_ ?_ ?_);(iterate 3 (focus kernel_rfl));(focus((repeat(first|exact BI|refine BX q_m ?_));done)))|((with_reducible refine And.intro ?_ ?_);(focus exact q_k))|((with_reducible apply(bq (b:=bm) (kb:=kb) (l:=[]) (c:=0) (n:=0) (kt:=117)));(focus exact q_v);(focus exact q_v);(focus exact q_v);(focus(repeat(first|exact Hn|apply Hm)));(focus kernel_rfl);(focus exact KQ (by kernel_rfl) (hlk.live (Ae _ (Ag ..)) (λr hr=>Ae _ (Ae _ hr))) (λe he=>by cases he)))|with_reducible refine Hz ?_|with_reducible refine Kj ?_|((with_reducible apply HH);(focus exact q_n);(focus exact CP rfl);(focus exact q_n);(focus exact q_n);intro g' c' z' hc' hl')|refine QY ?_|refine QB ?_;intro b|with_reducible refine QZ ?_<;>(try constructor)<;>intro hb<;>try intro hb1|fail)
  rename_i gl cl zl hcl hll
  refine Bf (by simp) q_y (Aj _) (LE.refl _) ⟨.at_ bm (ET [] 0 (.p kb) 0).1 (ET [] 0 (.p kb) 0).2 gl cl zl g' c' z',⟨hm,?_,?_,rfl⟩,rfl,?_⟩
  . simpa [Eb]using hll
  . simpa [MK.d]using hl'
  . dsimp only[MemP.cells,MemP.res,List.cons_append,List.nil_append,List.map_cons,List.map_nil,MK.d,Eb,List.flatten_cons,List.flatten_nil,List.append_nil]
    (repeat(first|exact Ar _|refine Dl (by repeat(first|exact DA|apply CV)) ?_))
|at_ bm ml cm gl cl zl gk ck zk =>
  obtain⟨hM,hzl,hzk, -⟩:=hok
  have hkn:MK.p kb∉K.map MK.p:=λh=>by
   obtain⟨x,hx,e⟩:=Av.1 h
   cases e
   exact hk hx
  have hm:=hM.put cm hkn
  rw[Ab]at hm
  have hlk:=hL.out kb (Ag ..)
  have hle:Hid (∀e∈ml,∃b,e.k=.p b/\LiveO o st b):=λe he=>by
   obtain⟨x,hx,e1⟩:=Av.1 (hM.keys e he)
   exact⟨x,e1.symm,hL.out x (Ae _ hx)⟩
  have hrl:(Eb K).length=K.length*1:=by unfold Eb;rw[Ab,CG]
  have hra:Hid (Eb (K++[kb])=Eb K++[[D.ptr kb 0]].flatten):=Aa (by unfold Eb;rw[Bi];rfl)
  unfold MemP.resT
  dsimp only[MemP.cells,MemP.res,List.length_nil,List.nil_append,List.cons_append]
  rw[GY]at hzk |-
  replace hm:=Aa hm
  have hzk1:(Eb K++zk).length=ck*1:=by rw[CG];exact hzk
  clear hL hM hkn hzk hk
  have hKn:K.length+1<=10000000000001:=by omega
  have hr2:Hid (Eb K=Eb K):=Aa rfl
  obtain⟨RP,hRP⟩:∃RP,RP=Eb K:=⟨_,rfl⟩
  rw[<-hRP]at hzl hzk1 hrl hra |-
  obtain⟨n,hn2⟩:∃n,n=K.length:=⟨_,rfl⟩
  rw[<-hn2]at hrl hm hKn |-
  rw[<-hn2]at hn
  clear hr2 hRP
  replace hn2:=Aa hn2
  refine Qin [] func96 results96 ntmps96 ?_
  repeat' (first|refine QV ?_|((with_reducible refine Rb (b:=bm) (kt:=117) ?_ ?_ ?_);(focus kernel_rfl);(focus exact q_v))|((with_reducible apply(GE (id:=3) [(o,pre++D.mp bm::D.ar gl 0 n cl::D.ar gk 0 n ck::post)] [0,2,3,4,5,6,7,8,9,10,11,12,13,14,15,16,17] 18 [1,19,20,21]));(iterate 3 (focus kernel_rfl));(iterate 2 (focus(simp only[Gy,AI,AM,BB,Bq];exact rfl)));(focus exact q_k);intro hne;(try simp only[nes,ne1,and_assoc]at hne);repeat(have hq:=hne.1;replace hne:=hne.2))|((with_reducible refine Exists.intro [] ?_);(with_reducible refine And.intro ?_ ?_);(focus exact q_k))|((with_reducible refine And.intro ?_ ?_);(focus exact q_k))|((with_reducible refine FL (id:=2) [(o,pre++D.mp bm::D.ar gl 0 n cl::D.ar gk 0 n ck::post)] ?_ ?_ ?_ ?_ ?_);(iterate 3 (focus kernel_rfl));(focus((repeat(first|exact BI|refine BX q_m ?_));done)))|((with_reducible refine And.intro ?_ ?_);(focus exact q_k))|((with_reducible apply(bq (b:=bm) (kb:=kb) (l:=ml) (c:=cm) (n:=n) (kt:=117)));(focus exact q_v);(focus exact q_v);(focus exact q_v);(focus(repeat(first|exact Hn|apply Hm)));(focus kernel_rfl);(focus exact KQ (by kernel_rfl) (hlk.live (Ag ..) (λr hr=>Ae _ (Ae _ (Ae _ (Ae _ hr))))) (λe he=>by obtain⟨x,e1,hx⟩:=hle.out e he;exact⟨x,e1,hx.live (Ag ..) (λr hr=>Ae _ (Ae _ (Ae _ (Ae _ hr))))⟩)))|with_reducible refine Hy ?_|with_reducible refine Kl ?_|((with_reducible apply(Ii hrl hzl));(focus(intro g' cs';repeat(first|exact Hn|apply Hm)));(focus exact CP rfl);(iterate 2 (focus exact q_n));intro g1 c1 z1 hc1 hl1)|((with_reducible apply(Ii hrl hzk1));(focus(intro g' cs';repeat(first|exact Hn|apply Hm)));(focus exact CP rfl);(iterate 2 (focus exact q_n));intro g2 c2 z2 hc2 hl2)|refine QY ?_|refine QB ?_;intro b|with_reducible refine QZ ?_<;>(try constructor)<;>intro hb<;>try intro hb1|fail)
  refine Bf (by simp) q_y (Aj _) (LE.refl _) ⟨.at_ bm (ET ml cm (.p kb) n).1 (ET ml cm (.p kb) n).2 g1 c1 z1 g2 c2 z2,⟨?_,?_,?_,?_⟩,rfl,?_⟩
  . rw[Bi];exact hm.out
  . rw[hra.out];exact hl1
  . rw[GY,hra.out,<-CG c2];exact hl2
  . unfold Eb;rw[Ab,Ab,CG]
  . rw[GY,hra.out]
    dsimp only[MemP.cells,MemP.res,List.cons_append,List.nil_append]
    (repeat(first|exact Ar _|refine Dl (by repeat(first|exact DA|apply CV)) ?_))
end
end Go.Proofs.YtoeidpmjifjplaaGreat
