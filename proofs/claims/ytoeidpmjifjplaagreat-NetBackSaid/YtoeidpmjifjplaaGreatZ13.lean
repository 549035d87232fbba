/- Texts put together. No statement is proved here. -/
import Derived.Test.YtoeidpmjifjplaaGreatZ12
set_option linter.all false
set_option maxRecDepth 10000
set_option maxHeartbeats 8000000
namespace Go.Proofs.YtoeidpmjifjplaaGreat
open Go.RowKit
section
attribute [local push_cast] Ad Ae Ao V.cells_mk V.cells_len Nat.mul_one Int.sub_zero List.map_nil beq_self_eq_true bne_self_eq_false List.head?_cons Bool.not_true Bool.not_false Nat.zero_add
attribute [-instance] Aq Av Am AV
theorem Pw(N:NT)(R:List Rl)(f:Fc)(h:N.Ok R)(hR:R.length≤1000)(hf:FK f)(h0:f.id≠0)(hl:N.fs.length<1000)(st:St):TrF Tryz.prog 33 [.ptr N.b 0,.agg f.cells] (N.st++st) fun d st'=>∃N':NT,N'.Ok R∧N'.b=N.b∧((f.id∈N.fs.map Fc.id∧N'.fs=N.fs∧d=.b false)∨(f.id∉N.fs.map Fc.id∧N'.fs=N.fs++[f]∧d=.b true))∧(N'.st++st).Perm st':=by
 have hget:=Mx N R f.id h st
 have hgetB:∀fb:Res,TrF Tryz.prog 64 [.ptr N.b 1,.i f.id] (fb::(N.st++st)) fun d st'=>d=DV (Mat.find N.fs f.id)∧st'=fb::(N.st++st):=fun fb =>
  TrF.permPost List.perm_middle.symm ((Mx N R f.id h (fb::st)).mono fun d st' ⟨e1,e2⟩=>⟨_,⟨e1,rfl⟩,by rw[e2];exact List.perm_middle⟩)
 cases ha:Mat.find N.fs f.id with
|some g =>
  have hin:f.id∈N.fs.map Fc.id:=List.mem_map.2 ⟨g,List.mem_of_find?_eq_some ha,by have:=List.find?_some ha;simpa using this⟩
  have hfin:Hid (∃N':NT,N'.Ok R∧N'.b=N.b∧((f.id∈N.fs.map Fc.id∧N'.fs=N.fs∧D.b false=.b false)∨(f.id∉N.fs.map Fc.id∧N'.fs=N.fs++[f]∧D.b false=.b true))∧(N'.st++st).Perm (N.st++st)):=⟨N,h,rfl,.inl ⟨hin,rfl,rfl⟩,.refl _⟩
  rw[ha] at hget hgetB
  dsimp only[DV] at hget hgetB
  replace hget:=Lib.hid hget
  replace hgetB:=Lib.hid hgetB
  clear ha hin h hf h0 hl hR
  unfold Fc.cells at *
  generalize f.s.map V.cells=VS at *
  generalize g.s.map V.cells=VG at *
  refine Qin [4] Tryz.func33 Tryz.results33 Tryz.ntmps33 ?_
  generalize N.st++st=RS at *
  repeat' (first|refine QV ?_|((with_reducible apply Ez);(focus kernel_rfl);(focus exact q_v))|((with_reducible apply(IP (id:=3) [] 9 5));(iterate 3 (focus kernel_rfl));(focus(repeat(first|exact An|refine Aw q_m ?_)));(focus exact rfl);(focus(simp only[List.eraseIdx_cons_succ,List.eraseIdx_cons_zero];rfl)))|((with_reducible refine And.intro ?_ ?_);(focus exact q_k))|((with_reducible apply(Br Tryz.call64));(focus exact List.Perm.refl _);(focus exact hget.out);(focus exact LEL.refl _);(focus exact⟨_,_,rfl,rfl⟩);(rintro d2 st2 ⟨rfl,rfl⟩;refine⟨by((repeat(first|exact An|refine Aw q_m ?_));done),?_⟩))|((with_reducible apply(Br Tryz.call64));(focus exact List.Perm.refl _);(focus exact hgetB.out _);(focus exact LEL.refl _);(focus exact⟨_,_,rfl,rfl⟩);(rintro d2 st2 ⟨rfl,rfl⟩;refine⟨by((repeat(first|exact An|refine Aw q_m ?_));done),?_⟩))|(with_reducible refine Bl ?_)|refine QY ?_|(refine QB ?_;intro b)|(with_reducible refine QZ ?_<;>(try constructor)<;>intro hb<;>try intro hb1)|fail)
  all_goals exact Ab (by simp) q_y (List.sublist_cons_self ..) (LE.of_eq q_v) hfin.out
|none =>
  have hnew:f.id∉N.fs.map Fc.id:=fun hm=>by
   obtain⟨g,hg,e⟩:=List.mem_map.1 hm
   have:=List.find?_eq_none.1 ha g hg
   simp[e] at this
  rw[ha] at hget hgetB
  dsimp only[DV] at hget hgetB
  obtain⟨W,hW⟩:∃W:MemP→St,W=fun M=>M.resF (N.fs++[f])++N.cs.flatMap NC.st++st:=⟨_,rfl⟩
  have hWe:Hid (∀M,.box N.b 105 (.sl .shared N.row::M.cells (N.fs++[f]).length)::W M=Ck N M (N.fs++[f]) N.cs++st):=fun M=>by rw[hW];rfl
  have hput:∀fb:Res,TrF Tryz.prog 65 [.ptr N.b 1,.i f.id,.agg f.cells] (fb::(N.st++st)) fun d st'=>∃M':MemP,M'.okF (N.fs++[f])∧d=.tup []∧(fb::.box N.b 105 (.sl .shared N.row::M'.cells (N.fs++[f]).length)::W M').Perm st':=fun fb =>
   (TrF.perm List.perm_middle.symm (Yb N R f h hnew (fb::st))).mono fun d st' ⟨M',a1,a2,a3⟩=>⟨M',a1,a2,by rw[hWe.out];exact List.perm_middle.symm.trans a3⟩
  have hE:Hid (∀fb:Res,∃(d:D) (st':St) (M':MemP),M'.okF (N.fs++[f])∧d=.tup []∧(fb::.box N.b 105 (.sl .shared N.row::M'.cells (N.fs++[f]).length)::W M').Perm st'):=fun fb=>by
   obtain⟨M0,hM0⟩:=QS h.fok hnew
   exact⟨_,_,M0,hM0,rfl,.refl _⟩
  clear hW
  replace hget:=Lib.hid hget
  replace hgetB:=Lib.hid hgetB
  have HN:=Lib.hid h
  have hf2:=Lib.hid hf
  have h02:=Lib.hid h0
  have hcl:=h.cl
  have hfc:f.cells=[.i f.id,.i f.time,.i f.tmpl,.i f.ver,.sl .shared (f.s.map V.cells)]:=rfl
  clear ha h hf h0
  rw[hfc] at hput ⊢
  generalize hVS:f.s.map V.cells=VS at *
  obtain⟨RS,hRS⟩:∃RS,RS=N.st++st:=⟨_,rfl⟩
  rw[←hRS] at hget hgetB ⊢
  rw[←hRS] at hput
  have hrl:N.row.length=R.length:=by unfold NT.row;rw[List.length_map,hcl]
  have hrow:Hid (∀(i:Nat) (S:NC),N.cs[i]?=some S→N.row[i]?=some [.ptr S.c 0]):=fun i S h=>by unfold NT.row;rw[List.getElem?_map,h];rfl
  obtain⟨cl,hcl2⟩:∃cl:MemP→List D,cl=fun M=>M.cells (N.fs++[f]).length:=⟨_,rfl⟩
  have hcle:∀M:MemP,M.cells (N.fs++[f]).length=cl M:=fun M=>by rw[hcl2]
  simp only[hcle] at hput hE hWe
  clear hcle hcl2 hRS
  obtain⟨ROW,hROW⟩:∃ROW,ROW=N.row:=⟨_,rfl⟩
  rw[←hROW] at hput hE hWe hrl hrow
  replace hROW:=Lib.hid hROW
  replace hput:=Lib.hid hput
  refine Qin [4] Tryz.func33 Tryz.results33 Tryz.ntmps33 ?_
  repeat' (first|refine QV ?_|((with_reducible apply Ez);(focus kernel_rfl);(focus exact q_v))|((with_reducible apply(IP (id:=3) [] 9 5));(iterate 3 (focus kernel_rfl));(focus(repeat(first|exact An|refine Aw q_m ?_)));(focus exact rfl);(focus(simp only[List.eraseIdx_cons_succ,List.eraseIdx_cons_zero];rfl)))|((with_reducible refine And.intro ?_ ?_);(focus exact q_k))|((with_reducible apply(Br Tryz.call64));(focus exact List.Perm.refl _);(focus exact hget.out);(focus exact LEL.refl _);(focus exact⟨_,_,rfl,rfl⟩);(rintro d2 st2 ⟨rfl,rfl⟩;refine⟨by((repeat(first|exact An|refine Aw q_m ?_));done),?_⟩))|((with_reducible apply(Br Tryz.call64));(focus exact List.Perm.refl _);(focus exact hgetB.out _);(focus exact LEL.refl _);(focus exact⟨_,_,rfl,rfl⟩);(rintro d2 st2 ⟨rfl,rfl⟩;refine⟨by((repeat(first|exact An|refine Aw q_m ?_));done),?_⟩))|((with_reducible apply(Br Tryz.call65));(focus exact List.Perm.refl _);(focus exact hput.out _);(focus exact LEL.refl _);(focus exact hE.out _);(rintro d2 st2 ⟨M2,hok2,rfl,hp2⟩;refine⟨by((repeat(first|exact An|refine Aw q_m ?_));done),?_⟩))|((with_reducible refine Af hp2.symm ?_);clear hp2)|(with_reducible refine Bl ?_)|refine QY ?_|(refine QB ?_;intro b)|(with_reducible refine QZ ?_<;>(try constructor)<;>intro hb<;>try intro hb1)|fail)
  all_goals clear hget hgetB hput hE
  all_goals
   have hW2:Hid (∀B:Res,(B::.box N.b 105 (.sl .shared ROW::cl M2)::W M2).Perm (B::(Ck N M2 (N.fs++[f]) N.cs++st))):=fun B=>by rw[hWe.out]
   refine Aj (ι:=Nat) (fun i A st'=>i≤R.length∧A.df=[]∧A.e 3=.ip [.i f.id,.i f.time,.i f.tmpl,.i f.ver,.sl .shared VS]∧A.e 31=.sl .shared ROW∧A.e 32=.i R.length∧A.e 33=.i i∧∃(B:Res) (cs':List NC),Hid (StepC N.cs R N.fs (N.fs++[f]) i cs')∧st'.Perm (B::(Ck N M2 (N.fs++[f]) cs'++st))) (fun i=>R.length - i) 0 ⟨Nat.zero_le _,Qf,Qf,Qf,Qf,Qf,_,N.cs,StepC.zero ..,hW2.out _⟩ ?_
   clear hW2 hWe
   rintro i A st' ⟨hi,hdf,e3,e31,e32,e33,B,cs',HS,hp⟩
   by_cases hlt:i<R.length
   · obtain⟨x,hx⟩:=gEx hlt
     obtain⟨S,hS⟩:∃S,N.cs[i]?=some S:=⟨_,List.getElem?_eq_getElem (by rw[hcl];exact hlt)⟩
     have hS2:=(HS.out.todo i (Nat.le_refl _)).trans hS
     have hC:=HN.out.ch i x S hx hS
     have hrc:=hrow.out i S hS
     obtain⟨RR,hRR⟩:∃RR,RR=Res.box N.b 105 (.sl .shared N.row::M2.cells (N.fs++[f]).length)::(M2.resF (N.fs++[f])++(((cs'.take i).flatMap NC.st++(cs'.drop (i+1)).flatMap NC.st)++st)):=⟨_,rfl⟩
     have hcome:Hid (TrF Tryz.prog 66 [.ptr S.c 0,.agg [.i f.id,.i f.time,.i f.tmpl,.i f.ver,.sl .shared VS]] (S.st++(B::RR)) fun d st0=>∃cs2:List NC,Hid (StepC N.cs R N.fs (N.fs++[f]) (i+1) cs2)∧d=.tup []∧st0.Perm (B::(Ck N M2 (N.fs++[f]) cs2++st))):=by
      have h1:=cN S f hC.str hC.loc hf2.out (by rw[hC.nl];omega) (hC.new hnew) (hC.few hl) (B::RR)
      rw[hfc] at h1
      refine h1.mono fun d st0 ⟨S',a1,a2,a3⟩=>⟨cs'.set i S',HS.out.next hx hS a1.c (hC.come a1),a2,?_⟩
      refine a3.symm.trans (List.perm_middle.trans (List.Perm.cons _ ?_))
      rw[hRR]
      exact(Lg hS2 st).symm
     have hp2:st'.Perm (S.st++(B::RR)):=by
      refine hp.trans (List.Perm.trans (List.Perm.cons _ ?_) List.perm_middle.symm)
      rw[hRR]
      exact EH hS2 st
     refine Af hp2 ?_
     clear hp hp2 hRR HS hC hS hS2 hx hnew hl hrow
     generalize S.st++(B::RR)=ST at *
     generalize S.c=sc at *
     repeat' (first|refine QV ?_|((with_reducible apply(Ah (f:=66) (henter:=Tryz.call66) (hp:=List.Perm.refl _) (h:=hcome.out)));(focus exact q_v);(focus(first|exact LEL.refl _|((repeat' (first|exact LEL.nil|refine LEL.cons ?_ ?_|exact LE.refl _|exact LE.sl _ _|refine LE.agg ?_));done)));(rintro d0 st0 ⟨cs2,hS2,rfl,hp4⟩))|refine QY ?_|(refine QB ?_;intro b)|(with_reducible refine QZ ?_<;>(try constructor)<;>intro hb<;>try intro hb1)|fail)
     refine⟨i+1,_,List.Sublist.refl _,⟨hlt,?_,?_,?_,?_,?_,B,cs2,hS2,hp4⟩,by omega⟩
     all_goals exact Qf
   · have hil:i=R.length:=by omega
     subst hil
     have hfin:Hid (∃N':NT,N'.Ok R∧N'.b=N.b∧((f.id∈N.fs.map Fc.id∧N'.fs=N.fs∧D.b true=.b false)∨(f.id∉N.fs.map Fc.id∧N'.fs=N.fs++[f]∧D.b true=.b true))∧(N'.st++st).Perm (Ck N M2 (N.fs++[f]) cs'++st)):=by
      refine⟨⟨N.b,cs',M2,N.fs++[f]⟩,⟨hok2,⟨fun z hz=>?_,?_⟩,?_,fun z hz=>?_,?_,fun j x S h1 h2=>HS.out.done j x S (List.getElem?_eq_some_iff.1 h1).1 h1 h2⟩,rfl,.inr ⟨hnew,rfl,rfl⟩,?_⟩
      · rcases List.mem_append.1 hz with hz|hz
        · exact HN.out.fk.f z hz
        · rw[List.mem_singleton.1 hz];exact hf2.out
      · show(N.fs++[f]).length≤1000000
        rw[List.length_append,List.length_singleton];omega
      · show(N.fs++[f]).length≤1000
        rw[List.length_append,List.length_singleton];omega
      · rcases List.mem_append.1 hz with hz|hz
        · exact HN.out.f0 z hz
        · rw[List.mem_singleton.1 hz];exact h02.out
      · exact HS.out.len.trans hcl
      · have h1:(⟨N.b,cs',M2,N.fs++[f]⟩:NT).row=N.row:=HS.out.row_eq
        unfold NT.st NT.cells Ck
        rw[h1]
     refine Af hp ?_
     clear hp HS HN hf2 h02 hnew hl hrow hok2
     generalize Ck N M2 (N.fs++[f]) cs'++st=ST at *
     repeat' (first|refine QX ?_|(refine QB ?_;intro b)|(with_reducible refine QZ ?_<;>(try constructor)<;>intro hb<;>try intro hb1)|fail)
     exact Ab (by simp) q_y (List.sublist_cons_self ..) (LE.of_eq q_v) hfin.out
end
section
attribute [local push_cast] Ad Ae Ao V.cells_mk V.cells_len Nat.mul_one Int.sub_zero List.map_nil beq_self_eq_true bne_self_eq_false List.head?_cons Bool.not_true Bool.not_false Nat.zero_add
section
open Go.RowKit Go.Sort
theorem Lh(a b:Mt)(ha:a.ids.length≤1000000)(hb0:b.ids.length≤1000000)(st:St):TrF Tryz.prog 71 [.agg a.cells,.agg b.cells] st fun d st'=>d=.i (Mat.ord a b)∧st'=st:=by
 have hS:=OY .shared .shared a.ids b.ids ha hb0
 have hC:=LO a.rule b.rule
 have hO:=fun o=>orF o [V.sgn a.rule b.rule,Mat.cmpI a.ids b.ids] (by simp)
 rw[Mat.ord_ors]
 unfold Mt.cells
 generalize V.ors [V.sgn a.rule b.rule,Mat.cmpI a.ids b.ids]=R at *
 rw[List.map_cons,List.map_cons,List.map_nil] at hO
 unfold Ae at hO
 generalize V.sgn a.rule b.rule=c1 at *
 generalize Mat.cmpI a.ids b.ids=c2 at *
 generalize a.ids.map Ae=AC at *
 generalize b.ids.map Ae=BC at *
 generalize a.rule=r1 at *
 generalize b.rule=r2 at *
 clear ha hb0
 replace hS:=Lib.hid hS
 replace hC:=Lib.hid hC
 replace hO:=Lib.hid hO
 refine Qin [4] Tryz.func71 Tryz.results71 Tryz.ntmps71 ?_
 repeat' (first|refine QV ?_|((with_reducible refine QW ?_);intro hne;simp only[nes,ne1,and_assoc] at hne;repeat(have hq:=hne.1;replace hne:=hne.2))|refine QY ?_|(refine QB ?_;intro b)|(with_reducible refine QZ ?_<;>(try constructor)<;>intro hb<;>try intro hb1)|refine Qc Tryz.call95 ((hS.out _)) ?_|refine Qc Tryz.call75 ((hC.out _)) ?_|refine Qc Tryz.call94 ((hO.out _ _)) ?_|fail)
 all_goals exact Ar
theorem TU{g : Nat}{ty:TypeId}{cs:List D}{st:St}{w:World}{us:Array Value}[Inhabited (Cell (OwnS (.box g ty cs::st)) w)](hb:w.heap[g]?=some (.cells us ty (0,0)))(n:Nat) :
 CmpLays Tryz.prog 71 #[] Cell.enc 2 (fun x y:Cell (OwnS (.box g ty cs::st)) w=>Mat.ord x.m y.m) g 0 n w:=by
 intro m os dk _ x y
 have he:Ext (OwnS (.box g ty cs::st)) w (OwnS []) (sortWorldK Cell.enc 2 w g 0 m dk os):=by
  unfold sortWorldK putRowK
  exact Ng hb m _ os
 generalize sortWorldK Cell.enc 2 w g 0 m dk os=W at he ⊢
 have hx:∀c:Cell (OwnS (.box g ty cs::st)) w,Rep (OwnS []) W (.agg c.enc.toArray) (.agg c.m.cells):=fun c=>by
  have h2:=c.h2.ext he
  have h1:Rep (OwnS []) W c.v1 (.i c.m.rule):=by rw[c.h1];exact .s _ rfl
  have hr:RepL (OwnS []) W c.enc c.m.cells:=RepL.cons h1 (RepL.cons h2 RepL.nil)
  exact .agg _ _ hr.1 hr.2
 have hv:RepL (OwnS []) W (#[Value.agg x.enc.toArray,Value.agg y.enc.toArray]++(#[]:Array Value)).toList [.agg x.m.cells,.agg y.m.cells]:=by
  rw[Array.append_empty]
  exact RepL.cons (hx x) (RepL.cons (hx y) RepL.nil)
 have hcall:=Lh x.m y.m x.hl y.hl [] _ W hv (Im W)
 refine hcall.mono ?_
 rintro e w' ⟨v,rfl,d,st',h1, -,h3,rfl,rfl⟩
 have hv1:=AX h1
 subst hv1
 exact⟨rfl,Hn h3⟩
theorem VA(g cap:Nat)(l:List Mt)(zs:List D)(hl0:l≠[])(hm:∀m∈l,m.ids.length≤1000000)(hll:l.length≤1000000)(st:St):TrF Tryz.prog 57 [.ar g 0 l.length cap,.fn (.func 71) [] []] (.box g 52 (BU l++zs)::st) fun d st'=>∃l',l'.Perm l∧Mat.Srt l'∧d=.tup []∧st'=.box g 52 (BU l'++zs)::st:=by
 intro vs w hv hh
 obtain⟨lv⟩:=vs
 obtain⟨v0,t0,e0,h1,hv⟩:=hv.inv_cons
 obtain⟨v1,t1,e1,h2,hv⟩:=hv.inv_cons
 have e2:=hv.inv_nil
 dsimp only at e0
 subst e2 e1 e0
 cases h1 with
|ar _ _ _ _ c1 c2 =>
 cases h2 with
|fn _ us1 us2 _ _ q1 q2 q3 q4 =>
 obtain rfl:us1=[]:=List.eq_nil_of_length_eq_zero q1
 obtain rfl:us2=[]:=List.eq_nil_of_length_eq_zero q2
 obtain⟨⟨us,hb,hr⟩,hlc⟩:=hh.2 _ (List.mem_cons_self ..)
 have hrt:=hr.take (l.length*2)
 rw[List.take_append_of_le_length (by rw[ED];exact Nat.le_refl _),List.take_of_length_le (l:=BU l) (by rw[ED];exact Nat.le_refl _)] at hrt
 obtain⟨cs,hcm,hcu⟩:=OH hrt hm
 have hcl:cs.length=l.length:=by
  have:=congrArg List.length hcm
  rwa[List.length_map] at this
 obtain⟨c0,hc0⟩:∃c0,c0∈cs:=by
  cases cs with
  | nil=>exact absurd hcm.symm hl0
  | cons c cs=>exact⟨c,List.mem_cons_self ..⟩
 haveI:Inhabited (Cell (OwnS (.box g 52 (BU l++zs)::st)) w):=⟨c0⟩
 have hul:us.size=l.length*2+zs.length:=by
  have:=hr.1
  rw[List.length_append,ED,Array.length_toList] at this
  exact this
 have hfl:(flatK Cell.enc 2 cs.toArray).toList=us.toList.take (l.length*2):=by rw[JV,hcu]
 have hH:HoldsK Cell.enc 2 w g 0 cs.toArray:=fun j hj=>by
  have hj2:j<l.length*2:=by rw[size_flatK] at hj;simpa [hcl] using hj
  refine⟨?_,?_⟩
  · rw[Nat.zero_add]
    have h3:(flatK Cell.enc 2 cs.toArray).toList[j]?=us.toList[j]?:=by rw[hfl,List.getElem?_take,if_pos hj2]
    rw[Array.getElem?_toList,Array.getElem?_toList,Array.getElem?_eq_getElem hj,Array.getElem?_eq_getElem q_o] at h3
    rw[getElem!_pos _ j hj]
    show _=some (id _)
    rw[id,Option.some.inj h3]
    have:=cell_of_row w g j us 52 (0,0) hb
    rw[this,Array.getElem?_eq_getElem q_o]
  · unfold World.frozen?
    dsimp only
    rw[hb];simp
 have hc:=AnyQ.slices_SortFunc Tryz.sortMatch 2 Tryz.isAgg52 Tryz.sizeOf52 Cell.enc (fun _=>rfl) (fun x v hv=>by
  rcases List.mem_cons.1 hv with rfl|hv
  · rw[x.h1];rfl
  · rw[List.mem_singleton] at hv
    subst hv
    exact x.h2.leafOne rfl) (fun x y:Cell (OwnS (.box g 52 (BU l++zs)::st)) w=>Mat.ord x.m y.m) (eK _ _) 71 #[] g 0 cap cs.toArray w Tryz.call71 (TU hb _) hH (Array.getElem?_eq_some_iff.1 hb).1 (by simp;omega)
 rw[show cs.toArray.size=l.length by simpa using hcl] at hc
 refine hc.mono ?_
 rintro e w' ⟨rfl,d',n,os,⟨hps, -,hpp⟩,hsrt,rfl⟩
 have hds:d'.size=l.length:=by rw[hps];simpa using hcl
 have hext:∀a:Array (Cell (OwnS (.box g 52 (BU l++zs)::st)) w),a.size=l.length→(a.extract 0 l.length).toList=a.toList:=fun a ha=>by
  rw[Array.toList_extract]
  simp only[List.extract_eq_take_drop,Nat.sub_zero,List.drop_zero]
  exact List.take_of_length_le (by rw[Array.length_toList,ha];exact Nat.le_refl _)
 rw[hext d' hds,hext cs.toArray (by simpa using hcl)] at hpp
 have hperm:(d'.toList.map Cell.m).Perm l:=(hpp.map Cell.m).trans (List.Perm.of_eq hcm)
 have hsort:Mat.Srt (d'.toList.map Cell.m):=by
  refine List.pairwise_iff_getElem.2 fun i j hi hj hij=>?_
  rw[List.length_map,Array.length_toList] at hi hj
  have h3:=hsrt i j (Nat.zero_le _) hij q_o
  rw[ltM,getElem!_pos _ i hi,getElem!_pos _ j hj] at h3
  rw[List.getElem_map,List.getElem_map,Array.getElem_toList,Array.getElem_toList]
  exact Mat.not_less.1 h3
 obtain⟨F,hF⟩:∃F,flatK Cell.enc 2 d'=F:=⟨_,rfl⟩
 have hFl:F.toList=(d'.toList.map Cell.enc).flatten:=by
  have:=JV d'.toList
  rw[Array.toArray_toList,hF] at this
  exact this
 have hFs:F.size=l.length*2:=by rw[←hF,size_flatK,hds]
 have hFll:F.toList.length=l.length*2:=by rw[←hFs];exact Array.length_toList
 have hus:(Sort.putCells id 0 F us).toList=(d'.toList.map Cell.enc).flatten++us.toList.drop (l.length*2):=by
  rw[←hFl]
  apply List.ext_getElem?
  intro k
  unfold Sort.putCells
  rw[Array.getElem?_toList,Array.getElem?_mapIdx]
  by_cases hk:k<l.length*2
  · have hk2:k<us.size:=by omega
    rw[List.getElem?_append_left q_o,Array.getElem?_eq_getElem hk2,Array.getElem?_toList,Array.getElem?_eq_getElem (by omega:k<F.size),Option.map_some,if_pos ⟨Nat.zero_le _,by omega⟩,Nat.sub_zero,getElem!_pos _ k q_o]
    rfl
  · have e:l.length*2+(k - F.toList.length)=k:=by omega
    rw[List.getElem?_append_right q_o,List.getElem?_drop,e,Array.getElem?_toList]
    cases us[k]? with
    | none=>rfl
    | some u=>rw[Option.map_some,if_neg q_o]
 have hrep:RepL (OwnS (.box g 52 (BU l++zs)::st)) w (Sort.putCells id 0 F us).toList (BU (d'.toList.map Cell.m)++zs):=by
  rw[hus]
  refine RepL.append (LV _) ?_
  have:=hr.drop (l.length*2)
  rwa[List.drop_append,List.drop_of_length_le (l:=BU l) (by rw[ED];omega),List.nil_append,show l.length*2 - (BU l).length=0 by rw[ED];omega,List.drop_zero] at this
 have hlt:=(Array.getElem?_eq_some_iff.1 hb).1
 have hs:=Mi (w':=Sort.putRow id (Sort.ahead w n) g 0 F) hh hb (by simp[Sort.putCells]) (Nat.le_add_right _ _) rfl rfl rfl (by simp[Sort.putRow,Sort.mapBlock,Sort.ahead]) (by
  simp only[Sort.putRow,Sort.mapBlock,Sort.ahead]
  rw[Array.getElem?_modify]
  simp[hb,Sort.onCells]) (fun k hk=>by
  simp only[Sort.putRow,Sort.mapBlock,Sort.ahead]
  rw[Array.getElem?_modify,if_neg (Ne.symm hk)]) hrep (fun d hd=>by
   rw[List.mem_append] at hd
   exact hd.elim (Sy _ d) fun h=>hlc d (List.mem_append_right _ h))
 have hw:sortWorldK Cell.enc 2 w g 0 n d' os=grow (Sort.putRow id (Sort.ahead w n) g 0 F) os:=by rw[←hF];rfl
 rw[hw]
 have hg:=JM hs.1 os
 exact⟨_,rfl,.tup [],_,.tup [] [] rfl (fun i h=>absurd h (Nat.not_lt_zero _)),hg,hs.2.trans (JN _ _ os),d'.toList.map Cell.m,hperm,hsort,rfl,rfl⟩
theorem NY(st:St):TrF Tryz.prog 57 [.sl .tight [],.fn (.func 71) [] []] st fun d st'=>d=.tup []∧st'=st:=by
 intro vs w hv hh
 obtain⟨lv⟩:=vs
 obtain⟨v0,t0,e0,h1,hv⟩:=hv.inv_cons
 obtain⟨v1,t1,e1,h2,hv⟩:=hv.inv_cons
 have e2:=hv.inv_nil
 dsimp only at e0
 subst e2 e1 e0
 obtain⟨a,cap,us,sz,rfl, -⟩:=Bo h1
 have hc:Calls Tryz.prog 57 #[.slice a 0 cap,v1] w fun e w'=>e=.returned (.tuple #[])∧w'=w:=AnyF.slices_SortFunc_none Tryz.sortMatch a cap v1 w
 refine hc.mono ?_
 rintro e w' ⟨rfl,rfl⟩
 exact⟨_,rfl,.tup [],st,.tup [] [] rfl (fun i h=>absurd h (Nat.not_lt_zero _)),hh,Ext.refl _ _,rfl,rfl⟩
end
end
section
open Classical in
noncomputable def tkB (S:NC)(b:Nat):List Int×List V:=if h:∃w∈S.H,w.b=b then tkR S (Classical.choose h) else([],[])
theorem OT{S:NC}(hS:Nt.Str S []){w:Tok}(hw:w∈S.H):tkB S w.b=tkR S w:=by
 have h:∃v∈S.H,v.b=w.b:=⟨w,hw,rfl⟩
 unfold tkB
 rw[dif_pos h]
 have h1:=Classical.choose_spec h
 rw[hS.same h1.1 hw h1.2]
def FL (S:NC):List Nat:=match S.ns[S.ns.length - 1]? with
|some x=>x.ts
|none=>[]
theorem Ij{S:NC}{x:Nd}(h:S.ns[S.ns.length - 1]?=some x):FL S=x.ts:=by unfold FL;rw[h]
theorem Qr{S:NC}{ps:List Pt}{F:List Fc}(h:ChainOk S ps F)(hid:∀f∈F,f.id≠0)(hnd:(F.map Fc.id).Nodup){k:Nat}{x:Nd}(hk:k≤ps.length)(hx:S.ns[k]?=some x):(x.ts.map (tkB S)).Perm (Mat.from_ F (ps.take k) [] Mat.empty):=by
 refine((ZT h.str hx).map _).trans (List.Perm.trans ?_ (Og h hid hnd k hk))
 rw[List.map_map]
 exact List.Perm.of_eq (List.map_congr_left fun u hu=>OT h.str (Cg.1 hu).1)
theorem Lp{S:NC}{ps:List Pt}{F:List Fc}(h:ChainOk S ps F)(hid:∀f∈F,f.id≠0)(hnd:(F.map Fc.id).Nodup):((FL S).map (tkB S)).Perm (Mat.from_ F ps [] Mat.empty):=by
 obtain⟨x,hx, -⟩:=h.last
 have e:FL S=x.ts:=Ij (by rw[h.nl];exact hx)
 rw[e]
 have:=Qr h hid hnd (Nat.le_refl _) hx
 rwa[List.take_length] at this
abbrev En:=Mt×Nat×List V
noncomputable def II (S:NC)(i:Int):List En:=(FL S).map fun b=>(⟨i,(tkB S b).1⟩,b,(tkB S b).2)
noncomputable def Bm:List NC→Int→List En
|[],_=>[]
|S::l,i=>II S i++Bm l (i+1)
theorem PQ{cs:List NC}{i:Nat}{S:NC}(h:cs[i]?=some S):Bm (cs.drop i) i=II S i++Bm (cs.drop (i+1)) (i+1:Nat):=by
 rw[V.drop_cons h,Bm];rfl
theorem LG:∀(cs:List NC) (R:List Rl) (F:List Fc) (i:Int),(∀f∈F,f.id≠0)→(F.map Fc.id).Nodup→cs.length=R.length→(∀(j:Nat) (x:Rl) (S:NC),R[j]?=some x→cs[j]?=some S→ChainOk S x.pats F)→((Bm cs i).map Prod.fst).Perm (Mat.flatR (fun x=>(Mat.mats x F).map Prod.fst) R i)
|[],[],_,_,_,_,_,_=>.refl _
|[],_::_,_,_,_,_,h,_=>by cases h
|_::_,[],_,_,_,_,h,_=>by cases h
|S::cs,x::R,F,i,hid,hnd,hl,h=>by
  unfold Bm Mat.flatR
  rw[List.map_append]
  refine List.Perm.append ?_ (LG cs R F (i+1) hid hnd (by simpa using hl) fun j y T h1 h2=>h (j+1) y T h1 h2)
  have h1:=Lp (h 0 x S rfl rfl) hid hnd
  have h2:=(h1.map Prod.fst).map (Mt.mk i)
  refine List.Perm.trans (List.Perm.of_eq ?_) h2
  unfold II
  rw[List.map_map,List.map_map,List.map_map]
  rfl
theorem Ka:∀(cs:List NC) (i:Int) (y:En),y∈Bm cs i→∃(k:Nat) (S:NC),cs[k]?=some S∧y.1.rule=i+k∧y.2.1∈FL S∧tkB S y.2.1=(y.1.ids,y.2.2)
|[],_,_,h=>by cases h
|S::cs,i,y,h=>by
  unfold Bm at h
  rcases List.mem_append.1 h with h|h
  · obtain⟨b,hb,rfl⟩:=List.mem_map.1 h
    exact⟨0,S,rfl,by show i=i+((0:Nat):Int);omega,hb,rfl⟩
  · obtain⟨k,T,h1,h2,h3,h4⟩:=Ka cs (i+1) y h
    exact⟨k+1,T,h1,by rw[h2];omega,h3,h4⟩
theorem NT.Ok.end_{N:NT}{R:List Rl}(h:N.Ok R){y:En}(hy:y∈Bm N.cs 0):∃(k:Nat) (x:Rl),R[k]?=some x∧y.1.rule=k∧(y.1.ids,y.2.2)∈Mat.mats x N.fs:=by
 obtain⟨k,S,h1,h2,h3,h4⟩:=Ka N.cs 0 y hy
 have hk:k<R.length:=by rw[←h.cl];exact(List.getElem?_eq_some_iff.1 h1).1
 refine⟨k,R[k],List.getElem?_eq_getElem hk,by rw[h2];omega,?_⟩
 have hC:=h.ch k R[k] S (List.getElem?_eq_getElem hk) h1
 have:=(Lp hC h.f0 h.nodup).mem_iff.1 (List.mem_map_of_mem h3)
 rw[h4] at this
 exact this
theorem NT.Ok.ends{N:NT}{R:List Rl}(h:N.Ok R):((Bm N.cs 0).map Prod.fst).Perm (Mat.raws R N.fs):=LG N.cs R N.fs 0 h.f0 h.nodup h.cl h.ch
theorem flatR_perm{f g:Rl→List (List Int)}(h:∀x,(f x).Perm (g x)):∀(l:List Rl) (i:Int),(Mat.flatR f l i).Perm (Mat.flatR g l i)
|[],_=>.refl _
|x::l,i=>by
  unfold Mat.flatR
  exact((h x).map _).append (flatR_perm h l (i+1))
theorem SM{F G:List Fc}(h:F.Perm G)(R:List Rl):(Mat.raws R F).Perm (Mat.raws R G):=flatR_perm (fun x=>(from_perm h x.pats [] Mat.empty).map _) R 0
theorem sortM_perm{l m:List Mt}(h:l.Perm m):Mat.sortM l=Mat.sortM m:=Mat.sortM_eq ((Mat.sortM_srt l).2.trans h) (Mat.sortM_srt l).1
end
section
attribute [local push_cast] Ad Ae Ao V.cells_mk V.cells_len Nat.mul_one Int.sub_zero List.map_nil beq_self_eq_true bne_self_eq_false List.head?_cons Bool.not_true Bool.not_false Nat.zero_add
attribute [-instance] Aq Av Am AV
theorem RoundC.inhab{P:Program}{l:Nat}{args:List D}{st:St}{R:D→St→Prop}{w:World}(h:RoundC P l args st R){us:List Value}(hr:RepL (OwnS st) w us args)(hh:Holds st w):∃d st',R d st':=by
 obtain⟨fn,t,a,b, -, -,h2⟩:=h us.toArray w (by simpa using hr) hh
 obtain⟨e,w',⟨v, -,d,s, -, -, -,k⟩, -⟩:=h2 (Frame.round l fn t a b .normal) [] (by first|trivial|simp[FR,Fence.room])
 exact⟨d,s,k⟩
theorem TrF.inhabV{P:Program}{f:FuncId}{ds:List D}{st:St}{w:World}{R:D→St→Prop}(h:TrF P f ds st R){us:List Value}(hr:RepL (OwnS st) w us ds)(hh:Holds st w):∃w' v d st',Rep (OwnS st') w' v d∧Holds st' w'∧R d st':=by
 obtain⟨e,w',fr,⟨v, -,d,st',h1,h2, -,h4⟩, -⟩:=h us.toArray w (by simpa using hr) hh []
 exact⟨w',v,d,st',h1,h2,h4⟩
section
variable {P:Program} {r:Option Nat} {A:AA} {m:Option Ro} {k:D→St→Prop} {dst:Option Tmp} {ty:TypeId} {pos:String} {aft:Array Edge} {gd:Option (Nat×Bool)}
theorem UH{l:Nat}{X:Type}{args:X→List D}{L:List X}{J Jx:Nat→St→Prop}{f:St→St}{K C:St}{i:Nat}{x:X}{g:Operand}{oas:Array Operand}{tys:Array TypeId}{ds:List D}
 (hY:El P l args L J Jx)(hJ:J i C)(hx:L[i]?=some x)(hin:∃C',J (i+1) C'∨Jx (i+1) C')(hg:ev A.e g=some (.fn (.yield l) [] []))(ha:evL A.e oas.toList=some ds)(hle:LEL ds (args x))(hf:∀C,f C=K++C)
 (hk1:∀C',J (i+1) C'→AE m (f C')∧k (.s (.bool true)) (f C'))(hk0:∀C',Jx (i+1) C'→AE m (f C')∧k (.s (.bool false)) (f C')):S P r m ⟨dst,.call ⟨.value g,oas,tys⟩,ty,pos,aft,gd⟩ A (f C) k:=by
 refine Bk (R:=fun d st'=>∃C',st'=f C'∧((d=.s (.bool true)∧J (i+1) C')∨(d=.s (.bool false)∧Jx (i+1) C'))) rfl (Ih rfl rfl hg ha ?_) ?_ ?_
 · refine(RoundC.perm (by rw[hf];exact List.perm_append_comm) (hY i x C K hx hJ) ?_).le hle
   rintro d s ⟨C',rfl,hc⟩
   exact⟨f C',by rw[hf];exact List.perm_append_comm,C',rfl,hc⟩
 · rcases hin with⟨C',h|h⟩
   · exact⟨_,_,C',rfl,.inl ⟨rfl,h⟩⟩
   · exact⟨_,_,C',rfl,.inr ⟨rfl,h⟩⟩
 · rintro d st' ⟨C',rfl,⟨rfl,h⟩|⟨rfl,h⟩⟩
   · exact hk1 C' h
   · exact hk0 C' h
end
theorem Vx(S:NC)(k:Nat)(x:Nd)(hx:S.ns[k]?=some x)(hS:Nt.Str S [])(st:St):TrF Tryz.prog 104 [.ptr S.g (k*9+6)] (S.st++st) fun d st'=>d=.fn (.func 141) [] [.ip [.sl .shared (Cr x.ts)]]∧st'=S.st++st:=by
 have h6:=(NC.at_T hx).append_right st
 simp only[List.cons_append,List.append_assoc] at h6
 have h8:=IR S.g 115 (Fe S.ns k x) (CO S.ns k S.zs) x.tm x.ts (hS.okx x (List.mem_of_getElem? hx)).2 (Nt.ts_len hS hx) (x.fm.resF x.fs++(S.off k++st))
 rw[FF hx] at h8
 exact TrF.permPost h6 (h8.mono fun d st' ⟨e1,e2⟩=>⟨_,⟨e1,rfl⟩,by rw[e2];exact h6.symm⟩)
theorem Ob(n:D)(hn:n=.s (.pointer none)∨∃b,n=.ptr b 0)(st:St):TrF Tryz.prog 70 [n] st fun d st'=>d=.fn (.func 106) [] [.ip [n]]∧st'=st:=by
 rcases hn with rfl|⟨b,rfl⟩
 · refine Qin [2] Tryz.func70 Tryz.results70 Tryz.ntmps70 ?_
   exact WR
 · refine Qin [2] Tryz.func70 Tryz.results70 Tryz.ntmps70 ?_
   exact WR
def HasN (N:NT)(C:St):Prop:=∃C',C.Perm (N.st++C')
theorem HasN.app{N:NT}(C B:St)(h:HasN N C):HasN N (C++B):=by
 obtain⟨C',h⟩:=h
 exact⟨C'++B,by rw[←List.append_assoc];exact h.append_right B⟩
def Yw (y:En):List D:=[.agg y.1.cells,.ptr y.2.1 0]
theorem OD(N:NT)(R:List Rl)(hN:N.Ok R)(hR:R.length≤1000):WL Tryz.prog 106 [.ip [.ptr N.b 0]] Yw (Bm N.cs 0) [] (fun R=>R=[]) (fun _ R=>R=[]) (HasN N):=by
 intro l C J Jx hY hPr hJ
 obtain⟨J',hJ'⟩:∃J':Nat→St→Prop,J'=fun i C0=>∃C',J i C'∧C0.Perm C':=⟨_,rfl⟩
 have HY:Hid (El Tryz.prog l Yw (Bm N.cs 0) J' Jx):=by
  subst hJ'
  rintro i x C0 K hx ⟨C',h1,h2⟩
  refine RoundC.perm (h2.append_right K) (hY i x C' K hx h1) ?_
  rintro d s ⟨C1,rfl,⟨e,h⟩|⟨e,h⟩⟩
  · exact⟨_,.refl _,C1,rfl,.inl ⟨e,C1,h,.refl _⟩⟩
  · exact⟨_,.refl _,C1,rfl,.inr ⟨e,h⟩⟩
 have HP:Hid (∀i C0,J' i C0→∃C',C0.Perm (N.st++C')∧J' i (N.st++C')):=by
  subst hJ'
  rintro i C0 ⟨C1,h1,h2⟩
  obtain⟨C',h3⟩:=hPr i C1 h1
  exact⟨C',h2.trans h3,C1,h1,h3.symm⟩
 have HE:Hid (∀C0,J' (Bm N.cs 0).length C0→∃C1,J (Bm N.cs 0).length C1∧C0.Perm C1):=by
  subst hJ'
  rintro C0 ⟨C1,h1,h2⟩
  exact⟨C1,h1,h2⟩
 have H0:Hid (J' 0 C):=by
  subst hJ'
  exact⟨C,hJ,.refl _⟩
 obtain⟨E,hE⟩:∃E,E=Bm N.cs 0:=⟨_,rfl⟩
 rw[←hE] at HY HE
 have E0:Hid (E.drop 0=Bm (N.cs.drop 0) ((0:Nat):Int)):=by rw[List.drop_zero,List.drop_zero];exact hE
 have HN:=Lib.hid hN
 have hcl:N.cs.length≤1000:=by have:=hN.cl;omega
 rw[←hE]
 clear hY hJ hPr hJ' hN hR hE
 refine Qin [] Tryz.func106 Tryz.results106 Tryz.ntmps106 ?_
 obtain⟨C',hC',H1⟩:=HP.out 0 C H0.out
 obtain⟨W,hW⟩:∃W,W=N.fm.resF N.fs++N.cs.flatMap NC.st++C':=⟨_,rfl⟩
 have hNs:∀C',N.st++C'=.box N.b 105 N.cells::(N.fm.resF N.fs++N.cs.flatMap NC.st++C'):=fun C'=>rfl
 refine Af (st':=.box N.b 105 N.cells::W) (by rw[hW,←hNs];exact hC') ?_
 rw[hNs,←hW] at H1
 clear H0 hC' hW
 have hrl:N.row.length=N.cs.length:=by unfold NT.row;rw[List.length_map]
 obtain⟨m0,m1,m2,hm⟩:=N.fm.cells3 N.fs.length
 have hcells:N.cells=[.sl .shared N.row,m0,m1,m2]:=by unfold NT.cells;rw[hm]
 rw[hcells] at hNs H1 ⊢
 have hrow:Hid (∀(i:Nat) (S:NC),N.cs[i]?=some S→N.row[i]?=some [.ptr S.c 0]):=fun i S h=>by unfold NT.row;rw[List.getElem?_map,h];rfl
 obtain⟨ROW,hROW⟩:∃ROW,ROW=N.row:=⟨_,rfl⟩
 rw[←hROW] at hNs hrl hrow H1 ⊢
 replace hROW:=Lib.hid hROW
 obtain⟨n,hn⟩:∃n,n=N.cs.length:=⟨_,rfl⟩
 rw[←hn] at hcl hrl
 obtain⟨nb,hnb⟩:∃nb,nb=N.b:=⟨_,rfl⟩
 rw[←hnb]
 replace hn:=Lib.hid hn
 replace hnb:=Lib.hid hnb
 replace hNs:=Lib.hid hNs
 replace H1:=Lib.hid H1
 clear hcells hm
 repeat' (first|refine QV ?_|((with_reducible apply Ez);(focus kernel_rfl);(focus exact q_v))|refine QY ?_|(refine QB ?_;intro b)|(with_reducible refine QZ ?_<;>(try constructor)<;>intro hb<;>try intro hb1)|fail)
 refine Aj (ι:=Nat) (fun i A st'=>∃(C':St) (off:Nat) (rs:List Nat),i≤n∧Hid (J' off C')∧Hid (E.drop off=Bm (N.cs.drop i) i)∧off≤E.length∧A.df=rs.map BV∧A.e 2=.ip [.fn (.yield l) [] []]∧A.e 11=.sl .shared ROW∧A.e 12=.i n∧A.e 13=.i i∧st'=rs.map Al++C') (fun i=>n - i) 0 ⟨_,0,[],Nat.zero_le _,H1,E0,Nat.zero_le _,Qf,Qf,Qf,Qf,Qf,by rw[hnb.out];rfl⟩ ?_
 clear H1 E0
 rintro i A st' ⟨C1,off,rs,hi,HJ,HO,hol,hdf,e2,e11,e12,e13,rfl⟩
 by_cases hlt:i<n
 · obtain⟨S,hS⟩:∃S,N.cs[i]?=some S:=⟨_,List.getElem?_eq_getElem (by rw[←hn.out];exact hlt)⟩
   obtain⟨x,hx⟩:∃x,R[i]?=some x:=⟨_,List.getElem?_eq_getElem (by rw[←HN.out.cl,←hn.out];exact hlt)⟩
   have hC:=HN.out.ch i x S hx hS
   have hrc:=hrow.out i S hS
   obtain⟨y,hy, -⟩:=hC.last
   have hlast:FL S=y.ts:=Ij (by rw[hC.nl];exact hy)
   have hOd:=HO.out
   rw[PQ hS] at hOd
   have hEc:∀(j b:Nat),y.ts[j]?=some b→E[off+j]?=some (⟨i,(tkB S b).1⟩,b,(tkB S b).2):=fun j b hb=>by
    have h1:(E.drop off)[j]?=(II S i)[j]?:=by
     rw[hOd,List.getElem?_append_left]
     unfold II
     rw[hlast,List.length_map]
     exact(List.getElem?_eq_some_iff.1 hb).1
    rw[List.getElem?_drop] at h1
    rw[h1]
    unfold II
    rw[hlast,List.getElem?_map,hb]
    rfl
   have hcel:(II S i).length=y.ts.length:=by unfold II;rw[List.length_map,hlast]
   have hO2:Hid (E.drop (off+y.ts.length)=Bm (N.cs.drop (i+1)) (i+1:Nat)):=by
    rw[←List.drop_drop,hOd,←hcel,List.drop_left]
    exact Lib.hid rfl
   have hol2:Hid (off+y.ts.length≤E.length):=by
    have h1:=congrArg List.length hOd
    rw[List.length_drop,List.length_append,hcel] at h1
    show _≤_
    omega
   have hw:Hid (∀(j b:Nat),y.ts[j]?=some b→∃w∈S.H,w.b=b∧(tkB S b).1=Eh S w):=fun j b hb=>by
    obtain⟨w,w1,w2, -⟩:=(hC.str.tm _ y hy b).1 (List.mem_of_getElem? hb)
    refine⟨w,w1,w2,?_⟩
    rw[←w2,OT hC.str w1]
    rfl
   have htl:=Nt.ts_len hC.str hy
   obtain⟨C2,hC2,hJ2⟩:=HP.out off C1 HJ.out
   obtain⟨RR,hRR⟩:∃RR,RR=Res.box N.b 105 (.sl .shared N.row::N.fm.cells N.fs.length)::(N.fm.resF N.fs++(((N.cs.take i).flatMap NC.st++(N.cs.drop (i+1)).flatMap NC.st)++C2)):=⟨_,rfl⟩
   have hat:Hid (∀s,∃RR,(N.st++s).Perm (S.st++RR)):=fun s=>⟨_,EH (N:=N) (M:=N.fm) (F:=N.fs) hS s⟩
   obtain⟨RR,hRR⟩:=hat.out C2
   obtain⟨X,hX⟩:∃X,X=Res.box S.g 115 (Az S.ns++S.zs)::((S.ns.flatMap Nd.res++S.H.flatMap Tok.res)++(RR++rs.map Al)):=⟨_,rfl⟩
   have hSX:S.st++(RR++rs.map Al)=.box S.c 109 [.ar S.g 0 S.ns.length S.cap]::X:=by rw[hX];rfl
   have hp1:(rs.map Al++C1).Perm (.box S.c 109 [.ar S.g 0 S.ns.length S.cap]::X):=by
    rw[←hSX,←List.append_assoc]
    exact(List.perm_append_comm (l₁:=rs.map Al)).trans ((hC2.trans hRR).append_right _)
   have hall:Hid (∀B:Res,TrF Tryz.prog 104 [.ptr S.g (x.pats.length*9+6)] (B::.box S.c 109 [.ar S.g 0 S.ns.length S.cap]::X) fun d st'=>d=.fn (.func 141) [] [.ip [.sl .shared (Cr y.ts)]]∧st'=B::.box S.c 109 [.ar S.g 0 S.ns.length S.cap]::X):=fun B=>by
    rw[←hSX]
    exact TrF.permPost List.perm_middle.symm ((Vx S _ y hy hC.str (B::(RR++rs.map Al))).mono fun d st' ⟨e1,e2⟩=>⟨_,⟨e1,rfl⟩,by rw[e2];exact List.perm_middle⟩)
   have hids:Hid (∀(j b:Nat),y.ts[j]?=some b→∀(B:Res) (M:St) (s:St),TrF Tryz.prog 107 [.ptr b 0] (B::(M++(N.st++s))) fun d st'=>d=.sl .shared ((tkB S b).1.map Ae)∧st'=B::(M++(N.st++s))):=fun j b hb B M s=>by
    obtain⟨w,w1,w2,w3⟩:=hw.out j b hb
    obtain⟨R2,hR2⟩:=hat.out s
    have hp:(B::(M++(N.st++s))).Perm (S.st++(R2++(B::M))):=by
     show List.Perm ((B::M)++(N.st++s)) _
     rw[←List.append_assoc S.st]
     exact List.perm_append_comm.trans (hR2.append_right _)
    rw[w3,←w2]
    exact TrF.permPost hp ((fe S w hC.str w1 _).mono fun d st' ⟨e1,e2⟩=>⟨_,⟨e1,rfl⟩,by rw[e2];exact hp.symm⟩)
   have hpj:Hid (∀j,j≤0→J' (off+j) C1):=fun j hj=>by
    have:off+j=off:=by omega
    rw[this];exact HJ.out
   have hnl:=hC.nl
   have hp4:x.pats.length≤4:=by have:=hC.str.nl;omega
   have hcap:S.ns.length≤S.cap:=by
    have:=hC.str.row
    rw[List.length_append,AZ] at this
    omega
   rw[hnl] at hp1 hall hcap
   replace hEc:=Lib.hid hEc
   have hIt:=Lib.hid (IQ y.ts htl)
   refine Af hp1 ?_
   have hp1s:Hid ((Res.box S.c 109 [.ar S.g 0 (x.pats.length+1) S.cap]::X).Perm (rs.map Al++C1)):=hp1.symm
   clear hp1 hSX hX hRR hC2 hJ2 hat hw htl hcel hOd hlast hy hC hx hS hnl hrow
   generalize Cr y.ts=LP at *
   generalize x.pats.length=pl at *
   generalize S.c=sc at *
   generalize S.g=sg at *
   generalize S.cap=scap at *
   have hpl1:(pl:Int)+1 - 1=pl:=by omega
   repeat' (first|refine QV ?_|((with_reducible apply(Bf (id:=5) [(sc,[.ar sg 0 (pl+1) scap])]));(iterate 3 (focus kernel_rfl));(focus exact q_k);intro hne;(try simp only[nes,ne1,and_assoc] at hne);repeat(have hq:=hne.1;replace hne:=hne.2))|((with_reducible refine And.intro ?_ ?_);(focus exact q_k))|((with_reducible apply(Br Tryz.call104));(focus exact List.Perm.refl _);(focus exact hall.out _);(focus exact LEL.refl _);(focus exact⟨_,_,rfl,rfl⟩);(rintro d2 st2 ⟨rfl,rfl⟩;refine⟨by((repeat(first|exact An|refine Aw q_m ?_));done),?_⟩))|(with_reducible refine Bl ?_)|refine QY ?_|(refine QB ?_;intro b)|(with_reducible refine QZ ?_<;>(try constructor)<;>intro hb<;>try intro hb1)|fail)
   obtain⟨ib,rfl⟩:∃q,q=b:=⟨_,rfl⟩
   refine Af (st':=[]++(.box ib 3 [.i i]::(rs.map Al++C1))) (hp1s.out.cons _) ?_
   refine Dx hIt.out Tryz.call141 q_v (fun _=>rfl) rfl (fun j Cc=>∃C3,Cc=.box ib 3 [.i i]::(rs.map Al++C3)∧J' (off+j) C3) (fun c j Cc=>c=Code.ret∧∃C3 i',Cc=.box ib 3 [.i i]::(rs.map Al++C3)∧Jx i' C3) ⟨C1,rfl,HJ.out⟩ ?_ ?_ ?_
   · rintro l2 j tb Cc K hb ⟨C3,rfl,hJ3⟩
     have hx:=hEc.out j tb hb
     have hid:=hids.out j tb hb
     obtain⟨C4,hp4,hJ4⟩:=HP.out _ _ hJ3
     clear hEc hids hall hIt HP HE hO2 hol2 HO hpj hb
     generalize (tkB S tb).2=tenv at *
     generalize (tkB S tb).1=tids at *
     refine(?_:Tr _ _ _ _ (AA.put ⟨_,[]⟩ (some 31) (.ptr tb 0)) (.box ib 3 [.i i]::((rs.map Al++C3)++K)) _)
     repeat' (first|refine QX ?_|(refine QB ?_;intro b)|(with_reducible refine QZ ?_<;>(try constructor)<;>intro hb<;>try intro hb1)|fail)
     refine⟨.box ib 3 [.i i]::(rs.map Al++C3),List.Sublist.refl _,fun K'=>?_⟩
     clear K
     obtain⟨YC,hYC⟩:∃YC,YC=N.st++C4:=⟨_,rfl⟩
     obtain⟨M,hM⟩:∃M,M=rs.map Al++K':=⟨_,rfl⟩
     have hid2:=Lib.hid (hid (.box ib 3 [.i i]) M C4)
     rw[←hYC] at hid2 hJ4 hp4
     have hpm:((.box ib 3 [.i i]::(rs.map Al++C3))++K').Perm (.box ib 3 [.i i]::(M++YC)):=by
      rw[hM,List.cons_append,List.append_assoc,List.append_assoc]
      exact((List.perm_append_comm.trans (hp4.append_left K')).append_left _).cons _
     have hback:Hid (∀C5,(Res.box ib 3 [.i i]::(M++C5)).Perm ((.box ib 3 [.i i]::(rs.map Al++C5))++K')):=fun C5=>by
      rw[hM,List.cons_append,List.append_assoc,List.append_assoc]
      exact(List.perm_append_comm.append_left _).cons _
     have hinh:Hid ((∃w,Holds (.box ib 3 [.i i]::(M++YC)) w)→∃C',J' (off+j+1) C'∨Jx (off+j+1) C'):=fun⟨w,hw⟩=>by
      obtain⟨w',v,d,st2,k1,k2,rfl,rfl⟩:=hid2.out.inhabV (us:=[.pointer (some ⟨tb,0,none⟩)]) (RepL.cons (.ptr _ _) .nil) hw
      have hpp:(Res.box ib 3 [.i i]::(M++YC)).Perm (YC++(.box ib 3 [.i i]::M)):=(List.perm_append_comm (l₁:=Res.box ib 3 [.i i]::M) (l₂:=YC))
      rw[OwnS.perm hpp] at k1
      have hagg:Rep (OwnS (YC++(.box ib 3 [.i i]::M))) w' (.agg #[.int .i64 i,v]) (.agg [.i i,.sl .shared (tids.map Ae)]):=by
       have h3:RepL (OwnS (YC++(.box ib 3 [.i i]::M))) w' [.int .i64 i,v] [.i i,.sl .shared (tids.map Ae)]:=RepL.cons (.s _ rfl) (RepL.cons k1 .nil)
       exact .agg [_,_] _ h3.1 h3.2
      obtain⟨d2,st3,C', -,h5⟩:=(HY.out _ _ YC (.box ib 3 [.i i]::M) hx hJ4).inhab (us:=[.agg #[.int .i64 i,v],.pointer (some ⟨tb,0,none⟩)]) (RepL.cons hagg (RepL.cons (.ptr _ _) .nil)) (k2.perm hpp)
      rcases h5 with⟨-,h⟩|⟨-,h⟩
      · exact⟨C',.inl h⟩
      · exact⟨C',.inr h⟩
     refine De ?_
     refine Af hpm ?_
     have hye:Yw (⟨(i:Int),tids⟩,tb,tenv)=[.agg [.i i,.sl .shared (tids.map Ae)],.ptr tb 0]:=rfl
     generalize tids.map Ae=IC at *
     replace hJ4:=Lib.hid hJ4
     clear hpm hM hp4 hJ3 hid hYC
     repeat' (first|refine QV ?_|((with_reducible apply(FX (id:=7) [(ib,[.i i])]));(iterate 3 (focus kernel_rfl));(focus exact q_k);intro hne;(try simp only[nes,ne1,and_assoc] at hne);(repeat(have hq:=hne.1;replace hne:=hne.2));intro hw)|((with_reducible refine And.intro ?_ ?_);(focus exact q_k))|((with_reducible apply(UH (f:=fun x=>.box ib 3 [.i i]::(M++x)) (K:=.box ib 3 [.i i]::M) HY.out hJ4.out hx (hinh.out hw)));(focus exact q_v);(focus exact q_v);(focus(rw[hye];exact LEL.refl _));(focus exact fun _=>rfl);all_goals(intro C' hC';refine⟨by((repeat(first|exact An|refine Aw q_m ?_));done),?_⟩))|((with_reducible apply(Br Tryz.call107));(focus exact List.Perm.refl _);(focus exact hid2.out);(focus exact LEL.refl _);(focus exact⟨_,_,rfl,rfl⟩);(rintro d2 st2 ⟨rfl,rfl⟩;refine⟨by((repeat(first|exact An|refine Aw q_m ?_));done),?_⟩))|(with_reducible refine Bl ?_)|refine QY ?_|(refine QB ?_;intro b)|(with_reducible refine QZ ?_<;>(try constructor)<;>intro hb<;>try intro hb1)|fail)
     · exact⟨(.box ib 3 [.i i]::(rs.map Al++C'))++K',hback.out C',_,List.Sublist.refl _,C',rfl,hC'⟩
     · exact⟨(.box ib 3 [.i i]::(rs.map Al++C'))++K',hback.out C',_,List.Sublist.refl _,rfl,C',_,rfl,hC'⟩
   · rintro d K1 C' rfl ⟨C3,rfl,hJ3⟩
     clear hEc hids hall hIt HP HE hpj HO hol
     change Tr _ _ _ _ _ _ _
     refine Af (st':=.box ib 3 [.i i]::(Al d::(rs.map Al++C3))) (List.Perm.swap _ _ _) ?_
     repeat' (first|refine QX ?_|(refine QB ?_;intro b)|(with_reducible refine QZ ?_<;>(try constructor)<;>intro hb<;>try intro hb1)|fail)
     refine⟨i+1,Al d::(rs.map Al++C3),(List.Sublist.refl _).cons _,⟨C3,off+y.ts.length,d::rs,hlt,Lib.hid hJ3,hO2,hol2.out,?_,?_,?_,?_,?_,rfl⟩,by omega⟩
     all_goals first|exact congrArg (List.cons (BV d)) hdf|exact Qf
   · rintro c d j K1 C' rfl ⟨rfl,C3,i',rfl,hJ3⟩
     clear hEc hids hall hIt HP HE hpj HO hol hO2 hol2
     change Tr _ _ _ _ _ _ _
     refine Af (st':=.box ib 3 [.i i]::(Al d::(rs.map Al++C3))) (List.Perm.swap _ _ _) ?_
     repeat' (first|refine QX ?_|(refine QB ?_;intro b)|(with_reducible refine QZ ?_<;>(try constructor)<;>intro hb<;>try intro hb1)|fail)
     exact DM (rs:=d::rs) q_x (congrArg (List.cons (BV d)) hdf) (s2:=.box ib 3 [.i i]::C3) ((List.perm_middle (l₁:=Al d::rs.map Al)).symm) (List.sublist_cons_self ..) (LE.refl _) ⟨[],C3,rfl,.inr ⟨_,rfl,hJ3⟩⟩
 · have hil:i=n:=by omega
   subst hil
   have hO3:E.drop off=[]:=by
    rw[HO.out,List.drop_of_length_le (l:=N.cs) (by rw[←hn.out];exact Nat.le_refl _)]
    rfl
   have hoff:off=E.length:=by
    have:=List.drop_eq_nil_iff.1 hO3
    omega
   subst hoff
   obtain⟨C2,h1,h2⟩:=HE.out _ HJ.out
   clear HO hO3 HE HP HY HJ
   repeat' (first|refine QX ?_|(refine QB ?_;intro b)|(with_reducible refine QZ ?_<;>(try constructor)<;>intro hb<;>try intro hb1)|fail)
   exact DM q_x hdf (h2.append_left _) (List.Sublist.refl _) (LE.refl _) ⟨[],C2,rfl,.inl ⟨rfl,h1⟩⟩
end
section
attribute [local push_cast] Ad Ae Ao V.cells_mk V.cells_len Nat.mul_one Int.sub_zero List.map_nil beq_self_eq_true bne_self_eq_false List.head?_cons Bool.not_true Bool.not_false Nat.zero_add
theorem OutS.hasN{N:NT}{b:Nat}{acc:List Mt}{st C core:St}(hp:C.Perm core)(h:OutS b acc (N.st++st) core):HasN N C:=by
 rcases h with⟨-,rfl⟩|⟨-,g,cap,zs, -,rfl⟩
 · exact⟨_,hp.trans List.perm_middle.symm⟩
 · exact⟨_,hp.trans ((List.perm_middle.symm.cons _).trans List.perm_middle.symm)⟩
theorem JD(N:NT)(R:List Rl)(hN:N.Ok R)(hR:R.length≤1000)(hl:(Bm N.cs 0).length≤1000000)(hid:∀y∈Bm N.cs 0,y.1.ids.length≤1000000)(st:St):TrF Tryz.prog 37 [.ptr N.b 0] (N.st++st) (AllRaw ((Bm N.cs 0).map Prod.fst) (N.st++st)):=by
 have hIt:=Lib.hid (OD N R hN hR)
 have hEn:=Lib.hid fun(st:St)=>Ob (.ptr N.b 0) (.inr ⟨_,rfl⟩) st
 have HasO:=Lib.hid fun(b:Nat) (acc:List Mt) (C core:St) (hp:C.Perm core) (h:OutS b acc (N.st++st) core)=>h.hasN hp
 have happ:=Lib.hid fun(C B:St) (h:HasN N C)=>h.app C B
 generalize Bm N.cs 0=E at *
 generalize N.st++st=RS at *
 generalize HasN N=PN at *
 generalize N.b=nb at *
 clear hN hR
 refine Qin [2] Tryz.func37 Tryz.results37 Tryz.ntmps37 ?_
 repeat' (first|refine QX ?_|(refine QB ?_;intro b)|(with_reducible refine QZ ?_<;>(try constructor)<;>intro hb<;>try intro hb1)|refine Qc Tryz.call70 ((hEn.out _)) ?_|fail)
 revert b
 intro b3
 refine Af (st':=[]++(.box b3 48 [.sl .tight []]::RS)) (.refl _) ?_
 refine FY hIt.out Tryz.call106 q_v (fun _=>rfl) rfl (fun j C=>∃core,C.Perm core∧OutS b3 ((E.take j).map Prod.fst) RS core) (fun _ _ _=>False) happ.out (fun i C ⟨core,hp,h⟩=>HasO.out _ _ _ _ hp h) ⟨_,.refl _,.inl ⟨rfl,rfl⟩⟩ ?_ ?_ (fun _ _ _ _ _ _ h=>h.elim)
 · rintro l j y C K hy ⟨core,hp,hO⟩
   have hs:(E.take (j+1)).map Prod.fst=(E.take j).map Prod.fst++[y.1]:=by rw[List.take_add_one,hy,Option.toList_some,List.map_append];rfl
   have hl1:((E.take j).map Prod.fst).length≤1000000:=by rw[List.length_map,List.length_take];omega
   have hyc:Yw y=[.agg [.i y.1.rule,.sl .shared (y.1.ids.map Ae)],.ptr y.2.1 0]:=rfl
   have hmc:Mt.cells y.1=[.i y.1.rule,.sl .shared (y.1.ids.map Ae)]:=rfl
   clear hIt hEn hl hid HasO happ hy
   generalize (E.take j).map Prod.fst=acc at *
   obtain⟨me,yb,ye⟩:=y
   dsimp only at *
   generalize hY1:me.ids.map Ae=Y1 at *
   generalize hri:me.rule=ri at *
   refine Af (hp.append_right K) ?_
   refine(?_:Tr _ _ _ _ (AA.put (AA.put ⟨_,[]⟩ (some 7) (.agg [.i me.rule,.sl .shared (me.ids.map Ae)])) (some 8) (.ptr yb 0)) (core++K) _)
   rw[hY1,hri]
   clear hp
   repeat' (first|refine QX ?_|(refine QB ?_;intro b)|(with_reducible refine QZ ?_<;>(try constructor)<;>intro hb<;>try intro hb1)|fail)
   revert b
   intro b4
   refine⟨.box b4 52 [.i ri,.sl .shared Y1]::core,List.Sublist.refl _,fun K'=>?_⟩
   clear K
   rcases hO with⟨hnil,rfl⟩|⟨hne,g,cap,zs,hz,rfl⟩
   · subst hnil
     have hrm:BU [me]=[[D.i ri,D.sl .shared Y1]].flatten:=by
      unfold BU
      rw[List.map_cons,hmc];rfl
     refine(?_:Tr _ _ _ _ _ (.box b4 52 [.i ri,.sl .shared Y1]::.box b3 48 [.sl .tight []]::(RS++K')) _)
     repeat' (first|refine QV ?_|with_reducible refine Em ?_|with_reducible refine Gs ?_|((with_reducible apply Eo);(focus exact q_n);(focus exact AF rfl);(focus exact q_n);(focus exact q_n);intro g' cap' zs' hc hl')|refine QY ?_|(refine QB ?_;intro b)|(with_reducible refine QZ ?_<;>(try constructor)<;>intro hb<;>try intro hb1)|fail)
     refine⟨.box g' 52 (_++zs')::.box b3 48 [.ar g' 0 1 cap']::RS,((List.Sublist.refl _).cons _).cons_cons _,.box b3 48 [.ar g' 0 1 cap']::.box g' 52 ([[D.i ri,D.sl .shared Y1]].flatten++zs')::RS,List.Perm.swap _ _ _,.inr ⟨?_,g',cap',zs',?_,?_⟩⟩
     · rw[hs];exact List.cons_ne_nil _ _
     · rw[hs,List.nil_append,hrm];exact hl'
     · rw[hs,List.nil_append,hrm];rfl
   · have hrl:(BU acc).length=acc.length*2:=ED _
     refine(?_:Tr _ _ _ _ _ (.box b4 52 [.i ri,.sl .shared Y1]::.box b3 48 [.ar g 0 acc.length cap]::.box g 52 (BU acc++zs)::(RS++K')) _)
     have hra:=UT acc me
     rw[hmc] at hra
     have hle:(acc++[me]).length=acc.length+1:=List.length_append
     generalize BU acc=RW at *
     generalize acc.length=n at *
     repeat' (first|refine QV ?_|with_reducible refine DK ?_|with_reducible refine FD ?_|((with_reducible apply(DN hrl hz));(focus(intro g' cs';repeat(first|exact Dl|apply Dk)));(focus exact AF rfl);(iterate 2 (focus exact q_n));intro g' cap' zs' hc hl')|refine QY ?_|(refine QB ?_;intro b)|(with_reducible refine QZ ?_<;>(try constructor)<;>intro hb<;>try intro hb1)|fail)
     refine⟨.box b3 48 [.ar g' 0 (n+1) cap']::.box g' 52 (RW++[[D.i ri,D.sl .shared Y1]].flatten++zs')::RS,(List.Sublist.refl _).cons _,_,.refl _,.inr ⟨?_,g',cap',zs',?_,?_⟩⟩
     · rw[hs];exact List.append_ne_nil_of_right_ne_nil _ (List.cons_ne_nil _ _)
     · rw[hs,hra];exact hl'
     · rw[hs,hra,hle]
 · rintro d K1 C' rfl ⟨core,hp,hO⟩
   rw[List.take_length] at hO
   have hAi:∀m∈E.map Prod.fst,m.ids.length≤1000000:=fun m hm=>by
    obtain⟨y,hy,rfl⟩:=List.mem_map.1 hm
    exact hid y hy
   have hM:(E.map Prod.fst).length≤1000000:=by rw[List.length_map];exact hl
   clear hIt hEn hl hid HasO happ
   generalize E.map Prod.fst=acc at *
   change Tr _ _ _ _ _ _ _
   rcases hO with⟨rfl,rfl⟩|⟨hne,g,cap,zs,hz,rfl⟩
   · have hSn:=Lib.hid NY
     refine Af (st':=.box b3 48 [.sl .tight []]::Al d::RS) ((hp.cons _).trans (List.Perm.swap _ _ _)) ?_
     clear hp
     repeat' (first|refine QX ?_|(refine QB ?_;intro b)|(with_reducible refine QZ ?_<;>(try constructor)<;>intro hb<;>try intro hb1)|refine Qc Tryz.call57 ((hSn.out _)) ?_|fail)
     exact DM (rs:=[d]) q_x q_y (s2:=.box b3 48 [.sl .tight []]::RS) (List.Perm.swap _ _ _) (List.sublist_cons_self ..) (LE.of_eq q_v) (.inl ⟨rfl,rfl,rfl⟩)
   · have hS:=Lib.hid (VA g cap acc zs hne hAi hM)
     have hEx:Hid (∀st:St,∃(d:D) (st':St) (l':List Mt),l'.Perm acc∧Mat.Srt l'∧d=.tup []∧st'=.box g 52 (BU l'++zs)::st):=fun st=>⟨_,_,Mat.sortM acc,(Mat.sortM_srt acc).2,(Mat.sortM_srt acc).1,rfl,rfl⟩
     refine Af (st':=.box b3 48 [.ar g 0 acc.length cap]::.box g 52 (BU acc++zs)::Al d::RS) ((hp.cons _).trans ((List.Perm.swap _ _ _).trans ((List.Perm.swap _ _ _).cons _))) ?_
     clear hp
     repeat' (first|refine QX ?_|(refine QB ?_;intro b)|(with_reducible refine QZ ?_<;>(try constructor)<;>intro hb<;>try intro hb1)|((with_reducible apply(Br Tryz.call57));(focus exact List.Perm.swap _ _ _);(focus exact hS.out _);(focus exact LEL.refl _);(focus exact hEx.out _);(rintro d st' ⟨l',hp',hs',rfl,rfl⟩))|fail)
     have hl':=Mat.sortM_eq hp' hs'
     exact DM (rs:=[d]) q_x q_y (s2:=.box g 52 (BU l'++zs)::.box b3 48 [.ar g 0 acc.length cap]::RS) (AG (AG Ba)) ((List.sublist_cons_self ..).cons_cons _) (LE.of_eq q_v) (.inr ⟨hne,g,cap,zs,rfl,by rw[hl']⟩)
theorem NT.Ok.ids_len{N:NT}{R:List Rl}(h:N.Ok R)(hp:∀x∈R,x.pats.length≤4):∀y∈Bm N.cs 0,y.1.ids.length≤4:=fun y hy=>by
 obtain⟨k,x,h1,h2,h3⟩:=h.end_ hy
 have:=Mat.mats_len h3
 have h4:=hp x (List.mem_of_getElem? h1)
 exact Nat.le_trans this h4
theorem Oa(N:NT)(R:List Rl)(hN:N.Ok R)(hR:R.length≤1000)(hp:∀x∈R,x.pats.length≤4)(hl:(Mat.raws R N.fs).length≤1000000)(st:St):TrF Tryz.prog 37 [.ptr N.b 0] (N.st++st) fun d st'=>d=.sl .shared ((Mat.sortM (Mat.raws R N.fs)).map Mt.cells)∧st'=N.st++st:=by
 have hp2:=hN.ends
 have h:=AllRaw.rest (JD N R hN hR (by have:=hp2.length_eq;rw[List.length_map] at this;omega) (fun y hy=>by have:=hN.ids_len hp y hy;omega) st)
 rw[sortM_perm hp2] at h
 exact h
theorem NT.Ok.tok_at{N:NT}{R:List Rl}(h:N.Ok R){y:En}(hy:y∈Bm N.cs 0)(s:St):∃(fd lv id:D) (UC:List D) (RJ:St),(N.st++s).Perm (.box y.2.1 119 (fd::lv::id::.sl .shared (y.2.2.map V.cells)::UC)::RJ):=by
 obtain⟨k,S,h1,h2,h3,h4⟩:=Ka N.cs 0 y hy
 have hk:k<R.length:=by rw[←h.cl];exact(List.getElem?_eq_some_iff.1 h1).1
 have hC:=h.ch k R[k] S (List.getElem?_eq_getElem hk) h1
 obtain⟨x,hx, -⟩:=hC.last
 have e:FL S=x.ts:=Ij (by rw[hC.nl];exact hx)
 rw[e] at h3
 obtain⟨w,w1,w2, -⟩:=(hC.str.tm _ x hx y.2.1).1 h3
 have he:w.env=y.2.2:=by
  rw[←w2,OT hC.str w1] at h4
  exact congrArg Prod.snd h4
 have hp:=EH (N:=N) (M:=N.fm) (F:=N.fs) h1 s
 obtain⟨UC,RJ,hq⟩:=NC.layW w1 (.box N.b 105 (.sl .shared N.row::N.fm.cells N.fs.length)::(N.fm.resF N.fs++(((N.cs.take k).flatMap NC.st++(N.cs.drop (k+1)).flatMap NC.st)++s)))
 rw[w2,he] at hq
 exact⟨_,_,_,UC,RJ,hp.trans hq⟩
theorem TY(e:List V)(h0:e≠[])(hl:e.length≤1000000)(st:St):TrF Tryz.prog 52 [.sl .shared (e.map V.cells)] st fun d st'=>d=.sl .shared (e.map V.cells)∧st'=st :=
 ((Ru .shared e h0 hl st).mono fun d st' ⟨g,cap,zs,_,h1,h2⟩=>⟨g,cap,zs,h1,h2⟩).freeze (sz:=4) (by decide) (Gb e) (List.length_map ..)
theorem Yc(N:NT)(R:List Rl)(m:Mt)(hN:N.Ok R)(hR:R.length≤1000)(hid:∀y∈Bm N.cs 0,y.1.ids.length≤1000000)(hv:∀y∈Bm N.cs 0,y.2.2≠[]∧y.2.2.length≤1000000)(hm:m.ids.length≤1000000)(st:St):TrF Tryz.prog 43 [.ptr N.b 0,.agg m.cells] (N.st++st) fun d st'=>d=Yt (((Bm N.cs 0).find? fun y=>decide (Mat.ord y.1 m=0)).map fun y=>y.2.2)∧st'=N.st++st:=by
 have hIt:=Lib.hid (OD N R hN hR)
 have hEn:=Lib.hid fun(st:St)=>Ob (.ptr N.b 0) (.inr ⟨_,rfl⟩) st
 have hOr:Hid (∀y∈Bm N.cs 0,∀st,TrF Tryz.prog 71 [.agg [.i y.1.rule,.sl .shared (y.1.ids.map Ae)],.agg m.cells] st fun d st'=>d=.i (Mat.ord y.1 m)∧st'=st):=fun y hy st=>Lh y.1 m (hid y hy) hm st
 have hTk:=Lib.hid fun(y:En) (hy:y∈Bm N.cs 0) (s:St)=>hN.tok_at hy s
 have hHas:Hid (∀A B:Res,HasN N (A::B::(N.st++st))):=fun A B=>⟨A::B::st,(List.perm_middle.symm.cons _).trans List.perm_middle.symm⟩
 have happ:=Lib.hid fun(C B:St) (h:HasN N C)=>h.app C B
 have HV:=Lib.hid hv
 clear hv hid
 generalize Bm N.cs 0=E at *
 obtain⟨q,hq⟩:∃q:En→Bool,q=fun y=>decide (Mat.ord y.1 m=0):=⟨_,rfl⟩
 have hqe:Hid (∀y:En,decide (Mat.ord y.1 m=0)=q y):=fun y=>by rw[hq]
 rw[←hq]
 generalize N.b=nb at *
 clear hN hR hq
 have hmc:m.cells=[.i m.rule,.sl .shared (m.ids.map Ae)]:=rfl
 rw[hmc] at hOr ⊢
 generalize m.ids.map Ae=MI at *
 generalize m.rule=mr at *
 clear hmc
 refine CU (G:=OS Tryz.prog (.cell 4 25) (.cell 5 4)) Tryz.func43 rfl (by rw[Tryz.ntmps43];exact Nat.le_of_ble_eq_true rfl) (fun h1 h2 h3=>Gc rfl h1 h2 h3) ?_
 simp only[Tryz.ntmps43]
 repeat' (first|refine QX ?_|(refine QB ?_;intro b)|(with_reducible refine QZ ?_<;>(try constructor)<;>intro hb<;>try intro hb1)|refine Qc Tryz.call70 ((hEn.out _)) ?_|fail)
 rename_i b6
 obtain⟨bb,rfl⟩:∃q,q=b:=⟨_,rfl⟩
 refine Af (st':=[]++(.box bb 4 [.b false]::.box b6 25 [.sl .tight []]::(N.st++st))) (.refl _) ?_
 refine FY hIt.out Tryz.call106 q_v (fun _=>rfl) rfl (fun i C=>Hid (∀y∈E.take i,q y=false)∧C=.box bb 4 [.b false]::.box b6 25 [.sl .tight []]::(N.st++st)) (fun c i C=>c=Code.ret∧∃y,E.find? q=some y∧C=.box bb 4 [.b true]::.box b6 25 [.sl .shared (y.2.2.map V.cells)]::(N.st++st)) happ.out (fun i C ⟨_,e⟩=>by rw[e];exact hHas.out _ _) ⟨Lib.hid (fun y hy=>by cases hy),rfl⟩ ?_ ?_ ?_
 · rintro l i y C K hy ⟨hT,rfl⟩
   have hym:=List.mem_of_getElem? hy
   have hO:=hOr.out y hym
   obtain⟨hv0,hv1⟩:=HV.out y hym
   have hCl:=Lib.hid (TY y.2.2 hv0 hv1)
   have htk:=Lib.hid (hTk.out y hym)
   have hf:q y=true→E.find? q=some y:=fun h=>TH hy hT.out h
   have hn:q y=false→Hid (∀z∈E.take (i+1),q z=false):=fun hq z hz=>by
    rw[List.take_add_one,hy,Option.toList_some,List.mem_append,List.mem_singleton] at hz
    rcases hz with hz|rfl
    · exact hT.out z hz
    · exact hq
   have hq1:q y=true→Mat.ord y.1 m=0:=fun h=>by rw[←hqe.out y] at h;exact of_decide_eq_true h
   have hq0:q y=false→¬Mat.ord y.1 m=0:=fun h=>by rw[←hqe.out y] at h;exact of_decide_eq_false h
   clear hIt hEn hOr hTk hHas happ HV hT hy hym hqe hm hv0 hv1
   refine(?_:Tr _ _ _ _ (AA.put (AA.put ⟨_,[]⟩ (some 10) (.agg [.i y.1.rule,.sl .shared (y.1.ids.map Ae)])) (some 11) (.ptr y.2.1 0)) (.box bb 4 [.b false]::.box b6 25 [.sl .tight []]::((N.st++st)++K)) _)
   generalize y.1.ids.map Ae=Y1 at *
   generalize y.1.rule=yr at *
   repeat' (first|refine QX ?_|(refine QB ?_;intro b)|(with_reducible refine QZ ?_<;>(try constructor)<;>intro hb<;>try intro hb1)|fail)
   obtain⟨mb,rfl⟩:∃q,q=b:=⟨_,rfl⟩
   refine⟨.box mb 52 [.i yr,.sl .shared Y1]::.box bb 4 [.b false]::.box b6 25 [.sl .tight []]::(N.st++st),List.Sublist.refl _,fun K'=>?_⟩
   clear K
   refine De ?_
   cases hqy:q y with
   | true =>
    have h0:=hq1 hqy
    have hfo:=Lib.hid (hf hqy)
    rw[h0] at hO
    obtain⟨fd,lv,id,UC,RJ,hp⟩:=htk.out (st++K')
    clear hf hn hq1 hq0 hqy htk h0
    refine Af (st':=.box mb 52 [.i yr,.sl .shared Y1]::.box bb 4 [.b false]::.box b6 25 [.sl .tight []]::.box y.2.1 119 (fd::lv::id::.sl .shared (y.2.2.map V.cells)::UC)::RJ) ((((show(N.st++st++K').Perm _ by rw[List.append_assoc];exact hp).cons _).cons _).cons _) ?_
    have hpb:Hid ((Res.box y.2.1 119 (fd::lv::id::.sl .shared (y.2.2.map V.cells)::UC)::RJ).Perm (N.st++st++K')):=by rw[List.append_assoc];exact hp.symm
    clear hp
    obtain⟨ye,hye⟩:∃ye,ye=y.2.2.map V.cells:=⟨_,rfl⟩
    rw[←hye] at hCl hpb ⊢
    obtain⟨tb,htb⟩:∃tb,tb=y.2.1:=⟨_,rfl⟩
    rw[←htb] at hpb ⊢
    replace hye:=Lib.hid hye
    replace htb:=Lib.hid htb
    replace hO:=Lib.hid hO
    repeat' (first|refine QX ?_|(refine QB ?_;intro b)|(with_reducible refine QZ ?_<;>(try constructor)<;>intro hb<;>try intro hb1)|refine Qc Tryz.call71 ((hO.out _)) ?_|refine Qc Tryz.call52 ((hCl.out _)) ?_|fail)
    exact⟨_::(_::_::(N.st++st++K')),((hpb.out.cons _).cons _).cons _,.box bb 4 [.b true]::.box b6 25 [.sl .shared ye]::(N.st++st),List.sublist_cons_self ..,rfl,y,hfo.out,by rw[hye.out]⟩
   | false =>
    have h0:=hq0 hqy
    have hno:=hn hqy
    clear hf hn hq1 hq0 hqy htk hCl
    replace hO:=Lib.hid hO
    repeat' (first|refine QX ?_|(refine QB ?_;intro b)|(with_reducible refine QZ ?_<;>(try constructor)<;>intro hb<;>try intro hb1)|refine Qc Tryz.call71 ((hO.out _)) ?_|fail)
    exact⟨_,.refl _,.box bb 4 [.b false]::.box b6 25 [.sl .tight []]::(N.st++st),List.sublist_cons_self ..,hno,rfl⟩
 · rintro d K1 C' rfl ⟨hT,rfl⟩
   have hn:=hT.out
   rw[List.take_length] at hn
   have hL:E.find? q=none:=List.find?_eq_none.2 fun x hx=>by rw[hn x hx];exact Bool.false_ne_true
   rw[hL]
   clear hIt hEn hOr hTk hHas happ HV hT hn hL hqe
   generalize N.st++st=RS at *
   change Tr _ _ _ _ _ _ _
   refine Af (st':=Al d::.box bb 4 [.b false]::.box b6 25 [.sl .tight []]::RS) (.refl _) ?_
   repeat' (first|refine QX ?_|(refine QB ?_;intro b)|(with_reducible refine QZ ?_<;>(try constructor)<;>intro hb<;>try intro hb1)|fail)
   all_goals exact Cu (rs:=[d]) (by simp) q_y (by repeat(first|exact Ba|apply AG)) ⟨_,_,rfl,Bt q_v q_m q_v q_v,Bt q_v q_m q_v q_v⟩ (((List.Sublist.refl _).cons _).cons _) (LE.refl _) ⟨rfl,rfl⟩
 · rintro c d i K1 C' rfl ⟨rfl,y,hL,rfl⟩
   rw[hL]
   clear hIt hEn hOr hTk hHas happ HV hL hqe
   unfold Yt
   dsimp only[Option.map_some]
   generalize y.2.2.map V.cells=Y2 at *
   generalize N.st++st=RS at *
   change Tr _ _ _ _ _ _ _
   refine Af (st':=Al d::.box bb 4 [.b true]::.box b6 25 [.sl .shared Y2]::RS) (.refl _) ?_
   repeat' (first|refine QX ?_|(refine QB ?_;intro b)|(with_reducible refine QZ ?_<;>(try constructor)<;>intro hb<;>try intro hb1)|fail)
   all_goals exact Cu (rs:=[d]) (by simp) q_y (by repeat(first|exact Ba|apply AG)) ⟨_,_,rfl,Bt q_v q_m q_v q_v,Bt q_v q_m q_v q_v⟩ (((List.Sublist.refl _).cons _).cons _) (LE.refl _) ⟨rfl,rfl⟩
end
section
attribute [local push_cast] Ad Ae Ao V.cells_mk V.cells_len Nat.mul_one Int.sub_zero List.map_nil beq_self_eq_true bne_self_eq_false List.head?_cons Bool.not_true Bool.not_false Nat.zero_add
attribute [-instance] Aq Av Am AV
theorem NZ(N:NT)(R:List Rl)(id:Int)(h:N.Ok R)(hR:R.length≤1000)(st:St):TrF Tryz.prog 35 [.ptr N.b 0,.i id] (N.st++st) fun d st'=>∃N':NT,N'.Ok R∧N'.b=N.b∧((id∉N.fs.map Fc.id∧N'.fs=N.fs∧d=.b false)∨(id∈N.fs.map Fc.id∧N'.fs.Perm (BG id N.fs)∧d=.b true))∧(N'.st++st).Perm st':=by
 have hget:=Mx N R id h st
 cases ha:Mat.find N.fs id with
|none =>
  have hin:id∉N.fs.map Fc.id:=fun hm=>by
   obtain⟨g,hg,e⟩:=List.mem_map.1 hm
   have:=List.find?_eq_none.1 ha g hg
   simp[e] at this
  have hfin:Hid (∃N':NT,N'.Ok R∧N'.b=N.b∧((id∉N.fs.map Fc.id∧N'.fs=N.fs∧D.b false=.b false)∨(id∈N.fs.map Fc.id∧N'.fs.Perm (BG id N.fs)∧D.b false=.b true))∧(N'.st++st).Perm (N.st++st)):=⟨N,h,rfl,.inl ⟨hin,rfl,rfl⟩,.refl _⟩
  rw[ha] at hget
  dsimp only[DV] at hget
  replace hget:=Lib.hid hget
  clear ha hin h hR
  generalize N.st++st=RS at *
  refine Qin [4] Tryz.func35 Tryz.results35 Tryz.ntmps35 ?_
  repeat' (first|refine QV ?_|((with_reducible apply Ez);(focus kernel_rfl);(focus exact q_v))|((with_reducible apply(Ah (f:=64) (henter:=Tryz.call64) (hp:=List.Perm.refl _) (h:=hget.out)));(focus exact q_v);(focus(first|exact LEL.refl _|((repeat' (first|exact LEL.nil|refine LEL.cons ?_ ?_|exact LE.refl _|exact LE.sl _ _|refine LE.agg ?_));done)));(rintro d0 st0 ⟨rfl,rfl⟩))|refine QY ?_|(refine QB ?_;intro b)|(with_reducible refine QZ ?_<;>(try constructor)<;>intro hb<;>try intro hb1)|fail)
  all_goals exact Ab (by simp) q_y (List.sublist_cons_self ..) (LE.of_eq q_v) hfin.out
|some f =>
  have hfid:f.id=id:=by have:=List.find?_some ha;simpa using this
  have hfm:f∈N.fs:=List.mem_of_find?_eq_some ha
  have hin:id∈N.fs.map Fc.id:=List.mem_map.2 ⟨f,hfm,hfid⟩
  obtain⟨i0,hi0⟩:=List.getElem?_of_mem hfm
  obtain⟨n,hn⟩:∃n,N.fs.length=n+1:=⟨N.fs.length - 1,by have:=List.length_pos_of_mem hfm;omega⟩
  obtain⟨z,hz⟩:=gEx (l:=N.fs) (i:=n) q_o
  obtain⟨G,hG⟩:∃G,G=Ax N.fs i0 z:=⟨_,rfl⟩
  have hF:N.fs.Perm (f::G):=by rw[hG];exact Jh hn hi0 hz
  have hnd2:(f.id::G.map Fc.id).Nodup:=(hF.map Fc.id).nodup_iff.1 h.nodup
  have hGw:Hid (G.Perm (BG id N.fs)):=by
   have:=GN hF (List.nodup_cons.1 hnd2).1
   rw[hfid] at this
   exact this
  have hGm:Hid (∀x∈G,x∈N.fs):=fun x hx=>hF.mem_iff.2 (List.mem_cons_of_mem _ hx)
  have hGl:G.length≤1000:=by
   have h1:=hF.length_eq
   have h2:=h.fl
   rw[List.length_cons] at h1
   omega
  rw[ha] at hget
  dsimp only[DV] at hget
  obtain⟨W,hW⟩:∃W:MemP→St,W=fun M=>M.resF G++N.cs.flatMap NC.st++st:=⟨_,rfl⟩
  have hWe:Hid (∀M,.box N.b 105 (.sl .shared N.row::M.cells G.length)::W M=Ck N M G N.cs++st):=fun M=>by rw[hW];rfl
  have hput:∀fb:Res,TrF Tryz.prog 68 [.ptr N.b 1,.i id] (fb::(N.st++st)) fun d st'=>∃M':MemP,M'.okF G∧d=.tup []∧(fb::.box N.b 105 (.sl .shared N.row::M'.cells G.length)::W M').Perm st':=fun fb=>by
   have h1:=VC N R f z i0 n h hn hi0 hz (fb::st)
   rw[hfid,←hG] at h1
   exact(TrF.perm List.perm_middle.symm h1).mono fun d st' ⟨M',a1,a2,a3⟩=>⟨M',a1,a2,by rw[hWe.out];exact List.perm_middle.symm.trans a3⟩
  have hE:Hid (∀fb:Res,∃(d:D) (st':St) (M':MemP),M'.okF G∧d=.tup []∧(fb::.box N.b 105 (.sl .shared N.row::M'.cells G.length)::W M').Perm st'):=fun fb=>by
   obtain⟨M0,hM0⟩:=Pq G (List.nodup_cons.1 hnd2).2
   exact⟨_,_,M0,hM0,rfl,.refl _⟩
  clear hW
  replace hget:=Lib.hid hget
  have HN:=Lib.hid h
  have hcl:=h.cl
  clear ha h hfid hfm hi0 hn hz hG hF hnd2
  rw[show f.cells=[.i f.id,.i f.time,.i f.tmpl,.i f.ver,.sl .shared (f.s.map V.cells)] from rfl] at hget
  generalize f.s.map V.cells=VS at *
  obtain⟨RS,hRS⟩:∃RS,RS=N.st++st:=⟨_,rfl⟩
  rw[←hRS] at hget hput ⊢
  have hrl:N.row.length=R.length:=by unfold NT.row;rw[List.length_map,hcl]
  have hrow:Hid (∀(i:Nat) (S:NC),N.cs[i]?=some S→N.row[i]?=some [.ptr S.c 0]):=fun i S h=>by unfold NT.row;rw[List.getElem?_map,h];rfl
  obtain⟨cl,hcl2⟩:∃cl:MemP→List D,cl=fun M=>M.cells G.length:=⟨_,rfl⟩
  have hcle:∀M:MemP,M.cells G.length=cl M:=fun M=>by rw[hcl2]
  simp only[hcle] at hput hE hWe
  clear hcle hcl2 hRS
  obtain⟨ROW,hROW⟩:∃ROW,ROW=N.row:=⟨_,rfl⟩
  rw[←hROW] at hput hE hWe hrl hrow
  replace hROW:=Lib.hid hROW
  replace hput:=Lib.hid hput
  refine Qin [4] Tryz.func35 Tryz.results35 Tryz.ntmps35 ?_
  repeat' (first|refine QV ?_|((with_reducible apply Ez);(focus kernel_rfl);(focus exact q_v))|((with_reducible apply(Ah (f:=64) (henter:=Tryz.call64) (hp:=List.Perm.refl _) (h:=hget.out)));(focus exact q_v);(focus(first|exact LEL.refl _|((repeat' (first|exact LEL.nil|refine LEL.cons ?_ ?_|exact LE.refl _|exact LE.sl _ _|refine LE.agg ?_));done)));(rintro d0 st0 ⟨rfl,rfl⟩))|((with_reducible apply(Ah (f:=68) (henter:=Tryz.call68) (hp:=List.Perm.refl _) (h:=hput.out _)));(focus exact q_v);(focus(first|exact LEL.refl _|((repeat' (first|exact LEL.nil|refine LEL.cons ?_ ?_|exact LE.refl _|exact LE.sl _ _|refine LE.agg ?_));done)));(rintro d0 st0 ⟨M2,hok2,rfl,hp2⟩))|((with_reducible refine Af hp2.symm ?_);clear hp2)|refine QY ?_|(refine QB ?_;intro b)|(with_reducible refine QZ ?_<;>(try constructor)<;>intro hb<;>try intro hb1)|fail)
  clear hget hput hE
  skip
  focus
   have hW2:Hid (∀B:Res,(B::.box N.b 105 (.sl .shared ROW::cl M2)::W M2).Perm (B::(Ck N M2 (G) N.cs++st))):=fun B=>by rw[hWe.out]
   refine Aj (ι:=Nat) (fun i A st'=>i≤R.length∧A.df=[]∧A.e 1=.i id∧A.e 29=.sl .shared ROW∧A.e 30=.i R.length∧A.e 31=.i i∧∃(B:Res) (cs':List NC),Hid (StepC N.cs R N.fs (G) i cs')∧st'.Perm (B::(Ck N M2 (G) cs'++st))) (fun i=>R.length - i) 0 ⟨Nat.zero_le _,Qf,Qf,Qf,Qf,Qf,_,N.cs,StepC.zero ..,hW2.out _⟩ ?_
   clear hW2 hWe
   rintro i A st' ⟨hi,hdf,e1,e29,e30,e31,B,cs',HS,hp⟩
   by_cases hlt:i<R.length
   · obtain⟨x,hx⟩:=gEx hlt
     obtain⟨S,hS⟩:∃S,N.cs[i]?=some S:=⟨_,List.getElem?_eq_getElem (by rw[hcl];exact hlt)⟩
     have hS2:=(HS.out.todo i (Nat.le_refl _)).trans hS
     have hC:=HN.out.ch i x S hx hS
     have hrc:=hrow.out i S hS
     obtain⟨RR,hRR⟩:∃RR,RR=Res.box N.b 105 (.sl .shared N.row::M2.cells (G).length)::(M2.resF (G)++(((cs'.take i).flatMap NC.st++(cs'.drop (i+1)).flatMap NC.st)++st)):=⟨_,rfl⟩
     have hcome:Hid (TrF Tryz.prog 69 [.ptr S.c 0,.i id] (S.st++(B::RR)) fun d st0=>∃cs2:List NC,Hid (StepC N.cs R N.fs (G) (i+1) cs2)∧d=.tup []∧st0.Perm (B::(Ck N M2 (G) cs2++st))):=by
      have h1:=Tu S id hC.str hC.loc (by rw[hC.nl];omega) (B::RR)
      refine h1.mono fun d st0 ⟨S',a1,a2,a3⟩=>⟨cs'.set i S',HS.out.next hx hS a1.c (hC.leave a1 hGw.out),a2,?_⟩
      refine a3.symm.trans (List.perm_middle.trans (List.Perm.cons _ ?_))
      rw[hRR]
      exact(Lg hS2 st).symm
     have hp2:st'.Perm (S.st++(B::RR)):=by
      refine hp.trans (List.Perm.trans (List.Perm.cons _ ?_) List.perm_middle.symm)
      rw[hRR]
      exact EH hS2 st
     refine Af hp2 ?_
     clear hp hp2 hRR HS hC hS hS2 hx hrow
     generalize S.st++(B::RR)=ST at *
     generalize S.c=sc at *
     repeat' (first|refine QV ?_|((with_reducible apply(Ah (f:=69) (henter:=Tryz.call69) (hp:=List.Perm.refl _) (h:=hcome.out)));(focus exact q_v);(focus(first|exact LEL.refl _|((repeat' (first|exact LEL.nil|refine LEL.cons ?_ ?_|exact LE.refl _|exact LE.sl _ _|refine LE.agg ?_));done)));(rintro d0 st0 ⟨cs2,hS2,rfl,hp4⟩))|refine QY ?_|(refine QB ?_;intro b)|(with_reducible refine QZ ?_<;>(try constructor)<;>intro hb<;>try intro hb1)|fail)
     refine⟨i+1,_,List.Sublist.refl _,⟨hlt,?_,?_,?_,?_,?_,B,cs2,hS2,hp4⟩,by omega⟩
     all_goals exact Qf
   · have hil:i=R.length:=by omega
     subst hil
     have hfin:Hid (∃N':NT,N'.Ok R∧N'.b=N.b∧((id∉N.fs.map Fc.id∧N'.fs=N.fs∧D.b true=.b false)∨(id∈N.fs.map Fc.id∧N'.fs.Perm (BG id N.fs)∧D.b true=.b true))∧(N'.st++st).Perm (Ck N M2 G cs'++st)):=by
      refine⟨⟨N.b,cs',M2,G⟩,⟨hok2,⟨fun z hz=>HN.out.fk.f z (hGm.out z hz),?_⟩,?_,fun z hz=>HN.out.f0 z (hGm.out z hz),HS.out.len.trans hcl,fun j x S h1 h2=>HS.out.done j x S (List.getElem?_eq_some_iff.1 h1).1 h1 h2⟩,rfl,.inr ⟨hin,hGw.out,rfl⟩,?_⟩
      · show G.length≤1000000
        omega
      · exact hGl
      · have h1:(⟨N.b,cs',M2,G⟩:NT).row=N.row:=HS.out.row_eq
        unfold NT.st NT.cells Ck
        rw[h1]
     refine Af hp ?_
     clear hp HS HN hrow hok2 hGw hGm hin
     generalize Ck N M2 (G) cs'++st=ST at *
     repeat' (first|refine QX ?_|(refine QB ?_;intro b)|(with_reducible refine QZ ?_<;>(try constructor)<;>intro hb<;>try intro hb1)|fail)
     exact Ab (by simp) q_y (List.sublist_cons_self ..) (LE.of_eq q_v) hfin.out
end
end Go.Proofs.YtoeidpmjifjplaaGreat
section
namespace Go.Proofs
open Go.Shelf
def Tryz.sortFact_ren:Go.Shelf.Ren:=⟨fun|6=>109|15=>93|14=>145|28=>137|29=>138|20=>172|21=>173|22=>174|23=>175|24=>176|25=>177|26=>178|27=>179|46=>195|47=>168|48=>169|49=>196|50=>197|57=>207|n=>n,fun|22=>24|24=>43|25=>132|3=>3|39=>161|0=>0|53=>210|55=>212|4=>4|46=>204|45=>203|50=>168|5=>5|9=>9|66=>240|70=>244|76=>260|77=>261|n=>n,fun|n=>n⟩
theorem Tryz.sortFact:Go.Proofs.SlLaysF0.n6 Tryz.prog Tryz.sortFact_ren:={
 mixed:=by kernel_rfl
 f6:=⟨Tryz.f109.name,by decide,Tryz.func109.trans (congrArg some (by kernel_rfl))⟩
 f14:=⟨Tryz.f145.name,by decide,Tryz.func145.trans (congrArg some (by kernel_rfl))⟩
 f15:=Tryz.func93.trans (congrArg some (by kernel_rfl))
 f20:=⟨Tryz.f172.name,by decide,Tryz.func172.trans (congrArg some (by kernel_rfl))⟩
 f21:=⟨Tryz.f173.name,by decide,Tryz.func173.trans (congrArg some (by kernel_rfl))⟩
 f22:=⟨Tryz.f174.name,by decide,Tryz.func174.trans (congrArg some (by kernel_rfl))⟩
 f23:=⟨Tryz.f175.name,by decide,Tryz.func175.trans (congrArg some (by kernel_rfl))⟩
 f24:=⟨Tryz.f176.name,by decide,Tryz.func176.trans (congrArg some (by kernel_rfl))⟩
 f25:=⟨Tryz.f177.name,by decide,Tryz.func177.trans (congrArg some (by kernel_rfl))⟩
 f26:=⟨Tryz.f178.name,by decide,Tryz.func178.trans (congrArg some (by kernel_rfl))⟩
 f27:=⟨Tryz.f179.name,by decide,Tryz.func179.trans (congrArg some (by kernel_rfl))⟩
 f28:=Tryz.func137.trans (congrArg some (by kernel_rfl))
 f29:=Tryz.func138.trans (congrArg some (by kernel_rfl))
 f46:=⟨Tryz.f195.name,by decide,Tryz.func195.trans (congrArg some (by kernel_rfl))⟩
 f47:=Tryz.func168.trans (congrArg some (by kernel_rfl))
 f48:=Tryz.func169.trans (congrArg some (by kernel_rfl))
 f49:=⟨Tryz.f196.name,by decide,Tryz.func196.trans (congrArg some (by kernel_rfl))⟩
 f50:=⟨Tryz.f197.name,by decide,Tryz.func197.trans (congrArg some (by kernel_rfl))⟩
 f57:=⟨Tryz.f207.name,by decide,Tryz.func207.trans (congrArg some (by kernel_rfl))⟩
 t0:=Tryz.underlying0
 a0:=Tryz.isAgg0
 z0:=Tryz.sizeOf0
 v0:=Tryz.zeroValue0
 t3:=Tryz.underlying3
 a3:=Tryz.isAgg3
 z3:=Tryz.sizeOf3
 v3:=Tryz.zeroValue3
 t4:=Tryz.underlying4
 a4:=Tryz.isAgg4
 z4:=Tryz.sizeOf4
 v4:=Tryz.zeroValue4
 t5:=Tryz.underlying5
 a5:=Tryz.isAgg5
 z5:=Tryz.sizeOf5
 v5:=Tryz.zeroValue5
 t9:=Tryz.underlying9
 a9:=Tryz.isAgg9
 z9:=Tryz.sizeOf9
 v9:=Tryz.zeroValue9
 t22:=Tryz.underlying24
 a22:=Tryz.isAgg24
 z22:=Tryz.sizeOf24
 v22:=Tryz.zeroValue24
 t25:=Tryz.underlying132
 a25:=Tryz.isAgg132
 z25:=Tryz.sizeOf132
 v25:=Tryz.zeroValue132
 t39:=Tryz.underlying161
 a39:=Tryz.isAgg161
 z39:=Tryz.sizeOf161
 v39:=Tryz.zeroValue161
 t45:=Tryz.underlying203
 a45:=Tryz.isAgg203
 z45:=Tryz.sizeOf203
 v45:=Tryz.zeroValue203
 t46:=Tryz.underlying204
 a46:=Tryz.isAgg204
 z46:=Tryz.sizeOf204
 v46:=Tryz.zeroValue204
 t50:=Tryz.underlying168
 a50:=Tryz.isAgg168
 z50:=Tryz.sizeOf168
 v50:=Tryz.zeroValue168
 t53:=Tryz.underlying210
 a53:=Tryz.isAgg210
 z53:=Tryz.sizeOf210
 v53:=Tryz.zeroValue210
 t55:=Tryz.underlying212
 a55:=Tryz.isAgg212
 z55:=Tryz.sizeOf212
 v55:=Tryz.zeroValue212
 t66:=Tryz.underlying240
 a66:=Tryz.isAgg240
 z66:=Tryz.sizeOf240
 v66:=Tryz.zeroValue240
 t70:=Tryz.underlying244
 a70:=Tryz.isAgg244
 z70:=Tryz.sizeOf244
 v70:=Tryz.zeroValue244
 t76:=Tryz.underlying260
 a76:=Tryz.isAgg260
 z76:=Tryz.sizeOf260
 v76:=Tryz.zeroValue260
 t77:=Tryz.underlying261
 a77:=Tryz.isAgg261
 z77:=Tryz.sizeOf261
 v77:=Tryz.zeroValue261}
end Go.Proofs
end
namespace Go.Proofs.YtoeidpmjifjplaaGreat
open Go.RowKit
section
attribute [local push_cast] Ad Ae Ao V.cells_mk V.cells_len Nat.mul_one Int.sub_zero List.map_nil beq_self_eq_true bne_self_eq_false List.head?_cons Bool.not_true Bool.not_false Nat.zero_add
open Go.RowKit Go.Sort
theorem TJ(a b:Fc)(st:St):TrF Tryz.prog 74 [.agg a.cells,.agg b.cells] st fun d st'=>d=.i (V.sgn a.id b.id)∧st'=st:=by
 have hC:=Lib.hid (LO a.id b.id)
 unfold Fc.cells
 generalize V.sgn a.id b.id=R at *
 generalize a.s.map V.cells=AC at *
 generalize b.s.map V.cells=BC at *
 generalize a.id=r1 at *
 generalize b.id=r2 at *
 refine Qin [4] Tryz.func74 Tryz.results74 Tryz.ntmps74 ?_
 repeat' (first|refine QV ?_|((with_reducible refine QW ?_);intro hne;simp only[nes,ne1,and_assoc] at hne;repeat(have hq:=hne.1;replace hne:=hne.2))|refine QY ?_|(refine QB ?_;intro b)|(with_reducible refine QZ ?_<;>(try constructor)<;>intro hb<;>try intro hb1)|refine Qc Tryz.call75 ((hC.out _)) ?_|fail)
 all_goals exact Ar
structure CellF (O:Nat→Nat→Prop)(w:World) where
 vs:List Value
 f:Fc
 h:RepL O w vs f.cells
variable {O:Nat→Nat→Prop} {w:World}
theorem CellF.len(c:CellF O w):c.vs.length=5:=c.h.1
theorem OI:∀{l:List Fc} {us:List Value},RepL O w us (AB l)→∃cs:List (CellF O w),cs.map CellF.f=l∧(cs.map CellF.vs).flatten=us
|[],us,h=>by
  obtain rfl:=h.inv_nil
  exact⟨[],rfl,rfl⟩
|f::l,us,h=>by
  have e:AB (f::l)=f.cells++AB l:=by
   unfold AB
   rw[List.map_cons,List.flatten_cons]
  rw[e] at h
  have h1:=h.take 5
  have h2:=h.drop 5
  rw[List.take_left' (Fc.cells_len f)] at h1
  rw[List.drop_left' (Fc.cells_len f)] at h2
  obtain⟨cs,k1,k2⟩:=OI h2
  refine⟨⟨us.take 5,f,h1⟩::cs,by rw[List.map_cons,k1],?_⟩
  rw[List.map_cons,List.flatten_cons,k2]
  exact List.take_append_drop 5 us
theorem LY:∀(cs:List (CellF O w)) (t:Nat),((cs.map CellF.vs).flatten)[t]?=(cs[t / 5]?).bind fun c=>c.vs[t % 5]?
|[],t=>by simp
|c::cs,t=>by
  rw[List.map_cons,List.flatten_cons]
  by_cases ht:t<5
  · rw[List.getElem?_append_left (by rw[c.len];exact ht),Nat.div_eq_of_lt ht,Nat.mod_eq_of_lt ht];rfl
  · rw[List.getElem?_append_right (by rw[c.len];omega),c.len,LY cs (t - 5)]
    have h1:t / 5=(t - 5) / 5+1:=by omega
    have h2:t % 5=(t - 5) % 5:=by omega
    rw[h1,h2,List.getElem?_cons_succ]
theorem JW[Inhabited (CellF O w)](cs:List (CellF O w)):(flatK CellF.vs 5 cs.toArray).toList=(cs.map CellF.vs).flatten:=by
 apply List.ext_getElem?
 intro t
 rw[LY]
 by_cases ht:t<cs.length*5
 · have hs:t<(flatK CellF.vs 5 cs.toArray).size:=by rw[size_flatK];simpa using ht
   have h1:=get_flatK CellF.vs 5 cs.toArray t (by simpa using ht)
   rw[getElem!_pos _ t hs] at h1
   rw[Array.getElem?_toList,Array.getElem?_eq_getElem hs,h1]
   have h2:t / 5<cs.length:=by omega
   rw[List.getElem?_eq_getElem h2,Option.bind_some,getElem!_pos _ (t / 5) (by simpa using h2)]
   have h3:t % 5<(cs[t / 5]).vs.length:=by rw[CellF.len];omega
   simp only[List.getElem_toArray]
   rw[getElem!_pos _ (t % 5) h3,List.getElem?_eq_getElem h3]
 · rw[List.getElem?_eq_none (l:=cs) q_o,Array.getElem?_toList,Array.getElem?_eq_none (by rw[size_flatK];simp;omega)]
   rfl
theorem LX:∀cs:List (CellF O w),RepL O w (cs.map CellF.vs).flatten (AB (cs.map CellF.f))
|[]=>RepL.nil
|c::cs=>by
  have e:AB ((c::cs).map CellF.f)=c.f.cells++AB (cs.map CellF.f):=by
   unfold AB
   rw[List.map_cons,List.map_cons,List.flatten_cons]
  rw[e,List.map_cons,List.flatten_cons]
  exact RepL.append c.h (LX cs)
theorem KV(l:List Fc):∀d∈AB l,d.leaf=true:=by
 intro d hd
 obtain⟨e,he,hd⟩:=List.mem_flatten.1 hd
 obtain⟨m, -,rfl⟩:=List.mem_map.1 he
 unfold Fc.cells at hd
 simp only[List.mem_cons,List.not_mem_nil,or_false] at hd
 rcases hd with rfl|rfl|rfl|rfl|rfl<;>rfl
theorem ltF(x y:CellF O w):ltOf (fun x y:CellF O w=>V.sgn x.f.id y.f.id) x y=decide (x.f.id<y.f.id):=decide_eq_decide.2 Mat.sgn_neg
theorem eL(O:Nat→Nat→Prop)(w:World):SWO (ltOf (fun x y:CellF O w=>V.sgn x.f.id y.f.id)) where
 irrefl x:=by rw[ltF];simp
 trans x y z h1 h2:=by
  rw[ltF] at *
  have h1:=of_decide_eq_true h1
  have h2:=of_decide_eq_true h2
  exact decide_eq_true q_o
 ntrans x y z h1 h2:=by
  rw[ltF] at *
  have h1:=of_decide_eq_false h1
  have h2:=of_decide_eq_false h2
  exact decide_eq_false q_o
theorem TV{g : Nat}{ty:TypeId}{cs:List D}{st:St}{w:World}{us:Array Value}[Inhabited (CellF (OwnS (.box g ty cs::st)) w)](hb:w.heap[g]?=some (.cells us ty (0,0)))(n:Nat) :
 CmpLays Tryz.prog 74 #[] CellF.vs 5 (fun x y:CellF (OwnS (.box g ty cs::st)) w=>V.sgn x.f.id y.f.id) g 0 n w:=by
 intro m os dk _ x y
 have he:Ext (OwnS (.box g ty cs::st)) w (OwnS []) (sortWorldK CellF.vs 5 w g 0 m dk os):=by
  unfold sortWorldK putRowK
  exact Ng hb m _ os
 generalize sortWorldK CellF.vs 5 w g 0 m dk os=W at he ⊢
 have hx:∀c:CellF (OwnS (.box g ty cs::st)) w,Rep (OwnS []) W (.agg c.vs.toArray) (.agg c.f.cells):=fun c=>by
  have hr:=c.h.ext he
  exact .agg _ _ hr.1 hr.2
 have hv:RepL (OwnS []) W (#[Value.agg x.vs.toArray,Value.agg y.vs.toArray]++(#[]:Array Value)).toList [.agg x.f.cells,.agg y.f.cells]:=by
  rw[Array.append_empty]
  exact RepL.cons (hx x) (RepL.cons (hx y) RepL.nil)
 have hcall:=TJ x.f y.f [] _ W hv (Im W)
 refine hcall.mono ?_
 rintro e w' ⟨v,rfl,d,st',h1, -,h3,rfl,rfl⟩
 have hv1:=AX h1
 subst hv1
 exact⟨rfl,Hn h3⟩
def WJ (l:List Fc):Prop:=l.Pairwise fun a b=>a.id≤b.id
theorem Wk(g cap:Nat)(l:List Fc)(zs:List D)(hl0:l≠[])(hll:l.length≤1000000)(st:St):TrF Tryz.prog 109 [.ar g 0 l.length cap,.fn (.func 74) [] []] (.box g 43 (AB l++zs)::st) fun d st'=>∃l',l'.Perm l∧WJ l'∧d=.tup []∧st'=.box g 43 (AB l'++zs)::st:=by
 intro vs w hv hh
 obtain⟨lv⟩:=vs
 obtain⟨v0,t0,e0,h1,hv⟩:=hv.inv_cons
 obtain⟨v1,t1,e1,h2,hv⟩:=hv.inv_cons
 have e2:=hv.inv_nil
 dsimp only at e0
 subst e2 e1 e0
 cases h1 with
|ar _ _ _ _ c1 c2 =>
 cases h2 with
|fn _ us1 us2 _ _ q1 q2 q3 q4 =>
 obtain rfl:us1=[]:=List.eq_nil_of_length_eq_zero q1
 obtain rfl:us2=[]:=List.eq_nil_of_length_eq_zero q2
 obtain⟨⟨us,hb,hr⟩,hlc⟩:=hh.2 _ (List.mem_cons_self ..)
 have hrt:=hr.take (l.length*5)
 rw[List.take_append_of_le_length (by rw[AQ];exact Nat.le_refl _),List.take_of_length_le (l:=AB l) (by rw[AQ];exact Nat.le_refl _)] at hrt
 obtain⟨cs,hcm,hcu⟩:=OI hrt
 have hcl:cs.length=l.length:=by
  have:=congrArg List.length hcm
  rwa[List.length_map] at this
 obtain⟨c0,hc0⟩:∃c0,c0∈cs:=by
  cases cs with
  | nil=>exact absurd hcm.symm hl0
  | cons c cs=>exact⟨c,List.mem_cons_self ..⟩
 haveI:Inhabited (CellF (OwnS (.box g 43 (AB l++zs)::st)) w):=⟨c0⟩
 have hul:us.size=l.length*5+zs.length:=by
  have:=hr.1
  rw[List.length_append,AQ,Array.length_toList] at this
  exact this
 have hfl:(flatK CellF.vs 5 cs.toArray).toList=us.toList.take (l.length*5):=by rw[JW,hcu]
 have hH:HoldsK CellF.vs 5 w g 0 cs.toArray:=fun j hj=>by
  have hj2:j<l.length*5:=by rw[size_flatK] at hj;simpa [hcl] using hj
  refine⟨?_,?_⟩
  · rw[Nat.zero_add]
    have h3:(flatK CellF.vs 5 cs.toArray).toList[j]?=us.toList[j]?:=by rw[hfl,List.getElem?_take,if_pos hj2]
    rw[Array.getElem?_toList,Array.getElem?_toList,Array.getElem?_eq_getElem hj,Array.getElem?_eq_getElem q_o] at h3
    rw[getElem!_pos _ j hj]
    show _=some (id _)
    rw[id,Option.some.inj h3]
    have:=cell_of_row w g j us 43 (0,0) hb
    rw[this,Array.getElem?_eq_getElem q_o]
  · unfold World.frozen?
    dsimp only
    rw[hb];simp
 have hc:=AnyQ.slices_SortFunc Tryz.sortFact 5 Tryz.isAgg43 Tryz.sizeOf43 CellF.vs (fun x=>x.len) (fun x v hv=>x.h.leafOne (fun d hd=>KV [x.f] d (by unfold AB;rw[List.map_cons,List.map_nil,List.flatten_cons,List.flatten_nil,List.append_nil];exact hd)) v hv) (fun x y:CellF (OwnS (.box g 43 (AB l++zs)::st)) w=>V.sgn x.f.id y.f.id) (eL _ _) 74 #[] g 0 cap cs.toArray w Tryz.call74 (TV hb _) hH (Array.getElem?_eq_some_iff.1 hb).1 (by simp;omega)
 rw[show cs.toArray.size=l.length by simpa using hcl] at hc
 refine hc.mono ?_
 rintro e w' ⟨rfl,d',n,os,⟨hps, -,hpp⟩,hsrt,rfl⟩
 have hds:d'.size=l.length:=by rw[hps];simpa using hcl
 have hext:∀a:Array (CellF (OwnS (.box g 43 (AB l++zs)::st)) w),a.size=l.length→(a.extract 0 l.length).toList=a.toList:=fun a ha=>by
  rw[Array.toList_extract]
  simp only[List.extract_eq_take_drop,Nat.sub_zero,List.drop_zero]
  exact List.take_of_length_le (by rw[Array.length_toList,ha];exact Nat.le_refl _)
 rw[hext d' hds,hext cs.toArray (by simpa using hcl)] at hpp
 have hperm:(d'.toList.map CellF.f).Perm l:=(hpp.map CellF.f).trans (List.Perm.of_eq hcm)
 have hsort:WJ (d'.toList.map CellF.f):=by
  refine List.pairwise_iff_getElem.2 fun i j hi hj hij=>?_
  rw[List.length_map,Array.length_toList] at hi hj
  have h3:=hsrt i j (Nat.zero_le _) hij q_o
  rw[ltF,getElem!_pos _ i hi,getElem!_pos _ j hj] at h3
  rw[List.getElem_map,List.getElem_map,Array.getElem_toList,Array.getElem_toList]
  have:=of_decide_eq_false h3
  omega
 obtain⟨F,hF⟩:∃F,flatK CellF.vs 5 d'=F:=⟨_,rfl⟩
 have hFl:F.toList=(d'.toList.map CellF.vs).flatten:=by
  have:=JW d'.toList
  rw[Array.toArray_toList,hF] at this
  exact this
 have hFs:F.size=l.length*5:=by rw[←hF,size_flatK,hds]
 have hFll:F.toList.length=l.length*5:=by rw[←hFs];exact Array.length_toList
 have hus:(Sort.putCells id 0 F us).toList=(d'.toList.map CellF.vs).flatten++us.toList.drop (l.length*5):=by
  rw[←hFl]
  apply List.ext_getElem?
  intro k
  unfold Sort.putCells
  rw[Array.getElem?_toList,Array.getElem?_mapIdx]
  by_cases hk:k<l.length*5
  · have hk2:k<us.size:=by omega
    rw[List.getElem?_append_left q_o,Array.getElem?_eq_getElem hk2,Array.getElem?_toList,Array.getElem?_eq_getElem (by omega:k<F.size),Option.map_some,if_pos ⟨Nat.zero_le _,by omega⟩,Nat.sub_zero,getElem!_pos _ k q_o]
    rfl
  · have e:l.length*5+(k - F.toList.length)=k:=by omega
    rw[List.getElem?_append_right q_o,List.getElem?_drop,e,Array.getElem?_toList]
    cases us[k]? with
    | none=>rfl
    | some u=>rw[Option.map_some,if_neg q_o]
 have hrep:RepL (OwnS (.box g 43 (AB l++zs)::st)) w (Sort.putCells id 0 F us).toList (AB (d'.toList.map CellF.f)++zs):=by
  rw[hus]
  refine RepL.append (LX _) ?_
  have:=hr.drop (l.length*5)
  rwa[List.drop_append,List.drop_of_length_le (l:=AB l) (by rw[AQ];omega),List.nil_append,show l.length*5 - (AB l).length=0 by rw[AQ];omega,List.drop_zero] at this
 have hlt:=(Array.getElem?_eq_some_iff.1 hb).1
 have hs:=Mi (w':=Sort.putRow id (Sort.ahead w n) g 0 F) hh hb (by simp[Sort.putCells]) (Nat.le_add_right _ _) rfl rfl rfl (by simp[Sort.putRow,Sort.mapBlock,Sort.ahead]) (by
  simp only[Sort.putRow,Sort.mapBlock,Sort.ahead]
  rw[Array.getElem?_modify]
  simp[hb,Sort.onCells]) (fun k hk=>by
  simp only[Sort.putRow,Sort.mapBlock,Sort.ahead]
  rw[Array.getElem?_modify,if_neg (Ne.symm hk)]) hrep (fun d hd=>by
   rw[List.mem_append] at hd
   exact hd.elim (KV _ d) fun h=>hlc d (List.mem_append_right _ h))
 have hw:sortWorldK CellF.vs 5 w g 0 n d' os=grow (Sort.putRow id (Sort.ahead w n) g 0 F) os:=by rw[←hF];rfl
 rw[hw]
 have hg:=JM hs.1 os
 exact⟨_,rfl,.tup [],_,.tup [] [] rfl (fun i h=>absurd h (Nat.not_lt_zero _)),hg,hs.2.trans (JN _ _ os),d'.toList.map CellF.f,hperm,hsort,rfl,rfl⟩
theorem OA(st:St):TrF Tryz.prog 109 [.sl .tight [],.fn (.func 74) [] []] st fun d st'=>d=.tup []∧st'=st:=by
 intro vs w hv hh
 obtain⟨lv⟩:=vs
 obtain⟨v0,t0,e0,h1,hv⟩:=hv.inv_cons
 obtain⟨v1,t1,e1,h2,hv⟩:=hv.inv_cons
 have e2:=hv.inv_nil
 dsimp only at e0
 subst e2 e1 e0
 obtain⟨a,cap,us,sz,rfl, -⟩:=Bo h1
 have hc:Calls Tryz.prog 109 #[.slice a 0 cap,v1] w fun e w'=>e=.returned (.tuple #[])∧w'=w:=AnyF.slices_SortFunc_none Tryz.sortFact a cap v1 w
 refine hc.mono ?_
 rintro e w' ⟨rfl,rfl⟩
 exact⟨_,rfl,.tup [],st,.tup [] [] rfl (fun i h=>absurd h (Nat.not_lt_zero _)),hh,Ext.refl _ _,rfl,rfl⟩
end
section
attribute [local push_cast] Ad Ae Ao V.cells_mk V.cells_len Nat.mul_one Int.sub_zero List.map_nil beq_self_eq_true bne_self_eq_false List.head?_cons Bool.not_true Bool.not_false Nat.zero_add
attribute [-instance] Aq Av Am AV
def fq (b5:Nat)(acc:List Fc)(rest st':St):Prop:=(acc=[]∧st'=.box b5 24 [.sl .tight []]::rest)∨(acc≠[]∧∃g cap zs,(AB acc++zs).length=cap*5∧st'=.box b5 24 [.ar g 0 acc.length cap]::.box g 43 (AB acc++zs)::rest)
def MU (K:List Fc)(st:St)(d:D)(st':St):Prop:=(K=[]∧d=.sl .tight []∧st'=st)∨(K≠[]∧∃g cap zs,(AB K++zs).length=cap*5∧d=.ar g 0 K.length cap∧st'=.box g 43 (AB K++zs)::st)
theorem PY(K:List Fc)(hK:K.length≤1000)(st:St):TrF Tryz.prog 144 [.sl .tight [],.fn (.func 111) [] [.ip [.sl .shared (Cb K)]]] st (MU K st):=by
 have hIt:=Lib.hid (Rj K q_o)
 generalize Cb K=LF at *
 refine Qin [4] Tryz.func144 Tryz.results144 Tryz.ntmps144 ?_
 repeat' (first|with_reducible refine Co ?_|refine QX ?_|(refine QB ?_;intro b)|(with_reducible refine QZ ?_<;>(try constructor)<;>intro hb<;>try intro hb1)|fail)
 revert b
 intro b2
 refine Af (st':=[]++(.box b2 24 [.sl .tight []]::st)) (.refl _) ?_
 refine Dx hIt.out Tryz.call111 q_v (fun _=>rfl) rfl (fun j C=>∃core,C.Perm core∧fq b2 (K.take j) st core) (fun _ _ _=>False) ⟨_,.refl _,.inl ⟨rfl,rfl⟩⟩ ?_ ?_ (fun _ _ _ _ _ _ h=>h.elim)
 · rintro l j f C K1 hf ⟨core,hp,hO⟩
   have hs:K.take (j+1)=K.take j++[f]:=by rw[List.take_add_one,hf];rfl
   have hl:(K.take j).length≤1000:=by rw[List.length_take];omega
   have hfc:f.cells=[.i f.id,.i f.time,.i f.tmpl,.i f.ver,.sl .shared (f.s.map V.cells)]:=rfl
   clear hIt hf hK
   generalize K.take j=acc at *
   generalize hVS:f.s.map V.cells=VS at *
   refine Af (hp.append_right K1) ?_
   refine(?_:Tr _ _ _ _ (AA.put ⟨_,[]⟩ (some 7) (.agg f.cells)) (core++K1) _)
   rw[hfc]
   clear hp
   repeat' (first|refine QX ?_|(refine QB ?_;intro b)|(with_reducible refine QZ ?_<;>(try constructor)<;>intro hb<;>try intro hb1)|fail)
   revert b
   intro b5
   refine⟨.box b5 43 [.i f.id,.i f.time,.i f.tmpl,.i f.ver,.sl .shared VS]::core,List.Sublist.refl _,fun K'=>?_⟩
   clear K1
   rcases hO with⟨hnil,rfl⟩|⟨hne,g,cap,zs,hz,rfl⟩
   · subst hnil
     have hrm:AB [f]=[[D.i f.id,D.i f.time,D.i f.tmpl,D.i f.ver,D.sl .shared VS]].flatten:=by
      unfold AB
      rw[List.map_cons,hfc];rfl
     refine(?_:Tr _ _ _ _ _ (.box b5 43 [.i f.id,.i f.time,.i f.tmpl,.i f.ver,.sl .shared VS]::.box b2 24 [.sl .tight []]::(st++K')) _)
     repeat' (first|refine QV ?_|with_reducible refine Em ?_|with_reducible refine Gs ?_|((with_reducible apply Eo);(focus exact q_n);(focus exact AF rfl);(focus exact q_n);(focus exact q_n);intro g' cap' zs' hc hl')|refine QY ?_|(refine QB ?_;intro b)|(with_reducible refine QZ ?_<;>(try constructor)<;>intro hb<;>try intro hb1)|fail)
     refine⟨.box g' 43 (_++zs')::.box b2 24 [.ar g' 0 1 cap']::st,((List.Sublist.refl _).cons _).cons_cons _,.box b2 24 [.ar g' 0 1 cap']::.box g' 43 ([[D.i f.id,D.i f.time,D.i f.tmpl,D.i f.ver,D.sl .shared VS]].flatten++zs')::st,List.Perm.swap _ _ _,.inr ⟨?_,g',cap',zs',?_,?_⟩⟩
     · rw[hs];exact List.cons_ne_nil _ _
     · rw[hs,List.nil_append,hrm];exact hl'
     · rw[hs,List.nil_append,hrm];rfl
   · have hrl:(AB acc).length=acc.length*5:=AQ _
     refine(?_:Tr _ _ _ _ _ (.box b5 43 [.i f.id,.i f.time,.i f.tmpl,.i f.ver,.sl .shared VS]::.box b2 24 [.ar g 0 acc.length cap]::.box g 43 (AB acc++zs)::(st++K')) _)
     have hra:=Jp acc f
     rw[hfc] at hra
     have hle:(acc++[f]).length=acc.length+1:=List.length_append
     generalize AB acc=RW at *
     generalize acc.length=n at *
     repeat' (first|refine QV ?_|with_reducible refine DK ?_|with_reducible refine FD ?_|((with_reducible apply(DN hrl hz));(focus(intro g' cs';repeat(first|exact Dl|apply Dk)));(focus exact AF rfl);(iterate 2 (focus exact q_n));intro g' cap' zs' hc hl')|refine QY ?_|(refine QB ?_;intro b)|(with_reducible refine QZ ?_<;>(try constructor)<;>intro hb<;>try intro hb1)|fail)
     refine⟨.box b2 24 [.ar g' 0 (n+1) cap']::.box g' 43 (RW++[[D.i f.id,D.i f.time,D.i f.tmpl,D.i f.ver,D.sl .shared VS]].flatten++zs')::st,(List.Sublist.refl _).cons _,_,.refl _,.inr ⟨?_,g',cap',zs',?_,?_⟩⟩
     · rw[hs];exact List.append_ne_nil_of_right_ne_nil _ (List.cons_ne_nil _ _)
     · rw[hs,hra];exact hl'
     · rw[hs,hra,hle]
 · rintro d K2 C' rfl ⟨core,hp,hO⟩
   rw[List.take_length] at hO
   change Tr _ _ _ _ _ _ _
   rcases hO with⟨hnil,rfl⟩|⟨hne,g,cap,zs,hz,rfl⟩
   · refine Af (st':=.box b2 24 [.sl .tight []]::Al d::st) ((hp.cons _).trans (List.Perm.swap _ _ _)) ?_
     clear hp
     repeat' (first|refine QX ?_|(refine QB ?_;intro b)|(with_reducible refine QZ ?_<;>(try constructor)<;>intro hb<;>try intro hb1)|fail)
     exact Bn q_x q_y (List.Perm.swap _ _ _) (List.sublist_cons_self ..) (LE.of_eq q_v) (.inl ⟨hnil,rfl,rfl⟩)
   · refine Af (st':=.box b2 24 [.ar g 0 K.length cap]::.box g 43 (AB K++zs)::Al d::st) ((hp.cons _).trans (by repeat(first|exact .refl _|exact(List.Perm.swap _ _ _).trans ((List.Perm.swap _ _ _).cons _)))) ?_
     clear hp
     obtain⟨RW,hRW⟩:∃RW,RW=AB K++zs:=⟨_,rfl⟩
     rw[←hRW]
     repeat' (first|refine QX ?_|(refine QB ?_;intro b)|(with_reducible refine QZ ?_<;>(try constructor)<;>intro hb<;>try intro hb1)|fail)
     exact Bn q_x q_y ((List.Perm.swap _ _ _).trans ((List.Perm.swap _ _ _).cons _)).symm (List.sublist_cons_self ..) (LE.of_eq q_v) (.inr ⟨hne,g,cap,zs,hz,rfl,by rw[hRW]⟩)
theorem Wq(K:List Fc)(hK:K.length≤1000)(st:St):TrF Tryz.prog 108 [.fn (.func 111) [] [.ip [.sl .shared (Cb K)]]] st (MU K st):=by
 have hA:=Lib.hid (PY K hK)
 generalize Cb K=LF at *
 refine Qin [2] Tryz.func108 Tryz.results108 Tryz.ntmps108 ?_
 repeat' (first|refine QV ?_|((with_reducible apply(Ah (f:=144) (henter:=Tryz.call144) (hp:=List.Perm.refl _) (h:=(hA.out _))));(focus exact q_v);(focus(first|exact LEL.refl _|((repeat' (first|exact LEL.nil|refine LEL.cons ?_ ?_|exact LE.refl _|exact LE.sl _ _|refine LE.agg ?_));done)));(rintro d0 st0 hF))|refine QY ?_|(refine QB ?_;intro b)|(with_reducible refine QZ ?_<;>(try constructor)<;>intro hb<;>try intro hb1)|fail)
 exact Ab (by simp) q_y (List.Sublist.refl _) (LE.of_eq q_v) hF
def FacSrt (K:List Fc)(st:St)(d:D)(st':St):Prop:=(K=[]∧d=.sl .tight []∧st'=st)∨(K≠[]∧∃g cap zs l,l.Perm K∧WJ l∧d=.ar g 0 l.length cap∧st'=.box g 43 (AB l++zs)::st)
theorem PM{K:List Fc}(hK:K.length≤1000){st:St}{d0:D}{st0:St}(h:MU K st d0 st0):TrF Tryz.prog 109 [d0,.fn (.func 74) [] []] st0 fun d st'=>d=.tup []∧FacSrt K st d0 st':=by
 rcases h with⟨hnil,rfl,rfl⟩|⟨hne,g,cap,zs,hz,rfl,rfl⟩
 · exact(OA st0).mono fun d st' ⟨e1,e2⟩=>⟨e1,.inl ⟨hnil,rfl,e2⟩⟩
 · exact(Wk g cap K zs hne q_o st).mono fun d st' ⟨l,h1,h2,e1,e2⟩=>⟨e1,.inr ⟨hne,g,cap,zs,l,h1,h2,by rw[h1.length_eq],e2⟩⟩
theorem Xi(K:List Fc)(hK:K.length≤1000)(st:St):TrF Tryz.prog 72 [.fn (.func 111) [] [.ip [.sl .shared (Cb K)]],.fn (.func 74) [] []] st (FacSrt K st):=by
 have hC:=Lib.hid (Wq K hK)
 have hS:=Lib.hid fun(d0:D) (st0:St) (h:MU K st d0 st0)=>PM hK h
 generalize Cb K=LF at *
 refine Qin [4] Tryz.func72 Tryz.results72 Tryz.ntmps72 ?_
 repeat' (first|refine QV ?_|((with_reducible apply(Ah (f:=108) (henter:=Tryz.call108) (hp:=List.Perm.refl _) (h:=(hC.out _))));(focus exact q_v);(focus(first|exact LEL.refl _|((repeat' (first|exact LEL.nil|refine LEL.cons ?_ ?_|exact LE.refl _|exact LE.sl _ _|refine LE.agg ?_));done)));(rintro d0 st0 hF))|((with_reducible apply(Ah (f:=109) (henter:=Tryz.call109) (hp:=List.Perm.refl _) (h:=(hS.out _ _ hF))));(focus exact q_v);(focus(first|exact LEL.refl _|((repeat' (first|exact LEL.nil|refine LEL.cons ?_ ?_|exact LE.refl _|exact LE.sl _ _|refine LE.agg ?_));done)));(rintro d0 st0 ⟨rfl,hG⟩))|refine QY ?_|(refine QB ?_;intro b)|(with_reducible refine QZ ?_<;>(try constructor)<;>intro hb<;>try intro hb1)|fail)
 exact Ab (by simp) q_y (List.Sublist.refl _) (LE.of_eq q_v) hG
theorem FacSrt.rest{f:FuncId}{args:List D}{K:List Fc}{st s0:St}(h:TrF Tryz.prog f args st (FacSrt K s0)):TrF Tryz.prog f args st fun d st'=>∃l,l.Perm K∧WJ l∧d=.sl .shared (l.map Fc.cells)∧st'=s0:=by
 intro vs w h1 h2
 refine(h vs w h1 h2).mono fun _ w' ⟨v,ev,d,s,k1,k2,k3,hA⟩=>?_
 rcases hA with⟨rfl,rfl,rfl⟩|⟨hne,g,cap,zs,l,hp,hs,rfl,rfl⟩
 · exact⟨v,ev,_,s,LE.sl _ _ _ _ _ k1,k2,k3,[],.refl _,List.Pairwise.nil,rfl,rfl⟩
 · have he:=Ext.drop (st:=.box g 43 (AB l++zs)::s0) (st':=s0) (fun _ h=>List.mem_cons_of_mem _ h) w'
   exact⟨v,ev,_,s0,FA k2 (sz:=5) (by decide) (fun e he=>by
    obtain⟨x, -,rfl⟩:=List.mem_map.1 he
    rfl) (List.length_map ..) v k1,k2.sub (List.sublist_cons_self _ _),k3.trans he,l,hp,hs,rfl,rfl⟩
theorem My(N:NT)(R:List Rl)(hN:N.Ok R)(st:St):TrF Tryz.prog 40 [.ptr N.b 0] (N.st++st) (FacSrt N.fs (N.st++st)):=by
 have hAll:Hid (TrF Tryz.prog 73 [.ptr N.b 1] (N.st++st) fun d st'=>d=.fn (.func 111) [] [.ip [.sl .shared (Cb N.fs)]]∧st'=N.st++st):=by
  have h1:=Rm N.b 105 [.sl .shared N.row] [] N.fm N.fs hN.fok (by have:=hN.fl;omega) (N.cs.flatMap NC.st++st)
  rw[←Ff,DA]
  exact h1
 have hS:=Lib.hid (Xi N.fs hN.fl (N.st++st))
 generalize Cb N.fs=LF at *
 generalize N.st++st=RS at *
 generalize N.b=nb at *
 generalize N.fs=K at *
 refine Qin [2] Tryz.func40 Tryz.results40 Tryz.ntmps40 ?_
 repeat' (first|refine QV ?_|((with_reducible apply Ez);(focus kernel_rfl);(focus exact q_v))|((with_reducible apply(Ah (f:=73) (henter:=Tryz.call73) (hp:=List.Perm.refl _) (h:=hAll.out)));(focus exact q_v);(focus(first|exact LEL.refl _|((repeat' (first|exact LEL.nil|refine LEL.cons ?_ ?_|exact LE.refl _|exact LE.sl _ _|refine LE.agg ?_));done)));(rintro d0 st0 ⟨rfl,rfl⟩))|((with_reducible apply(Ah (f:=72) (henter:=Tryz.call72) (hp:=List.Perm.refl _) (h:=hS.out)));(focus exact q_v);(focus(first|exact LEL.refl _|((repeat' (first|exact LEL.nil|refine LEL.cons ?_ ?_|exact LE.refl _|exact LE.sl _ _|refine LE.agg ?_));done)));(rintro d0 st0 hG))|refine QY ?_|(refine QB ?_;intro b)|(with_reducible refine QZ ?_<;>(try constructor)<;>intro hb<;>try intro hb1)|fail)
 exact Ab (by simp) q_y (List.Sublist.refl _) (LE.of_eq q_v) hG
theorem Te(N:NT)(R:List Rl)(hN:N.Ok R)(st:St):TrF Tryz.prog 40 [.ptr N.b 0] (N.st++st) fun d st'=>∃l,l.Perm N.fs∧WJ l∧d=.sl .shared (l.map Fc.cells)∧st'=N.st++st:=FacSrt.rest (My N R hN st)
end
namespace Mat
theorem Jn{F:List Fc}(hu:(F.map Fc.id).Nodup):∀n,(rows F n []).Nodup
|0=>List.nodup_cons.2 ⟨List.not_mem_nil,List.nodup_nil⟩
|n+1=>by
  have ih:=Jn hu n
  rw[rows]
  have key:∀G:List Fc,(G.map Fc.id).Nodup→(G.flatMap fun f=>rows F n ([]++[f.id])).Nodup:=by
   intro G
   induction G with
   | nil=>exact fun _=>List.nodup_nil
   | cons f G ih2 =>
    intro hg
    rw[List.map_cons,List.nodup_cons] at hg
    rw[List.flatMap_cons,List.nodup_append]
    refine⟨?_,ih2 hg.2,?_⟩
    · rw[EA]
      exact List.Pairwise.map _ (fun a b hab h=>hab (List.append_cancel_left h)) ih
    · rintro a ha b hb rfl
      rw[EA] at ha
      obtain⟨r, -,rfl⟩:=List.mem_map.1 ha
      obtain⟨g,hgm,hb2⟩:=List.mem_flatMap.1 hb
      rw[EA] at hb2
      obtain⟨r2, -,e⟩:=List.mem_map.1 hb2
      simp only[List.nil_append,List.cons_append,List.cons.injEq] at e
      exact hg.1 (e.1▸List.mem_map_of_mem hgm)
  exact key F hu
theorem refs_nodup{F:List Fc}(hu:(F.map Fc.id).Nodup)(x:Rl):(XD x F).Nodup:=(Jn hu _).filter _
theorem Li{f:Rl→List (List Int)}{m:Mt}:∀{l:List Rl} {i:Nat},m∈flatR f l i→∃(k:Nat) (x:Rl),l[k]?=some x∧m.rule=(i+k:Nat)∧m.ids∈f x
|[],_,h=>by cases h
|x::l,i,h=>by
  rw[flatR,List.mem_append] at h
  rcases h with h|h
  · obtain⟨r,hr,rfl⟩:=List.mem_map.1 h
    exact⟨0,x,rfl,rfl,hr⟩
  · obtain⟨k,y,h1,h2,h3⟩:=Li (i:=i+1) h
    exact⟨k+1,y,h1,by rw[h2];congr 1;omega,h3⟩
theorem Sd{l:List Mt}{m:Mt}:m∈sortM l↔m∈l:=(sortM_srt l).2.mem_iff
theorem from_env{F:List Fc}:∀(ps:List Pt) (ids:List Int) (env:List V),env.length=8→∀y∈from_ F ps ids env,y.2.length=8
|[],ids,env,he,y,hy=>by
  rw[from_,List.mem_singleton] at hy
  rw[hy];exact he
|p::ps,ids,env,he,y,hy=>by
  rw[from_] at hy
  split at hy
  · split at hy
    · exact from_env ps ids env he y hy
    · cases hy
  · obtain⟨q,hq,h⟩:=List.mem_flatMap.1 hy
    obtain⟨f, -,hf⟩:=List.mem_filterMap.1 hq
    refine from_env ps _ _ ?_ y h
    cases hp:pass p f env with
    | none=>rw[hp] at hf;cases hf
    | some e =>
     rw[hp] at hf
     rw[←Option.some.inj hf]
     exact pass_len hp
theorem once{R:List Rl}{F:List Fc}{m:Mt}(h:m∈sortM (raws R F)):∃(k:Nat) (x:Rl) (e:List V),R[k]?=some x∧m.rule=k∧envP x F m.ids=some e∧e.length=8∧m.ids.length≤x.pats.length:=by
 obtain⟨k,x,h1,h2,h3⟩:=Li (i:=0) (Sd.1 h)
 obtain⟨y,hy,e⟩:=List.mem_map.1 h3
 cases hq:envP x F m.ids with
|none =>
  unfold envP at hq
  rw[Option.map_eq_none_iff,List.find?_eq_none] at hq
  exact absurd (decide_eq_true e) (hq y hy)
|some v =>
  refine⟨k,x,v,h1,by rw[h2,Nat.zero_add],hq,?_,e▸mats_len hy⟩
  unfold envP at hq
  obtain⟨z,hz,rfl⟩:=Option.map_eq_some_iff.1 hq
  exact from_env _ _ _ (List.length_replicate ..) z (List.mem_of_find?_eq_some hz)
theorem passL_perm{F G:List Fc}(h:F.Perm G)(p:Pt)(env:List V):(passL p F env).Perm (passL p G env):=h.filterMap _
theorem from_perm{F G:List Fc}(h:F.Perm G):∀(ps:List Pt) (ids:List Int) (env:List V),(from_ F ps ids env).Perm (from_ G ps ids env)
|[],ids,env=>.refl _
|p::ps,ids,env=>by
  have hp:=passL_perm h p env
  rw[from_,from_]
  by_cases hn:p.neg=true
  · rw[if_pos hn,if_pos hn]
    have e:passL p F env=[]↔passL p G env=[]:=⟨fun e=>(e▸hp).symm.eq_nil,fun e=>(e▸hp).eq_nil⟩
    by_cases h0:passL p F env=[]
    · rw[if_pos h0,if_pos (e.1 h0)]
      exact from_perm h ps ids env
    · rw[if_neg h0,if_neg fun k=>h0 (e.2 k)]
  · rw[if_neg hn,if_neg hn]
    have h1:∀l:List (Int×List V),(l.flatMap fun x=>from_ F ps (ids++[x.1]) x.2).Perm (l.flatMap fun x=>from_ G ps (ids++[x.1]) x.2):=fun l=>by
     induction l with
     | nil=>exact .refl _
     | cons x l ih =>
      rw[List.flatMap_cons,List.flatMap_cons]
      exact(from_perm h ps _ _).append ih
    exact(h1 _).trans (hp.flatMap_right _)
theorem flatR_perm{f g:Rl→List (List Int)}:∀(l:List Rl) (i:Int),(∀x∈l,(f x).Perm (g x))→(flatR f l i).Perm (flatR g l i)
|[],_,_=>.refl _
|x::l,i,h=>by
  rw[flatR,flatR]
  exact((h x (List.mem_cons_self ..)).map _).append (flatR_perm l (i+1) fun y hy=>h y (List.mem_cons_of_mem _ hy))
theorem sortM_perm{l m:List Mt}(h:l.Perm m):sortM l=sortM m:=sortM_eq ((sortM_srt l).2.trans h) (sortM_srt l).1
theorem d5{F G:List Fc}(h:F.Perm G)(R:List Rl):sortM (raws R F)=sortM (raws R G):=sortM_perm (flatR_perm R 0 fun x _=>(from_perm h _ _ _).map _)
def fJ (f:Rl→List (List Int))(x:Rl):List (List Int):=(sortM ((f x).map (Mt.mk 0))).map Mt.ids
def ahead (g:Rl→List (List Int))(R:List Rl)(i:Nat):Nat:=(flatR g (R.take i) 0).length
theorem NK{F:List Fc}(g:Int)(p:Pt)(env:List V):passL p (F.filter fun f=>f.id≠g) env=(passL p F env).filter fun y=>y.1≠g:=by
 unfold passL
 rw[List.filter_filterMap,List.filterMap_filter]
 congr 1
 funext f
 cases pass p f env with
|none=>simp
|some e=>by_cases h:f.id=g<;>simp[h,Option.filter]
theorem JQ{F:List Fc}{g:Int}:∀(ps:List Pt) (ids:List Int) (env:List V),g∈ids→∀y∈from_ F ps ids env,g∈y.1
|[],ids,env,h,y,hy=>by
  rw[from_,List.mem_singleton] at hy
  rw[hy];exact h
|p::ps,ids,env,h,y,hy=>by
  rw[from_] at hy
  split at hy
  · split at hy
    · exact JQ ps ids env h y hy
    · cases hy
  · obtain⟨q, -,h2⟩:=List.mem_flatMap.1 hy
    exact JQ ps _ _ (List.mem_append_left _ h) y h2
theorem JR{F:List Fc}(g:Int):∀(ps:List Pt) (ids:List Int) (env:List V),(∀p∈ps,p.neg=false)→g∉ids→from_ (F.filter fun f=>f.id≠g) ps ids env=(from_ F ps ids env).filter fun y=>g∉y.1
|[],ids,env,_,h=>by
  rw[from_,from_,List.filter_cons_of_pos (by simpa using h)];rfl
|p::ps,ids,env,hn,h=>by
  have hp:=hn p (List.mem_cons_self ..)
  rw[from_,from_,if_neg (by rw[hp];exact Bool.false_ne_true),if_neg (by rw[hp];exact Bool.false_ne_true),NK]
  have key:∀l:List (Int×List V),((l.filter fun y=>y.1≠g).flatMap fun x=>from_ (F.filter fun f=>f.id≠g) ps (ids++[x.1]) x.2)=(l.flatMap fun x=>from_ F ps (ids++[x.1]) x.2).filter fun y=>g∉y.1:=fun l=>by
   induction l with
   | nil=>rfl
   | cons x l ih =>
    rw[List.flatMap_cons,List.filter_append]
    by_cases e:x.1=g
    · have h0 : ((from_ F ps (ids ++ [x.1]) x.2).filter fun y => g ∉ y.1) = [] := List.filter_eq_nil_iff.2 fun y hy => by
       have:=JQ ps _ _ (show g∈ids++[x.1] by rw[e];exact List.mem_append_right _ (List.mem_singleton.2 rfl)) y hy
       simpa using this
      rw[List.filter_cons_of_neg (by simpa using e),ih,h0,List.nil_append]
    · rw[List.filter_cons_of_pos (by simpa using e),List.flatMap_cons,ih]
      rw[JR g ps _ _ (fun q hq=>hn q (List.mem_cons_of_mem _ hq)) (by
       intro hm
       rcases List.mem_append.1 hm with hm|hm
       · exact h hm
       · exact e (List.mem_singleton.1 hm).symm)]
  exact key _
theorem Hr{f f2:Rl→List (List Int)}(q:List Int→Bool):∀(l:List Rl) (i:Int),(∀x∈l,f2 x=(f x).filter q)→flatR f2 l i=(flatR f l i).filter fun m=>q m.ids
|[],_,_=>rfl
|x::l,i,h=>by
  rw[flatR,flatR,List.filter_append,h x (List.mem_cons_self ..),Hr q l (i+1) fun y hy=>h y (List.mem_cons_of_mem _ hy),List.filter_map]
  rfl
theorem fF{R:List Rl}{F:List Fc}(g:Int)(h:∀x∈R,∀p∈x.pats,p.neg=false):sortM (raws R (F.filter fun f=>f.id≠g))=(sortM (raws R F)).filter fun m=>g∉m.ids:=by
 symm
 refine sortM_eq ?_ ((sortM_srt _).1.filter _)
 have e:raws R (F.filter fun f=>f.id≠g)=(raws R F).filter fun m=>decide (g∉m.ids):=Hr (fun l=>decide (g∉l)) R 0 fun x hx=>by
  unfold mats
  rw[JR g x.pats [] empty (h x hx) List.not_mem_nil,List.filter_map]
  rfl
 rw[e]
 exact(sortM_srt _).2.filter _
end Mat
section
attribute [local push_cast] Ad Ae Ao V.cells_mk V.cells_len Nat.mul_one Int.sub_zero List.map_nil beq_self_eq_true bne_self_eq_false List.head?_cons Bool.not_true Bool.not_false Nat.zero_add
section
set_option maxHeartbeats 16000000
def fZ (l:List Int):List D:=[.sl .shared (l.map Ae)]
namespace Mat
end Mat
end
end
section
attribute [local push_cast] Ad Ae Ao V.cells_mk V.cells_len Nat.mul_one Int.sub_zero List.map_nil beq_self_eq_true bne_self_eq_false List.head?_cons Bool.not_true Bool.not_false Nat.zero_add
set_option maxHeartbeats 16000000
section
variable {P:Program} {N:Nat} {r:Option Nat} {A:AA} {st:St} {Q:Exit→AA→St→Prop}
end
namespace Mat
theorem sortM_len(l:List Mt):(sortM l).length=l.length:=(sortM_srt l).2.length_eq
end Mat
def OutB (acc:List Mt)(st:St)(d:D)(st':St):Prop:=(acc=[]∧d=.sl .tight []∧st'=st)∨(acc≠[]∧∃g cap zs,(BU acc++zs).length=cap*2∧d=.ar g 0 acc.length cap∧st'=.box g 52 (BU acc++zs)::st)
theorem OutB.raw{M:List Mt}{st st':St}{d:D}(h:OutB (Mat.sortM M) st d st'):AllRaw M st d st':=by
 have hl:=Mat.sortM_len M
 rcases h with⟨h1,rfl,rfl⟩|⟨h1,g,cap,zs, -,rfl,rfl⟩
 · rw[h1] at hl
   exact .inl ⟨List.eq_nil_of_length_eq_zero hl.symm,rfl,rfl⟩
 · refine .inr ⟨fun h=>h1 ?_,g,cap,zs,by rw[hl],rfl⟩
   rw[h];rfl
end
section
attribute [local push_cast] Ad Ae Ao V.cells_mk V.cells_len Nat.mul_one Int.sub_zero List.map_nil beq_self_eq_true List.head?_cons
end
section
attribute [local push_cast] Ad Ae Ao V.cells_mk V.cells_len Nat.mul_one Int.sub_zero List.map_nil beq_self_eq_true bne_self_eq_false List.head?_cons Bool.not_true Bool.not_false Nat.zero_add
section
set_option maxHeartbeats 16000000
def Gm (F:List Fc)(ps:List Pt):Nat→Nat
|0=>0
|m+1=>Gm F ps m+(Mat.from_ F (ps.take (m+1)) [] Mat.empty).length
def DX (F:List Fc):List Rl→Nat
|[]=>0
|x::l=>Gm F x.pats x.pats.length+DX F l
theorem RZ{F:List Fc}{R:List Rl}{i:Nat}{x:Rl}(h:R[i]?=some x):DX F (R.drop i)=Gm F x.pats x.pats.length+DX F (R.drop (i+1)):=by
 rw[V.drop_cons h,DX]
theorem Qx{F:List Fc}{ps:List Pt}(hF:F.length≤9)(hp:ps.length≤4):∀m,m≤4→Gm F ps m≤m*10000
|0,_=>Nat.zero_le _
|m+1,h=>by
  have h1:=Qx hF hp m q_o
  have h2:=Mat.from_length F (ps.take (m+1)) [] Mat.empty
  have h3:(F.length+1) ^ (ps.take (m+1)).length≤10 ^ 4:=Nat.le_trans (Nat.pow_le_pow_left q_o _) (Nat.pow_le_pow_right (by decide) (by rw[List.length_take];omega))
  have h4:(10:Nat) ^ 4=10000:=by decide
  unfold Gm
  omega
theorem Qy{F:List Fc}(hF:F.length≤9):∀R:List Rl,(∀x∈R,x.pats.length≤4)→DX F R≤R.length*40000
|[],_=>Nat.zero_le _
|x::l,h=>by
  have h1:=Qy hF l fun y hy=>h y (List.mem_cons_of_mem _ hy)
  have h0:=h x (List.mem_cons_self ..)
  have h2:=Qx hF h0 x.pats.length h0
  unfold DX
  rw[List.length_cons]
  omega
end
theorem SY{S:NC}{k:Nat}{x:Nd}(hS:Nt.Str S [])(hx:S.ns[k]?=some x):∃c:D,List.take 1 (List.drop (k*9+7) (Az S.ns++S.zs))=[c]∧k*9+8≤(Az S.ns++S.zs).length∧((c=.sl .tight []∧x.ts.length=0)∨∃g cl,c=.ar g 0 x.ts.length cl):=by
 have hr:=US hx S.zs
 have hl:=FF hx
 have hd:List.drop (k*9+7) (Az S.ns++S.zs)=List.drop 1 (x.tm.cells x.ts.length++CO S.ns k S.zs):=by
  rw[hr,show k*9+7=(k*9+6)+1 by omega,←List.drop_drop,←hl,List.drop_left]
 have hlen:k*9+8≤(Az S.ns++S.zs).length:=by
  rw[hr,List.length_append,hl,List.length_append,MemP.cells_len]
  omega
 have hok:=(hS.okx x (List.mem_of_getElem? hx)).2
 rw[hd]
 cases hm:x.tm with
|no =>
  rw[hm] at hok
  have h0:x.ts.length=0:=by
   have:=congrArg List.length hok.1
   rwa[List.length_map] at this
  exact⟨_,rfl,hlen,.inl ⟨rfl,h0⟩⟩
|at_ b l c gl cl zl gk ck zk=>exact⟨_,rfl,hlen,.inr ⟨gl,cl,rfl⟩⟩
theorem Pu(N:NT)(R:List Rl)(hN:N.Ok R)(hR:R.length≤1000)(hp4:∀x∈R,1≤x.pats.length∧x.pats.length≤4)(hle:DX N.fs R≤1000000000)(st:St):TrF Tryz.prog 41 [.ptr N.b 0] (N.st++st) fun d st'=>d=.i (DX N.fs R)∧(N.st++st).Perm st':=by
 have hcl:=hN.cl
 have HN:=Lib.hid hN
 have HP:=Lib.hid hp4
 have hrl:N.row.length=R.length:=by unfold NT.row;rw[List.length_map,hcl]
 have hrow:Hid (∀(i:Nat) (S:NC),N.cs[i]?=some S→N.row[i]?=some [.ptr S.c 0]):=fun i S h=>by unfold NT.row;rw[List.getElem?_map,h];rfl
 obtain⟨m0,m1,m2,hm⟩:=N.fm.cells3 N.fs.length
 have hcells:N.cells=[.sl .shared N.row,m0,m1,m2]:=by unfold NT.cells;rw[hm]
 obtain⟨W,hW⟩:∃W,W=N.fm.resF N.fs++N.cs.flatMap NC.st++st:=⟨_,rfl⟩
 have hNs:N.st++st=.box N.b 105 [.sl .shared N.row,m0,m1,m2]::W:=by rw[hW,←hcells];rfl
 have hNs2:Hid ((N.st++st).Perm (.box N.b 105 [.sl .shared N.row,m0,m1,m2]::W)):=by rw[hNs];exact Lib.hid (.refl _)
 obtain⟨T,hT⟩:∃T,DX N.fs R=T:=⟨_,rfl⟩
 have HT:Hid (0+DX N.fs (R.drop 0)=T):=by rw[List.drop_zero,Nat.zero_add];exact hT
 rw[hT] at hle ⊢
 refine TrF.perm hNs2.out ?_
 clear hT hN hp4 hNs hW hcells hm
 obtain⟨ROW,hROW⟩:∃ROW,ROW=N.row:=⟨_,rfl⟩
 rw[←hROW] at hrl hrow hNs2 ⊢
 clear hROW
 refine Qin [2] Tryz.func41 Tryz.results41 Tryz.ntmps41 ?_
 repeat' (first|refine QV ?_|((with_reducible apply Fy);(focus kernel_rfl);(focus exact q_v))|refine QY ?_|(refine QB ?_;intro b)|(with_reducible refine QZ ?_<;>(try constructor)<;>intro hb<;>try intro hb1)|fail)
 refine Aj (ι:=Nat) (fun i A st'=>i≤R.length∧A.df=[]∧A.e 12=.sl .shared ROW∧A.e 13=.i R.length∧A.e 14=.i i∧∃k:Nat,Hid (k+DX N.fs (R.drop i)=T)∧A.e 3=.i k∧(N.st++st).Perm st') (fun i=>R.length - i) 0 ⟨Nat.zero_le _,Qf,Qf,Qf,Qf,0,HT,Qf,hNs2.out⟩ ?_
 clear HT hNs2
 rintro i A st' ⟨hi,hdf,e12,e13,e14,k,HK,e3,hpm⟩
 by_cases hlt:i<R.length
 · obtain⟨x,hx⟩:=gEx hlt
   obtain⟨S,hS⟩:∃S,N.cs[i]?=some S:=⟨_,List.getElem?_eq_getElem (by rw[hcl];exact hlt)⟩
   have hC:=HN.out.ch i x S hx hS
   have hrc:=hrow.out i S hS
   obtain⟨hx1,hx4⟩:=HP.out x (List.mem_of_getElem? hx)
   have hnl:=hC.nl
   have hcap:S.ns.length≤S.cap:=by
    have:=hC.str.row
    rw[List.length_append,AZ] at this
    omega
   have HE:=HK.out
   rw[RZ hx] at HE
   have HX:Hid (k+(Gm N.fs x.pats x.pats.length - Gm N.fs x.pats 0)+DX N.fs (R.drop (i+1))=T):=by
    show k+(Gm N.fs x.pats x.pats.length - 0)+_=T
    rw[Nat.sub_zero,Nat.add_assoc];exact HE
   have hmono:Hid (∀j,j≤x.pats.length→Gm N.fs x.pats j≤Gm N.fs x.pats x.pats.length):=fun j hj=>by
    obtain⟨d,hd⟩:∃d,x.pats.length=j+d:=⟨x.pats.length - j,by omega⟩
    rw[hd]
    clear hd hj
    induction d with
    | zero=>exact Nat.le_refl _
    | succ d ih=>exact Nat.le_trans ih (Nat.le_add_right _ _)
   have hnode:Hid (∀j,j<x.pats.length→∃(c:D) (n:Nat),Gm N.fs x.pats (j+1)=Gm N.fs x.pats j+n∧List.take 1 (List.drop ((j+1)*9+7) (Az S.ns++S.zs))=[c]∧(j+1)*9+8≤(Az S.ns++S.zs).length∧((c=.sl .tight []∧n=0)∨∃g cl,c=.ar g 0 n cl)):=fun j hj=>by
    obtain⟨y,hy⟩:∃y,S.ns[j+1]?=some y:=⟨_,List.getElem?_eq_getElem (by rw[hnl];omega)⟩
    obtain⟨c,c1,c2,c3⟩:=SY hC.str hy
    have h1:=(Qr hC HN.out.f0 HN.out.nodup q_o hy).length_eq
    rw[List.length_map] at h1
    exact⟨c,y.ts.length,by rw[h1];rfl,c1,c2,c3⟩
   obtain⟨X,hX⟩:∃X,(N.st++st).Perm (.box S.c 109 [.ar S.g 0 (x.pats.length+1) S.cap]::.box S.g 115 (Az S.ns++S.zs)::X):=by
    rw[←hnl]
    exact⟨_,EH (N:=N) (M:=N.fm) (F:=N.fs) hS st⟩
   refine Af (hpm.symm.trans hX) ?_
   have hback:=Lib.hid hX
   rw[hnl] at hcap
   clear hpm hX HK HE hC hx hS hnl hrow HN HP
   obtain⟨G,hG⟩:∃G,DX N.fs (R.drop (i+1))=G:=⟨_,rfl⟩
   rw[hG] at HX
   replace hG:=Lib.hid hG
   obtain⟨tk,htk⟩:∃tk:Nat→Nat,tk=Gm N.fs x.pats:=⟨_,rfl⟩
   simp only[←htk] at HX hmono hnode
   clear htk
   generalize Az S.ns++S.zs=RN at *
   generalize x.pats.length=pl at *
   generalize S.c=sc at *
   generalize S.g=sg at *
   generalize S.cap=scap at *
   have hpl1:pl+1 - 1=pl:=by omega
   have hsc:1<scap:=by omega
   have hsi:(1:Int)≤(pl:Int)+1:=by omega
   repeat' (first|refine QX ?_|(refine QB ?_;intro b)|(with_reducible refine QZ ?_<;>(try constructor)<;>intro hb<;>try intro hb1)|fail)
   refine Aj (ι:=Nat) (fun j A2 st2=>j≤pl∧A2.df=[]∧A2.e 5=.ptr sc 0∧A2.e 12=.sl .shared ROW∧A2.e 13=.i R.length∧A2.e 14=.i i∧A2.e 23=.i pl∧A2.e 24=.i j∧∃k2:Nat,Hid (k2+(tk pl - tk j)+G=T)∧A2.e 3=.i k2∧st2=.box sc 109 [.ar sg 0 (pl+1) scap]::.box sg 115 RN::X) (fun j=>pl - j) 0 ⟨Nat.zero_le _,Qf,Qf,Qf,Qf,Qf,Qf,Qf,k,HX,Qf,rfl⟩ ?_
   clear HX hdf e3 e12 e13 e14
   rintro j A2 st2 ⟨hj,hdf,e5,e12,e13,e14,e23,e24,k2,HK,e3,rfl⟩
   by_cases hjl:j<pl
   · obtain⟨c,n,n1,n2,n3,n4⟩:=hnode.out j hjl
     have htn:((j:Int)+1).toNat=j+1:=by omega
     rw[show(j+1)*9+7=(j+1)*9+6+1 by omega] at n2
     obtain⟨rest,n2⟩:∃rest,List.drop ((j+1)*9+6+1) RN=c::rest:=by
      cases hd:List.drop ((j+1)*9+6+1) RN with
      | nil=>rw[hd] at n2;cases n2
      | cons a l=>rw[hd] at n2;exact⟨l,by rw[(List.cons.inj n2).1]⟩
     clear n3
     have hm:=hmono.out (j+1) hjl
     have HE:Hid (k2+n+(tk pl - tk (j+1))+G=T):=by
      have h1:=HK.out
      show _=T
      omega
     have hb2:k2+n≤T:=by have:=HE.out;omega
     clear HK hmono hnode
     replace n1:=Lib.hid n1
     rcases n4 with⟨rfl,hn0⟩|⟨g,cl,rfl⟩
     · subst hn0
       repeat' (first|refine QX ?_|(refine QB ?_;intro b)|(with_reducible refine QZ ?_<;>(try constructor)<;>intro hb<;>try intro hb1)|fail)
       refine⟨j+1,_,List.Sublist.refl _,⟨hjl,?_,?_,?_,?_,?_,?_,?_,k2,HE,?_,rfl⟩,by omega⟩
       all_goals exact Qf
     · repeat' (first|refine QX ?_|(refine QB ?_;intro b)|(with_reducible refine QZ ?_<;>(try constructor)<;>intro hb<;>try intro hb1)|fail)
       refine⟨j+1,_,List.Sublist.refl _,⟨hjl,?_,?_,?_,?_,?_,?_,?_,k2+n,HE,?_,rfl⟩,by omega⟩
       all_goals exact Qf
   · have hjn:j=pl:=by omega
     subst hjn
     have HE:Hid (k2+DX N.fs (R.drop (i+1))=T):=by
      have h1:=HK.out
      rw[Nat.sub_self,Nat.add_zero,←hG.out] at h1
      exact h1
     clear HK hmono hnode
     repeat' (first|refine QX ?_|(refine QB ?_;intro b)|(with_reducible refine QZ ?_<;>(try constructor)<;>intro hb<;>try intro hb1)|fail)
     refine⟨i+1,_,List.Sublist.refl _,⟨hlt,?_,?_,?_,?_,k2,HE,?_,hback.out⟩,by omega⟩
     all_goals exact Qf
 · have HE:=HK.out
   rw[List.drop_of_length_le q_o] at HE
   have HE:k=T:=HE
   clear HK HN HP hrow
   subst HE
   have hpm2:=Lib.hid hpm
   clear hpm
   repeat' (first|refine QX ?_|(refine QB ?_;intro b)|(with_reducible refine QZ ?_<;>(try constructor)<;>intro hb<;>try intro hb1)|fail)
   all_goals exact Ab (by simp) q_y (List.Sublist.refl _) (LE.of_eq q_v) ⟨rfl,hpm2.out⟩
end
section
theorem Nf{K l L:List Fc}(hnd:(K.map Fc.id).Nodup)(h1:l.Perm K)(h2:Uk l)(k1:L.Perm K)(k2:Uk L):l=L:=by
 refine List.Perm.eq_of_pairwise (le:=fun a b:Fc=>a.id≤b.id) (fun a b ha hb e1 e2=>?_) h2 k2 (h1.trans k1.symm)
 have ha:=h1.mem_iff.1 ha
 have hb:=k1.mem_iff.1 hb
 have:=Mat.find_self hnd ha
 have h3:=Mat.find_self hnd hb
 rw[show a.id=b.id by omega,h3] at this
 exact(Option.some.inj this).symm
structure NetL (N:NT)(R:List Rl)(L:List Fc):Prop where
 ok:N.Ok R
 p:L.Perm N.fs
 s:Uk L
variable {N:NT} {R:List Rl} {L:List Fc}
theorem NetL.len(h:NetL N R L):L.length=N.fs.length:=h.p.length_eq
theorem NetL.nd(h:NetL N R L):(L.map Fc.id).Nodup:=(h.p.map Fc.id).nodup_iff.2 h.ok.nodup
theorem NetL.fk(h:NetL N R L):FKs L:=⟨fun f hf=>h.ok.fk.f f (h.p.mem_iff.1 hf),by rw[h.len];exact h.ok.fk.l⟩
theorem NetL.ids(h:NetL N R L)(x:Int):x∈N.fs.map Fc.id↔x∈L.map Fc.id:=((h.p.map Fc.id).mem_iff).symm
theorem NetL.facts(h:NetL N R L)(st:St):TrF Tryz.prog 40 [.ptr N.b 0] (N.st++st) fun d st'=>d=.sl .shared (L.map Fc.cells)∧st'=N.st++st :=
 (Te N R h.ok st).mono fun d st' ⟨l,h1,h2,h3,h4⟩=>⟨by rw[h3,Nf h.ok.nodup h1 h2 h.p h.s],h4⟩
theorem NetL.matches_(h:NetL N R L)(hR:R.length≤1000)(hp:∀x∈R,x.pats.length≤4)(hl:(Mat.raws R L).length≤1000000)(st:St):TrF Tryz.prog 37 [.ptr N.b 0] (N.st++st) fun d st'=>d=.sl .shared ((Mat.sortM (Mat.raws R L)).map Mt.cells)∧st'=N.st++st:=by
 have hpm:=SM h.p R
 have:=Oa N R h.ok hR hp (by rw[←hpm.length_eq];exact hl) st
 rwa[←sortM_perm hpm] at this
theorem KH{F G:List Fc}(h:F.Perm G)(ps:List Pt):∀m,Gm F ps m=Gm G ps m
|0=>rfl
|m+1=>by unfold Gm;rw[KH h ps m,(from_perm h _ _ _).length_eq]
theorem KI{F G:List Fc}(h:F.Perm G):∀R:List Rl,DX F R=DX G R
|[]=>rfl
|x::l=>by unfold DX;rw[KH h,KI h l]
theorem NetL.tokens(h:NetL N R L)(hR:R.length≤1000)(hp:∀x∈R,1≤x.pats.length∧x.pats.length≤4)(hl:DX L R≤1000000000)(st:St):TrF Tryz.prog 41 [.ptr N.b 0] (N.st++st) fun d st'=>d=.i (DX L R)∧st'=N.st++st:=by
 rw[KI h.p R] at hl ⊢
 exact TrF.permPost (.refl _) ((Pu N R h.ok hR hp hl st).mono fun d st' ⟨e1,e2⟩=>⟨_,⟨e1,rfl⟩,e2.symm⟩)
def MS (L:List Fc)(f:Fc):List Fc:=if f.id∈L.map Fc.id then L else GJ f L
def WB (L:List Fc)(id:Int):List Fc:=L.filter fun g=>g.id != id
theorem NetL.assert(h:NetL N R L)(f:Fc)(hR:R.length≤1000)(hf:FK f)(h0:f.id≠0)(hl:L.length<1000)(st:St):TrF Tryz.prog 33 [.ptr N.b 0,.agg f.cells] (N.st++st) fun d st'=>∃N':NT,NetL N' R (MS L f)∧N'.b=N.b∧d=.b (!(decide (f.id∈L.map Fc.id)))∧(N'.st++st).Perm st':=by
 refine(Pw N R f h.ok hR hf h0 (by rw[←h.len];exact hl) st).mono fun d st' ⟨N',h1,h2,h3,h4⟩=>⟨N',?_,h2,?_,h4⟩
 · unfold MS
   rcases h3 with⟨k1,k2, -⟩|⟨k1,k2, -⟩
   · rw[if_pos ((h.ids _).1 k1)]
     exact⟨h1,by rw[k2];exact h.p,h.s⟩
   · rw[if_neg (fun e=>k1 ((h.ids _).2 e))]
     refine⟨h1,?_,JL f h.s⟩
     rw[k2]
     exact(DD f L).trans ((h.p.cons f).trans (List.perm_append_comm (l₁:=[f])))
 · rcases h3 with⟨k1, -,k3⟩|⟨k1, -,k3⟩
   · rw[k3,decide_eq_true ((h.ids _).1 k1)];rfl
   · rw[k3,decide_eq_false (fun e=>k1 ((h.ids _).2 e))];rfl
theorem NetL.retract(h:NetL N R L)(id:Int)(hR:R.length≤1000)(st:St):TrF Tryz.prog 35 [.ptr N.b 0,.i id] (N.st++st) fun d st'=>∃N':NT,NetL N' R (WB L id)∧N'.b=N.b∧d=.b (decide (id∈L.map Fc.id))∧(N'.st++st).Perm st':=by
 refine(NZ N R id h.ok hR st).mono fun d st' ⟨N',h1,h2,h3,h4⟩=>⟨N',?_,h2,?_,h4⟩
 · rcases h3 with⟨k1,k2, -⟩|⟨k1,k2, -⟩
   · have e : WB L id = L := List.filter_eq_self.2 fun g hg => by
      have:g.id≠id:=fun e=>k1 ((h.ids _).2 (List.mem_map.2 ⟨g,hg,e⟩))
      simpa using this
     rw[e]
     exact⟨h1,by rw[k2];exact h.p,h.s⟩
   · exact⟨h1,(h.p.filter _).trans k2.symm,h.s.filter _⟩
 · rcases h3 with⟨k1, -,k3⟩|⟨k1, -,k3⟩
   · rw[k3,decide_eq_false (fun e=>k1 ((h.ids _).2 e))]
   · rw[k3,decide_eq_true ((h.ids _).1 k1)]
def PO (R:List Rl)(F:List Fc)(m:Mt):Option (List V):=if 0≤m.rule then(match R[m.rule.toNat]? with|some x=>Mat.envP x F m.ids|none=>none) else none
theorem Yq{α β:Type}{l:List (α×β)}(h:(l.map Prod.fst).Nodup){a:α}{b c:β}(h1:(a,b)∈l)(h2:(a,c)∈l):b=c:=by
 induction l with
|nil=>cases h1
|cons p l ih =>
  rw[List.map_cons,List.nodup_cons] at h
  rcases List.mem_cons.1 h1 with e1|h1
  · rcases List.mem_cons.1 h2 with e2|h2
    · rw[←e1] at e2;cases e2;rfl
    · exact absurd (List.mem_map.2 ⟨(a,c),h2,by rw[←e1]⟩) h.1
  · rcases List.mem_cons.1 h2 with e2|h2
    · exact absurd (List.mem_map.2 ⟨(a,b),h1,by rw[←e2]⟩) h.1
    · exact ih h.2 h1 h2
theorem Hu{x:Rl}{F:List Fc}{ids:List Int}{e:List V}(h:Mat.envP x F ids=some e):(ids,e)∈Mat.mats x F:=by
 unfold Mat.envP at h
 obtain⟨y,hy,rfl⟩:=Option.map_eq_some_iff.1 h
 have h1:=List.find?_some hy
 have h1:=of_decide_eq_true h1
 have:=List.mem_of_find?_eq_some hy
 rw[←h1];exact this
theorem MH{x:Rl}{F:List Fc}(hnd:(F.map Fc.id).Nodup){ids:List Int}{e:List V}(h:(ids,e)∈Mat.mats x F):Mat.envP x F ids=some e:=by
 cases hq:Mat.envP x F ids with
|none =>
  unfold Mat.envP at hq
  rw[Option.map_eq_none_iff] at hq
  exact absurd (decide_eq_true rfl) (List.find?_eq_none.1 hq _ h)
|some e2 =>
  rw[Yq (by rw[Mat.mats_refs hnd];exact Mat.refs_nodup hnd x) (Hu hq) h]
theorem LD{F G:List Fc}(h:F.Perm G)(hnd:(F.map Fc.id).Nodup)(x:Rl)(ids:List Int):Mat.envP x F ids=Mat.envP x G ids:=by
 have hp:(Mat.mats x F).Perm (Mat.mats x G):=from_perm h _ _ _
 have hnd2:(G.map Fc.id).Nodup:=(h.map Fc.id).nodup_iff.1 hnd
 cases hq:Mat.envP x F ids with
|none =>
  cases hr:Mat.envP x G ids with
  | none=>rfl
  | some e=>rw[MH hnd (hp.mem_iff.2 (Hu hr))] at hq;cases hq
|some e=>exact(MH hnd2 (hp.mem_iff.1 (Hu hq))).symm
theorem Ye{x:Rl}{F:List Fc}{y:List Int×List V}(h:y∈Mat.mats x F):y.2.length=8:=Mat.from_env x.pats [] Mat.empty rfl y h
theorem Ly{f:Rl→List (List Int)}:∀{R:List Rl} {i:Int} {k:Nat} {x:Rl} {r:List Int},R[k]?=some x→r∈f x→(⟨i+k,r⟩:Mt)∈Mat.flatR f R i
|[],_,_,_,_,h,_=>by cases h
|y::R,i,0,x,r,h,hr=>by
  cases h
  unfold Mat.flatR
  refine List.mem_append_left _ (List.mem_map.2 ⟨r,hr,?_⟩)
  rw[show i+((0:Nat):Int)=i by omega]
|y::R,i,k+1,x,r,h,hr=>by
  unfold Mat.flatR
  refine List.mem_append_right _ ?_
  have:=Ly (i:=i+1) (k:=k) (R:=R) h hr
  rwa[show i+1+(k:Int)=i+((k+1:Nat):Int) by omega] at this
theorem Mat.raws_mem_of{R:List Rl}{F:List Fc}{m:Mt}{x:Rl}{e:List V}(hx:R[m.rule.toNat]?=some x)(hm:0≤m.rule)(h:(m.ids,e)∈Mat.mats x F):m∈Mat.raws R F:=by
 have h1:=Ly (f:=fun x=>(Mat.mats x F).map Prod.fst) (i:=0) hx (List.mem_map_of_mem h)
 have e:(⟨0+(m.rule.toNat:Int),m.ids⟩:Mt)=m:=by
  cases m
  rw[show(0:Int)+((Mt.rule ⟨_,_⟩).toNat:Int)=_ from by
   show(0:Int)+_=_
   rw[Int.toNat_of_nonneg hm,Int.zero_add]]
 rw[e] at h1
 exact h1
theorem Wj(h:NetL N R L)(m:Mt):((Bm N.cs 0).find? fun y=>decide (Mat.ord y.1 m=0)).map (fun y=>y.2.2)=PO R L m:=by
 cases hq:(Bm N.cs 0).find? fun y=>decide (Mat.ord y.1 m=0) with
|some y =>
  have h0:Mat.ord y.1 m=0:=by have:=List.find?_some hq;simpa using this
  have h1:=Mat.ord_eq h0
  obtain⟨k,x,k1,k2,k3⟩:=h.ok.end_ (List.mem_of_find?_eq_some hq)
  unfold PO
  rw[←h1,k2,if_pos q_o,Int.toNat_natCast,k1]
  show some y.2.2=Mat.envP x L y.1.ids
  rw[LD h.p h.nd]
  exact(MH h.ok.nodup k3).symm
|none =>
  show none=PO R L m
  cases hr:PO R L m with
  | none=>rfl
  | some e =>
   exfalso
   unfold PO at hr
   by_cases hm:0≤m.rule
   · rw[if_pos hm] at hr
     cases hx:R[m.rule.toNat]? with
     | none=>rw[hx] at hr;cases hr
     | some x =>
      rw[hx] at hr
      have hr:Mat.envP x L m.ids=some e:=hr
      rw[LD h.p h.nd] at hr
      have hmem:=Hu hr
      have hin:m∈Mat.raws R N.fs:=Mat.raws_mem_of hx hm hmem
      obtain⟨y,hy,rfl⟩:=List.mem_map.1 (h.ok.ends.mem_iff.2 hin)
      have:=List.find?_eq_none.1 hq y hy
      exact this (decide_eq_true (Mat.ord_self _))
   · rw[if_neg hm] at hr;cases hr
theorem NetL.env(h:NetL N R L)(m:Mt)(hR:R.length≤1000)(hp:∀x∈R,x.pats.length≤4)(hm:m.ids.length≤1000000)(st:St):TrF Tryz.prog 43 [.ptr N.b 0,.agg m.cells] (N.st++st) fun d st'=>d=Yt (PO R L m)∧st'=N.st++st:=by
 have:=Yc N R m h.ok hR (fun y hy=>by have:=h.ok.ids_len hp y hy;omega) (fun y hy=>by
  obtain⟨k,x, -, -,k3⟩:=h.ok.end_ hy
  have:=Ye k3
  have h8:y.2.2.length=8:=this
  exact⟨fun e=>(by rw[e] at h8;cases h8),by omega⟩) hm st
 rwa[Wj h m] at this
end
end Go.Proofs.YtoeidpmjifjplaaGreat
