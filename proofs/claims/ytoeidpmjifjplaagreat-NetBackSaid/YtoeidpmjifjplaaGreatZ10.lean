/- Texts put together. No statement is proved here. -/
import Derived.Test.YtoeidpmjifjplaaGreatZ9
set_option linter.all false
set_option maxRecDepth 10000
set_option maxHeartbeats 8000000
namespace Go.Proofs.YtoeidpmjifjplaaGreat
open Go.RowKit
section
attribute [local push_cast] Ad Ae Ao V.cells_mk V.cells_len Nat.mul_one Int.sub_zero List.map_nil beq_self_eq_true bne_self_eq_false List.head?_cons
set_option maxHeartbeats 16000000
namespace Rul
theorem exprsB_drop{B:List Int}{l:List Ex}{m:List Sl}{i:Nat}{e:Ex}{s:Sl}(h1:l[i]?=some e)(h2:m[i]?=some s):exprsB B (l.drop i) (m.drop i)=(exprB B e s && exprsB B (l.drop (i+1)) (m.drop (i+1))):=by
 obtain⟨k1,rfl⟩:=List.getElem?_eq_some_iff.1 h1
 obtain⟨k2,rfl⟩:=List.getElem?_eq_some_iff.1 h2
 rw[List.drop_eq_getElem_cons k1,List.drop_eq_getElem_cons k2,exprsB]
end Rul
theorem Mp(L:List Tm)(hL:∀t∈L,TOk t)(hl:L.length≤1000000)(nm:ByteArray)(sal:Int)(ps:List Pt)(AS:List (List D))(r:Nat)(pat tmpl slot:Int)(vals:List Ex)(ha:∀e∈vals,VQ e.val)(hvl:vals.length≤1000000)(B:List Int)(st:St):TrF Tryz.prog 121 [.ip (Ee (L.map Tm.cells) nm sal (ps.map Pt.cells) AS r),.agg (Ac.mk 1 pat tmpl slot vals).cells] (BW r B::st) fun d st'=>d=.b (Rul.actB L ps B ⟨1,pat,tmpl,slot,vals⟩)∧st'=BW r B::st:=by
 have hS:=Fd L hL hl tmpl
 have e0:Rul.actB L ps B ⟨1,pat,tmpl,slot,vals⟩=(((pat == 0) && (slot == 0)) && ((decide ((Rul.slots L tmpl).length≠0) && decide (vals.length=(Rul.slots L tmpl).length)) && Rul.exprsB B vals (Rul.slots L tmpl))):=rfl
 rw[e0]
 clear e0 hL hl
 generalize Rul.slots L tmpl=SL at *
 generalize L.map Tm.cells=LS at *
 generalize ps.map Pt.cells=PS at *
 unfold Ac.cells
 dsimp only
 have hm1:(vals.map Ex.cells).length=vals.length:=List.length_map ..
 have hm2:(SL.map Sl.cells).length=SL.length:=List.length_map ..
 have hc1:=hMp Ex.cells vals
 have hc2:=hMp Sl.cells SL
 have hE:=Lib.hid fun(e:Ex) (he:e∈vals) (s:Sl)=>KT LS nm sal PS AS r e s (ha e he) B
 clear ha
 generalize vals.map Ex.cells=ES at *
 generalize SL.map Sl.cells=SS at *
 replace hS:=Lib.hid hS
 by_cases h1:pat=0
 rotate_left
 · have b1:(pat == 0)=false:=beq_eq_false_iff_ne.2 h1
   rw[b1,Bool.false_and,Bool.false_and]
   refine Qin [4] Tryz.func121 Tryz.results121 Tryz.ntmps121 ?_
   exact WR
 subst h1
 by_cases h2:slot=0
 rotate_left
 · have b2:(slot == 0)=false:=beq_eq_false_iff_ne.2 h2
   rw[b2,Bool.and_false,Bool.false_and]
   refine Qin [4] Tryz.func121 Tryz.results121 Tryz.ntmps121 ?_
   exact WR
 subst h2
 rw[beq_self_eq_true,Bool.true_and,Bool.true_and]
 by_cases h3:SL.length=0
 · rw[decide_eq_false (fun h=>h h3),Bool.false_and,Bool.false_and]
   refine Qin [4] Tryz.func121 Tryz.results121 Tryz.ntmps121 ?_
   exact WR
 by_cases h4:vals.length=SL.length
 rotate_left
 · rw[decide_eq_false h4,Bool.and_false,Bool.false_and]
   have h5:¬(vals.length:Int)=(SL.length:Int):=by omega
   refine Qin [4] Tryz.func121 Tryz.results121 Tryz.ntmps121 ?_
   exact WR
 rw[decide_eq_true h3,decide_eq_true h4,Bool.true_and,Bool.true_and]
 obtain⟨Q,hQ⟩:∃Q,Rul.exprsB B vals SL=Q:=⟨_,rfl⟩
 rw[hQ]
 have HQ:Hid (Rul.exprsB B (vals.drop 0) (SL.drop 0)=Q):=hQ
 clear hQ
 have h5:(vals.length:Int)=(SL.length:Int):=by omega
 have h6:¬(SL.length:Int)=0:=by omega
 refine Qin [4] Tryz.func121 Tryz.results121 Tryz.ntmps121 ?_
 repeat' (first|refine QX ?_|(refine QB ?_;intro b)|(with_reducible refine QZ ?_<;>(try constructor)<;>intro hb<;>try intro hb1)|fail)
 clear hS
 refine Aj (ι:=Nat) (fun i A st'=>i≤vals.length∧Hid (Rul.exprsB B (vals.drop i) (SL.drop i)=Q)∧A.df=[]∧A.e 0=.ip (Ee LS nm sal PS AS r)∧A.e 5=.sl .shared SS∧A.e 42=.sl .shared ES∧A.e 43=.i vals.length∧A.e 44=.i i∧st'=BW r B::st) (fun i=>vals.length - i) 0 ⟨Nat.zero_le _,HQ,Qf,Qf,Qf,Qf,Qf,Qf,rfl⟩ ?_
 clear HQ
 rintro i A st' ⟨hi,HT,hdf,e0,e5,e42,e43,e44,rfl⟩
 by_cases hlt:i<vals.length
 · obtain⟨e,he⟩:=gEx hlt
   obtain⟨s,hs⟩:=gEx (l:=SL) (i:=i) q_o
   have g1:=hc1.out i e he
   have g2:=hc2.out i s hs
   have hF:=hE.out e (List.mem_of_getElem? he) s
   have HE:=HT.out
   rw[Rul.exprsB_drop he hs] at HE
   clear HT he hs hE hc1 hc2
   obtain⟨G,hGG⟩:∃G,Rul.exprsB B (vals.drop (i+1)) (SL.drop (i+1))=G:=⟨_,rfl⟩
   rw[hGG] at HE
   replace hGG:=Lib.hid hGG
   generalize Rul.exprB B e s=q at *
   cases e with
   | mk iv var val =>
   cases s with
   | mk an at_ ar av =>
   cases val with
   | mk k1 n1 s1 l1 =>
   cases av with
   | mk k2 n2 s2 l2 =>
   rw[Ex.cells_mk] at g1 hF
   rw[Sl.cells_mk] at g2 hF
   replace hF:=Lib.hid hF
   have hi5:i<SL.length:=by omega
   cases q with
   | true =>
    rw[Bool.true_and] at HE
    replace HE:=Lib.hid (hGG.out.trans HE)
    clear hGG
    repeat' (first|refine QV ?_|((with_reducible refine QW ?_);intro hne;simp only[nes,ne1,and_assoc] at hne;repeat(have hq:=hne.1;replace hne:=hne.2))|refine QY ?_|(refine QB ?_;intro b)|(with_reducible refine QZ ?_<;>(try constructor)<;>intro hb<;>try intro hb1)|fail)
    refine⟨i+1,BW r B::st,q_u,⟨hlt,HE,?_,?_,?_,?_,?_,?_,rfl⟩,by omega⟩
    all_goals exact Qf
   | false =>
    rw[Bool.false_and] at HE
    subst HE
    clear hGG
    repeat' (first|refine QV ?_|((with_reducible refine QW ?_);intro hne;simp only[nes,ne1,and_assoc] at hne;repeat(have hq:=hne.1;replace hne:=hne.2))|refine QY ?_|(refine QB ?_;intro b)|(with_reducible refine QZ ?_<;>(try constructor)<;>intro hb<;>try intro hb1)|fail)
    all_goals exact Ar
 · have HE:=HT.out
   rw[List.drop_of_length_le q_o,Rul.exprsB] at HE
   · subst HE
     clear HT
     exact WR
   · intro _ _ _ _ h;cases h
theorem UR(L:List Tm)(hL:∀t∈L,TOk t)(hl:L.length≤1000000)(nm:ByteArray)(sal:Int)(ps:List Pt)(AS:List (List D))(r:Nat)(a:Ac)(ha:∀e∈a.vals,VQ e.val)(hvl:a.vals.length≤1000000)(B:List Int)(st:St):TrF Tryz.prog 121 [.ip (Ee (L.map Tm.cells) nm sal (ps.map Pt.cells) AS r),.agg a.cells] (BW r B::st) fun d st'=>d=.b (Rul.actB L ps B a)∧st'=BW r B::st:=by
 cases a with
|mk kind pat tmpl slot vals =>
 by_cases k1:kind=1
 · subst k1
   exact Mp L hL hl nm sal ps AS r pat tmpl slot vals ha hvl B st
 have hP:=UO (L.map Tm.cells) nm sal ps AS r pat
 have hm1:(vals.map Ex.cells).length=vals.length:=List.length_map ..
 have b1:(kind == 1)=false:=beq_eq_false_iff_ne.2 k1
 by_cases k2:kind=2
 · subst k2
   have e0:Rul.actB L ps B ⟨2,pat,tmpl,slot,vals⟩=(Rul.posB ps pat && ((tmpl == 0) && ((slot == 0) && decide (vals.length=0)))):=rfl
   rw[e0]
   unfold Ac.cells
   dsimp only
   generalize Rul.posB ps pat=q at *
   generalize L.map Tm.cells=LS at *
   generalize ps.map Pt.cells=PS at *
   generalize vals.map Ex.cells=ES at *
   replace hP:=Lib.hid hP
   cases q with
   | false =>
    rw[Bool.false_and]
    refine Qin [4] Tryz.func121 Tryz.results121 Tryz.ntmps121 ?_
    exact WR
   | true =>
   rw[Bool.true_and]
   by_cases h1:tmpl=0
   rotate_left
   · have b1:(tmpl == 0)=false:=beq_eq_false_iff_ne.2 h1
     rw[b1,Bool.false_and]
     refine Qin [4] Tryz.func121 Tryz.results121 Tryz.ntmps121 ?_
     exact WR
   subst h1
   by_cases h2:slot=0
   rotate_left
   · have b2:(slot == 0)=false:=beq_eq_false_iff_ne.2 h2
     rw[b2,Bool.false_and,Bool.and_false]
     refine Qin [4] Tryz.func121 Tryz.results121 Tryz.ntmps121 ?_
     exact WR
   subst h2
   rw[beq_self_eq_true,Bool.true_and,Bool.true_and]
   by_cases h3:vals.length=0
   · rw[decide_eq_true h3]
     have h4:(vals.length:Int)=0:=by omega
     refine Qin [4] Tryz.func121 Tryz.results121 Tryz.ntmps121 ?_
     exact WR
   · rw[decide_eq_false h3]
     have h4:¬(vals.length:Int)=0:=by omega
     have h5:((vals.length:Int) == 0)=false:=beq_eq_false_iff_ne.2 h4
     refine Qin [4] Tryz.func121 Tryz.results121 Tryz.ntmps121 ?_
     exact WR
 have b2:(kind == 2)=false:=beq_eq_false_iff_ne.2 k2
 by_cases k3:kind=3
 · subst k3
   have e0:Rul.actB L ps B ⟨3,pat,tmpl,slot,vals⟩=((Rul.posB ps pat && ((tmpl == 0) && decide (vals.length=1))) && (match (generalizing:=false) ps[pat.toNat]?,vals with
    | some p,[e]=>decide (0≤slot) && (decide (slot<(Rul.slots L p.tmpl).length) && (match (Rul.slots L p.tmpl)[slot.toNat]? with|some s=>Rul.exprB B e s|none=>false))
    | _,_=>false)):=rfl
   rw[e0]
   clear e0
   cases hq:Rul.posB ps pat with
   | false =>
    rw[hq] at hP
    rw[Bool.false_and,Bool.false_and]
    unfold Ac.cells
    dsimp only
    generalize L.map Tm.cells=LS at *
    generalize ps.map Pt.cells=PS at *
    generalize vals.map Ex.cells=ES at *
    replace hP:=Lib.hid hP
    refine Qin [4] Tryz.func121 Tryz.results121 Tryz.ntmps121 ?_
    exact WR
   | true =>
   rw[hq] at hP
   rw[Bool.true_and]
   by_cases h1:tmpl=0
   rotate_left
   · have b1:(tmpl == 0)=false:=beq_eq_false_iff_ne.2 h1
     rw[b1,Bool.false_and,Bool.false_and]
     unfold Ac.cells
     dsimp only
     generalize L.map Tm.cells=LS at *
     generalize ps.map Pt.cells=PS at *
     generalize vals.map Ex.cells=ES at *
     replace hP:=Lib.hid hP
     refine Qin [4] Tryz.func121 Tryz.results121 Tryz.ntmps121 ?_
     exact WR
   subst h1
   rw[beq_self_eq_true,Bool.true_and]
   by_cases h2:vals.length=1
   rotate_left
   · rw[decide_eq_false h2,Bool.false_and]
     have h3:¬(vals.length:Int)=1:=by omega
     unfold Ac.cells
     dsimp only
     generalize L.map Tm.cells=LS at *
     generalize ps.map Pt.cells=PS at *
     generalize vals.map Ex.cells=ES at *
     replace hP:=Lib.hid hP
     refine Qin [4] Tryz.func121 Tryz.results121 Tryz.ntmps121 ?_
     exact WR
   rw[decide_eq_true h2,Bool.true_and]
   obtain⟨e,rfl⟩:∃e,vals=[e]:=List.length_eq_one_iff.1 h2
   unfold Rul.posB at hq
   rw[Bool.and_eq_true,Bool.and_eq_true,decide_eq_true_eq,decide_eq_true_eq] at hq
   obtain⟨⟨hp0,hp1⟩, -⟩:=hq
   obtain⟨n,rfl⟩:∃n:Nat,(n:Int)=pat:=⟨pat.toNat,Int.toNat_of_nonneg hp0⟩
   obtain⟨p,hp⟩:=gEx (l:=ps) (i:=n) q_o
   have hpc:(ps.map Pt.cells)[n]?=some p.cells:=by rw[List.getElem?_map,hp];rfl
   have hpl:(ps.map Pt.cells).length=ps.length:=List.length_map ..
   rw[Int.toNat_natCast,hp]
   dsimp only
   have hS:=Fd L hL hl p.tmpl
   have hE:=fun s=>KT (L.map Tm.cells) nm sal (ps.map Pt.cells) AS r e s (ha e (List.mem_singleton.2 rfl)) B
   have hm2:((Rul.slots L p.tmpl).map Sl.cells).length=(Rul.slots L p.tmpl).length:=List.length_map ..
   have hc2:∀(i:Nat) (v:Sl),(Rul.slots L p.tmpl)[i]?=some v→((Rul.slots L p.tmpl).map Sl.cells)[i]?=some v.cells:=fun i v h=>by rw[List.getElem?_map,h];rfl
   generalize Rul.slots L p.tmpl=SL at *
   clear hp ha hL hl hvl h2 hm1
   generalize L.map Tm.cells=LS at *
   generalize ps.map Pt.cells=PS at *
   generalize SL.map Sl.cells=SS at *
   unfold Ac.cells Pt.cells at *
   dsimp only at *
   rw[List.map_cons,List.map_nil]
   cases p with
   | mk ptm pneg pts =>
   dsimp only at *
   generalize pts.map Ts.cells=TS at *
   replace hP:=Lib.hid hP
   replace hS:=Lib.hid hS
   cases e with
   | mk iv var val =>
   cases val with
   | mk ek en es el =>
   rw[Ex.cells_mk] at *
   by_cases s0:slot<0
   · rw[decide_eq_false (show¬0≤slot by omega),Bool.false_and]
     clear hE hc2
     refine Qin [4] Tryz.func121 Tryz.results121 Tryz.ntmps121 ?_
     repeat' (first|refine QV ?_|((with_reducible refine QW ?_);intro hne;simp only[nes,ne1,and_assoc] at hne;repeat(have hq:=hne.1;replace hne:=hne.2))|refine QY ?_|(refine QB ?_;intro b)|(with_reducible refine QZ ?_<;>(try constructor)<;>intro hb<;>try intro hb1)|fail)
     all_goals exact Ar
   by_cases s1:(SL.length:Int)≤slot
   · rw[decide_eq_false (show¬slot<SL.length by omega),Bool.false_and,Bool.and_false]
     clear hE hc2
     refine Qin [4] Tryz.func121 Tryz.results121 Tryz.ntmps121 ?_
     repeat' (first|refine QV ?_|((with_reducible refine QW ?_);intro hne;simp only[nes,ne1,and_assoc] at hne;repeat(have hq:=hne.1;replace hne:=hne.2))|refine QY ?_|(refine QB ?_;intro b)|(with_reducible refine QZ ?_<;>(try constructor)<;>intro hb<;>try intro hb1)|fail)
     all_goals exact Ar
   rw[decide_eq_true (show 0≤slot by omega),decide_eq_true (show slot<SL.length by omega),Bool.true_and,Bool.true_and]
   obtain⟨m,rfl⟩:∃m:Nat,(m:Int)=slot:=⟨slot.toNat,Int.toNat_of_nonneg q_o⟩
   obtain⟨s,hs⟩:=gEx (l:=SL) (i:=m) q_o
   have hsc:=hc2 m s hs
   have hF:=hE s
   rw[Int.toNat_natCast,hs]
   dsimp only
   clear hE hc2 hs
   generalize Rul.exprB B _ s=q at *
   cases s with
   | mk an at_ ar av =>
   cases av with
   | mk k2 n2 s2 l2 =>
   rw[Sl.cells_mk] at hsc hF
   replace hF:=Lib.hid hF
   have hm3:m<SL.length:=by omega
   have hn3:n<ps.length:=by omega
   refine Qin [4] Tryz.func121 Tryz.results121 Tryz.ntmps121 ?_
   repeat' (first|refine QV ?_|((with_reducible refine QW ?_);intro hne;simp only[nes,ne1,and_assoc] at hne;repeat(have hq:=hne.1;replace hne:=hne.2))|refine QY ?_|(refine QB ?_;intro b)|(with_reducible refine QZ ?_<;>(try constructor)<;>intro hb<;>try intro hb1)|fail)
   all_goals exact Ar
 have b3:(kind == 3)=false:=beq_eq_false_iff_ne.2 k3
 have e0:Rul.actB L ps B ⟨kind,pat,tmpl,slot,vals⟩=((kind == 4) && ((pat == 0) && ((tmpl == 0) && ((slot == 0) && decide (vals.length=0))))):=by
  unfold Rul.actB
  rw[if_neg k1,if_neg k2,if_neg k3]
 rw[e0]
 unfold Ac.cells
 dsimp only
 clear e0 hP ha
 generalize L.map Tm.cells=LS at *
 generalize ps.map Pt.cells=PS at *
 generalize vals.map Ex.cells=ES at *
 by_cases h0:kind=4
 rotate_left
 · have c1:(kind == 4)=false:=beq_eq_false_iff_ne.2 h0
   rw[c1,Bool.false_and]
   refine Qin [4] Tryz.func121 Tryz.results121 Tryz.ntmps121 ?_
   exact WR
 subst h0
 rw[beq_self_eq_true,Bool.true_and]
 by_cases h1:pat=0
 rotate_left
 · have c1:(pat == 0)=false:=beq_eq_false_iff_ne.2 h1
   rw[c1,Bool.false_and]
   refine Qin [4] Tryz.func121 Tryz.results121 Tryz.ntmps121 ?_
   exact WR
 subst h1
 rw[beq_self_eq_true,Bool.true_and]
 by_cases h2:tmpl=0
 rotate_left
 · have c1:(tmpl == 0)=false:=beq_eq_false_iff_ne.2 h2
   rw[c1,Bool.false_and]
   refine Qin [4] Tryz.func121 Tryz.results121 Tryz.ntmps121 ?_
   exact WR
 subst h2
 rw[beq_self_eq_true,Bool.true_and]
 by_cases h3:slot=0
 rotate_left
 · have c1:(slot == 0)=false:=beq_eq_false_iff_ne.2 h3
   rw[c1,Bool.false_and]
   refine Qin [4] Tryz.func121 Tryz.results121 Tryz.ntmps121 ?_
   exact WR
 subst h3
 rw[beq_self_eq_true,Bool.true_and]
 by_cases h3:vals.length=0
 · rw[decide_eq_true h3]
   have h4:(vals.length:Int)=0:=by omega
   refine Qin [4] Tryz.func121 Tryz.results121 Tryz.ntmps121 ?_
   exact WR
 · rw[decide_eq_false h3]
   have h4:¬(vals.length:Int)=0:=by omega
   have h5:((vals.length:Int) == 0)=false:=beq_eq_false_iff_ne.2 h4
   refine Qin [4] Tryz.func121 Tryz.results121 Tryz.ntmps121 ?_
   exact WR
namespace Rul
def actS (L:List Tm)(ps:List Pt)(B:List Int)(a:Ac):Bool×List Int:=(!actB L ps B a,B)
theorem anyS_acts(L:List Tm)(ps:List Pt)(B:List Int):∀l:List Ac,anyS (actS L ps) B l=(!(l.all fun a=>actB L ps B a),B)
|[]=>rfl
|a::l=>by
  rw[anyS,List.all_cons]
  unfold actS
  cases h:actB L ps B a with
  | true =>
   dsimp only
   rw[if_neg (by decide),Bool.true_and]
   exact anyS_acts L ps B l
  | false=>rfl
structure RK (x:Rl):Prop where
 nm:x.name.size≤900000
 np:x.pats.length≤100
 na:x.acts.length≤100
 nt:∀p∈x.pats,p.tests.length≤100
 nv:∀a∈x.acts,a.vals.length≤100
 vt:∀p∈x.pats,∀t∈p.tests,VQ t.val
 va:∀a∈x.acts,∀e∈a.vals,VQ e.val
end Rul
theorem Su(L:List Tm)(hL:∀t∈L,TOk t)(hl:L.length≤1000000)(nm:ByteArray)(sal:Int)(ps:List Pt)(AS:List (List D))(r b:Nat)(a:Ac)(ha:∀e∈a.vals,VQ e.val)(hvl:a.vals.length≤1000000)(B:List Int)(st:St):TrF Tryz.prog 120 [.agg a.cells,.ptr b 0] (.box b 189 [.ip (Ee (L.map Tm.cells) nm sal (ps.map Pt.cells) AS r)]::BW r B::st) fun d st'=>d=.b (Rul.actS L ps B a).1∧st'=.box b 189 [.ip (Ee (L.map Tm.cells) nm sal (ps.map Pt.cells) AS r)]::BW r (Rul.actS L ps B a).2::st:=by
 have hP:=UR L hL hl nm sal ps AS r a ha hvl B
 unfold Rul.actS
 dsimp only
 generalize Rul.actB L ps B a=q at *
 generalize L.map Tm.cells=LS at *
 generalize ps.map Pt.cells=PS at *
 clear ha hL hl hvl
 cases a with
|mk kind pat tmpl slot vals =>
 unfold Ac.cells at *
 dsimp only at *
 generalize vals.map Ex.cells=ES at *
 replace hP:=Lib.hid hP
 cases q
 all_goals(
  refine Qin [3] Tryz.func120 Tryz.results120 Tryz.ntmps120 ?_
  exact WR)
theorem UQ(L:List Tm)(hL:∀t∈L,TOk t)(hl:L.length≤1000000)(x:Rl)(hx:Rul.RK x)(st:St):TrF Tryz.prog 78 [.sl .shared (L.map Tm.cells),.agg x.cells] st fun d st'=>d=.b (Rul.oneB L x)∧st'=st:=by
 have hC:=fun(r b:Nat)=>Yz 117 [.ptr b 0] Tryz.call117 x.pats (by have:=hx.np;omega) (Rul.patS L) (fun B=>.box b 189 [.ip (Ee (L.map Tm.cells) x.name x.sal (x.pats.map Pt.cells) (x.acts.map Ac.cells) r)]::BW r B::st) (fun p h B=>Sv L hL hl x.name x.sal _ _ r b p (hx.vt p h) (by have:=hx.nt p h;omega) B st) []
 have hA:=fun(r b:Nat)=>YA 120 [.ptr b 0] Tryz.call120 x.acts (by have:=hx.na;omega) (Rul.actS L x.pats) (fun B=>.box b 189 [.ip (Ee (L.map Tm.cells) x.name x.sal (x.pats.map Pt.cells) (x.acts.map Ac.cells) r)]::BW r B::st) (fun a h B=>Su L hL hl x.name x.sal x.pats _ r b a (hx.va a h) (by have:=hx.nv a h;omega) B st) (Rul.patsF L x.pats []).2
 have hN:=DH x.name
 have hm1:(x.pats.map Pt.cells).length=x.pats.length:=List.length_map ..
 have hm2:(x.acts.map Ac.cells).length=x.acts.length:=List.length_map ..
 have hc0:∀p,x.pats[0]?=some p→(x.pats.map Pt.cells)[0]?=some p.cells:=fun p h=>by rw[List.getElem?_map,h];rfl
 rw[Rul.anyS_pats] at hC
 rw[Rul.anyS_acts] at hA
 unfold Rul.oneB Rul.headB
 dsimp only at hC hA
 generalize (x.acts.all fun a=>Rul.actB L x.pats (Rul.patsF L x.pats []).2 a)=q2 at *
 generalize Rul.patsF L x.pats []=qq at *
 obtain⟨q1,B2⟩:=qq
 dsimp only at *
 cases x with
|mk nm sal ps acts =>
 unfold Rl.cells
 dsimp only at *
 clear hx hL
 generalize V.isName nm.data.toList=qn at *
 generalize L.map Tm.cells=LS at *
 generalize ps.map Pt.cells=PS at *
 generalize acts.map Ac.cells=AS at *
 replace hN:=Lib.hid hN
 replace hC:=Lib.hid hC
 replace hA:=Lib.hid hA
 cases qn with
|false =>
  rw[Bool.false_and,Bool.false_and]
  refine Qin [4] Tryz.func78 Tryz.results78 Tryz.ntmps78 ?_
  exact WR
|true =>
 rw[Bool.true_and]
 by_cases s1:sal < -100
 · rw[decide_eq_false (show¬-100≤sal by omega),Bool.false_and,Bool.false_and,Bool.false_and]
   refine Qin [4] Tryz.func78 Tryz.results78 Tryz.ntmps78 ?_
   exact WR
 by_cases s2:100<sal
 · rw[decide_eq_false (show¬sal≤100 by omega),Bool.and_false,Bool.false_and,Bool.false_and]
   refine Qin [4] Tryz.func78 Tryz.results78 Tryz.ntmps78 ?_
   exact WR
 rw[decide_eq_true (show -100≤sal by omega),decide_eq_true (show sal≤100 by omega),Bool.true_and,Bool.true_and]
 by_cases s3:(ps.length:Int)<1
 · rw[decide_eq_false (show¬1≤ps.length by omega),Bool.false_and,Bool.false_and,Bool.false_and]
   refine Qin [4] Tryz.func78 Tryz.results78 Tryz.ntmps78 ?_
   exact WR
 by_cases s4:4<(ps.length:Int)
 · rw[decide_eq_false (show¬ps.length≤4 by omega),Bool.and_false,Bool.false_and,Bool.false_and]
   refine Qin [4] Tryz.func78 Tryz.results78 Tryz.ntmps78 ?_
   exact WR
 rw[decide_eq_true (show 1≤ps.length by omega),decide_eq_true (show ps.length≤4 by omega),Bool.true_and,Bool.true_and]
 obtain⟨p,hp⟩:=gEx (l:=ps) (i:=0) q_o
 have hpc:=hc0 p hp
 rw[hp,Option.any_some]
 clear hp hc0
 unfold Pt.cells at hpc
 cases p with
|mk ptm png pts =>
 dsimp only at *
 generalize pts.map Ts.cells=TS at *
 cases png with
|true =>
  rw[Bool.not_true,Bool.false_and,Bool.false_and]
  refine Qin [4] Tryz.func78 Tryz.results78 Tryz.ntmps78 ?_
  exact WR
|false =>
 rw[Bool.not_false,Bool.true_and]
 by_cases s5:4<(acts.length:Int)
 · rw[decide_eq_false (show¬acts.length≤4 by omega),Bool.false_and]
   refine Qin [4] Tryz.func78 Tryz.results78 Tryz.ntmps78 ?_
   exact WR
 rw[decide_eq_true (show acts.length≤4 by omega),Bool.true_and]
 cases q1 with
|false =>
  rw[Bool.false_and]
  refine Qin [4] Tryz.func78 Tryz.results78 Tryz.ntmps78 ?_
  repeat' (first|refine QV ?_|((with_reducible refine Zg ?_);intro bm)|refine QY ?_|(refine QB ?_;intro b)|(with_reducible refine QZ ?_<;>(try constructor)<;>intro hb<;>try intro hb1)|refine Qc Tryz.call116 (hC.out _ _) ?_|fail)
  all_goals exact Ar
|true =>
 rw[Bool.true_and]
 cases q2
 all_goals(
  refine Qin [4] Tryz.func78 Tryz.results78 Tryz.ntmps78 ?_
  repeat' (first|refine QV ?_|((with_reducible refine Zg ?_);intro bm)|refine QY ?_|(refine QB ?_;intro b)|(with_reducible refine QZ ?_<;>(try constructor)<;>intro hb<;>try intro hb1)|refine Qc Tryz.call116 (hC.out _ _) ?_|refine Qc Tryz.call119 (hA.out _ _) ?_|fail)
  all_goals exact Ar)
theorem Nu(x y:Rl)(b:Nat)(st:St):TrF Tryz.prog 80 [.agg y.cells,.ptr b 0] (.box b 34 x.cells::st) fun d st'=>d=.b (y.name.toList == x.name.toList)∧st'=.box b 34 x.cells::st:=by
 unfold Rl.cells
 cases x with
|mk nm sal ps acts =>
 cases y with
|mk nm2 sal2 ps2 acts2 =>
 dsimp only
 generalize ps.map Pt.cells=PS at *
 generalize acts.map Ac.cells=AS at *
 generalize ps2.map Pt.cells=PS2 at *
 generalize acts2.map Ac.cells=AS2 at *
 refine Qin [3] Tryz.func80 Tryz.results80 Tryz.ntmps80 ?_
 exact WR
namespace Rul
def nmS (x:Rl)(s:Unit)(y:Rl):Bool×Unit:=(y.name.toList == x.name.toList,s)
theorem anyS_nm(x:Rl):∀l:List Rl,anyS (nmS x) () l=(l.any fun y=>y.name.toList == x.name.toList,())
|[]=>rfl
|y::l=>by
  rw[anyS,List.any_cons]
  unfold nmS
  cases h:(y.name.toList == x.name.toList) with
  | true=>rfl
  | false =>
   dsimp only
   rw[if_neg Bool.false_ne_true,Bool.false_or]
   exact anyS_nm x l
theorem rightL_drop{L:List Tm}{R l:List Rl}{i:Nat}{x:Rl}(h:l[i]?=some x):rightL L R (l.drop i) i=(oneB L x && (!((R.take i).any fun y=>y.name.toList == x.name.toList) && rightL L R (l.drop (i+1)) (i+1))):=by
 obtain⟨h1,rfl⟩:=List.getElem?_eq_some_iff.1 h
 rw[List.drop_eq_getElem_cons h1,rightL]
end Rul
theorem Pd(L:List Tm)(hL:∀t∈L,TOk t)(hl:L.length≤1000000)(R:List Rl)(hR:∀x∈R,Rul.RK x)(hRl:R.length≤1000000)(st:St):TrF Tryz.prog 47 [.sl .shared (L.map Tm.cells),.sl .shared (R.map Rl.cells)] st fun d st'=>d=.b (Rul.right L R)∧st'=st:=by
 have hReg:=SD L hL hl
 have hO:=Lib.hid fun(x:Rl) (h:x∈R)=>UQ L hL hl x (hR x h)
 have hC:=Lib.hid fun(x:Rl) (i b:Nat)=>Wn 80 [.ptr b 0] Tryz.call80 (R.take i) (by rw[List.length_take];omega) (Rul.nmS x) (fun _=>.box b 34 x.cells::st) (fun y h s=>Nu x y b st) ()
 have hm:(R.map Rl.cells).length=R.length:=List.length_map ..
 have hc:=hMp Rl.cells R
 have htk:Hid (∀i:Nat,(R.take i).map Rl.cells=(R.map Rl.cells).take i):=fun i=>List.map_take
 unfold Rul.right
 generalize L.map Tm.cells=LS at *
 obtain⟨RS,hRS⟩:∃RS,R.map Rl.cells=RS:=⟨_,rfl⟩
 rw[hRS] at hm hc htk ⊢
 have hall:(RS.all fun e=>e.length == 4)=true:=by
  rw[←hRS,List.all_eq_true]
  intro e he
  obtain⟨x, -,rfl⟩:=List.mem_map.1 he
  rfl
 clear hRS hR
 cases hq:Reg.right L with
|false =>
  rw[hq] at hReg
  rw[Bool.false_and]
  replace hReg:=Lib.hid hReg
  refine Qin [4] Tryz.func47 Tryz.results47 Tryz.ntmps47 ?_
  exact WR
|true =>
 rw[hq] at hReg
 rw[Bool.true_and]
 replace hReg:=Lib.hid hReg
 by_cases h8:8<(R.length:Int)
 · rw[decide_eq_false (show¬R.length≤8 by omega),Bool.false_and]
   refine Qin [4] Tryz.func47 Tryz.results47 Tryz.ntmps47 ?_
   exact WR
 rw[decide_eq_true (show R.length≤8 by omega),Bool.true_and]
 obtain⟨Q,hQ⟩:∃Q,Rul.rightL L R R 0=Q:=⟨_,rfl⟩
 rw[hQ]
 have HQ:Hid (Rul.rightL L R (R.drop 0) 0=Q):=hQ
 clear hQ
 refine Qin [4] Tryz.func47 Tryz.results47 Tryz.ntmps47 ?_
 repeat' (first|refine QX ?_|(refine QB ?_;intro b)|(with_reducible refine QZ ?_<;>(try constructor)<;>intro hb<;>try intro hb1)|fail)
 clear hReg
 refine Aj (ι:=Nat) (fun i A st'=>i≤R.length∧Hid (Rul.rightL L R (R.drop i) i=Q)∧A.df=[]∧A.e 0=.sl .shared LS∧A.e 1=.sl .shared RS∧A.e 15=.sl .shared RS∧A.e 16=.i R.length∧A.e 17=.i i∧st=st') (fun i=>R.length - i) 0 ⟨Nat.zero_le _,HQ,Qf,Qf,Qf,Qf,Qf,Qf,rfl⟩ ?_
 rintro i A st' ⟨hi,HT,hdf,e0,e1,e15,e16,e17,rfl⟩
 clear HQ
 by_cases hlt:i<R.length
 · have hle:(i:Int)≤R.length:=by omega
   have hle2:i≤R.length:=by omega
   obtain⟨x,hx⟩:=gEx hlt
   have h1:=hc.out i x hx
   have hOx:=hO.out x (List.mem_of_getElem? hx)
   have hCx:=hC.out x i
   have HE:=HT.out
   rw[Rul.rightL_drop hx] at HE
   have htki:=htk.out i
   rw[htki,Rul.anyS_nm] at hCx
   dsimp only at hCx
   clear HT hx hO hC hc htk htki
   obtain⟨G,hGG⟩:∃G,Rul.rightL L R (R.drop (i+1)) (i+1)=G:=⟨_,rfl⟩
   rw[hGG] at HE
   replace hGG:=Lib.hid hGG
   generalize Rul.oneB L x=q1 at *
   generalize ((R.take i).any fun y=>y.name.toList == x.name.toList)=q2 at *
   unfold Rl.cells at h1 hOx hCx
   generalize x.pats.map Pt.cells=PS at *
   generalize x.acts.map Ac.cells=AS at *
   generalize x.name=nm at *
   generalize x.sal=sal at *
   replace hOx:=Lib.hid hOx
   replace hCx:=Lib.hid hCx
   cases q1 with
   | false =>
    rw[Bool.false_and] at HE
    subst HE
    clear hGG
    exact WR
   | true =>
    rw[Bool.true_and] at HE
    cases q2 with
    | true =>
     rw[Bool.not_true,Bool.false_and] at HE
     subst HE
     clear hGG
     repeat' (first|refine QX ?_|(refine QB ?_;intro b)|(with_reducible refine QZ ?_<;>(try constructor)<;>intro hb<;>try intro hb1)|refine Qc Tryz.call79 ((hCx.out _)) ?_|fail)
     skip
     all_goals exact Ar
    | false =>
     rw[Bool.not_false,Bool.true_and] at HE
     replace HE:=Lib.hid (hGG.out.trans HE)
     clear hGG
     repeat' (first|refine QX ?_|(refine QB ?_;intro b)|(with_reducible refine QZ ?_<;>(try constructor)<;>intro hb<;>try intro hb1)|refine Qc Tryz.call79 ((hCx.out _)) ?_|fail)
     refine⟨i+1,st,q_u,⟨hlt,HE,?_,?_,?_,?_,?_,?_,rfl⟩,by omega⟩
     all_goals exact Qf
 · have HE:=HT.out
   rw[List.drop_of_length_le q_o,Rul.rightL] at HE
   subst HE
   clear HT
   exact WR
end
section
attribute [local push_cast] Ad Ae Nat.mul_one Int.sub_zero
def FQ (b:List UInt8):List D:=[.sl .shared (b.map Ad)]
attribute [local push_cast] FQ
end
section
attribute [local push_cast] Ad Ae FQ V.cells_mk V.cells_take V.cells_len Nat.mul_one Int.sub_zero
open Go.RowKit B
theorem XG(n:Int)(st:St):TrF Tryz.prog 44 [.i n] st fun x st'=>x=.agg (V.mk 2 n ⟨#[]⟩ []).cells∧st'=st:=by
 refine YY 2 30 Tryz.func44 Tryz.ntmps44 ?_
 repeat' (first|refine QX ?_|(refine QB ?_;intro b)|(with_reducible refine QZ ?_<;>(try constructor)<;>intro hb<;>try intro hb1)|fail)
 all_goals exact ON
end
section
attribute [local push_cast] Ad Ae Ao FQ V.cells_mk V.cells_len Nat.mul_one Int.sub_zero List.map_nil beq_self_eq_true bne_self_eq_false List.head?_cons
open Go.RowKit B
namespace Reg
def IL (n:Int):List UInt8:=if 0≤n∧n≤255 then[UInt8.ofNat n.toNat] else[]
def bM (s:Sl):List (List UInt8):=[tx s.name.data.toList,IL s.types,IL (if s.req then 1 else 0),s.dv.bin]
def Zf (s:Sl):List UInt8:=(bM s).flatten
end Reg
namespace Reg
def b8 (n:Int):UInt8:=UInt8.ofNat (n % 256).toNat
def UF (p:Stp):List UInt8 :=
 if p.kind=1 then[IL p.kind,Zf p.slot].flatten
 else if p.kind=2∨p.kind=3∨p.kind=4 then[IL p.kind,IL p.col].flatten
 else if p.kind=5 then[IL p.kind,be 4 p.order.length].flatten++p.order.map b8
 else IL p.kind
def bL (p:Stp):List UInt8 :=
 if p.kind=3 then[UF p,tx p.slot.name.data.toList].flatten
 else if p.kind=4 then[UF p,IL p.slot.types].flatten
 else UF p
end Reg
end
section
attribute [local push_cast] Ad Ae Ao FQ V.cells_mk V.cells_len Nat.mul_one Int.sub_zero List.map_nil beq_self_eq_true bne_self_eq_false List.head?_cons
open Go.RowKit B
set_option maxHeartbeats 16000000
namespace Rul
def fp (n:Int):Bool:=decide (n<0) || decide (255<n)
end Rul
end
section
attribute [local push_cast] Ad Ae Ao FQ V.cells_mk V.cells_len Nat.mul_one Int.sub_zero List.map_nil beq_self_eq_true bne_self_eq_false List.head?_cons
open Go.RowKit B
namespace Reg
def SlP (s:Sl):Prop:=s.name.size≤300∧s.dv.nodes≤1000∧s.dv.Ok
def StP (p:Stp):Prop:=SlP p.slot∧p.order.length≤1000
structure TmP (t:Tm):Prop where
 nm:t.name.size≤300
 ls:t.slots.length≤8
 lt:t.steps.length≤8
 os:∀s∈t.slots,SlP s
 ot:∀s∈t.steps,StP s
def VN {α:Type}(f:α→List UInt8)(l:List α):List UInt8:=be 4 l.length++(l.map f).flatten
def tmP (t:Tm):List (List UInt8):=[tx t.name.data.toList,VN Zf t.slots,VN bL t.steps]
def tmB (t:Tm):List UInt8:=(tmP t).flatten
def put (L:List Tm):List UInt8:=if right L=true then VN tmB L else[]
end Reg
end
section
attribute [local push_cast] Ad Ae Ao V.cells_mk V.cells_len Nat.mul_one Int.sub_zero List.map_nil beq_self_eq_true bne_self_eq_false List.head?_cons
namespace Reg
def Wz {α:Type}(f:α→α→Bool):List α→List α→Bool
|[],[]=>true
|a::l,b::m=>f a b && Wz f l m
|_,_=>false
def Ze (a b:Sl):Bool:=(a.name.toList == b.name.toList) && ((a.types == b.types) && ((a.req == b.req) && (a.dv.cmp b.dv == 0)))
def bK (a b:Stp):Bool:=(a.kind == b.kind) && ((a.col == b.col) && (Ze a.slot b.slot && Wz (· == ·) a.order b.order))
def tmS (a b:Tm):Bool:=(a.name.toList == b.name.toList) && (Wz Ze a.slots b.slots && Wz bK a.steps b.steps)
def same (a b:List Tm):Bool:=Wz tmS a b
structure TmQ (t:Tm):Prop where
 ls:t.slots.length≤1000000
 lt:t.steps.length≤1000000
 os:∀s∈t.slots,s.dv.Bg
 ot:∀s∈t.steps,s.slot.dv.Bg∧s.order.length≤1000000
end Reg
end
namespace RS
end RS
section
attribute [local push_cast] Ad Ae RS.cells V.cells_mk V.cells_len Nat.mul_one Int.sub_zero List.map_nil beq_self_eq_true bne_self_eq_false List.head?_cons
open Go.RowKit B
namespace Reg
def rdL {α:Type}(f:RS→α×RS):Nat→RS→List α×RS
|0,s=>([],s)
|n+1,s=>if s.bad=true then([],s) else((f s).1::(rdL f n (f s).2).1,(rdL f n (f s).2).2)
def Fq {α:Type}(f:RS→α×RS)(k:Int)(s:RS):List α×RS:=rdL f (if k<s.rnum.1 then k else s.rnum.1).toNat s.rnum.2
def GV:Sl:=⟨⟨#[]⟩,0,false,V.zero⟩
def Hp (s:RS):Sl×RS :=
 (⟨if 1<s.text.2.byte.2.byte.1 then⟨#[]⟩ else s.text.1,s.text.2.byte.1,s.text.2.byte.2.byte.1 == 1,s.text.2.byte.2.byte.2.val.1⟩,s.text.2.byte.2.byte.2.val.2)
def Rh (s:RS):Stp×RS :=
 if s.byte.1=1 then(⟨1,0,(Hp s.byte.2).1,[]⟩,(Hp s.byte.2).2)
 else if s.byte.1=2 then(⟨2,s.byte.2.byte.1,GV,[]⟩,s.byte.2.byte.2)
 else if s.byte.1=3 then(⟨3,s.byte.2.byte.1,{GV with name:=s.byte.2.byte.2.text.1},[]⟩,s.byte.2.byte.2.text.2)
 else if s.byte.1=4 then(⟨4,s.byte.2.byte.1,{GV with types:=s.byte.2.byte.2.byte.1},[]⟩,s.byte.2.byte.2.byte.2)
 else if s.byte.1=5 then(⟨5,0,GV,(Fq RS.byte 9 s.byte.2).1⟩,(Fq RS.byte 9 s.byte.2).2)
 else(⟨s.byte.1,0,GV,[]⟩,s.byte.2)
def Ot (s:RS):Tm×RS :=
 (⟨s.text.1,(Fq Hp 9 s.text.2).1,(Fq Rh 9 (Fq Hp 9 s.text.2).2).1⟩,(Fq Rh 9 (Fq Hp 9 s.text.2).2).2)
def read (s:RS):Option (List Tm)×RS :=
 if (Fq Ot 7 s).2.bad=true∨right (Fq Ot 7 s).1=false then(none,(Fq Ot 7 s).2) else(some (Fq Ot 7 s).1,(Fq Ot 7 s).2)
end Reg
theorem Stp.cells_mk(kind col:Int)(nm:ByteArray)(ty:Int)(rq:Bool)(k n:Int)(sv:ByteArray)(lv:List V)(order:List Int):(Stp.mk kind col (Sl.mk nm ty rq (.mk k n sv lv)) order).cells=[.i kind,.i col,.str nm,.i ty,.b rq,.i k,.i n,.str sv,.sl .shared (lv.map V.cells),.sl .shared (order.map Ae)]:=by
 unfold Stp.cells
 rw[Sl.cells_mk];rfl
theorem Tm.cells_mk(nm:ByteArray)(ss:List Sl)(tt:List Stp):(Tm.mk nm ss tt).cells=[.str nm,.sl .shared (ss.map Sl.cells),.sl .shared (tt.map Stp.cells)]:=rfl
namespace Reg
def get (b:List UInt8):Option (List Tm):=if (read ⟨.shared,b,false⟩).1.isSome=true∧(read ⟨.shared,b,false⟩).2.bad=false∧(read ⟨.shared,b,false⟩).2.l.length=0 then(read ⟨.shared,b,false⟩).1 else none
end Reg
end
section
open Go.RowKit B
namespace B
end B
namespace RS
end RS
namespace RS
def Ex {α:Type}(f:RS→α×RS):Prop:=∀o l x o' r,f ⟨o,l,false⟩=(x,⟨o',r,false⟩)→∀q,f ⟨o,l++q,false⟩=(x,⟨o',r++q,false⟩)
def Bd {α:Type}(f:RS→α×RS):Prop:=∀s,s.bad=true→(f s).2.bad=true
end RS
end
namespace Sch
def cut (t:Tm)(k:Nat):Tm:=⟨t.name,t.slots,t.steps.take k⟩
end Sch
structure Rc where
 v:Int
 s:List V
def Rc.cells (r:Rc):List D:=[.i r.v,.sl .shared (r.s.map V.cells)]
namespace Sch
structure Grow (a b:List Sl):Prop where
 len:a.length≤b.length
 old:∀(i:Nat) (s:Sl),a[i]?=some s→∃s',b[i]?=some s'∧s'.dv=s.dv∧∀v,fits s v=true→fits s' v=true
theorem Grow.refl(a:List Sl):Grow a a:=⟨Nat.le_refl _,fun _ s h=>⟨s,h,rfl,fun _ h=>h⟩⟩
theorem Grow.trans{a b c:List Sl}(h:Grow a b)(k:Grow b c):Grow a c:=by
 refine⟨Nat.le_trans h.len k.len,fun i s hs=>?_⟩
 obtain⟨s1,h1,h2,h3⟩:=h.old i s hs
 obtain⟨s2,k1,k2,k3⟩:=k.old i s1 h1
 exact⟨s2,k1,k2.trans h2,fun v hv=>k3 v (h3 v hv)⟩
structure SOk (s:Sl):Prop where
 name:V.isName s.name.data.toList=true
 types:takes s.types=true
 def_:fits s s.dv=true
end Sch
section
open Go.RowKit B
namespace Reg
structure SlG (s:Sl):Prop where
 nm:s.name.size≤300
 ty:0≤s.types∧s.types≤255
 dv:s.dv.right=true
 ok:s.dv.Ok
def StG (p:Stp):Prop :=
 (p.kind=1∧p.col=0∧SlG p.slot∧p.order=[])∨(p.kind=2∧(0≤p.col∧p.col≤255)∧p.slot=GV∧p.order=[]) ∨
 (p.kind=3∧(0≤p.col∧p.col≤255)∧p.slot={GV with name:=p.slot.name}∧p.slot.name.size≤300∧p.order=[]) ∨
 (p.kind=4∧(0≤p.col∧p.col≤255)∧p.slot={GV with types:=p.slot.types}∧(0≤p.slot.types∧p.slot.types≤255)∧p.order=[]) ∨
 (p.kind=5∧p.col=0∧p.slot=GV∧p.order.length≤8∧∀k∈p.order,0≤k∧k≤255)
structure TmG (t:Tm):Prop where
 nm:t.name.size≤300
 ls:t.slots.length≤8
 lt:t.steps.length≤8
 os:∀s∈t.slots,SlG s
 ot:∀s∈t.steps,StG s
end Reg
namespace Sch
end Sch
theorem Reg.TmG.put{t:Tm}(h:Reg.TmG t)(hs:∀s∈t.steps,s.slot.name.size≤300∧s.slot.dv.nodes≤1000∧s.slot.dv.Ok):Reg.TmP t :=
 ⟨h.nm,h.ls,h.lt,fun s k=>⟨(h.os s k).nm,by have:=(V.right_iff.1 (h.os s k).dv).2.2;omega,(h.os s k).ok⟩,fun s k=>⟨hs s k,by
  rcases h.ot s k with h|h|h|h|h
  · rw[h.2.2.2];exact Nat.zero_le _
  · rw[h.2.2.2];exact Nat.zero_le _
  · rw[h.2.2.2.2];exact Nat.zero_le _
  · rw[h.2.2.2.2];exact Nat.zero_le _
  · have:=h.2.2.2.1;omega⟩⟩
namespace Reg
theorem JX(nm:ByteArray):∀(l:List Tm) (i:Nat),(findL nm l i = -1∧∀t∈l,¬t.name.toList=nm.toList)∨∃(j:Nat) (t:Tm),l[j]?=some t∧t.name.toList=nm.toList∧findL nm l i=((i+j:Nat):Int)∧∀(k:Nat) (u:Tm),k<j→l[k]?=some u→¬u.name.toList=nm.toList
|[],i=>.inl ⟨rfl,fun t h=>by cases h⟩
|t::l,i=>by
  rw[findL]
  by_cases h:t.name.toList=nm.toList
  · rw[if_pos (beq_iff_eq.2 h)]
    exact .inr ⟨0,t,rfl,h,rfl,fun k u hk=>by omega⟩
  · rw[if_neg (fun k=>h (beq_iff_eq.1 k))]
    rcases JX nm l (i+1) with⟨h1,h2⟩|⟨j,u,h1,h2,h3,h4⟩
    · exact .inl ⟨h1, fun u hu => by
       rcases List.mem_cons.1 hu with rfl|hu
       · exact h
       · exact h2 u hu⟩
    · refine .inr ⟨j+1,u,h1,h2,by rw[h3];congr 1;omega,fun k v hk hv=>?_⟩
      cases k with
      | zero=>cases hv;exact h
      | succ k=>exact h4 k v q_o hv
theorem Yr{L:List Tm}{nm:ByteArray}{i:Nat}{t:Tm}(ht:L[i]?=some t)(hn:t.name.toList=nm.toList)(h:∀(k:Nat) (u:Tm),k<i→L[k]?=some u→¬u.name.toList=nm.toList):find L nm=i:=by
 unfold find
 rcases JX nm L 0 with⟨h1,h2⟩|⟨j,u,h1,h2,h3,h4⟩
 · exact absurd hn (h2 t (List.mem_of_getElem? ht))
 · rw[h3,Nat.zero_add]
   rcases Nat.lt_trichotomy i j with hl|he|hl
   · exact absurd hn (h4 i t hl ht)
   · rw[he]
   · exact absurd h2 (h j u hl h1)
def Apart (L:List Tm):Prop:=∀(i j:Nat) (t u:Tm),L[i]?=some t→L[j]?=some u→t.name.toList=u.name.toList→i=j
theorem PZ{L:List Tm}:Apart L↔∀(i:Nat) (t:Tm),L[i]?=some t→find L t.name=i:=by
 constructor
 · intro h i t ht
   exact Yr ht rfl fun k u hk hu he=>by have:=h k i u t hu ht he;omega
 · intro h i j t u ht hu he
   have h1:=h i t ht
   have h2:=h j u hu
   have e:find L t.name=find L u.name:=by
    have:∀(l:List Tm) (i:Nat),findL t.name l i=findL u.name l i:=fun l=>by
     induction l with
     | nil=>intro _;rfl
     | cons a l ih=>intro i;rw[findL,findL,he,ih]
    exact this L 0
   rw[h1,h2] at e
   exact Int.ofNat.inj e
theorem rightL_iff(L:List Tm):∀(l:List Tm) (i:Nat),rightL L l i=true↔∀(j:Nat) (t:Tm),l[j]?=some t→i+j<6∧0<Sch.last t∧find L t.name=((i+j:Nat):Int)
|[],i=>⟨fun _ j t h=>(by cases h),fun _=>rfl⟩
|t::l,i=>by
  rw[rightL,Bool.and_eq_true,Bool.and_eq_true,Bool.and_eq_true,decide_eq_true_eq,decide_eq_true_eq,beq_iff_eq,rightL_iff L l (i+1)]
  constructor
  · rintro⟨h1,h2,h3,h4⟩ j u hu
    cases j with
    | zero=>cases hu;exact⟨h1,h2,h3⟩
    | succ j =>
     have:=h4 j u hu
     rw[show i+1+j=i+(j+1) by omega] at this
     exact this
  · intro h
    have h0:=h 0 t rfl
    refine⟨h0.1,h0.2.1,h0.2.2,fun j u hu=>?_⟩
    have:=h (j+1) u hu
    rw[show i+(j+1)=i+1+j by omega] at this
    exact this
theorem right_iff{L:List Tm}:right L=true↔L.length≤6∧(∀t∈L,0<Sch.last t)∧Apart L:=by
 unfold right
 rw[rightL_iff,PZ]
 constructor
 · intro h
   refine⟨?_,?_,?_⟩
   · rcases Nat.lt_or_ge 6 L.length with hl|hl
     · obtain⟨t,ht⟩:=gEx hl
       have:=(h 6 t ht).1
       omega
     · exact hl
   · intro t ht
     obtain⟨i,hi⟩:=List.getElem?_of_mem ht
     exact(h i t hi).2.1
   · intro i t ht
     have:=(h i t ht).2.2
     rwa[Nat.zero_add] at this
 · rintro⟨h1,h2,h3⟩ j t ht
   have hj:=(List.getElem?_eq_some_iff.1 ht).1
   exact⟨by omega,h2 t (List.mem_of_getElem? ht),by rw[Nat.zero_add];exact h3 j t ht⟩
end Reg
end
section
attribute [local push_cast] Ad Ae Ao V.cells_mk V.cells_len Nat.mul_one Int.sub_zero List.map_nil beq_self_eq_true List.head?_cons
abbrev RI:=Nat×Nat×List D
def dp (x:Vr)(s:Stp)(st:St)(d:D)(st':St):Prop :=
 (Sch.stepV x s=none∧∃X1 X2,d=.tup [.agg [.sl .shared X1,.sl .shared X2],.b false]∧st'=st)∨∃y,Sch.stepV x s=some y∧d=.tup [.agg y.cells,.b true]∧st'=st
structure RefP (x:Vr)(s:Stp):Prop where
 vi:Sch.VI 1000 x
 q:VQ s.slot.dv
 ty : -9223372036854775808≤s.slot.types∧s.slot.types≤9223372036854775807
 ord:s.order.length≤1000
abbrev fQ (o1 o2:Own)(L1 L2:List (List D))(ok:Bool):LE (.tup [.agg [.sl o1 L1,.sl o2 L2],.b ok]) (.tup [.agg [.sl .shared L1,.sl .shared L2],.b ok]):=LE.tup (l:=[.agg [.sl o1 L1,.sl o2 L2],.b ok]) ⟨LE.agg (l:=[.sl o1 L1,.sl o2 L2]) ⟨LE.sl _ _,LE.sl _ _,trivial⟩,LE.refl _,trivial⟩
def gj (x:Vr)(s:Stp)(st:St)(d:D)(st':St):Prop:=∃i:(Bool×Vr)×(Nat×Nat×List D)×(Nat×Nat×List D),(Sch.stepV x s=if i.1.1 then some i.1.2 else none)∧d=.tup [.agg [.ar i.2.1.1 0 i.1.2.slots.length i.2.1.2.1,.ar i.2.2.1 0 i.1.2.cols.length i.2.2.2.1],.b i.1.1]∧st'=.box i.2.1.1 184 ((i.1.2.slots.map Sl.cells).flatten++i.2.1.2.2)::.box i.2.2.1 3 ((i.1.2.cols.map Ao).flatten++i.2.2.2.2)::st
end
section
attribute [local push_cast] Ad Ae Ao V.cells_mk V.cells_len Nat.mul_one Int.sub_zero List.map_nil beq_self_eq_true List.head?_cons
end
section
attribute [local push_cast] Ad Ae Ao V.cells_mk V.cells_len Nat.mul_one Int.sub_zero List.map_nil beq_self_eq_true List.head?_cons
def fL (x:Vr)(st:St)(d:D)(st':St):Prop:=∃gs cS zS,(AH x.slots++zS).length=cS*7∧d=D.agg [.ar gs 0 x.slots.length cS,.sl .shared (x.cols.map Ao)]∧st'=Res.box gs 184 (AH x.slots++zS)::st
def gm (x:Vr)(s:Stp)(st:St)(d:D)(st':St):Prop:=∃i:(Bool×Vr)×RI,(Sch.stepV x s=if i.1.1 then some i.1.2 else none)∧d=.tup [.agg [.ar i.2.1 0 i.1.2.slots.length i.2.2.1,.sl .shared (i.1.2.cols.map Ao)],.b i.1.1]∧st'=.box i.2.1 184 ((i.1.2.slots.map Sl.cells).flatten++i.2.2.2)::st
def wt (t s:Nat):Nat→Nat
|0=>t
|k+1=>if Sch.has s k && !Sch.has (wt t s k) k then wt t s k+2 ^ k else wt t s k
def wm (t s:Nat):Nat→Bool
|0=>false
|k+1=>if Sch.has s k && !Sch.has (wt t s k) k then true else wm t s k
end
namespace Sch
def put (cols:List Nat)(l:List Int):List Nat:=l.map fun o=>cols.getD o.toNat 0
end Sch
section
attribute [local push_cast] Ad Ae Ao V.cells_mk V.cells_len Nat.mul_one Int.sub_zero List.map_nil beq_self_eq_true List.head?_cons
def fN (x:Vr)(st:St)(d:D)(st':St):Prop:=∃gc cC zC,(AY x.cols++zC).length=cC*1∧d=D.agg [.sl .shared (x.slots.map Sl.cells),.ar gc 0 x.cols.length cC]∧st'=Res.box gc 3 (AY x.cols++zC)::st
def gi (x:Vr)(s:Stp)(st:St)(d:D)(st':St):Prop:=∃i:(Bool×Vr)×RI,(Sch.stepV x s=if i.1.1 then some i.1.2 else none)∧d=.tup [.agg [.sl .shared (i.1.2.slots.map Sl.cells),.ar i.2.1 0 i.1.2.cols.length i.2.2.1],.b i.1.1]∧st'=.box i.2.1 3 ((i.1.2.cols.map Ao).flatten++i.2.2.2)::st
namespace Sch
structure VZ (n:Nat)(x:Vr):Prop where
 vi:VI n x
 nd:x.cols.Nodup
 sl:∀z∈x.slots,SOk z
end Sch
structure TQ (t:Tm):Prop where
 ls:t.slots.length≤1000
 lt:t.steps.length≤1000
 os:∀s∈t.slots,VQ s.dv∧(-9223372036854775808≤s.types∧s.types≤9223372036854775807)
 ot:∀s∈t.steps,VQ s.slot.dv∧(-9223372036854775808≤s.slot.types∧s.slot.types≤9223372036854775807)∧s.order.length≤1000
def Sch.refVers (t:Tm):List Vr:=if 0<Sch.last t then Sch.vers t else[]
end
section
end
section
attribute [local push_cast] Ad Ae Ao V.cells_mk V.cells_len Nat.mul_one Int.sub_zero List.map_nil beq_self_eq_true bne_self_eq_false List.head?_cons
namespace Reg
def dY (L:List Tm)(i:Nat):Prop:=∀(j:Nat) (t:Tm),j<i→L[j]?=some t→0<Sch.last t∧∀(k:Nat) (u:Tm),k<j→L[k]?=some u→(t.name.toList == u.name.toList)=false
end Reg
end
section
attribute [local push_cast] Ad Ae FQ V.cells_mk V.cells_take V.cells_len Nat.mul_one Int.sub_zero
open Go.RowKit B
end
section
attribute [local push_cast] Ad Ae FQ V.cells_mk V.cells_take V.cells_len Nat.mul_one Int.sub_zero
open Go.RowKit B
end
section
attribute [local push_cast] Ad Ae Ao FQ V.cells_mk V.cells_len Nat.mul_one Int.sub_zero List.map_nil beq_self_eq_true bne_self_eq_false List.head?_cons
open Go.RowKit B
namespace Reg
end Reg
end
section
attribute [local push_cast] Ad Ae Ao FQ V.cells_mk V.cells_len Nat.mul_one Int.sub_zero List.map_nil beq_self_eq_true bne_self_eq_false List.head?_cons
open Go.RowKit B
set_option maxHeartbeats 16000000
namespace Reg
def fO {α:Type}(f:α→List UInt8)(X:List UInt8)(l:List α)(i:Nat):List UInt8:=X++((l.take i).map f).flatten
end Reg
namespace Rul
def Lm {α:Type}(f:α→List UInt8×Bool)(l:List α):List UInt8×Bool:=(be 4 l.length++(l.map fun a=>(f a).1).flatten,l.any fun a=>(f a).2)
end Rul
namespace Rul
def cU (b:Bool):Int:=if b then 1 else 0
def QT (l:List Int):List UInt8×Bool:=(l.map Reg.b8,l.any fp)
def Ua (a b:List UInt8×Bool):List UInt8×Bool:=(a.1++b.1,a.2 || b.2)
def aZ (v:V):List UInt8×Bool:=(v.bin,decide (v.bin=[]))
def tsW (t:Ts):List UInt8×Bool:=Ua (QT [t.kind,t.slot,t.var]) (aZ t.val)
def ptW (p:Pt):List UInt8×Bool:=Ua (QT [p.tmpl,cU p.neg]) (Lm tsW p.tests)
def exW (e:Ex):List UInt8×Bool:=Ua (QT [cU e.isVar,e.var]) (aZ e.val)
def acW (a:Ac):List UInt8×Bool:=Ua (QT [a.kind,a.pat,a.tmpl,a.slot]) (Lm exW a.vals)
def cE (x:Rl):List UInt8:=[tx x.name.data.toList,be 8 (IntKind.u64.wrap x.sal).toNat].flatten
def rlW (x:Rl):List UInt8×Bool:=Ua (Ua (cE x,false) (Lm ptW x.pats)) (Lm acW x.acts)
def put (R:List Rl):List UInt8:=if (Lm rlW R).2=true then[] else(Lm rlW R).1
end Rul
end
section
attribute [local push_cast] Ad Ae Ao FQ V.cells_mk V.cells_len Nat.mul_one Int.sub_zero List.map_nil beq_self_eq_true bne_self_eq_false List.head?_cons
open Go.RowKit B
set_option maxHeartbeats 16000000
end
section
attribute [local push_cast] Ad Ae RS.cells V.cells_mk V.cells_len Nat.mul_one Int.sub_zero List.map_nil beq_self_eq_true bne_self_eq_false List.head?_cons
open Go.RowKit B
set_option maxHeartbeats 16000000
namespace Rul
abbrev GS:=RS×Bool
def Zm (s:GS):Bool×GS:=(s.1.byte.1 == 1,(s.1.byte.2,s.2 && decide (s.1.byte.1≤1)))
def Hw (s:GS):Int×GS:=(s.1.byte.1,(s.1.byte.2,s.2))
def a6 (s:GS):V×GS:=(s.1.val.1,(s.1.val.2,s.2))
def rdG {α:Type}(f:GS→α×GS):Nat→GS→List α×GS
|0,s=>([],s)
|n+1,s=>if s.1.bad=true then([],s) else((f s).1::(rdG f n (f s).2).1,(rdG f n (f s).2).2)
def Oq {α:Type}(f:GS→α×GS)(k:Int)(s:GS):List α×GS:=rdG f (if k<s.1.rnum.1 then k else s.1.rnum.1).toNat (s.1.rnum.2,s.2)
def tsG (s:GS):Ts×GS :=
 let a:=Hw s;let b:=Hw a.2;let c:=Hw b.2;let d:=a6 c.2
 (⟨a.1,b.1,c.1,d.1⟩,d.2)
def exG (s:GS):Ex×GS :=
 let a:=Zm s;let b:=Hw a.2;let d:=a6 b.2
 (⟨a.1,b.1,d.1⟩,d.2)
def ptG (s:GS):Pt×GS :=
 let a:=Hw s;let b:=Zm a.2;let d:=Oq tsG 7 b.2
 (⟨a.1,b.1,d.1⟩,d.2)
def acG (s:GS):Ac×GS :=
 let a:=Hw s;let b:=Hw a.2;let c:=Hw b.2;let d:=Hw c.2;let e:=Oq exG 17 d.2
 (⟨a.1,b.1,c.1,d.1,e.1⟩,e.2)
def rlG (s:GS):Rl×GS :=
 let a:=s.1.text;let b:=a.2.long;let c:=Oq ptG 5 (b.2,s.2);let d:=Oq acG 5 c.2
 (⟨a.1,b.1,c.1,d.1⟩,d.2)
def read (L:List Tm)(s:RS):Option (List Rl)×RS :=
 let x:=Oq rlG 9 (s,true)
 if x.2.1.bad=true∨x.2.2=false∨right L x.1=false then(none,x.2.1) else(some x.1,x.2.1)
end Rul
end
section
attribute [local push_cast] Ad Ae RS.cells V.cells_mk V.cells_len Nat.mul_one Int.sub_zero List.map_nil beq_self_eq_true bne_self_eq_false List.head?_cons
open Go.RowKit B
set_option maxHeartbeats 16000000
end
section
open Go.RowKit B
namespace Rul
def Byt (n:Int):Prop:=0≤n∧n≤255
structure ValG (v:V):Prop where
 r:v.right=true
 ok:v.Ok
structure TsG (t:Ts):Prop where
 k:Byt t.kind
 s:Byt t.slot
 v:Byt t.var
 g:ValG t.val
structure PtG (p:Pt):Prop where
 t:Byt p.tmpl
 l:p.tests.length≤6
 g:∀t∈p.tests,TsG t
structure ExG (e:Ex):Prop where
 v:Byt e.var
 g:ValG e.val
structure AcG (a:Ac):Prop where
 k:Byt a.kind
 p:Byt a.pat
 t:Byt a.tmpl
 s:Byt a.slot
 l:a.vals.length≤16
 g:∀e∈a.vals,ExG e
structure RlG (x:Rl):Prop where
 nm:x.name.size≤900000
 sal : -9223372036854775808≤x.sal∧x.sal≤9223372036854775807
 lp:x.pats.length≤4
 la:x.acts.length≤4
 gp:∀p∈x.pats,PtG p
 ga:∀a∈x.acts,AcG a
theorem Uo{t:Tm}{v:Int}{x:Vr}(h:Sch.ver t v=some x):x∈Sch.vers t:=by
 unfold Sch.ver at h
 split at h
 · exact List.mem_of_getElem? h
 · cases h
theorem WT(t:Tm)(v:Int):(Sch.verX t v).slots.length≤16:=by
 unfold Sch.verX
 cases hv:Sch.ver t v with
|none=>exact Nat.zero_le _
|some x=>exact(Sch.vers_vi (Uo hv)).ls
theorem slots_le(L:List Tm)(k:Int):(slots L k).length≤16:=by
 unfold slots
 split
 · split
   · exact WT ..
   · exact Nat.zero_le _
 · exact Nat.zero_le _
def In8 (B:List Int):Prop:=∀n∈B,0≤n∧n<8
theorem rightL_iff{L:List Tm}{R:List Rl}:∀(l:List Rl) (i:Nat),rightL L R l i=true↔∀(j:Nat) (x:Rl),l[j]?=some x→oneB L x=true∧∀y∈R.take (i+j),¬y.name.toList=x.name.toList
|[],i=>⟨fun _ j x h=>(by cases h),fun _=>rfl⟩
|x::l,i=>by
  rw[rightL,Bool.and_eq_true,Bool.and_eq_true,Bool.not_eq_true',List.any_eq_false,rightL_iff l (i+1)]
  constructor
  · rintro⟨h1,h2,h3⟩ j y hy
    cases j with
    | zero=>cases hy;exact⟨h1,fun y hy he=>h2 y hy (beq_iff_eq.2 he)⟩
    | succ j =>
     have:=h3 j y hy
     rwa[show i+1+j=i+(j+1) by omega] at this
  · intro h
    refine⟨(h 0 x rfl).1,fun y hy he=>(h 0 x rfl).2 y hy (beq_iff_eq.1 he),fun j y hy=>?_⟩
    have:=h (j+1) y hy
    rwa[show i+(j+1)=i+1+j by omega] at this
theorem right_iff{L:List Tm}{R:List Rl}:right L R=true↔Reg.right L=true∧R.length≤8∧(∀x∈R,oneB L x=true)∧∀(i j:Nat) (x y:Rl),R[i]?=some x→R[j]?=some y→j<i→¬y.name.toList=x.name.toList:=by
 unfold right
 rw[Bool.and_eq_true,Bool.and_eq_true,decide_eq_true_eq,rightL_iff]
 constructor
 · rintro⟨h1,h2,h3⟩
   refine⟨h1,h2,fun x hx=>?_,fun i j x y hx hy hij=>?_⟩
   · obtain⟨i,hi⟩:=List.getElem?_of_mem hx
     exact(h3 i x hi).1
   · refine(h3 i x hx).2 y ?_
     rw[Nat.zero_add]
     exact List.mem_of_getElem? (by rw[List.getElem?_take_of_lt hij];exact hy)
 · rintro⟨h1,h2,h3,h4⟩
   refine⟨h1,h2,fun i x hx=>⟨h3 x (List.mem_of_getElem? hx),fun y hy=>?_⟩⟩
   rw[Nat.zero_add] at hy
   obtain⟨j,hj⟩:=List.getElem?_of_mem hy
   have hji:j<i:=by
    have:=(List.getElem?_eq_some_iff.1 hj).1
    rw[List.length_take] at this
    omega
   rw[List.getElem?_take_of_lt hji] at hj
   exact h4 i j x y hx hj hji
end Rul
end
section
attribute [local push_cast] Ad Ae Ao V.cells_mk V.cells_len Nat.mul_one Int.sub_zero List.map_nil beq_self_eq_true List.head?_cons
namespace Sch
def greatS (s:Sl):Bool:=s.dv.great || decide (300<s.name.size)
def greatP (s:Stp):Bool:=s.slot.dv.great || (decide (300<s.slot.name.size) || decide (30<s.order.length))
def great (t:Tm):Bool:=decide (30<t.slots.length) || (decide (30<t.steps.length) || (decide (300<t.name.size) || (t.slots.any greatS || t.steps.any greatP)))
end Sch
theorem CM{α:Type}{p:α→Bool}{l:List α}{i:Nat}{x:α}(h:l[i]?=some x):(l.drop i).any p=(p x || (l.drop (i+1)).any p):=by
 obtain⟨h1,rfl⟩:=List.getElem?_eq_some_iff.1 h
 rw[List.drop_eq_getElem_cons h1,List.any_cons]
theorem NF(t:Tm)(hw:t.Wf)(st:St):TrF Tryz.prog 76 [.agg t.cells] st fun d st'=>d=.b (Sch.great t)∧st'=st:=by
 obtain⟨-,hws,hsl,hwp,hpl⟩:=hw
 obtain⟨B,hB⟩:∃B,Sch.great t=B:=⟨_,rfl⟩
 rw[hB]
 unfold Sch.great at hB
 cases t with
|mk nm slots steps =>
 unfold Tm.cells
 dsimp only at hB hws hwp hsl hpl ⊢
 have hws2:=Lib.hid hws
 have hwp2:=Lib.hid hwp
 clear hws hwp
 have hml:(slots.map Sl.cells).length=slots.length:=List.length_map ..
 have hmp:(steps.map Stp.cells).length=steps.length:=List.length_map ..
 have hcl:=hMp Sl.cells slots
 have hcp:=hMp Stp.cells steps
 generalize slots.map Sl.cells=SL at *
 generalize steps.map Stp.cells=TL at *
 have hn1:=hml
 have hn2:=hmp
 unfold maxLen at hsl hpl
 by_cases h1:30<slots.length
 · have hBt:B=true:=by rw[←hB];simp[h1]
   subst hBt
   clear hB
   refine Qin [2] Tryz.func76 Tryz.results76 Tryz.ntmps76 ?_
   exact WR
 by_cases h2:30<steps.length
 · have hBt:B=true:=by rw[←hB];simp[h2]
   subst hBt
   clear hB
   refine Qin [2] Tryz.func76 Tryz.results76 Tryz.ntmps76 ?_
   exact WR
 by_cases h3:300<nm.size
 · have hBt:B=true:=by rw[←hB];simp[h3]
   subst hBt
   clear hB
   refine Qin [2] Tryz.func76 Tryz.results76 Tryz.ntmps76 ?_
   exact WR
 have HB:Hid (((slots.drop 0).any Sch.greatS || steps.any Sch.greatP)=B):=Lib.hid (by rw[←hB];simp[h1,h2,h3])
 clear hB
 refine Qin [2] Tryz.func76 Tryz.results76 Tryz.ntmps76 ?_
 repeat' (first|refine QX ?_|(refine QB ?_;intro b)|(with_reducible refine QZ ?_<;>(try constructor)<;>intro hb<;>try intro hb1)|fail)
 refine Bq (ι:=Nat) (fun i A st'=>i≤slots.length∧Hid (((slots.drop i).any Sch.greatS || steps.any Sch.greatP)=B)∧A.df=[]∧A.e 1=.ip [.str nm,.sl .shared SL,.sl .shared TL]∧A.e 3=.i i∧st=st') (fun i=>slots.length - i) 0 ⟨Nat.zero_le _,HB,Qf,Qf,Qf,rfl⟩ ?_
 rintro i A st' ⟨hi,HT,hdf,e1,e3,rfl⟩
 clear HB
 by_cases hlt:i<slots.length
 · obtain⟨s,hs⟩:=gEx hlt
   have HE:=HT.out
   rw[CM hs,Bool.or_assoc] at HE
   have hc:=hcl.out i s hs
   have hG:=EG s.dv (hws2.out s (List.mem_of_getElem? hs)).2.2
   clear HT hs
   unfold Sch.greatS at HE
   cases s with
   | mk snm ty rq dv =>
   dsimp only at HE hG
   generalize V.great dv=g at *
   cases dv with
   | mk k n sv l =>
   rw[Sl.cells_mk] at hc
   rw[V.cells_mk] at hG
   replace hG:=Lib.hid hG
   cases g with
   | true =>
    simp only[Bool.true_or] at HE
    subst HE
    exact WR
   | false =>
    by_cases h4:300<snm.size
    · simp only[h4,decide_true,Bool.or_true,Bool.true_or] at HE
      subst HE
      exact WR
    · rw[decide_eq_false h4,Bool.or_self,Bool.false_or] at HE
      replace HE:=Lib.hid HE
      repeat' (first|refine QX ?_|(refine QB ?_;intro b)|(with_reducible refine QZ ?_<;>(try constructor)<;>intro hb<;>try intro hb1)|fail)
      refine⟨i+1,⟨hlt,HE,?_,?_,?_,rfl⟩,?_⟩
      all_goals exact Qf
 · have HE:=HT.out
   rw[List.drop_of_length_le q_o,List.any_nil,Bool.false_or] at HE
   have HB:Hid ((steps.drop 0).any Sch.greatP=B):=HE
   clear HT HE
   repeat' (first|refine QX ?_|(refine QB ?_;intro b)|(with_reducible refine QZ ?_<;>(try constructor)<;>intro hb<;>try intro hb1)|fail)
   refine Bq (ι:=Nat) (fun i A st'=>i≤steps.length∧Hid ((steps.drop i).any Sch.greatP=B)∧A.df=[]∧A.e 1=.ip [.str nm,.sl .shared SL,.sl .shared TL]∧A.e 4=.i i∧st=st') (fun i=>steps.length - i) 0 ⟨Nat.zero_le _,HB,Qf,Qf,Qf,rfl⟩ ?_
   clear hdf e1 e3
   rintro i A st' ⟨hi,HT,hdf,e1,e4,rfl⟩
   clear HB
   by_cases hlt:i<steps.length
   · obtain⟨s,hs⟩:=gEx hlt
     have HE:=HT.out
     rw[CM hs] at HE
     have hc:=hcp.out i s hs
     have hG:=EG s.slot.dv (hwp2.out s (List.mem_of_getElem? hs)).2.2.1.2.2
     have hol:=(hwp2.out s (List.mem_of_getElem? hs)).2.2.2
     clear HT hs
     unfold Sch.greatP at HE
     unfold maxLen at hol
     unfold Stp.cells at hc
     cases s with
     | mk kd col slot order =>
     cases slot with
     | mk snm ty rq dv =>
     dsimp only at HE hG hol
     generalize V.great dv=g at *
     cases dv with
     | mk k n sv l =>
     rw[Sl.cells_mk] at hc
     rw[V.cells_mk] at hG
     dsimp only[List.cons_append,List.nil_append] at hc
     replace hG:=Lib.hid hG
     cases g with
     | true =>
      simp only[Bool.true_or] at HE
      subst HE
      exact WR
     | false =>
      by_cases h4:300<snm.size
      · simp only[h4,decide_true,Bool.or_true,Bool.true_or] at HE
        subst HE
        exact WR
      · by_cases h5:30<order.length
        · simp only[h5,decide_true,Bool.or_true,Bool.true_or] at HE
          subst HE
          exact WR
        · rw[decide_eq_false h4,decide_eq_false h5,Bool.or_self,Bool.or_self,Bool.false_or] at HE
          replace HE:=Lib.hid HE
          repeat' (first|refine QX ?_|(refine QB ?_;intro b)|(with_reducible refine QZ ?_<;>(try constructor)<;>intro hb<;>try intro hb1)|fail)
          refine⟨i+1,⟨hlt,HE,?_,?_,?_,rfl⟩,?_⟩
          all_goals exact Qf
   · have HE:=HT.out
     rw[List.drop_of_length_le q_o,List.any_nil] at HE
     subst HE
     clear HT
     exact WR
end
theorem NV{t:Tm}(hw:t.Wf)(h:Sch.great t=false):TOk t∧(∀s∈t.slots,s.dv.nodes≤1000∧s.dv.deep≤10∧s.name.size≤300∧s.Ok)∧(∀s∈t.steps,s.slot.dv.nodes≤1000∧s.slot.dv.deep≤10∧s.slot.name.size≤300∧s.slot.Ok∧s.order.length≤30)∧t.name.size≤300∧t.slots.length≤30∧t.steps.length≤30:=by
 unfold Sch.great at h
 simp only[Bool.or_eq_false_iff,decide_eq_false_iff_not,List.any_eq_false,Bool.not_eq_true] at h
 obtain⟨h1,h2,h3,h4,h5⟩:=h
 have hs:∀s∈t.slots,s.dv.nodes≤1000∧s.dv.deep≤10∧s.name.size≤300∧s.Ok:=fun s hs=>by
  have:=h4 s hs
  unfold Sch.greatS at this
  rw[Bool.or_eq_false_iff,decide_eq_false_iff_not] at this
  obtain⟨k1,k2⟩:=V.not_great this.1
  exact⟨k1,k2,by omega,hw.ss s hs⟩
 have hp:∀s∈t.steps,s.slot.dv.nodes≤1000∧s.slot.dv.deep≤10∧s.slot.name.size≤300∧s.slot.Ok∧s.order.length≤30:=fun s hs=>by
  have:=h5 s hs
  unfold Sch.greatP at this
  simp only[Bool.or_eq_false_iff,decide_eq_false_iff_not] at this
  obtain⟨k1,k2⟩:=V.not_great this.1
  exact⟨k1,k2,by omega,(hw.ps s hs).2.2.1,by omega⟩
 refine⟨⟨by omega,by omega,fun s h=>(hs s h).1,fun s h=>?_⟩,hs,hp,by omega,by omega,by omega⟩
 obtain⟨k1, -, -,k4,k5⟩:=hp s h
 exact⟨k1,V.Ok.bg k4.2.2,by omega⟩
section
attribute [local push_cast] Ad Ae Ao FQ V.cells_mk V.cells_len Nat.mul_one Int.sub_zero List.map_nil beq_self_eq_true bne_self_eq_false List.head?_cons
open Go.RowKit B
namespace Reg
def great (L:List Tm):Bool:=decide (12<L.length) || L.any Sch.great
structure Kn (t:Tm):Prop where
 ok:TOk t
 q:TmQ t
 nm:t.name.size≤300
 os:∀s∈t.slots,s.dv.Ok
 ot:∀s∈t.steps,s.slot.name.size≤300∧s.slot.dv.nodes≤1000∧s.slot.dv.Ok
theorem not_great{L:List Tm}(hw:∀t∈L,t.Wf)(h:great L=false):L.length≤12∧∀t∈L,Kn t:=by
 unfold great at h
 rw[Bool.or_eq_false_iff,decide_eq_false_iff_not,List.any_eq_false] at h
 refine⟨by omega,fun t ht=>?_⟩
 have hg:Sch.great t=false:=by
  have:=h.2 t ht
  cases hq:Sch.great t with
  | false=>rfl
  | true=>exact absurd hq this
 obtain⟨k1,k2,k3,k4,k5,k6⟩:=NV (hw t ht) hg
 exact⟨k1,⟨by omega,by omega,fun s hs=>V.Ok.bg (k2 s hs).2.2.2.2.2,fun s hs=>⟨V.Ok.bg (k3 s hs).2.2.2.1.2.2,by have:=(k3 s hs).2.2.2.2;omega⟩⟩,k4,fun s hs=>(k2 s hs).2.2.2.2.2,fun s hs=>⟨(k3 s hs).2.2.1,(k3 s hs).1,(k3 s hs).2.2.2.1.2.2⟩⟩
end Reg
theorem Vf:BZ Tryz.prog 22 (fun l:List Tm=>[D.sl .shared (l.map Tm.cells)]) fun l=>(∀x∈l,x.Wf)∧l.length≤maxLen :=
 AR (sz:=3) Tryz.underlying22 (by kernel_rfl) q_o XJ (fun _=>rfl) fun t d hd=>by
  unfold Tm.cells at hd
  simp only[List.mem_cons,List.not_mem_nil,or_false] at hd
  rcases hd with rfl|rfl|rfl<;>rfl
theorem ND(L:List Tm)(hw:∀t∈L,t.Wf)(hl:L.length≤maxLen)(st:St):TrF Tryz.prog 45 [.sl .shared (L.map Tm.cells)] st fun d st'=>d=.b (Reg.great L)∧st'=st:=by
 unfold maxLen at hl
 have hm:(L.map Tm.cells).length=L.length:=List.length_map ..
 have hc:=hMp Tm.cells L
 have hG:=Lib.hid fun(t:Tm) (ht:t∈L)=>NF t (hw t ht)
 unfold Reg.great
 clear hw
 generalize L.map Tm.cells=LS at *
 by_cases h12:12<L.length
 · rw[decide_eq_true h12,Bool.true_or]
   refine Qin [2] Tryz.func45 Tryz.results45 Tryz.ntmps45 ?_
   exact WR
 · rw[decide_eq_false h12,Bool.false_or]
   obtain⟨F,hF⟩:∃F,L.any Sch.great=F:=⟨_,rfl⟩
   rw[hF]
   have HF:Hid ((L.drop 0).any Sch.great=F):=hF
   clear hF
   refine Qin [2] Tryz.func45 Tryz.results45 Tryz.ntmps45 ?_
   repeat' (first|refine QX ?_|(refine QB ?_;intro b)|(with_reducible refine QZ ?_<;>(try constructor)<;>intro hb<;>try intro hb1)|fail)
   refine Aj (ι:=Nat) (fun i A st'=>i≤L.length∧Hid ((L.drop i).any Sch.great=F)∧A.df=[]∧A.e 0=.sl .shared LS∧A.e 3=.i i∧st=st') (fun i=>L.length - i) 0 ⟨Nat.zero_le _,HF,Qf,Qf,Qf,rfl⟩ ?_
   rintro i A st' ⟨hi,HT,hdf,e0,e3,rfl⟩
   clear HF
   by_cases hlt:i<L.length
   · obtain⟨t,ht⟩:=gEx hlt
     have h1:=hc.out i t ht
     have HE:=HT.out
     rw[CM ht] at HE
     have hR:=hG.out t (List.mem_of_getElem? ht)
     clear HT ht
     obtain⟨G,hGG⟩:∃G,(L.drop (i+1)).any Sch.great=G:=⟨_,rfl⟩
     rw[hGG] at HE
     replace hGG:=Lib.hid hGG
     generalize Sch.great t=q at *
     unfold Tm.cells at h1 hR
     generalize t.slots.map Sl.cells=SL at *
     generalize t.steps.map Stp.cells=TL at *
     generalize t.name=nm at *
     replace hR:=Lib.hid hR
     cases q with
     | true =>
      rw[Bool.true_or] at HE
      subst HE
      exact WR
     | false =>
      rw[Bool.false_or] at HE
      replace HE:=Lib.hid (hGG.out.trans HE)
      clear hGG
      repeat' (first|refine QX ?_|(refine QB ?_;intro b)|(with_reducible refine QZ ?_<;>(try constructor)<;>intro hb<;>try intro hb1)|fail)
      refine⟨i+1,st,q_u,⟨hlt,HE,?_,?_,?_,rfl⟩,by omega⟩
      all_goals exact Qf
   · have HE:=HT.out
     rw[List.drop_of_length_le q_o] at HE
     subst HE
     clear HT
     exact WR
abbrev L13:List Tm:=[d4]
end
section
attribute [local push_cast] Ad Ae Ao V.cells_mk V.cells_len Nat.mul_one Int.sub_zero List.map_nil beq_self_eq_true bne_self_eq_false List.head?_cons
open Go.RowKit B
def Ts.Wf (t:Ts):Prop:=t.val.Ok
def Ex.Wf (e:Ex):Prop:=e.val.Ok
def Pt.Wf (p:Pt):Prop:=(∀t∈p.tests,t.Wf)∧p.tests.length≤maxLen
def Ac.Wf (a:Ac):Prop:=(∀e∈a.vals,e.Wf)∧a.vals.length≤maxLen
structure Rl.Wf (x:Rl):Prop where
 sal : -9223372036854775808≤x.sal∧x.sal≤9223372036854775807
 ps:∀p∈x.pats,p.Wf
 pl:x.pats.length≤maxLen
 ac:∀a∈x.acts,a.Wf
 al:x.acts.length≤maxLen
theorem Ts.cells_leaf(t:Ts):∀d∈t.cells,d.leaf=true:=by
 intro d hd
 unfold Ts.cells at hd
 simp only[List.mem_cons] at hd
 rcases hd with rfl|rfl|rfl|hd
 · rfl
 · rfl
 · rfl
 · exact V.cells_leaf _ d hd
theorem Ex.cells_leaf(t:Ex):∀d∈t.cells,d.leaf=true:=by
 intro d hd
 unfold Ex.cells at hd
 simp only[List.mem_cons] at hd
 rcases hd with rfl|rfl|hd
 · rfl
 · rfl
 · exact V.cells_leaf _ d hd
theorem XI:BZ Tryz.prog 76 Ts.cells Ts.Wf:=by
 intro n H enc W fuel cs x hf h
 obtain⟨xs,m,rfl, -,hl,hn,hx⟩:=DataW.trod_struct Tryz.underlying76 h
 have hl7:cs.length=7:=hl.trans (by kernel_rfl)
 obtain⟨a,a1,a2⟩:=Aa (i:=0) (n:=m) (f:=fun a:Int=>[D.i a]) hx hn rfl (k:=1) (by kernel_rfl) (Ay (k:=.i64) Tryz.underlying3 _) (Nat.le_refl _)
 obtain⟨b,b1,b2⟩:=Aa (i:=1) (n:=m) (f:=fun a:Int=>[D.i a]) hx hn rfl (k:=1) (by kernel_rfl) (Ay (k:=.i64) Tryz.underlying3 _) (Nat.le_refl _)
 obtain⟨c,c1,c2⟩:=Aa (i:=2) (n:=m) (f:=fun a:Int=>[D.i a]) hx hn rfl (k:=1) (by kernel_rfl) (Ay (k:=.i64) Tryz.underlying3 _) (Nat.le_refl _)
 obtain⟨d,d1,d2⟩:=Aa (i:=3) (n:=m) (f:=V.cells) hx hn rfl (k:=4) (by kernel_rfl) (Jv _) (Nat.le_refl _)
 refine⟨⟨a,b,c,d⟩,?_,d2⟩
 have:=RepL.glue a1 (RepL.glue b1 (RepL.glue c1 (RepL.glue d1 (RepL.glue_end hl7))))
 rw[List.append_nil] at this
 exact this
theorem XP:BZ Tryz.prog 141 Ex.cells Ex.Wf:=by
 intro n H enc W fuel cs x hf h
 obtain⟨xs,m,rfl, -,hl,hn,hx⟩:=DataW.trod_struct Tryz.underlying141 h
 have hl6:cs.length=6:=hl.trans (by kernel_rfl)
 obtain⟨a,a1,a2⟩:=Aa (i:=0) (n:=m) (f:=fun a:Bool=>[D.b a]) hx hn rfl (k:=1) (by kernel_rfl) (GF Tryz.underlying4 _) (Nat.le_refl _)
 obtain⟨b,b1,b2⟩:=Aa (i:=1) (n:=m) (f:=fun a:Int=>[D.i a]) hx hn rfl (k:=1) (by kernel_rfl) (Ay (k:=.i64) Tryz.underlying3 _) (Nat.le_refl _)
 obtain⟨d,d1,d2⟩:=Aa (i:=2) (n:=m) (f:=V.cells) hx hn rfl (k:=4) (by kernel_rfl) (Jv _) (Nat.le_refl _)
 refine⟨⟨a,b,d⟩,?_,d2⟩
 have:=RepL.glue a1 (RepL.glue b1 (RepL.glue d1 (RepL.glue_end hl6)))
 rw[List.append_nil] at this
 exact this
theorem XM:BZ Tryz.prog 39 Pt.cells Pt.Wf:=by
 intro n H enc W fuel cs x hf h
 obtain⟨xs,m,rfl, -,hl,hn,hx⟩:=DataW.trod_struct Tryz.underlying39 h
 have hl3:cs.length=3:=hl.trans (by kernel_rfl)
 obtain⟨a,a1,a2⟩:=Aa (i:=0) (n:=m) (f:=fun a:Int=>[D.i a]) hx hn rfl (k:=1) (by kernel_rfl) (Ay (k:=.i64) Tryz.underlying3 _) (Nat.le_refl _)
 obtain⟨b,b1,b2⟩:=Aa (i:=1) (n:=m) (f:=fun a:Bool=>[D.b a]) hx hn rfl (k:=1) (by kernel_rfl) (GF Tryz.underlying4 _) (Nat.le_refl _)
 obtain⟨c,c1,c2,c3⟩:=Aa (i:=2) (n:=m) (f:=fun l:List Ts=>[D.sl .shared (l.map Ts.cells)]) hx hn rfl (k:=1) (by kernel_rfl) (AR (sz:=7) Tryz.underlying37 (by kernel_rfl) q_o XI Ts.cells_len Ts.cells_leaf _) (Nat.le_refl _)
 refine⟨⟨a,b,c⟩,?_,c2,c3⟩
 exact RepL.glue a1 (RepL.glue b1 (RepL.glue c1 (RepL.glue_end hl3)))
theorem XR:BZ Tryz.prog 139 Ac.cells Ac.Wf:=by
 intro n H enc W fuel cs x hf h
 obtain⟨xs,m,rfl, -,hl,hn,hx⟩:=DataW.trod_struct Tryz.underlying139 h
 have hl5:cs.length=5:=hl.trans (by kernel_rfl)
 obtain⟨a,a1,a2⟩:=Aa (i:=0) (n:=m) (f:=fun a:Int=>[D.i a]) hx hn rfl (k:=1) (by kernel_rfl) (Ay (k:=.i64) Tryz.underlying3 _) (Nat.le_refl _)
 obtain⟨b,b1,b2⟩:=Aa (i:=1) (n:=m) (f:=fun a:Int=>[D.i a]) hx hn rfl (k:=1) (by kernel_rfl) (Ay (k:=.i64) Tryz.underlying3 _) (Nat.le_refl _)
 obtain⟨c,c1,c2⟩:=Aa (i:=2) (n:=m) (f:=fun a:Int=>[D.i a]) hx hn rfl (k:=1) (by kernel_rfl) (Ay (k:=.i64) Tryz.underlying3 _) (Nat.le_refl _)
 obtain⟨d,d1,d2⟩:=Aa (i:=3) (n:=m) (f:=fun a:Int=>[D.i a]) hx hn rfl (k:=1) (by kernel_rfl) (Ay (k:=.i64) Tryz.underlying3 _) (Nat.le_refl _)
 obtain⟨e,e1,e2,e3⟩:=Aa (i:=4) (n:=m) (f:=fun l:List Ex=>[D.sl .shared (l.map Ex.cells)]) hx hn rfl (k:=1) (by kernel_rfl) (AR (sz:=6) Tryz.underlying137 (by kernel_rfl) q_o XP Ex.cells_len Ex.cells_leaf _) (Nat.le_refl _)
 refine⟨⟨a,b,c,d,e⟩,?_,e2,e3⟩
 exact RepL.glue a1 (RepL.glue b1 (RepL.glue c1 (RepL.glue d1 (RepL.glue e1 (RepL.glue_end hl5)))))
theorem XL:BZ Tryz.prog 34 Rl.cells Rl.Wf:=by
 intro n H enc W fuel cs x hf h
 obtain⟨xs,m,rfl, -,hl,hn,hx⟩:=DataW.trod_struct Tryz.underlying34 h
 have hl4:cs.length=4:=hl.trans (by kernel_rfl)
 obtain⟨a,a1,a2⟩:=Aa (i:=0) (n:=m) (f:=fun a:ByteArray=>[D.str a]) hx hn rfl (k:=1) (by kernel_rfl) (Ds Tryz.underlying9 _) (Nat.le_refl _)
 obtain⟨b,b1,b2⟩:=Aa (i:=1) (n:=m) (f:=fun a:Int=>[D.i a]) hx hn rfl (k:=1) (by kernel_rfl) (Ay (k:=.i64) Tryz.underlying3 _) (Nat.le_refl _)
 obtain⟨c,c1,c2,c3⟩:=Aa (i:=2) (n:=m) (f:=fun l:List Pt=>[D.sl .shared (l.map Pt.cells)]) hx hn rfl (k:=1) (by kernel_rfl) (AR (sz:=3) Tryz.underlying31 (by kernel_rfl) q_o XM (fun _=>rfl) (fun t d hd=>by
  unfold Pt.cells at hd
  simp only[List.mem_cons,List.not_mem_nil,or_false] at hd
  rcases hd with rfl|rfl|rfl<;>rfl) _) (Nat.le_refl _)
 obtain⟨e,e1,e2,e3⟩:=Aa (i:=3) (n:=m) (f:=fun l:List Ac=>[D.sl .shared (l.map Ac.cells)]) hx hn rfl (k:=1) (by kernel_rfl) (AR (sz:=5) Tryz.underlying32 (by kernel_rfl) q_o XR (fun _=>rfl) (fun t d hd=>by
  unfold Ac.cells at hd
  simp only[List.mem_cons,List.not_mem_nil,or_false] at hd
  rcases hd with rfl|rfl|rfl|rfl|rfl<;>rfl) _) (Nat.le_refl _)
 refine⟨⟨a,b,c,e⟩,?_,Ce b2,c2,c3,e2,e3⟩
 exact RepL.glue a1 (RepL.glue b1 (RepL.glue c1 (RepL.glue e1 (RepL.glue_end hl4))))
theorem Vi:BZ Tryz.prog 23 (fun l:List Rl=>[D.sl .shared (l.map Rl.cells)]) fun l=>(∀x∈l,x.Wf)∧l.length≤maxLen :=
 AR (sz:=4) Tryz.underlying23 (by kernel_rfl) q_o XL (fun _=>rfl) fun t d hd=>by
  unfold Rl.cells at hd
  simp only[List.mem_cons,List.not_mem_nil,or_false] at hd
  rcases hd with rfl|rfl|rfl|rfl<;>rfl
namespace Rul
def gT (t:Ts):Bool:=t.val.great
def gE (e:Ex):Bool:=e.val.great
def gP (p:Pt):Bool:=decide (10<p.tests.length) || p.tests.any gT
def gA (a:Ac):Bool:=decide (20<a.vals.length) || a.vals.any gE
def gR (x:Rl):Bool:=decide (300<x.name.size) || (decide (8<x.pats.length) || (decide (8<x.acts.length) || (x.pats.any gP || x.acts.any gA)))
def great (R:List Rl):Bool:=decide (12<R.length) || R.any gR
theorem not_great{R:List Rl}(hw:∀x∈R,x.Wf)(h:great R=false):R.length≤12∧∀x∈R,RK x:=by
 unfold great at h
 simp only[Bool.or_eq_false_iff,decide_eq_false_iff_not,List.any_eq_false,Bool.not_eq_true] at h
 refine⟨by omega,fun x hx=>?_⟩
 have h2:=h.2 x hx
 unfold gR at h2
 simp only[Bool.or_eq_false_iff,decide_eq_false_iff_not,List.any_eq_false,Bool.not_eq_true] at h2
 obtain⟨k1,k2,k3,k4,k5⟩:=h2
 have hv:∀v:V,v.Ok→v.great=false→VQ v:=fun v h1 h2=>by
  obtain⟨a,b⟩:=V.not_great h2
  exact⟨h1,a,by omega⟩
 have hp:∀p∈x.pats,p.tests.length≤10∧∀t∈p.tests,VQ t.val:=fun p hp=>by
  have:=k4 p hp
  unfold gP at this
  simp only[Bool.or_eq_false_iff,decide_eq_false_iff_not,List.any_eq_false,Bool.not_eq_true] at this
  exact⟨by omega,fun t ht=>hv _ ((hw x hx).ps p hp |>.1 t ht) (this.2 t ht)⟩
 have ha:∀a∈x.acts,a.vals.length≤20∧∀e∈a.vals,VQ e.val:=fun a ha=>by
  have:=k5 a ha
  unfold gA at this
  simp only[Bool.or_eq_false_iff,decide_eq_false_iff_not,List.any_eq_false,Bool.not_eq_true] at this
  exact⟨by omega,fun t ht=>hv _ ((hw x hx).ac a ha |>.1 t ht) (this.2 t ht)⟩
 exact⟨by omega,by omega,by omega,fun p h=>by have:=(hp p h).1;omega,fun a h=>by have:=(ha a h).1;omega,fun p h=>(hp p h).2,fun a h=>(ha a h).2⟩
end Rul
end
structure Fc.Wf (f:Fc):Prop where
 id : -9223372036854775808≤f.id∧f.id≤9223372036854775807
 v:∀x∈f.s,x.Ok
 l:f.s.length≤maxLen
structure Mt.Wf (m:Mt):Prop where
 r : -9223372036854775808≤m.rule∧m.rule≤9223372036854775807
 i:∀x∈m.ids, -9223372036854775808≤x∧x≤9223372036854775807
 l:m.ids.length≤maxLen
theorem Vj:BZ Tryz.prog 41 (fun r:Int×List V=>[D.i r.1,.sl .shared (r.2.map V.cells)]) fun r=>(∀x∈r.2,x.Ok)∧r.2.length≤maxLen:=by
 intro n H enc W fuel cs x hf h
 obtain⟨xs,m,rfl, -,hl,hn,hx⟩:=DataW.trod_struct Tryz.underlying41 h
 have hl2:cs.length=2:=hl.trans (by kernel_rfl)
 obtain⟨a,a1,a2⟩:=Aa (i:=0) (n:=m) (f:=fun a:Int=>[D.i a]) hx hn rfl (k:=1) (by kernel_rfl) (Ay (k:=.i64) Tryz.underlying3 _) (Nat.le_refl _)
 obtain⟨b,b1,b2,b3⟩:=Aa (i:=1) (n:=m) (f:=fun l:List V=>[D.sl .shared (l.map V.cells)]) hx hn rfl (k:=1) (by kernel_rfl) (XH _) (Nat.le_refl _)
 exact⟨⟨a,b⟩,RepL.glue a1 (RepL.glue b1 (RepL.glue_end hl2)),b2,b3⟩
theorem XO:BZ Tryz.prog 43 Fc.cells Fc.Wf:=by
 intro n H enc W fuel cs x hf h
 obtain⟨xs,m,rfl, -,hl,hn,hx⟩:=DataW.trod_struct Tryz.underlying43 h
 have hl5:cs.length=5:=hl.trans (by kernel_rfl)
 obtain⟨a,a1,a2⟩:=Aa (i:=0) (n:=m) (f:=fun a:Int=>[D.i a]) hx hn rfl (k:=1) (by kernel_rfl) (Ay (k:=.i64) Tryz.underlying3 _) (Nat.le_refl _)
 obtain⟨b,b1,b2⟩:=Aa (i:=1) (n:=m) (f:=fun a:Int=>[D.i a]) hx hn rfl (k:=1) (by kernel_rfl) (Ay (k:=.i64) Tryz.underlying3 _) (Nat.le_refl _)
 obtain⟨c,c1,c2⟩:=Aa (i:=2) (n:=m) (f:=fun a:Int=>[D.i a]) hx hn rfl (k:=1) (by kernel_rfl) (Ay (k:=.i64) Tryz.underlying3 _) (Nat.le_refl _)
 obtain⟨⟨d,e⟩,d1,d2,d3⟩:=Aa (i:=3) (n:=m) (f:=fun r:Int×List V=>[D.i r.1,.sl .shared (r.2.map V.cells)]) hx hn rfl (k:=2) (by kernel_rfl) (Vj _) (Nat.le_refl _)
 refine⟨⟨a,b,c,d,e⟩,?_,Ce a2,d2,d3⟩
 have:=RepL.glue a1 (RepL.glue b1 (RepL.glue c1 (RepL.glue d1 (RepL.glue_end hl5))))
 rw[List.append_nil] at this
 exact this
theorem AllRaw.rest{f:FuncId}{args:List D}{L:List Mt}{st:St}(h:TrF Tryz.prog f args st (AllRaw L st)):TrF Tryz.prog f args st fun d st'=>d=.sl .shared ((Mat.sortM L).map Mt.cells)∧st'=st:=by
 intro vs w h1 h2
 refine(h vs w h1 h2).mono fun _ w' ⟨v,ev,d,s,k1,k2,k3,hA⟩=>?_
 rcases hA with⟨rfl,rfl,rfl⟩|⟨hne,g,cap,zs,rfl,rfl⟩
 · exact⟨v,ev,_,s,LE.sl _ _ _ _ _ k1,k2,k3,rfl,rfl⟩
 · have he:=Ext.drop (st:=.box g 52 (BU (Mat.sortM L)++zs)::st) (st':=st) (fun _ h=>List.mem_cons_of_mem _ h) w'
   exact⟨v,ev,_,st,FA k2 (sz:=2) (by decide) (KU _) (by rw[List.length_map];exact(Mat.sortM_srt L).2.length_eq) v k1,k2.sub (List.sublist_cons_self _ _),k3.trans he,rfl,rfl⟩
namespace Mat
def slotN (L:List Tm):List Int:=(List.range L.length).map fun i:Nat=>((Rul.slots L (i:Int)).length:Int)
theorem slotN_len(L:List Tm):(slotN L).length=L.length:=by unfold slotN;rw[List.length_map,List.length_range]
def may (L:List Tm)(R:List Rl)(F:List Fc):Bool:=!(Reg.great L || Rul.great R) && (Rul.right L R && (decide (F.length≤7) && (!(F.any fun f=>f.s.any V.great) && right (slotN L) F)))
structure May (L:List Tm)(R:List Rl)(F:List Fc):Prop where
 rl:R.length≤8
 rn:∀x∈R,1≤x.pats.length∧x.pats.length≤4
 xk:∀x∈R,XK x
 fl:F.length≤7
 fk:FKs F
 fr:∀f∈F,FcR f
 nd:(F.map Fc.id).Nodup
theorem Sz{S:List Int}{F:List Fc}(h:right S F=true):(F.map Fc.id).Nodup∧∀f∈F,headB S f=true:=by
 unfold right at h
 rw[Bool.and_eq_true] at h
 have key:∀(l:List Fc) (i:Nat),F.drop i=l→rightL S F l i=true→(l.map Fc.id).Nodup∧(∀f∈l,f.id∉(F.take i).map Fc.id)∧∀f∈l,headB S f=true:=by
  intro l
  induction l with
  | nil=>exact fun _ _ _=>⟨List.nodup_nil,List.forall_mem_nil _,List.forall_mem_nil _⟩
  | cons f l ih =>
   intro i hd hr
   rw[rightL] at hr
   simp only[Bool.and_eq_true,Bool.not_eq_true'] at hr
   obtain⟨h1, -,h2,h3⟩:=hr
   have hd2:F.drop (i+1)=l:=by rw[←List.drop_drop,hd];rfl
   have hfi:F[i]?=some f:=by
    have:=congrArg (fun l=>l[0]?) hd
    simpa using this
   obtain⟨k1,k2,k3⟩:=ih (i+1) hd2 h3
   have ht:F.take (i+1)=F.take i++[f]:=by rw[List.take_add_one,hfi];rfl
   refine⟨?_,?_,?_⟩
   · rw[List.map_cons,List.nodup_cons]
     refine⟨fun hm=>?_,k1⟩
     obtain⟨g,hg,e⟩:=List.mem_map.1 hm
     refine k2 g hg ?_
     rw[ht,e,List.map_append]
     exact List.mem_append_right _ (List.mem_singleton.2 rfl)
   · intro g hg hm
     rcases List.mem_cons.1 hg with rfl|hg
     · obtain⟨y,hy,e⟩:=List.mem_map.1 hm
       have:=List.any_eq_false.1 h2 y hy
       exact this (beq_iff_eq.2 e)
     · refine k2 g hg ?_
       rw[ht,List.map_append]
       exact List.mem_append_left _ hm
   · intro g hg
     rcases List.mem_cons.1 hg with rfl|hg
     · exact h1
     · exact k3 g hg
 obtain⟨k1, -,k3⟩:=key F 0 rfl h.2
 exact⟨k1,k3⟩
theorem passL_len(p:Pt)(F:List Fc)(env:List V):(passL p F env).length≤F.length:=List.length_filterMap_le ..
theorem from_length(F:List Fc):∀(ps:List Pt) (ids:List Int) (env:List V),(from_ F ps ids env).length≤(F.length+1) ^ ps.length
|[],ids,env=>by rw[from_];exact Nat.le_refl _
|p::ps,ids,env=>by
  rw[from_,List.length_cons,Nat.pow_succ]
  split
  · split
    · have:=from_length F ps ids env
      refine Nat.le_trans this (Nat.le_mul_of_pos_right _ (Nat.succ_pos _))
    · exact Nat.zero_le _
  · have hp:=passL_len p F env
    rw[List.length_flatMap]
    have h1:∀l:List (Int×List V),(l.map fun x=>(from_ F ps (ids++[x.1]) x.2).length).sum≤l.length*(F.length+1) ^ ps.length:=fun l=>by
     induction l with
     | nil=>exact Nat.zero_le _
     | cons x l ih =>
      rw[List.map_cons,List.sum_cons,List.length_cons,Nat.succ_mul]
      have:=from_length F ps (ids++[x.1]) x.2
      omega
    refine Nat.le_trans (h1 _) ?_
    rw[Nat.mul_comm]
    exact Nat.mul_le_mul_left _ q_o
end Mat
section
theorem Ge{M:MemP}{K:List Fc}(h:M.okF K):(K.map Fc.id).Nodup:=by
 cases M with
|no =>
  obtain⟨h1, -⟩:=h
  obtain rfl:K=[]:=List.map_eq_nil_iff.1 h1
  exact List.nodup_nil
|at_ b l c gl cl zl gk ck zk =>
  have h2:=h.1.nodup
  have h3:K.map JI=(K.map Fc.id).map MK.i:=by rw[List.map_map];rfl
  rw[h3] at h2
  exact List.Pairwise.of_map MK.i (fun a b hab e=>hab (by rw[e])) h2
theorem Ig{p:Pt}{F:List Fc}{env:List V}{y:Int×List V}(h:y∈Mat.passL p F env):y.1∈F.map Fc.id:=by
 unfold Mat.passL at h
 obtain⟨f,hf,h2⟩:=List.mem_filterMap.1 h
 cases hq:Mat.pass p f env with
|none=>rw[hq] at h2;cases h2
|some e=>rw[hq] at h2;cases h2;exact List.mem_map_of_mem hf
theorem SP{p:Pt}{F:List Fc}{env:List V}{j:Nat}{f:Fc}(hn:(F.map Fc.id).Nodup)(hf:F[j]?=some f):f.id∉(Mat.passL p (F.take j) env).map Prod.fst:=fun h=>by
 obtain⟨y,hy,e⟩:=List.mem_map.1 h
 have h1:=Ig hy
 rw[e] at h1
 rw[←List.take_append_drop j F,V.drop_cons hf,List.map_append,List.map_cons,List.nodup_append] at hn
 exact hn.2.2 _ h1 _ (List.mem_cons_self ..) rfl
theorem NJ(p:Pt)(F:List Fc)(env:List V)(j:Nat):(Mat.passL p (F.take j) env).length≤j:=by
 have:=Mat.passL_len p (F.take j) env
 rw[List.length_take] at this
 omega
section
variable {P:Program} {N:Nat} {r:Option Nat} {A:AA} {st:St} {Q:Exit→AA→St→Prop}
theorem De{c:Code}(h:Tr P N r c A st (fun ex A' st'=>∃s2,st'.Perm s2∧Q ex A' s2)):Tr P N r c A st Q:=by
 intro a w h1 h2
 refine wpIn_mono (h a w h1 h2) ?_
 rintro e a' w' ⟨A',st',k1,k2,k3,s2,k4,k5⟩
 have e1:=OwnS.perm k4
 exact⟨A',s2,by rw[←e1];exact k1,k2.perm k4,by rw[←e1];exact k3,k5⟩
end
namespace Nt
variable {S S':NC} {E X:List Nat} {t u v:Tok} {H0:List Tok}
theorem Loc.setCount(h:Loc S X)(hS:Str S E)(hp:S.H.Perm (t::H0))(htX:t.b∈X){c:Int}(hc:0≤c∧c≤1000):Loc (Nt.setCount S H0 t c) X:=by
 intro u hu huX
 have hS2:=hS.setCount hp hc
 have hn:=EX (c:=c) hp
 have ho:=EW (c:=c) hp
 have hu0:u∈S.H:=by
  rcases List.mem_cons.1 hu with rfl|hu
  · exact absurd htX huX
  · exact(memH hp).2 (.inr hu)
 have hk:=h u hu0 huX
 unfold LocOk at hk ⊢
 show if u.anc.length=S.ns.length then _ else _
 split
 · rename_i e;rw[if_pos e] at hk;exact hk
 · rename_i e
   rw[if_neg e] at hk
   intro x hx
   obtain⟨h1,h2,h3,h4⟩:=hk x hx
   refine⟨h1,fun w hw e=>?_,fun y hy=>?_,fun w hw w' hw' e e' e2=>?_⟩
   · obtain⟨w0,k1,k2,k3,k4, -⟩:=hn w hw
     rw[k3,k4]
     exact h2 w0 k1 (by rw[←k2];exact e)
   · obtain⟨w,k1,k2,k3⟩:=h3 y hy
     obtain⟨w',q1,q2, -,q3,q4, -⟩:=ho w k1
     exact⟨w',q1,by rw[q2];exact k2,by rw[q3,q4];exact k3⟩
   · obtain⟨w0,k1,k2,k3, -⟩:=hn w hw
     obtain⟨v0,q1,q2,q3, -⟩:=hn w' hw'
     have:=h4 w0 k1 v0 q1 (by rw[←k2];exact e) (by rw[←q2];exact e') (by rw[←k3,←q3];exact e2)
     subst this
     exact hS2.anc_b hw hw' (k2.trans q2.symm)
theorem Grew.setCount(hp:S.H.Perm (t::H0)){c:Int}:Grew S (Nt.setCount S H0 t c) t:=by
 refine⟨⟨rfl,rfl,rfl,rfl,rfl,fun _ x h=>⟨x,h,rfl,rfl⟩⟩,fun u hu=>?_,withCount t c,List.mem_cons_self ..,rfl,rfl,rfl⟩
 show u∈S.H↔u∈withCount t c::H0
 rw[memH hp,List.mem_cons]
 constructor
 · rintro(rfl|h)
   · exact absurd (List.suffix_refl _) hu
   · exact .inr h
 · rintro(rfl|h)
   · exact absurd (List.suffix_refl _) hu
   · exact .inr h
theorem Part.setCount{L:List (Int×List V)}{c0 c:Int}(h:Part S t L c0)(hS:Str S E)(hp:S.H.Perm (t::H0))(hc:0≤c∧c≤1000):Part (Nt.setCount S H0 t c) (withCount t c) L c:=by
 have hS2:=hS.setCount hp hc
 have hn:=EX (c:=c) hp
 have ho:=EW (c:=c) hp
 refine⟨rfl,fun w hw e=>?_,fun y hy=>?_,fun w hw w' hw' e e' e2=>?_⟩
 · obtain⟨w0,k1,k2,k3,k4, -⟩:=hn w hw
   rw[k3,k4]
   exact h.sub w0 k1 (by rw[←k2];exact e)
 · obtain⟨w,k1,k2,k3⟩:=h.all y hy
   obtain⟨w',q1,q2, -,q3,q4, -⟩:=ho w k1
   exact⟨w',q1,by rw[q2];exact k2,by rw[q3,q4];exact k3⟩
 · obtain⟨w0,k1,k2,k3, -⟩:=hn w hw
   obtain⟨v0,q1,q2,q3, -⟩:=hn w' hw'
   have:=h.one w0 k1 v0 q1 (by rw[←k2];exact e) (by rw[←q2];exact e') (by rw[←k3,←q3];exact e2)
   subst this
   exact hS2.anc_b hw hw' (k2.trans q2.symm)
theorem Part.nil(hS:Str S E)(ht:t∈S.H)(hk:t.kids=[]):Part S t [] t.count:=by
 have hno:∀u∈S.H,u.anc.tail≠t.anc:=fun u hu e=>by
  have:=(hS.km t ht u.b).2 ⟨u,hu,rfl,e⟩
  rw[hk] at this
  cases this
 exact⟨rfl,fun u hu e=>absurd e (hno u hu),fun y hy=>(by cases hy),fun u hu v hv e=>absurd e (hno u hu)⟩
end Nt
end
section
namespace Nt
variable {S S2 S' Sj:NC} {E X:List Nat} {t u v t':Tok} {H0:List Tok} {p:Pt} {fs:List Fc} {j:Nat} {f:Fc} {e:List V}
structure EnterJ (S2:NC)(t:Tok)(X:List Nat)(p:Pt)(fs:List Fc)(j:Nat)(Sj:NC):Prop where
 str:Str Sj []
 loc:Loc Sj (t.b::X)
 grew:Grew S2 Sj t
 part:∃t'∈Sj.H,t'.anc=t.anc∧t'.id=t.id∧t'.env=t.env∧Part Sj t' (if p.neg=true then[] else Mat.passL p (fs.take j) t.env) (cnt p (fs.take j) t.env)
theorem EnterJ.none(h:EnterJ S2 t X p fs j Sj)(hf:fs[j]?=some f)(hp:Mat.pass p f t.env=none):EnterJ S2 t X p fs (j+1) Sj:=by
 have e1:Mat.passL p (fs.take (j+1)) t.env=Mat.passL p (fs.take j) t.env:=by
  rw[Mat.passL_take hf,hp,List.append_nil]
 refine⟨h.str,h.loc,h.grew,?_⟩
 unfold cnt
 rw[e1]
 exact h.part
theorem EnterJ.neg(h:EnterJ S2 t X p fs j Sj)(hf:fs[j]?=some f)(hp:Mat.pass p f t.env=some e)(hn:p.neg=true)(hl:fs.length≤1000)(ht:t'∈Sj.H)(ha:t'.anc=t.anc)(hpm:Sj.H.Perm (t'::H0)):EnterJ S2 t X p fs (j+1) (setCount Sj H0 t' (t'.count+1))∧t'.count+1≤1000∧0≤t'.count:=by
 obtain⟨w,w1,w2,w3,w4,w5⟩:=h.part
 have:=h.str.anc_b ht w1 (ha.trans w2.symm)
 subst this
 have hj:=(List.getElem?_eq_some_iff.1 hf).1
 have hc:=w5.ct
 unfold cnt at hc
 rw[if_pos hn] at hc
 have hle:=NJ p fs t.env j
 have hb:0≤t'.count+1∧t'.count+1≤1000:=by omega
 have htX:t'.b∈t.b::X:=by rw[b_of ha];exact List.mem_cons_self ..
 refine⟨⟨h.str.setCount hpm hb,h.loc.setCount h.str hpm htX hb,h.grew.trans ha w3 w4 (Grew.setCount hpm),withCount t' (t'.count+1),List.mem_cons_self ..,ha,w3,w4,?_⟩,hb.2,by omega⟩
 have h1:=w5.setCount (c:=t'.count+1) h.str hpm hb
 rw[if_pos hn] at h1 ⊢
 have h2:cnt p (fs.take (j+1)) t.env=t'.count+1:=by
  unfold cnt
  rw[if_pos hn,Mat.passL_take hf,hp,List.length_append,hc]
  rfl
 rw[h2]
 exact h1
theorem EnterJ.pos(h:EnterJ S2 t X p fs j Sj)(hf:fs[j]?=some f)(hp:Mat.pass p f t.env=some e)(hn:p.neg=false)(hnd:(fs.map Fc.id).Nodup)(ht:t'∈Sj.H)(ha:t'.anc=t.anc)(h1:Str S' [])(h2:Loc S' (t.b::X))(h3:ExtR Sj S' t' f.id e):EnterJ S2 t X p fs (j+1) S':=by
 obtain⟨w,w1,w2,w3,w4,w5⟩:=h.part
 have:=h.str.anc_b ht w1 (ha.trans w2.symm)
 subst this
 rw[if_neg (by rw[hn];exact Bool.false_ne_true)] at w5
 obtain⟨t2,k1,k2,k3,k4,k5⟩:=w5.ext h1 ht (SP hnd hf) h3
 refine⟨h1,h2,h.grew.trans ha w3 w4 h3.grew,t2,k1,k2.trans ha,k3.trans w3,k4.trans w4,?_⟩
 rw[if_neg (by rw[hn];exact Bool.false_ne_true),Mat.passL_take hf,hp]
 have h4:cnt p (fs.take (j+1)) t.env=cnt p (fs.take j) t.env:=by
  unfold cnt
  rw[if_neg (by rw[hn];exact Bool.false_ne_true),if_neg (by rw[hn];exact Bool.false_ne_true)]
 rw[h4]
 exact k5
theorem EnterJ.kids(h:EnterJ S2 t X p fs j Sj)(hl:fs.length≤1000)(hj:j<fs.length)(ht:t'∈Sj.H)(ha:t'.anc=t.anc):t'.kids.length<1000:=by
 obtain⟨w,w1,w2,w3,w4,w5⟩:=h.part
 have:=h.str.anc_b ht w1 (ha.trans w2.symm)
 subst this
 have h1:=w5.kids h.str ht
 have h2:=NJ p fs t.env j
 split at h1
 · have:t'.kids.length≤0:=h1
   omega
 · omega
theorem Oh{x:Nd}(hS:Str S' [])(hL:Loc S' (t.b::X))(ht:t'∈S'.H)(ha:t'.anc=t.anc)(hN:t.anc.length≠S'.ns.length)(hx:S'.ns[t.anc.length - 1]?=some x)(hP:Part S' t' (exps x.p x.fs t'.env) (cnt x.p x.fs t'.env)):Loc S' X:=fun u hu huX=>by
 by_cases e:u.b=t.b
 · have:=hS.same hu ht (e.trans (b_of ha).symm)
   subst this
   exact hP.loc (by rw[ha];exact hN) (by rw[ha];exact hx)
 · exact hL u hu (by rw[List.mem_cons,not_or];exact⟨e,huX⟩)
theorem EnterJ.done{x:Nd}{k:Nat}(h:EnterJ S2 t X x.p x.fs x.fs.length S')(hk:t.anc.length=k+1)(hN:k+1≠S'.ns.length)(hx:∃y,S'.ns[k]?=some y∧y.p=x.p∧y.fs=x.fs)(hc:x.p.neg=true→Mat.passL x.p x.fs t.env≠[]):Loc S' X:=by
 obtain⟨y,y1,y2,y3⟩:=hx
 obtain⟨w,w1,w2,w3,w4,w5⟩:=h.part
 refine Oh (x:=y) h.str h.loc w1 w2 (by rw[hk];exact hN) (by rw[hk];exact y1) ?_
 rw[y2,y3,w4]
 rw[List.take_length] at w5
 have e1:exps x.p x.fs t.env=if x.p.neg=true then[] else Mat.passL x.p x.fs t.env:=by
  unfold exps
  by_cases hn:x.p.neg=true
  · rw[if_pos hn,if_pos hn,if_neg (hc hn)]
  · rw[if_neg hn,if_neg hn]
 rw[e1]
 exact w5
theorem EnterJ.done0{x:Nd}{k:Nat}(h:EnterJ S2 t X x.p x.fs x.fs.length Sj)(hk:t.anc.length=k+1)(hN:k+1≠S'.ns.length)(hx:∃y,S'.ns[k]?=some y∧y.p=x.p∧y.fs=x.fs)(hn:x.p.neg=true)(h0:Mat.passL x.p x.fs t.env=[])(ht:t'∈Sj.H)(ha:t'.anc=t.anc)(h1:Str S' [])(h2:Loc S' (t.b::X))(h3:ExtR Sj S' t' 0 t.env):Loc S' X∧Grew S2 S' t:=by
 obtain⟨y,y1,y2,y3⟩:=hx
 obtain⟨w,w1,w2,w3,w4,w5⟩:=h.part
 have:=h.str.anc_b ht w1 (ha.trans w2.symm)
 subst this
 refine⟨?_,h.grew.trans ha w3 w4 h3.grew⟩
 rw[if_pos hn] at w5
 obtain⟨t2,k1,k2,k3,k4,k5⟩:=w5.ext h1 ht List.not_mem_nil h3
 refine Oh (x:=y) h1 h2 k1 (k2.trans ha) (by rw[hk];exact hN) (by rw[hk];exact y1) ?_
 rw[y2,y3,k4,w4]
 have e1:exps x.p x.fs t.env=[(0,t.env)]:=by
  unfold exps
  rw[if_pos hn,if_pos h0]
 rw[e1]
 rw[List.take_length] at k5
 exact k5
end Nt
end
section
attribute [local push_cast] Ad Ae Ao V.cells_mk V.cells_len Nat.mul_one Int.sub_zero List.map_nil beq_self_eq_true bne_self_eq_false List.head?_cons Bool.not_true Bool.not_false Nat.zero_add Fl Fm
attribute [-instance] Aq Av Am AV
theorem Ib{FB NB:Res}{Sx:NC}{K st V:St}(h:V.Perm (Sx.st++(st++K))):∃s2,(FB::NB::V).Perm s2∧((NB::(Sx.st++st))++K).Sublist s2 :=
 ⟨FB::((NB::(Sx.st++st))++K),by rw[List.cons_append,List.append_assoc];exact(h.cons _).cons _,(List.Sublist.refl _).cons _⟩
theorem Wl(k:Nat)(hE:∀S:NC,k+1<S.ns.length→Hz k):Qm k:=by
 intro S t X hS hL ht hk hkids hcnt st
 have hkn:=hS.lv t ht
 obtain⟨x,hx⟩:=gEx (l:=S.ns) (i:=k) q_o
 obtain⟨H0,hp⟩:=Nt.tok_split ht
 have hlv:t.lv=k:=by unfold Tok.lv;omega
 have hput:=TM S t k x hS ht hk hx
 have hv:=NC.view hp st
 have hput2:Hid (∀(nb:Nat),TrF Tryz.prog 96 [.ptr S.g (k*9+6),.ptr t.b 0,.ptr t.b 0] (.box nb 164 [.ptr S.g (k*9)]::S.cbox::S.gbox::.box t.b 119 t.cells::S.rest H0 t st) fun d st'=>∃M':MemP,M'.okT (x.ts++[t.b])∧d=.tup []∧(.box nb 164 [.ptr S.g (k*9)]::(Nt.putT S k x t.b M').cbox::(Nt.putT S k x t.b M').gbox::.box t.b 119 t.cells::(Nt.putT S k x t.b M').rest H0 t st).Perm st'):=fun nb =>
  (TrF.perm (hv.symm.cons _) (hput (.box nb 164 [.ptr S.g (k*9)]) st)).mono fun d st' ⟨M',h1,h2,h3⟩=>⟨M',h1,h2,((NC.view (S:=Nt.putT S k x t.b M') hp st).symm.cons _).trans h3⟩
 refine TrF.perm hv ?_
 clear hput hv
 have hS2:Hid (∀M':MemP,M'.okT (x.ts++[t.b])→Nt.Str (Nt.putT S k x t.b M') []∧Nt.Loc (Nt.putT S k x t.b M') (t.b::X)):=fun M' h=>⟨hS.putT ht hk hx h,hL.putT hx⟩
 have hcb:S.cbox=.box S.c 109 [.ar S.g 0 S.ns.length S.cap]:=rfl
 have hgb:S.gbox=.box S.g 115 (Az S.ns++S.zs):=rfl
 obtain⟨ROW,hROW⟩:∃ROW:MemP→List D,ROW=fun M'=>Az (Nt.putT S k x t.b M').ns++S.zs:=⟨_,rfl⟩
 obtain⟨RST,hRST⟩:∃RST:MemP→St,RST=fun M'=>(Nt.putT S k x t.b M').rest H0 t st:=⟨_,rfl⟩
 have hcb2:∀M',(Nt.putT S k x t.b M').cbox=.box S.c 109 [.ar S.g 0 S.ns.length S.cap]:=fun M'=>by
  unfold NC.cbox
  show Res.box S.c _ [.ar S.g 0 (S.ns.set k _).length S.cap]=_
  rw[List.length_set]
 have hgb2:∀M',(Nt.putT S k x t.b M').gbox=.box S.g 115 (ROW M'):=fun M'=>by rw[hROW];rfl
 have hrst2:∀M',(Nt.putT S k x t.b M').rest H0 t st=RST M':=fun M'=>by rw[hRST]
 have htc:t.cells=[t.fromD,.i k,.i t.id,.sl .shared (t.env.map V.cells)]++(t.km.cells t.kids.length++[.i t.count]):=by unfold Tok.cells Tok.pre;rw[hlv]
 have hview:Hid (∀M':MemP,((Nt.putT S k x t.b M').st++st).Perm (.box S.c 109 [.ar S.g 0 S.ns.length S.cap]::.box S.g 115 (ROW M')::.box t.b 119 ([t.fromD,.i k,.i t.id,.sl .shared (t.env.map V.cells)]++(t.km.cells t.kids.length++[.i t.count]))::RST M')):=fun M'=>by
  have:=NC.view (S:=Nt.putT S k x t.b M') hp st
  rwa[hcb2,hgb2,htc,hrst2] at this
 simp only[hcb,hgb,hcb2,hgb2,htc,hrst2] at hput2 ⊢
 have hn5:=hS.nl
 have hinh:Hid (∀nb,(∃w,Holds (.box nb 164 [.ptr S.g (k*9)]::.box S.c 109 [.ar S.g 0 S.ns.length S.cap]::.box S.g 115 (Az S.ns++S.zs)::.box t.b 119 ([t.fromD,.i k,.i t.id,.sl .shared (t.env.map V.cells)]++(t.km.cells t.kids.length++[.i t.count]))::S.rest H0 t st) w)→∃d st',∃M':MemP,M'.okT (x.ts++[t.b])∧d=D.tup []∧(Res.box nb 164 [.ptr S.g (k*9)]::.box S.c 109 [.ar S.g 0 S.ns.length S.cap]::.box S.g 115 (ROW M')::.box t.b 119 ([t.fromD,.i k,.i t.id,.sl .shared (t.env.map V.cells)]++(t.km.cells t.kids.length++[.i t.count]))::RST M').Perm st'):=fun nb ⟨w,hw⟩=>(hput2.out nb).inhab (us:=[.pointer (some ⟨S.g,k*9+6,none⟩),.pointer (some ⟨t.b,0,none⟩),.pointer (some ⟨t.b,0,none⟩)]) (RepL.cons (.ptr _ _) (RepL.cons (.ptr _ _) (RepL.cons (.ptr _ _) .nil))) hw
 have hcap:S.ns.length≤S.cap:=by
  have:=hS.row
  rw[List.length_append,AZ] at this
  omega
 by_cases hN:k+1=S.ns.length
 · have hfin : Hid (∀ M' : MemP, M'.okT (x.ts ++ [t.b]) → Nt.Str (Nt.putT S k x t.b M') [] ∧ Nt.Loc (Nt.putT S k x t.b M') X ∧ Nt.Grew S (Nt.putT S k x t.b M') t) := fun M' h => by
    obtain⟨h1,h2⟩:=hS2.out M' h
    refine⟨h1,fun u hu huX=>?_,⟨Nt.kept_putT hx,fun u _=>Iff.rfl,t,ht,rfl,rfl,rfl⟩⟩
    by_cases e:u.b=t.b
    · have:=hS.same hu ht e
      subst this
      unfold Nt.LocOk
      rw[if_pos (by show _=(S.ns.set k _).length;rw[List.length_set,hk,hN])]
      exact⟨hcnt,hkids⟩
    · exact h2 u hu (by rw[List.mem_cons,not_or];exact⟨e,huX⟩)
   clear hE hS hL ht hkids hcnt hS2 hp hx
   generalize hNe:S.ns.length=N at *
   subst hN
   generalize Az S.ns++S.zs=ROW0 at *
   generalize S.rest H0 t st=RST0 at *
   generalize hKC:t.km.cells t.kids.length=KC at *
   generalize t.fromD=fd at *
   generalize t.env.map V.cells=TE at *
   clear hcb hgb hcb2 hgb2 hrst2 htc hROW hRST hkn hk hlv hKC
   have hw1:((k:Int)+1 - 1)=k:=by omega
   refine Qin [] Tryz.func63 Tryz.results63 Tryz.ntmps63 ?_
   repeat' (first|refine QV ?_|((with_reducible apply(Bf (id:=1) [(S.c,[.ar S.g 0 (k+1) S.cap]),(t.b,[fd,.i k,.i t.id,.sl .shared TE]++(KC++[.i t.count]))]));(iterate 3 (focus kernel_rfl));(focus exact q_k);intro hne;(try simp only[nes,ne1,and_assoc] at hne);repeat(have hq:=hne.1;replace hne:=hne.2))|((with_reducible refine And.intro ?_ ?_);(focus exact q_k))|((with_reducible apply(FX (id:=2) [(b,[.ptr S.g (k*9)])]));(iterate 3 (focus kernel_rfl));(focus exact q_k);intro hne;(try simp only[nes,ne1,and_assoc] at hne);(repeat(have hq:=hne.1;replace hne:=hne.2));intro hw)|((with_reducible refine And.intro ?_ ?_);(focus exact q_k))|((with_reducible apply(Br Tryz.call96));(focus exact List.Perm.refl _);(focus exact hput2.out b);(focus exact LEL.refl _);(focus exact hinh.out b hw);(rintro d st2 ⟨M2,hok2,rfl,hp2⟩;refine⟨An,?_⟩))|((with_reducible refine Af hp2.symm ?_))|((with_reducible apply(Bf (id:=3) [(S.c,[.ar S.g 0 (k+1) S.cap]),(t.b,[fd,.i k,.i t.id,.sl .shared TE]++(KC++[.i t.count]))]));(iterate 3 (focus kernel_rfl));(focus exact q_k);intro hne;(try simp only[nes,ne1,and_assoc] at hne);repeat(have hq:=hne.1;replace hne:=hne.2))|((with_reducible refine And.intro ?_ ?_);(focus exact q_k))|(with_reducible refine Bl ?_)|refine QY ?_|(refine QB ?_;intro b)|(with_reducible refine QZ ?_<;>(try constructor)<;>intro hb<;>try intro hb1)|fail)
   obtain⟨h1,h2,h3⟩:=hfin.out M2 hok2
   exact Ab (by simp) q_y ((List.Sublist.refl _).cons _) (LE.refl _) ⟨_,h1,h2,h3,rfl,hview.out M2⟩
 · have hkl:k+1<S.ns.length:=by omega
   have hxm:=List.mem_of_getElem? hx
   obtain⟨hpk,hfk,hfl⟩:=hS.pk x hxm
   have hfnd:=Ge (hS.okx x hxm).1
   have hek:=hS.ek t ht
   have hIt:=Lib.hid (Rj x.fs q_o)
   have hPs:Hid (∀f∈x.fs,∀st,TrF Tryz.prog 17 [.agg x.p.cells,.agg f.cells,.sl .shared (t.env.map V.cells)] st fun d st'=>d=FH (Mat.pass x.p f t.env)∧st'=st):=fun f hf st=>JG x.p f t.env hpk.v hpk.l (hfk.f f hf) hek.v hek.l .shared st
   have hall:Hid (∀(M':MemP) (nb:Nat),TrF Tryz.prog 73 [.ptr S.g (k*9+3)] (.box nb 164 [.ptr S.g (k*9)]::.box S.c 109 [.ar S.g 0 S.ns.length S.cap]::.box S.g 115 (ROW M')::.box t.b 119 ([t.fromD,.i k,.i t.id,.sl .shared (t.env.map V.cells)]++(t.km.cells t.kids.length++[.i t.count]))::RST M') fun d st'=>d=.fn (.func 111) [] [.ip [.sl .shared (Cb x.fs)]]∧(Res.box nb 164 [.ptr S.g (k*9)]::((Nt.putT S k x t.b M').st++st)).Perm st'):=fun M' nb=>by
    have hx2:(Nt.putT S k x t.b M').ns[k]?=some {x with ts:=x.ts++[t.b],tm:=M'}:=List.getElem?_set_self (List.getElem?_eq_some_iff.1 hx).1
    have h6:=(((NC.at_F hx2).append_right st).cons (Res.box nb 164 [.ptr S.g (k*9)]))
    simp only[List.cons_append,List.append_assoc] at h6
    have h7:=h6.trans (BH _ _ _ _)
    have h8:=Rm S.g 115 (Hf (Nt.putT S k x t.b M').ns k {x with ts:=x.ts++[t.b],tm:=M'}) (Fr (Nt.putT S k x t.b M').ns k {x with ts:=x.ts++[t.b],tm:=M'} (Nt.putT S k x t.b M').zs) x.fm x.fs (hS.okx x hxm).1 q_o (.box nb 164 [.ptr S.g (k*9)]::(MemP.resT (x.ts++[t.b]) M'++((Nt.putT S k x t.b M').off k++st)))
    rw[He hx2] at h8
    exact(TrF.perm (((hview.out M').symm.cons _).trans h7) h8).mono fun d st' ⟨e1,e2⟩=>⟨e1,by rw[e2];exact h7⟩
   have hJ0:Hid (∀M':MemP,M'.okT (x.ts++[t.b])→Nt.EnterJ (Nt.putT S k x t.b M') t X x.p x.fs 0 (Nt.putT S k x t.b M')):=fun M' h=>by
    obtain⟨h1,h2⟩:=hS2.out M' h
    refine⟨h1,h2,⟨Nt.Kept.refl _,fun u _=>Iff.rfl,t,ht,rfl,rfl,rfl⟩,t,ht,rfl,rfl,rfl,?_⟩
    have h3:=Nt.Part.nil h1 (t:=t) ht hkids
    rw[hcnt] at h3
    have e1:Mat.passL x.p (x.fs.take 0) t.env=[]:=by rw[List.take_zero];rfl
    have e2:Nt.cnt x.p (x.fs.take 0) t.env=0:=by
     unfold Nt.cnt
     rw[e1]
     split<;>rfl
    rw[e1,e2,ite_self]
    exact h3
   have hkept:∀M',Nt.Kept S (Nt.putT S k x t.b M'):=fun M'=>Nt.kept_putT hx
   have hEx:=hE S hkl
   clear hE
   have hw1:¬((k:Int)=(S.ns.length:Int) - 1):=by omega
   have hkc:=hk
   have hfb:Hid (∀(j:Nat) (f:Fc),x.fs[j]?=some f→f∈x.fs):=fun j f h=>List.mem_of_getElem? h
   have hvj:Hid (∀(Sj:NC) (w:Tok) (Hj:List Tok) (s:St),Nt.Kept S Sj→Nt.Str Sj []→w.anc=t.anc→w.env=t.env→Sj.H.Perm (w::Hj)→∃(ROWj:List D) (KC:List D) (RJ:St) (TL:List D),(Sj.st++s).Perm (.box S.c 109 [.ar S.g 0 S.ns.length S.cap]::.box S.g 115 ROWj::.box t.b 119 ([t.fromD,.i k,.i w.id,.sl .shared (t.env.map V.cells)]++(KC++[.i w.count]))::RJ)∧List.take 3 (List.drop (k*9) ROWj)=x.p.cells∧List.drop (k*9+1) ROWj=.b x.p.neg::TL∧k*9+9≤ROWj.length∧KC.length=3∧∀c,(({Sj with H:=Nt.withCount w c::Hj}:NC).st++s).Perm (.box S.c 109 [.ar S.g 0 S.ns.length S.cap]::.box S.g 115 ROWj::.box t.b 119 ([t.fromD,.i k,.i w.id,.sl .shared (t.env.map V.cells)]++(KC++[.i c]))::RJ)):=fun Sj w Hj s hK hSt ha he hpj=>by
    obtain⟨y,y1,y2,y3⟩:=hK.ns k x hx
    have e1:Sj.cbox=.box S.c 109 [.ar S.g 0 S.ns.length S.cap]:=by unfold NC.cbox;rw[hK.c,hK.g,hK.cap,hK.nl]
    have e2:Sj.gbox=.box S.g 115 (Az Sj.ns++Sj.zs):=by unfold NC.gbox;rw[hK.g]
    have e3:w.cells=[t.fromD,.i k,.i w.id,.sl .shared (t.env.map V.cells)]++(w.km.cells w.kids.length++[.i w.count]):=by
     unfold Tok.cells Tok.pre
     have h1:w.fromD=t.fromD:=by unfold Tok.fromD;rw[ha]
     have h2:w.lv=k:=by unfold Tok.lv;rw[ha];exact hlv
     rw[h1,h2,he]
    have e4:w.b=t.b:=Nt.b_of ha
    have hs:Az Sj.ns++Sj.zs=Az (Sj.ns.take k)++(x.p.cells++((y.fm.cells y.fs.length++y.tm.cells y.ts.length)++(Az (Sj.ns.drop (k+1))++Sj.zs))):=by
     rw[CX y1]
     unfold Nd.cells
     rw[y2]
     simp only[List.append_assoc]
    have hl:=Dz y1
    have hpc:x.p.cells=[.i x.p.tmpl,.b x.p.neg,.sl .shared (x.p.tests.map Ts.cells)]:=rfl
    refine⟨Az Sj.ns++Sj.zs,w.km.cells w.kids.length,Sj.rest Hj w s,[.sl .shared (x.p.tests.map Ts.cells)]++((y.fm.cells y.fs.length++y.tm.cells y.ts.length)++(Az (Sj.ns.drop (k+1))++Sj.zs)),?_,?_,?_,?_,MemP.cells_len ..,fun c=>?_⟩
    · have:=NC.view hpj s
      rwa[e1,e2,e3,e4] at this
    · rw[hs,←hl,List.drop_left,hpc];rfl
    · rw[hs,←hl,←List.drop_drop,List.drop_left,hpc];rfl
    · rw[List.length_append,AZ]
      have:=(List.getElem?_eq_some_iff.1 y1).1
      omega
    · have:=NC.view (S:={Sj with H:=Nt.withCount w c::Hj}) (t:=Nt.withCount w c) (H0:=Hj) (.refl _) s
      have e5:(Nt.withCount w c).cells=[t.fromD,.i k,.i w.id,.sl .shared (t.env.map V.cells)]++(w.km.cells w.kids.length++[.i c]):=by
       unfold Tok.cells Tok.pre
       have h1:(Nt.withCount w c).fromD=t.fromD:=(show(Nt.withCount w c).fromD=w.fromD from rfl).trans (by unfold Tok.fromD;rw[ha])
       have h2:(Nt.withCount w c).lv=k:=by unfold Tok.lv;show w.anc.length - 1=k;rw[ha];exact hlv
       rw[h1,h2]
       show[_,_,_,D.sl .shared (w.env.map V.cells)]++_=_
       rw[he]
       rfl
      have e6:(Nt.withCount w c).b=t.b:=Nt.b_of ha
      have e7:({Sj with H:=Nt.withCount w c::Hj}:NC).cbox=Sj.cbox:=rfl
      have e8:({Sj with H:=Nt.withCount w c::Hj}:NC).gbox=Sj.gbox:=rfl
      rw[e7,e8,e1,e2,e5,e6] at this
      exact this
   refine Qin [] Tryz.func63 Tryz.results63 Tryz.ntmps63 ?_
   repeat' (first|refine QV ?_|((with_reducible apply(Bf (id:=1) [(S.c,[.ar S.g 0 S.ns.length S.cap]),(t.b,[t.fromD,.i k,.i t.id,.sl .shared (t.env.map V.cells)]++(t.km.cells t.kids.length++[.i t.count]))]));(iterate 3 (focus kernel_rfl));(focus exact q_k);intro hne;(try simp only[nes,ne1,and_assoc] at hne);repeat(have hq:=hne.1;replace hne:=hne.2))|((with_reducible refine And.intro ?_ ?_);(focus exact q_k))|((with_reducible apply(FX (id:=2) [(b,[.ptr S.g (k*9)])]));(iterate 3 (focus kernel_rfl));(focus exact q_k);intro hne;(try simp only[nes,ne1,and_assoc] at hne);(repeat(have hq:=hne.1;replace hne:=hne.2));intro hw)|((with_reducible refine And.intro ?_ ?_);(focus exact q_k))|((with_reducible apply(Br Tryz.call96));(focus exact List.Perm.refl _);(focus exact hput2.out b);(focus exact LEL.refl _);(focus exact hinh.out b hw);(rintro d st2 ⟨M2,hok2,rfl,hp2⟩;refine⟨An,?_⟩))|((with_reducible refine Af hp2.symm ?_))|((with_reducible apply(Bf (id:=3) [(S.c,[.ar S.g 0 S.ns.length S.cap]),(t.b,[t.fromD,.i k,.i t.id,.sl .shared (t.env.map V.cells)]++(t.km.cells t.kids.length++[.i t.count]))]));(iterate 3 (focus kernel_rfl));(focus exact q_k);intro hne;(try simp only[nes,ne1,and_assoc] at hne);repeat(have hq:=hne.1;replace hne:=hne.2))|((with_reducible refine And.intro ?_ ?_);(focus exact q_k))|((with_reducible apply(Ah (f:=73) (henter:=Tryz.call73) (hp:=List.Perm.refl _) (h:=hall.out _ _)));(focus exact q_v);(focus(first|exact LEL.refl _|((repeat' (first|exact LEL.nil|refine LEL.cons ?_ ?_|exact LE.refl _|exact LE.sl _ _|refine LE.agg ?_));done)));(rintro d0 st0 ⟨rfl,hp3⟩))|(with_reducible refine Bl ?_)|refine QY ?_|(refine QB ?_;intro b)|(with_reducible refine QZ ?_<;>(try constructor)<;>intro hb<;>try intro hb1)|fail)
   obtain⟨nb,rfl⟩:∃q,q=b:=⟨_,rfl⟩
   have hJ:=hJ0.out M2 hok2
   have hK2:=hkept M2
   have hG2:Nt.Grew S (Nt.putT S k x t.b M2) t:=⟨hK2,fun u _=>Iff.rfl,t,ht,rfl,rfl,rfl⟩
   obtain⟨S2,hS2e⟩:∃S2,S2=Nt.putT S k x t.b M2:=⟨_,rfl⟩
   rw[←hS2e] at hJ hK2 hp3 hG2
   replace hG2:=Lib.hid hG2
   clear hS2e hp2 hall hput2 hinh hview hJ0 hS2 hkept hS hL hROW hRST hcb hgb hcb2 hgb2 hrst2 hok2
   refine Af (st':=[]++(.box nb 164 [.ptr S.g (k*9)]::(S2.st++st))) hp3.symm ?_
   clear hp3
   refine Dx hIt.out Tryz.call111 q_v (fun _=>rfl) rfl (fun j C=>∃Sj,Nt.EnterJ S2 t X x.p x.fs j Sj∧C=.box nb 164 [.ptr S.g (k*9)]::(Sj.st++st)) (fun _ _ _=>False) ⟨S2,hJ,rfl⟩ ?_ ?_ (fun _ _ _ _ _ _ h=>h.elim)
   · rintro l j f C K hf ⟨Sj,hJ,rfl⟩
     have hPf:=hPs.out f (hfb.out j f hf)
     have hjl:=(List.getElem?_eq_some_iff.1 hf).1
     obtain⟨w,w1,w2,w3,w4, -⟩:=hJ.part
     obtain⟨Hj,hpj⟩:=Nt.tok_split w1
     have hKj:=hK2.trans hJ.grew.toKept
     have hwb:w.b=t.b:=Nt.b_of w2
     have hkid:=hJ.kids hfl hjl w1 w2
     clear hIt hPs hfb hK2
     refine(?_:Tr _ _ _ _ (AA.put ⟨_,[]⟩ (some 38) (.agg f.cells)) (.box nb 164 [.ptr S.g (k*9)]::((Sj.st++st)++K)) _)
     rw[show f.cells=[.i f.id,.i f.time,.i f.tmpl,.i f.ver,.sl .shared (f.s.map V.cells)] from rfl] at *
     repeat' (first|refine QX ?_|(refine QB ?_;intro b)|(with_reducible refine QZ ?_<;>(try constructor)<;>intro hb<;>try intro hb1)|fail)
     refine⟨.box b 43 [.i f.id,.i f.time,.i f.tmpl,.i f.ver,.sl .shared (f.s.map V.cells)]::.box nb 164 [.ptr S.g (k*9)]::(Sj.st++st),List.Sublist.refl _,fun K'=>?_⟩
     clear K
     obtain⟨ROWj,KC,RJ,TL,v1,v2,v3,v4,v5,v6⟩:=hvj.out Sj w Hj (st++K') hKj hJ.str w2 w4 hpj
     refine De ?_
     refine Af (st':=.box b 43 [.i f.id,.i f.time,.i f.tmpl,.i f.ver,.sl .shared (f.s.map V.cells)]::.box nb 164 [.ptr S.g (k*9)]::.box S.c 109 [.ar S.g 0 S.ns.length S.cap]::.box S.g 115 ROWj::.box t.b 119 ([t.fromD,.i k,.i w.id,.sl .shared (t.env.map V.cells)]++(KC++[.i w.count]))::RJ) (by
      show List.Perm (_::_::((Sj.st++st)++K')) _
      rw[List.append_assoc]
      exact(v1.cons _).cons _) ?_
     cases hq:Mat.pass x.p f t.env with
     | none =>
      have hJn:=hJ.none hf hq
      rw[hq] at hPf
      dsimp only[FH] at hPf
      replace hJn:=Lib.hid hJn
      replace v1:=Lib.hid v1
      clear hq hJ hKj hpj w1 w2 w3 w4 hf v6 hvj
      generalize f.s.map V.cells=VS at *
      generalize t.env.map V.cells=TE at *
      generalize t.fromD=fd at *
      have hpc:x.p.cells=[.i x.p.tmpl,.b x.p.neg,.sl .shared (x.p.tests.map Ts.cells)]:=rfl
      rw[hpc] at *
      generalize x.p.tests.map Ts.cells=TS at *
      have v7:3≤(List.drop (k*9) ROWj).length:=by rw[List.length_drop];omega
      replace hPf:=Lib.hid hPf
      repeat' (first|refine QV ?_|((with_reducible apply(Bf (id:=6) [(b,[.i f.id,.i f.time,.i f.tmpl,.i f.ver,.sl .shared VS]),(nb,[.ptr S.g (k*9)]),(S.g,ROWj),(t.b,[fd,.i k,.i w.id,.sl .shared TE]++(KC++[.i w.count]))]));(iterate 3 (focus kernel_rfl));(focus exact q_k);intro hne;(try simp only[nes,ne1,and_assoc] at hne);repeat(have hq:=hne.1;replace hne:=hne.2))|((with_reducible refine And.intro ?_ ?_);(focus exact q_k))|(with_reducible refine Bl ?_)|refine QY ?_|(refine QB ?_;intro b)|(with_reducible refine QZ ?_<;>(try constructor)<;>intro hb<;>try intro hb1)|refine Qc Tryz.call17 ((hPf.out _)) ?_|fail)
      obtain⟨s2,q1,q2⟩:=Ib v1.out.symm
      exact⟨s2,q1,_,q2,Sj,hJn.out,rfl⟩
     | some e =>
      have hee:EK e:=⟨Mat.pass_mem hq (fun y hy=>((hfk.f f (List.mem_of_getElem? hf)).v y hy).1.bg) hek.v,by rw[Mat.pass_len hq];decide⟩
      rw[hq] at hPf
      dsimp only[FH] at hPf
      cases hn:x.p.neg with
      | true =>
       obtain⟨hJn,hb1,hb2⟩:=hJ.neg hf hq hn hfl w1 w2 hpj
       have v8:=v6 (w.count+1)
       have v9:=Lib.hid v8
       replace hJn:=Lib.hid hJn
       clear hq hJ hKj hpj w1 w2 w3 w4 hf v6 hvj v1 hEx hee v8
       have hpc:x.p.cells=[.i x.p.tmpl,.b x.p.neg,.sl .shared (x.p.tests.map Ts.cells)]:=rfl
       rw[hpc,hn] at v2 hPf
       rw[hn] at v3
       generalize f.s.map V.cells=VS at *
       generalize t.env.map V.cells=TE at *
       generalize t.fromD=fd at *
       generalize e.map V.cells=EC at *
       generalize x.p.tests.map Ts.cells=TS at *
       have v7:3≤(List.drop (k*9) ROWj).length:=by rw[List.length_drop];omega
       have hd3:∀l:List D,List.drop 3 (KC++l)=l:=fun l=>by rw[←v5];exact List.drop_left
       have ht3:∀l:List D,List.take 3 (KC++l)=KC:=fun l=>by rw[←v5];exact List.take_left
       have hd4:∀(y:D) (l:List D),List.drop 4 (KC++y::l)=l:=fun y l=>by
        rw[show 4=3+1 from rfl,←List.drop_drop,hd3];rfl
       replace hPf:=Lib.hid hPf
       generalize hcw:w.count=cw at *
       clear hcw
       repeat' (first|refine QV ?_|((with_reducible apply(Bf (id:=6) [(b,[.i f.id,.i f.time,.i f.tmpl,.i f.ver,.sl .shared VS]),(nb,[.ptr S.g (k*9)]),(S.g,ROWj),(t.b,[fd,.i k,.i w.id,.sl .shared TE]++(KC++[.i cw]))]));(iterate 3 (focus kernel_rfl));(focus exact q_k);intro hne;(try simp only[nes,ne1,and_assoc] at hne);repeat(have hq:=hne.1;replace hne:=hne.2))|((with_reducible refine And.intro ?_ ?_);(focus exact q_k))|(with_reducible refine Bl ?_)|refine QY ?_|(refine QB ?_;intro b)|(with_reducible refine QZ ?_<;>(try constructor)<;>intro hb<;>try intro hb1)|refine Qc Tryz.call17 ((hPf.out _)) ?_|fail)
       obtain⟨s2,q1,q2⟩:=Ib v9.out.symm
       exact⟨s2,q1,_,q2,_,hJn.out,rfl⟩
      | false =>
       have hwX:w.b∈t.b::X:=by rw[hwb];exact List.mem_cons_self ..
       have hext:=hEx Sj w (t.b::X) f.id e hJ.str hJ.loc hwX w1 (by rw[w2];exact hk) (by rw[hKj.nl];exact hkl) hee hkid (.box b 43 [.i f.id,.i f.time,.i f.tmpl,.i f.ver,.sl .shared (f.s.map V.cells)]::.box nb 164 [.ptr S.g (k*9)]::(st++K'))
       rw[hKj.c,hwb] at hext
       have hJn:=Lib.hid fun(S':NC) h1 h2 h3=>hJ.pos hf hq hn hfnd w1 w2 (S':=S') h1 h2 h3
       have v8:=Lib.hid (((v1.symm.cons (Res.box nb 164 [.ptr S.g (k*9)])).cons (Res.box b 43 [.i f.id,.i f.time,.i f.tmpl,.i f.ver,.sl .shared (f.s.map V.cells)])).trans perm_in2)
       clear hq hJ hKj hpj w1 w2 w3 w4 hf v6 hvj v1 hEx hee
       have hpc:x.p.cells=[.i x.p.tmpl,.b x.p.neg,.sl .shared (x.p.tests.map Ts.cells)]:=rfl
       rw[hpc,hn] at v2 hPf
       rw[hn] at v3
       generalize f.s.map V.cells=VS at *
       generalize t.env.map V.cells=TE at *
       generalize t.fromD=fd at *
       generalize e.map V.cells=EC at *
       generalize x.p.tests.map Ts.cells=TS at *
       have v7:3≤(List.drop (k*9) ROWj).length:=by rw[List.length_drop];omega
       replace hPf:=Lib.hid hPf
       replace hext:=Lib.hid hext
       generalize hcw:w.count=cw at *
       clear hcw
       repeat' (first|refine QV ?_|((with_reducible apply(Bf (id:=6) [(b,[.i f.id,.i f.time,.i f.tmpl,.i f.ver,.sl .shared VS]),(nb,[.ptr S.g (k*9)]),(S.g,ROWj),(t.b,[fd,.i k,.i w.id,.sl .shared TE]++(KC++[.i cw]))]));(iterate 3 (focus kernel_rfl));(focus exact q_k);intro hne;(try simp only[nes,ne1,and_assoc] at hne);repeat(have hq:=hne.1;replace hne:=hne.2))|((with_reducible refine And.intro ?_ ?_);(focus exact q_k))|((with_reducible apply(Ah (f:=97) (henter:=Tryz.call97) (hp:=v8.out) (h:=hext.out)));(focus exact q_v);(focus(first|exact LEL.refl _|((repeat' (first|exact LEL.nil|refine LEL.cons ?_ ?_|exact LE.refl _|exact LE.sl _ _|refine LE.agg ?_));done)));(rintro d0 st0 ⟨S',h1,h2,h3,rfl,hp4⟩))|(with_reducible refine Bl ?_)|refine QY ?_|(refine QB ?_;intro b)|(with_reducible refine QZ ?_<;>(try constructor)<;>intro hb<;>try intro hb1)|refine Qc Tryz.call17 ((hPf.out _)) ?_|fail)
       obtain⟨s2,q1,q2⟩:=Ib (FB:=.box b 43 [.i f.id,.i f.time,.i f.tmpl,.i f.ver,.sl .shared VS]) (NB:=.box nb 164 [.ptr S.g (k*9)]) (Sx:=S') (K:=K') (st:=st) (.refl _)
       exact⟨s2,hp4.symm.trans (perm_in2.symm.trans q1),_,q2,S',hJn.out S' h1 h2 h3,rfl⟩
   · rintro d K1 C' rfl ⟨Sj,hJ,rfl⟩
     obtain⟨w,w1,w2,w3,w4,w5⟩:=hJ.part
     obtain⟨Hj,hpj⟩:=Nt.tok_split w1
     have hKj:=hK2.trans hJ.grew.toKept
     have hwb:w.b=t.b:=Nt.b_of w2
     obtain⟨ROWj,KC,RJ,TL,v1,v2,v3,v4,v5, -⟩:=hvj.out Sj w Hj (Al d::st) hKj hJ.str w2 w4 hpj
     have hGS:=hG2.out.trans rfl rfl rfl hJ.grew
     have hct:=w5.ct
     rw[List.take_length] at hct
     have hNj:k+1≠Sj.ns.length:=by rw[hKj.nl];exact hN
     have hxj:=hKj.ns k x hx
     clear hIt hPs hfb hvj
     change Tr _ _ _ _ _ _ _
     refine Af (st':=.box nb 164 [.ptr S.g (k*9)]::.box S.c 109 [.ar S.g 0 S.ns.length S.cap]::.box S.g 115 ROWj::.box t.b 119 ([t.fromD,.i k,.i w.id,.sl .shared (t.env.map V.cells)]++(KC++[.i w.count]))::RJ) (((BH _ _ _ _)).trans (v1.cons _)) ?_
     have hd3:∀l:List D,List.drop 3 (KC++l)=l:=fun l=>by rw[←v5];exact List.drop_left
     have v6:(Res.box nb 164 [.ptr S.g (k*9)]::(Sj.st++(Al d::st))).Perm (Al d::.box nb 164 [.ptr S.g (k*9)]::(Sj.st++st)):=((BH _ _ _ _)).symm
     have v7:=Lib.hid ((v1.symm.cons (Res.box nb 164 [.ptr S.g (k*9)])).trans v6)
     cases hn:x.p.neg with
     | false =>
      have hLd:=hJ.done hk hNj hxj (fun h=>by rw[hn] at h;cases h)
      have hfin:Hid (∃S',Nt.Str S' []∧Nt.Loc S' X∧Nt.Grew S S' t∧D.tup []=D.tup []∧(S'.st++st).Perm (Sj.st++st)):=⟨Sj,hJ.str,hLd,hGS,rfl,.refl _⟩
      rw[hn] at v3
      clear hJ hKj hpj w1 w2 w3 w4 w5 v1 v2 v6 hEx hGS hct hLd hxj
      generalize t.env.map V.cells=TE at *
      generalize t.fromD=fd at *
      repeat' (first|refine QX ?_|(refine QB ?_;intro b)|(with_reducible refine QZ ?_<;>(try constructor)<;>intro hb<;>try intro hb1)|fail)
      exact Bn q_x q_y v7.out ((List.Sublist.refl _).cons _) (LE.refl _) hfin.out
     | true =>
      unfold Nt.cnt at hct
      rw[if_pos hn] at hct
      rw[hn] at v3
      by_cases h0:Mat.passL x.p x.fs t.env=[]
      · have hc0:w.count=0:=by rw[hct,h0];rfl
        have hwX:w.b∈t.b::X:=by rw[hwb];exact List.mem_cons_self ..
        have hkid:w.kids.length<1000:=by
         have:=w5.kids hJ.str w1
         rw[if_pos hn] at this
         have:w.kids.length≤0:=this
         omega
        have hext:=hEx Sj w (t.b::X) 0 t.env hJ.str hJ.loc hwX w1 (by rw[w2];exact hk) (by rw[hKj.nl];exact hkl) hek hkid (.box nb 164 [.ptr S.g (k*9)]::Al d::st)
        rw[hKj.c,hwb] at hext
        have hJn:=Lib.hid fun(S':NC) (h1:Nt.Str S' []) (h2:Nt.Loc S' (t.b::X)) (h3:Nt.ExtR Sj S' w 0 t.env)=>hJ.done0 (S':=S') hk (by rw[h3.nl];exact hNj) (by
         obtain⟨y,y1,y2,y3⟩:=hxj
         obtain⟨z,z1,z2,z3⟩:=h3.ns k y y1
         exact⟨z,z1,z2.trans y2,z3.trans y3⟩) hn h0 w1 w2 h1 h2 h3
        have v8:=Lib.hid ((v1.symm.cons (Res.box nb 164 [.ptr S.g (k*9)])).trans List.perm_middle.symm)
        have hinh2:Hid ((∃w',Holds (.box nb 164 [.ptr S.g (k*9)]::.box S.c 109 [.ar S.g 0 S.ns.length S.cap]::.box S.g 115 ROWj::.box t.b 119 ([t.fromD,.i k,.i w.id,.sl .shared (t.env.map V.cells)]++(KC++[.i w.count]))::RJ) w')→∃d0 st',∃S',Nt.Str S' []∧Nt.Loc S' (t.b::X)∧Nt.ExtR Sj S' w 0 t.env∧d0=D.tup []∧(S'.st++(Res.box nb 164 [.ptr S.g (k*9)]::Al d::st)).Perm st'):=fun⟨w',hw⟩=>by
         obtain⟨v,hv⟩:=Ry (d:=.sl .shared (t.env.map V.cells)) (i:=3) hw (b:=t.b) (ty:=119) (cs:=([t.fromD,.i k,.i w.id,.sl .shared (t.env.map V.cells)]++(KC++[.i w.count]))) (List.mem_cons_of_mem _ (List.mem_cons_of_mem _ (List.mem_cons_of_mem _ (List.mem_cons_self ..)))) rfl
         exact(TrF.perm v8.out hext).inhab (us:=[.pointer (some ⟨S.c,0,none⟩),.pointer (some ⟨t.b,0,none⟩),.int .i64 0,v]) (RepL.cons (.ptr _ _) (RepL.cons (.ptr _ _) (RepL.cons (.s _ rfl) (RepL.cons hv .nil)))) hw
        have hGG:=hG2
        clear hJ hKj hpj w1 w2 w3 w4 w5 v1 v2 v6 hEx hGS hct hxj
        generalize hTE:t.env.map V.cells=TE at *
        generalize t.fromD=fd at *
        rw[hc0] at hinh2 v8 ⊢
        replace hext:=Lib.hid hext
        repeat' (first|refine QV ?_|((with_reducible apply(FX (id:=12) [(t.b,[fd,.i k,.i w.id,.sl .shared TE]++(KC++[.i 0]))]));(iterate 3 (focus kernel_rfl));(focus exact q_k);intro hne;(try simp only[nes,ne1,and_assoc] at hne);(repeat(have hq:=hne.1;replace hne:=hne.2));intro hw2)|((with_reducible refine And.intro ?_ ?_);(focus exact q_k))|((with_reducible apply(Br Tryz.call97));(focus exact v8.out);(focus exact hext.out);(focus exact LEL.refl _);(focus exact hinh2.out hw2);(rintro d2 st4 ⟨S',h1,h2,h3,rfl,hp4⟩;refine⟨An,?_⟩))|(with_reducible refine Bl ?_)|refine QY ?_|(refine QB ?_;intro b)|(with_reducible refine QZ ?_<;>(try constructor)<;>intro hb<;>try intro hb1)|fail)
        obtain⟨k1,k2⟩:=hJn.out S' h1 h2 h3
        exact Bn q_x q_y (hp4.symm.trans (perm_in2.symm.trans (List.Perm.swap _ _ _))) ((List.Sublist.refl _).cons _) (LE.refl _) ⟨S',h1,k1,hGG.out.trans rfl rfl rfl k2,rfl,.refl _⟩
      · have hc0:¬w.count=0:=fun e=>h0 (List.eq_nil_of_length_eq_zero (by rw[hct] at e;exact Int.ofNat.inj e))
        have hLd:=hJ.done hk hNj hxj (fun _=>h0)
        have hfin:Hid (∃S',Nt.Str S' []∧Nt.Loc S' X∧Nt.Grew S S' t∧D.tup []=D.tup []∧(S'.st++st).Perm (Sj.st++st)):=⟨Sj,hJ.str,hLd,hGS,rfl,.refl _⟩
        clear hJ hKj hpj w1 w2 w3 w4 w5 v1 v2 v6 hEx hGS hct hLd hxj
        generalize t.env.map V.cells=TE at *
        generalize t.fromD=fd at *
        generalize w.count=cw at *
        repeat' (first|refine QX ?_|(refine QB ?_;intro b)|(with_reducible refine QZ ?_<;>(try constructor)<;>intro hb<;>try intro hb1)|fail)
        exact Bn q_x q_y v7.out ((List.Sublist.refl _).cons _) (LE.refl _) hfin.out
end
end Go.Proofs.YtoeidpmjifjplaaGreat
