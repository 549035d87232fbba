/- The walk of the statement NetBack. -/
import Derived.Test.YtoeidpmjifjplaaGreatZ14
set_option linter.all false
set_option maxRecDepth 10000
set_option maxHeartbeats 8000000
namespace Go.Proofs.YtoeidpmjifjplaaGreat
open Go.RowKit
section
attribute [local push_cast] Ad Ae Ao V.cells_mk V.cells_len Nat.mul_one Int.sub_zero List.map_nil beq_self_eq_true bne_self_eq_false List.head?_cons Bool.not_true Bool.not_false Nat.zero_add
set_option maxHeartbeats 16000000
attribute [-instance] AV
theorem Pv(L0:List Tm)(R:List Rl)(A0:List Ak)(hwL:∀t∈L0,t.Wf)(hlL:L0.length≤maxLen)(hwR:∀x∈R,x.Wf)(hlR:R.length≤maxLen)(hwF:∀f∈A0,f.Wf)(hlF:A0.length≤maxLen)(st:St):TrF Tryz.prog 12 [.sl .shared (L0.map Tm.cells),.sl .shared (R.map Rl.cells),.sl .shared (A0.map Ak.cells)] st fun d st'=>d=.b true∧st'=st:=by
 have hA:=Lib.hid WA
 have hY:=ZS L0 R A0 hwL hlL hwR hlR hwF hlF
 cases hm:Mat.may19 L0 R A0 with
|false =>
  rw[hm] at hY
  clear hwL hlL hwR hlR hwF hlF
  generalize L0.map Tm.cells=LS at *
  generalize R.map Rl.cells=RS at *
  generalize A0.map Ak.cells=FS at *
  replace hY:=Lib.hid hY
  refine Qin [6] Tryz.func12 Tryz.results12 Tryz.ntmps12 ?_
  repeat' (first|refine QV ?_|(with_reducible refine Bl ?_)|refine QY ?_|(refine QB ?_;intro b)|(with_reducible refine QZ ?_<;>(try constructor)<;>intro hb<;>try intro hb1)|refine Qc Tryz.call30 ((hA.out _)) ?_|refine Qc Tryz.call31 ((hY.out _)) ?_|fail)
  all_goals exact Ar
|true =>
 rw[hm] at hY
 have hM:=Mat.may19_iff hwR hwF hm
 have hrk:=hM.rk
 have hal:=hM.al
 have hNew:=Lib.hid (Ra R hrk.rk (by have:=hrk.rl;omega))
 have hFm:(A0.map Ak.cells).length=A0.length:=List.length_map ..
 have hFc:Hid (∀(i:Nat) (a:Ak),A0[i]?=some a→(A0.map Ak.cells)[i]?=some [.i a.kind,.i a.id,.i a.f.id,.i a.f.time,.i a.f.tmpl,.i a.f.ver,.sl .shared (a.f.s.map V.cells)]):=fun i t h=>by rw[List.getElem?_map,h];rfl
 have HM:=Lib.hid hM
 have HR:=Lib.hid hrk
 clear hwL hlL hwR hlR hwF hlF hm hM hrk
 generalize L0.map Tm.cells=LS at *
 generalize A0.map Ak.cells=FS at *
 obtain⟨RS,hRS⟩:∃RS,RS=R.map Rl.cells:=⟨_,rfl⟩
 rw[←hRS] at hY hNew ⊢
 clear hRS
 replace hY:=Lib.hid hY
 refine Qin [6] Tryz.func12 Tryz.results12 Tryz.ntmps12 ?_
 repeat' (first|refine QV ?_|((with_reducible apply(Ah (f:=32) (henter:=Tryz.call32) (hp:=List.Perm.refl _) (h:=(hNew.out _))));(focus exact q_v);(focus(first|exact LEL.refl _|((repeat' (first|exact LEL.nil|refine LEL.cons ?_ ?_|exact LE.refl _|exact LE.sl _ _|refine LE.agg ?_));done)));(rintro d0 st0 ⟨N0,hN0,hf0,rfl,hp0⟩))|(with_reducible refine Bl ?_)|refine QY ?_|(refine QB ?_;intro b)|(with_reducible refine QZ ?_<;>(try constructor)<;>intro hb<;>try intro hb1)|refine Qc Tryz.call30 ((hA.out _)) ?_|refine Qc Tryz.call31 ((hY.out _)) ?_|fail)
 obtain⟨nb,hnb⟩:∃nb,nb=N0.b:=⟨_,rfl⟩
 rw[←hnb]
 refine Aj (ι:=Nat) (fun i A st'=>i≤A0.length∧A.df=[]∧A.e 2=.sl .shared FS∧A.e 7=.ptr nb 0∧A.e 8=.i i∧∃(N:NT) (L:List Fc),N.b=nb∧Hid (NetL N R L)∧L.length≤i∧st'.Perm (N.st++st)) (fun i=>A0.length - i) 0 ⟨Nat.zero_le _,Qf,Qf,Qf,Qf,N0,[],hnb.symm,Lib.hid (.new hN0 hf0),Nat.zero_le _,hp0.symm⟩ ?_
 clear hnb hN0 hf0 hp0 hY hA hNew N0
 rintro i A st' ⟨hi,hdf,e2,e7,e8,N,L,hNb,HL,hLl,hp⟩
 refine Af hp ?_
 clear hp
 by_cases hlt:i<A0.length
 · obtain⟨a,ha⟩:=gEx hlt
   have hac:=hFc.out i a ha
   have ham:=List.mem_of_getElem? ha
   have hFa:=Lib.hid (HL.out.facts st)
   rw[hNb] at hFa
   have hLm:(L.map Fc.cells).length=L.length:=List.length_map ..
   by_cases hst:7<L.length∨a.kind≠0
   · rcases hst with hst|hst
     · clear HL HM HR hFc ham ha
       generalize a.f.s.map V.cells=VS at *
       repeat' (first|refine QV ?_|((with_reducible apply(Ah (f:=40) (henter:=Tryz.call40) (hp:=List.Perm.refl _) (h:=hFa.out)));(focus exact q_v);(focus(first|exact LEL.refl _|((repeat' (first|exact LEL.nil|refine LEL.cons ?_ ?_|exact LE.refl _|exact LE.sl _ _|refine LE.agg ?_));done)));(rintro d0 st0 ⟨rfl,rfl⟩))|refine QY ?_|(refine QB ?_;intro b)|(with_reducible refine QZ ?_<;>(try constructor)<;>intro hb<;>try intro hb1)|fail)
       all_goals exact Ab (by simp) q_y (List.sublist_append_right ..) (LE.of_eq q_v) ⟨rfl,rfl⟩
     · by_cases h7:7<L.length
       · clear HL HM HR hFc ham ha
         generalize a.f.s.map V.cells=VS at *
         repeat' (first|refine QV ?_|((with_reducible apply(Ah (f:=40) (henter:=Tryz.call40) (hp:=List.Perm.refl _) (h:=hFa.out)));(focus exact q_v);(focus(first|exact LEL.refl _|((repeat' (first|exact LEL.nil|refine LEL.cons ?_ ?_|exact LE.refl _|exact LE.sl _ _|refine LE.agg ?_));done)));(rintro d0 st0 ⟨rfl,rfl⟩))|refine QY ?_|(refine QB ?_;intro b)|(with_reducible refine QZ ?_<;>(try constructor)<;>intro hb<;>try intro hb1)|fail)
         all_goals exact Ab (by simp) q_y (List.sublist_append_right ..) (LE.of_eq q_v) ⟨rfl,rfl⟩
       · clear HL HM HR hFc ham ha
         generalize a.f.s.map V.cells=VS at *
         repeat' (first|refine QV ?_|((with_reducible apply(Ah (f:=40) (henter:=Tryz.call40) (hp:=List.Perm.refl _) (h:=hFa.out)));(focus exact q_v);(focus(first|exact LEL.refl _|((repeat' (first|exact LEL.nil|refine LEL.cons ?_ ?_|exact LE.refl _|exact LE.sl _ _|refine LE.agg ?_));done)));(rintro d0 st0 ⟨rfl,rfl⟩))|refine QY ?_|(refine QB ?_;intro b)|(with_reducible refine QZ ?_<;>(try constructor)<;>intro hb<;>try intro hb1)|fail)
         all_goals exact Ab (by simp) q_y (List.sublist_append_right ..) (LE.of_eq q_v) ⟨rfl,rfl⟩
   · have hk0 : a.kind = 0 := by
      by_cases h:a.kind=0
      · exact h
      · exact absurd (.inr h) hst
     have hL7:L.length≤7:=by
      by_cases h:7<L.length
      · exact absurd (.inl h) hst
      · omega
     have hfk:=HM.out.fk a ham hk0
     have hfk0:=hfk.1
     have hid0:=hfk.2.1
     have hbd:=HM.out.bd a ham
     have hR1:R.length≤1000:=by have:=HR.out.rl;omega
     have hMa:=Lib.hid (fun(N':NT) (h:NetL N' R L) (st:St)=>h.matches_ hR1 HR.out.p4 (Hc HR.out.rl HR.out.p4 q_o) st)
     have hTo:=Lib.hid (fun(N':NT) (h:NetL N' R L) (st:St)=>h.tokens hR1 HR.out.p14 (HR.out.tok q_o) st)
     have hSa:=Lib.hid (Pa (R:=R) (F:=L) HR.out.rl HR.out.p4 q_o)
     have hAs:=Lib.hid (fun(N':NT) (h:NetL N' R L) (st:St)=>h.assert a.f hR1 hfk0 hid0 q_o st)
     have hRe:=Lib.hid (fun(N':NT) (L':List Fc) (h:NetL N' R L') (st:St)=>h.retract a.f.id hR1 st)
     have hafc:a.f.cells=[.i a.f.id,.i a.f.time,.i a.f.tmpl,.i a.f.ver,.sl .shared (a.f.s.map V.cells)]:=rfl
     rw[hk0] at hac
     clear HM HR hFc ham ha hst hk0 hfk hfk0 hid0
     obtain⟨ML,hML⟩:∃ML,ML=(Mat.sortM (Mat.raws R L)).map Mt.cells:=⟨_,rfl⟩
     obtain⟨TL,hTL⟩:∃TL,TL=DX L R:=⟨_,rfl⟩
     rw[←hML] at hMa hSa
     rw[←hTL] at hTo
     clear hML hTL
     have hMa0:=Lib.hid (hMa.out N HL.out st)
     have hTo0:=Lib.hid (hTo.out N HL.out st)
     have hAs0:=hAs.out N HL.out st
     rw[hNb] at hMa0 hTo0 hAs0
     rw[hafc] at hAs0 hAs
     by_cases hmem:a.f.id∈L.map Fc.id
     · have hL2:MS L a.f=L:=by unfold MS;rw[if_pos hmem]
       rw[decide_eq_true hmem,hL2] at hAs0
       have hAsN:Hid (∀N':NT,N'.b=nb→NetL N' R L→∀st,TrF Tryz.prog 33 [.ptr nb 0,.agg [.i a.f.id,.i a.f.time,.i a.f.tmpl,.i a.f.ver,.sl .shared (a.f.s.map V.cells)]] (N'.st++st) fun d st'=>∃N':NT,NetL N' R L∧N'.b=nb∧d=.b false∧(N'.st++st).Perm st'):=fun N' e h st=>by
        have:=hAs.out N' h st
        rw[decide_eq_true hmem,hL2,e] at this
        exact this
       have hMaN:Hid (∀N':NT,N'.b=nb→NetL N' R L→∀st,TrF Tryz.prog 37 [.ptr nb 0] (N'.st++st) fun d st'=>d=.sl .shared ML∧st'=N'.st++st):=fun N' e h st=>by have:=hMa.out N' h st;rwa[e] at this
       have hToN:Hid (∀N':NT,N'.b=nb→NetL N' R L→∀st,TrF Tryz.prog 41 [.ptr nb 0] (N'.st++st) fun d st'=>d=.i TL∧st'=N'.st++st):=fun N' e h st=>by have:=hTo.out N' h st;rwa[e] at this
       replace hAs0:=Lib.hid hAs0
       clear hMa hTo hAs hRe hmem HL hafc hL2
       generalize a.f.s.map V.cells=VS at *
       repeat' (first|refine QV ?_|((with_reducible apply(Ah (f:=40) (henter:=Tryz.call40) (hp:=List.Perm.refl _) (h:=hFa.out)));(focus exact q_v);(focus(first|exact LEL.refl _|((repeat' (first|exact LEL.nil|refine LEL.cons ?_ ?_|exact LE.refl _|exact LE.sl _ _|refine LE.agg ?_));done)));(rintro d0 st0 ⟨rfl,rfl⟩))|((with_reducible apply(Ah (f:=37) (henter:=Tryz.call37) (hp:=List.Perm.refl _) (h:=hMa0.out)));(focus exact q_v);(focus(first|exact LEL.refl _|((repeat' (first|exact LEL.nil|refine LEL.cons ?_ ?_|exact LE.refl _|exact LE.sl _ _|refine LE.agg ?_));done)));(rintro d0 st0 ⟨rfl,rfl⟩))|((with_reducible apply(Ah (f:=41) (henter:=Tryz.call41) (hp:=List.Perm.refl _) (h:=hTo0.out)));(focus exact q_v);(focus(first|exact LEL.refl _|((repeat' (first|exact LEL.nil|refine LEL.cons ?_ ?_|exact LE.refl _|exact LE.sl _ _|refine LE.agg ?_));done)));(rintro d0 st0 ⟨rfl,rfl⟩))|((with_reducible apply(Ah (f:=33) (henter:=Tryz.call33) (hp:=List.Perm.refl _) (h:=hAs0.out)));(focus exact q_v);(focus(first|exact LEL.refl _|((repeat' (first|exact LEL.nil|refine LEL.cons ?_ ?_|exact LE.refl _|exact LE.sl _ _|refine LE.agg ?_));done)));(rintro d0 st0 ⟨N1,hL1,hb1,rfl,hp1⟩))|((with_reducible apply(Ah (f:=37) (henter:=Tryz.call37) (hp:=hp1.symm) (h:=(hMaN.out _ hb1 hL1 _))));(focus exact q_v);(focus(first|exact LEL.refl _|((repeat' (first|exact LEL.nil|refine LEL.cons ?_ ?_|exact LE.refl _|exact LE.sl _ _|refine LE.agg ?_));done)));(rintro d0 st0 ⟨rfl,rfl⟩))|((with_reducible apply(Ah (f:=22) (henter:=Tryz.call22) (hp:=List.Perm.refl _) (h:=(hSa.out _))));(focus exact q_v);(focus(first|exact LEL.refl _|((repeat' (first|exact LEL.nil|refine LEL.cons ?_ ?_|exact LE.refl _|exact LE.sl _ _|refine LE.agg ?_));done)));(rintro d0 st0 ⟨rfl,rfl⟩))|((with_reducible apply(Ah (f:=41) (henter:=Tryz.call41) (hp:=List.Perm.refl _) (h:=(hToN.out _ hb1 hL1 _))));(focus exact q_v);(focus(first|exact LEL.refl _|((repeat' (first|exact LEL.nil|refine LEL.cons ?_ ?_|exact LE.refl _|exact LE.sl _ _|refine LE.agg ?_));done)));(rintro d0 st0 ⟨rfl,rfl⟩))|((with_reducible apply(Ah (f:=33) (henter:=Tryz.call33) (hp:=List.Perm.refl _) (h:=(hAsN.out _ hb1 hL1 _))));(focus exact q_v);(focus(first|exact LEL.refl _|((repeat' (first|exact LEL.nil|refine LEL.cons ?_ ?_|exact LE.refl _|exact LE.sl _ _|refine LE.agg ?_));done)));(rintro d0 st0 ⟨N2,hL2,hb2,rfl,hp2⟩))|refine QY ?_|(refine QB ?_;intro b)|(with_reducible refine QZ ?_<;>(try constructor)<;>intro hb<;>try intro hb1)|fail)
       refine⟨i+1,_,List.Sublist.refl _,⟨hlt,?_,?_,?_,?_,N2,L,hb2,Lib.hid hL2,by omega,hp2.symm⟩,by omega⟩
       all_goals exact Qf
     · have hL2:MS L a.f=GJ a.f L:=by unfold MS;rw[if_neg hmem]
       have hmem2:a.f.id∈(GJ a.f L).map Fc.id:=List.mem_map.2 ⟨a.f,(DD a.f L).mem_iff.2 (List.mem_cons_self ..),rfl⟩
       have hL3:WB (GJ a.f L) a.f.id=L:=Ud HL.out.s HL.out.nd hmem
       have hll:(GJ a.f L).length=L.length+1:=(DD a.f L).length_eq
       rw[decide_eq_false hmem,hL2] at hAs0
       have hAsN:Hid (∀N':NT,N'.b=nb→NetL N' R L→∀st,TrF Tryz.prog 33 [.ptr nb 0,.agg [.i a.f.id,.i a.f.time,.i a.f.tmpl,.i a.f.ver,.sl .shared (a.f.s.map V.cells)]] (N'.st++st) fun d st'=>∃N':NT,NetL N' R (GJ a.f L)∧N'.b=nb∧d=.b true∧(N'.st++st).Perm st'):=fun N' e h st=>by
        have:=hAs.out N' h st
        rw[decide_eq_false hmem,hL2,e] at this
        exact this
       have hReN:Hid (∀N':NT,N'.b=nb→NetL N' R (GJ a.f L)→∀st,TrF Tryz.prog 35 [.ptr nb 0,.i a.f.id] (N'.st++st) fun d st'=>∃N':NT,NetL N' R L∧N'.b=nb∧d=.b true∧(N'.st++st).Perm st'):=fun N' e h st=>by
        have:=hRe.out N' _ h st
        rw[decide_eq_true hmem2,hL3,e] at this
        exact this
       have hMaN:Hid (∀N':NT,N'.b=nb→NetL N' R L→∀st,TrF Tryz.prog 37 [.ptr nb 0] (N'.st++st) fun d st'=>d=.sl .shared ML∧st'=N'.st++st):=fun N' e h st=>by have:=hMa.out N' h st;rwa[e] at this
       have hToN:Hid (∀N':NT,N'.b=nb→NetL N' R L→∀st,TrF Tryz.prog 41 [.ptr nb 0] (N'.st++st) fun d st'=>d=.i TL∧st'=N'.st++st):=fun N' e h st=>by have:=hTo.out N' h st;rwa[e] at this
       replace hAs0:=Lib.hid hAs0
       clear hMa hTo hAs hRe hmem HL hafc hL2 hmem2 hL3
       generalize GJ a.f L=L2 at *
       generalize a.f.s.map V.cells=VS at *
       repeat' (first|refine QV ?_|((with_reducible apply(Ah (f:=40) (henter:=Tryz.call40) (hp:=List.Perm.refl _) (h:=hFa.out)));(focus exact q_v);(focus(first|exact LEL.refl _|((repeat' (first|exact LEL.nil|refine LEL.cons ?_ ?_|exact LE.refl _|exact LE.sl _ _|refine LE.agg ?_));done)));(rintro d0 st0 ⟨rfl,rfl⟩))|((with_reducible apply(Ah (f:=37) (henter:=Tryz.call37) (hp:=List.Perm.refl _) (h:=hMa0.out)));(focus exact q_v);(focus(first|exact LEL.refl _|((repeat' (first|exact LEL.nil|refine LEL.cons ?_ ?_|exact LE.refl _|exact LE.sl _ _|refine LE.agg ?_));done)));(rintro d0 st0 ⟨rfl,rfl⟩))|((with_reducible apply(Ah (f:=41) (henter:=Tryz.call41) (hp:=List.Perm.refl _) (h:=hTo0.out)));(focus exact q_v);(focus(first|exact LEL.refl _|((repeat' (first|exact LEL.nil|refine LEL.cons ?_ ?_|exact LE.refl _|exact LE.sl _ _|refine LE.agg ?_));done)));(rintro d0 st0 ⟨rfl,rfl⟩))|((with_reducible apply(Ah (f:=33) (henter:=Tryz.call33) (hp:=List.Perm.refl _) (h:=hAs0.out)));(focus exact q_v);(focus(first|exact LEL.refl _|((repeat' (first|exact LEL.nil|refine LEL.cons ?_ ?_|exact LE.refl _|exact LE.sl _ _|refine LE.agg ?_));done)));(rintro d0 st0 ⟨N1,hL1,hb1,rfl,hp1⟩))|((with_reducible apply(Ah (f:=35) (henter:=Tryz.call35) (hp:=hp1.symm) (h:=(hReN.out _ hb1 hL1 _))));(focus exact q_v);(focus(first|exact LEL.refl _|((repeat' (first|exact LEL.nil|refine LEL.cons ?_ ?_|exact LE.refl _|exact LE.sl _ _|refine LE.agg ?_));done)));(rintro d0 st0 ⟨N2,hL2,hb2,rfl,hp2⟩))|((with_reducible apply(Ah (f:=37) (henter:=Tryz.call37) (hp:=hp2.symm) (h:=(hMaN.out _ hb2 hL2 _))));(focus exact q_v);(focus(first|exact LEL.refl _|((repeat' (first|exact LEL.nil|refine LEL.cons ?_ ?_|exact LE.refl _|exact LE.sl _ _|refine LE.agg ?_));done)));(rintro d0 st0 ⟨rfl,rfl⟩))|((with_reducible apply(Ah (f:=22) (henter:=Tryz.call22) (hp:=List.Perm.refl _) (h:=(hSa.out _))));(focus exact q_v);(focus(first|exact LEL.refl _|((repeat' (first|exact LEL.nil|refine LEL.cons ?_ ?_|exact LE.refl _|exact LE.sl _ _|refine LE.agg ?_));done)));(rintro d0 st0 ⟨rfl,rfl⟩))|((with_reducible apply(Ah (f:=41) (henter:=Tryz.call41) (hp:=List.Perm.refl _) (h:=(hToN.out _ hb2 hL2 _))));(focus exact q_v);(focus(first|exact LEL.refl _|((repeat' (first|exact LEL.nil|refine LEL.cons ?_ ?_|exact LE.refl _|exact LE.sl _ _|refine LE.agg ?_));done)));(rintro d0 st0 ⟨rfl,rfl⟩))|((with_reducible apply(Ah (f:=33) (henter:=Tryz.call33) (hp:=List.Perm.refl _) (h:=(hAsN.out _ hb2 hL2 _))));(focus exact q_v);(focus(first|exact LEL.refl _|((repeat' (first|exact LEL.nil|refine LEL.cons ?_ ?_|exact LE.refl _|exact LE.sl _ _|refine LE.agg ?_));done)));(rintro d0 st0 ⟨N3,hL3,hb3,rfl,hp3⟩))|refine QY ?_|(refine QB ?_;intro b)|(with_reducible refine QZ ?_<;>(try constructor)<;>intro hb<;>try intro hb1)|fail)
       refine⟨i+1,_,List.Sublist.refl _,⟨hlt,?_,?_,?_,?_,N3,L2,hb3,Lib.hid hL3,by omega,hp3.symm⟩,by omega⟩
       all_goals exact Qf
 · clear HL HM HR hFc
   generalize N.st=NS at *
   repeat' (first|refine QX ?_|(refine QB ?_;intro b)|(with_reducible refine QZ ?_<;>(try constructor)<;>intro hb<;>try intro hb1)|fail)
   all_goals exact Ab (by simp) q_y (List.sublist_append_right ..) (LE.of_eq q_v) ⟨rfl,rfl⟩
end
end Go.Proofs.YtoeidpmjifjplaaGreat
