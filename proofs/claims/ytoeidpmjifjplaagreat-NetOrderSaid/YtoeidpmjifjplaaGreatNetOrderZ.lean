/- The walk of the statement NetOrder. -/
import Derived.Test.YtoeidpmjifjplaaGreatZ14
set_option linter.all false
set_option maxRecDepth 10000
set_option maxHeartbeats 8000000
namespace Go.Proofs.YtoeidpmjifjplaaGreat
open Go.RowKit Tryz
section
attribute [local push_cast] Bs Bn BV V.cells_mk V.cells_len Nat.mul_one Int.sub_zero List.map_nil beq_self_eq_true bne_self_eq_false List.head?_cons Bool.not_true Bool.not_false Nat.zero_add
set_option maxHeartbeats 16000000
attribute [-instance] Dl
theorem MF{L:List Fc}{i:Nat}{f:Fc}(hnd:(L.map Fc.id).Nodup)(h:L[i]?=some f):L.drop i=f::L.drop (i+1)/\f.id∉(L.drop (i+1)).map Fc.id:=by
 obtain⟨hi,e⟩:=Af.1 h
 have h1:L.drop i=f::L.drop (i+1):=by rw[BG hi,e]
 refine⟨h1,?_⟩
 have h2:((L.drop i).map Fc.id).Nodup:=by
  rw[ND]
  exact List.Sublist.nodup (List.drop_sublist ..) hnd
 rw[h1,Aw,Ba]at h2
 exact h2.1
theorem ZP{L:List Fc}{i:Nat}{f:Fc}(hs:WU L)(hnd:(L.map Fc.id).Nodup)(h:L[i]?=some f):MJ (L.drop (i+1)) f=L.drop i:=by
 obtain⟨h1,h2⟩:=MF hnd h
 have hd:∀k,WU (L.drop k):=λk=>Qm (List.drop_sublist ..) hs
 unfold MJ
 rw[if_neg h2]
 refine TF (K:=L.drop i) ?_ ?_ (Pd f (hd _)) (.refl _) (hd _)
 . rw[ND];exact List.Sublist.nodup (List.drop_sublist ..) hnd
 . rw[h1];exact Jr f _
theorem ZO{L:List Fc}{i:Nat}{f:Fc}(hnd:(L.map Fc.id).Nodup)(h:L[i]?=some f):PL (L.drop i) f.id=L.drop (i+1):=by
 obtain⟨h1,h2⟩:=MF hnd h
 unfold PL
 rw[h1,List.filter_cons,if_neg (by simp)]
 refine Li.2 λg hg=>?_
 have:g.id≠f.id:=λe=>h2 (Ax.2 ⟨g,hg,e⟩)
 simpa using this
theorem jI{a b c st:St}:st.Sublist (a++(b++(c++st))):=List.sublist_append_of_sublist_right (List.sublist_append_of_sublist_right (CX ..))
theorem mw{a b c e st:St}:st.Sublist (a++(b++(c++(e++st)))):=List.sublist_append_of_sublist_right jI
theorem UF(L0:List Tm)(R:List Rl)(A0:List Ak)(hwL:∀t∈L0,t.Wf)(hlL:L0.length<=maxLen)(hwR:∀x∈R,x.Wf)(hlR:R.length<=maxLen)(hwF:∀f∈A0,f.Wf)(hlF:A0.length<=maxLen)(st:St):TrF prog 11 [.sl .shared (L0.map Tm.cells),.sl .shared (R.map Rl.cells),.sl .shared (A0.map Ak.cells)] st λd st'=>d=.b true/\st'=st:=by
 have hA:=Aa Vo
 have hY:=bP L0 R A0 hwL hlL hwR hlR hwF hlF
 cases hm:Mat.may19 L0 R A0 with
|false =>
  rw[hm]at hY
  clear hwL hlL hwR hlR hwF hlF
  generalize L0.map Tm.cells=LS at *
  generalize R.map Rl.cells=RS at *
  generalize A0.map Ak.cells=FS at *
  replace hY:=Aa hY
  refine Qin [6] func11 results11 ntmps11 ?_
  repeat' (first|refine QV ?_|(with_reducible refine DM ?_)|refine QY ?_|refine QB ?_;intro b|with_reducible refine QZ ?_<;>(try constructor)<;>intro hb<;>try intro hb1|refine Qc call30 ((hA.out _)) ?_|refine Qc call31 ((hY.out _)) ?_|fail)
  all_goals exact Cf
|true =>
 rw[hm]at hY
 have hM:=Mat.may19_iff hwR hwF hm
 have hrk:=hM.rk
 have hal:=hM.al
 have hNew:=Aa (Oc R hrk.rk (by have:=hrk.rl;omega))
 have hFm:(A0.map Ak.cells).length=A0.length:=Ab ..
 have hFc:Hid (∀(i:Nat) (a:Ak),A0[i]?=some a->(A0.map Ak.cells)[i]?=some [.i a.kind,.i a.id,.i a.f.id,.i a.f.time,.i a.f.tmpl,.i a.f.ver,.sl .shared (a.f.s.map V.cells)]):=λi t h=>by rw[Ar,h];rfl
 have HM:=Aa hM
 have HR:=Aa hrk
 have hR1:Hid (R.length<=1000):=by have:=hrk.rl;show _<=_;omega
 have hE:=Aa (λ(N:NT) (h:NetL N R []) (st:St)=>h.matches_ hR1.out hrk.p4 (Gw hrk.rl hrk.p4 (by simp)) st)
 have hF:=Aa (λ(N:NT) (h:NetL N R []) (st:St)=>h.tokens hR1.out hrk.p14 (hrk.tok (by simp)) st)
 have hSe:=Aa (OA (R:=R) (F:=[]) hrk.rl hrk.p4 (by simp))
 clear hwL hlL hwR hlR hwF hlF hm hM hrk
 generalize L0.map Tm.cells=LS at *
 generalize A0.map Ak.cells=FS at *
 obtain⟨ME,hME⟩:∃ME,ME=(Mat.sortM (Mat.raws R [])).map Mt.cells:=⟨_,rfl⟩
 obtain⟨TE,hTE⟩:∃TE,TE=Fq [] R:=⟨_,rfl⟩
 rw[<-hME]at hE hSe
 rw[<-hTE]at hF
 clear hME hTE
 obtain⟨RS,hRS⟩:∃RS,RS=R.map Rl.cells:=⟨_,rfl⟩
 rw[<-hRS]at hY hNew |-
 clear hRS
 replace hY:=Aa hY
 refine Qin [6] func11 results11 ntmps11 ?_
 repeat' (first|refine QV ?_|((with_reducible apply(Bj (f:=32) (henter:=call32) (hp:=hp0.symm) (h:=(hNew.out _))));(focus exact q_v);(focus exact q_l);(rintro d0 st0 ⟨N1,hN1,hf1,rfl,hp1⟩))|((with_reducible apply(Bj (f:=32) (henter:=call32) (hp:=Ao _) (h:=(hNew.out _))));(focus exact q_v);(focus exact q_l);(rintro d0 st0 ⟨N0,hN0,hf0,rfl,hp0⟩))|(with_reducible refine DM ?_)|refine QY ?_|refine QB ?_;intro b|with_reducible refine QZ ?_<;>(try constructor)<;>intro hb<;>try intro hb1|refine Qc call30 ((hA.out _)) ?_|refine Qc call31 ((hY.out _)) ?_|fail)
 obtain⟨na,hna⟩:∃na,na=N0.b:=⟨_,rfl⟩
 obtain⟨nb,hnb⟩:∃nb,nb=N1.b:=⟨_,rfl⟩
 rw[<-hna,<-hnb]
 refine Bw (ι:=Nat) (λi A st'=>i<=A0.length/\A.df=[]/\A.e 1=.sl .shared RS/\A.e 2=.sl .shared FS/\A.e 7=.ptr na 0/\A.e 8=.ptr nb 0/\A.e 9=.i i/\∃(N M:NT) (L:List Fc),N.b=na/\M.b=nb/\Hid (NetL N R L)/\Hid (NetL M R [])/\L.length<=i/\L.length<=9/\st'.Perm (N.st++(M.st++st))) (λi=>A0.length - i) 0 ⟨Aq _,Qf,Qf,Qf,Qf,Qf,Qf,N0,N1,[],hna.symm,hnb.symm,Aa (.new hN0 hf0),Aa (.new hN1 hf1),Aq _,Aq _,hp1.symm.trans (List.perm_append_comm_assoc ..)⟩ ?_
 clear hna hnb hN0 hN1 hf0 hf1 hp0 hp1 hY hA N0 N1
 rintro i A st' ⟨hi,hdf,e1,e2,e7,e8,e9,N,M,L,hNb,hMb,HL,HK,hLl,hL9,hp⟩
 refine Bq hp ?_
 clear hp
 have hLm:(L.map Fc.cells).length=L.length:=Ab ..
 have hFa:Hid (TrF prog 40 [.ptr na 0] (N.st++(M.st++st)) λd st'=>d=.sl .shared (L.map Fc.cells)/\st'=N.st++(M.st++st)):=by have:=HL.out.facts (M.st++st);rwa[hNb]at this
 by_cases hlt:i<A0.length
 . by_cases h8:8<L.length
   . clear HL HK HM HR hFc hE hF hSe hNew
     repeat' (first|refine QV ?_|((with_reducible apply(Bj (f:=40) (henter:=call40) (hp:=Ao _) (h:=hFa.out)));(focus exact q_v);(focus exact q_l);(rintro d0 st0 ⟨rfl,rfl⟩))|refine QY ?_|refine QB ?_;intro b|with_reducible refine QZ ?_<;>(try constructor)<;>intro hb<;>try intro hb1|fail)
     all_goals exact Bl (by simp) q_y (List.sublist_append_of_sublist_right (CX ..)) (LE.of_eq q_v) ⟨rfl,rfl⟩
   obtain⟨a,ha⟩:=gEx hlt
   have hac:=hFc.out i a ha
   have ham:=Ah ha
   have hbd:=HM.out.bd a ham
   by_cases hk:a.kind=0
   . obtain⟨hfk,hid0, -⟩:=HM.out.fk a ham hk
     have hAs:Hid (TrF prog 33 [.ptr na 0,.agg [.i a.f.id,.i a.f.time,.i a.f.tmpl,.i a.f.ver,.sl .shared (a.f.s.map V.cells)]] (N.st++(M.st++st)) λd st'=>∃N2:NT,NetL N2 R (MJ L a.f)/\N2.b=na/\d=.b (!(decide (a.f.id∈L.map Fc.id)))/\(N2.st++(M.st++st)).Perm st'):=by
      have h:=HL.out.assert a.f hR1.out hfk hid0 q_o (M.st++st)
      rw[hNb]at h
      exact h
     have hal2:=PM L a.f
     generalize MJ L a.f=L2 at *
     generalize (!(decide (a.f.id∈L.map Fc.id)))=X at *
     rw[hk]at hac
     clear HL HM HR hFc ham ha hfk hE hF hSe hNew
     generalize a.f.s.map V.cells=VS at *
     generalize L.map Fc.cells=LC at *
     repeat' (first|refine QV ?_|((with_reducible apply(Bj (f:=40) (henter:=call40) (hp:=Ao _) (h:=hFa.out)));(focus exact q_v);(focus exact q_l);(rintro d0 st0 ⟨rfl,rfl⟩))|((with_reducible apply(Bj (f:=33) (henter:=call33) (hp:=Ao _) (h:=hAs.out)));(focus exact q_v);(focus exact q_l);(rintro d0 st0 ⟨N2,hL2,hb2,rfl,hp2⟩))|refine QY ?_|refine QB ?_;intro b|with_reducible refine QZ ?_<;>(try constructor)<;>intro hb<;>try intro hb1|fail)
     refine⟨i+1,_,Al _,⟨hlt,?_,?_,?_,?_,?_,?_,N2,M,L2,hb2,hMb,Aa hL2,HK,by omega,by omega,hp2.symm⟩,by omega⟩
     all_goals exact Qf
   . have hRt : Hid (TrF prog 35 [.ptr na 0, .i a.id] (N.st ++ (M.st ++ st)) λd st' => ∃ N2 : NT, NetL N2 R (PL L a.id) /\ N2.b = na /\ d = .b (decide (a.id ∈ L.map Fc.id)) /\ (N2.st ++ (M.st ++ st)).Perm st') := by
      have h:=HL.out.retract a.id hR1.out (M.st++st)
      rw[hNb]at h
      exact h
     have hal2:=PJ L a.id
     generalize PL L a.id=L2 at *
     generalize (decide (a.id∈L.map Fc.id))=X at *
     clear HL HM HR hFc ham ha hE hF hSe hNew
     generalize a.f.s.map V.cells=VS at *
     generalize L.map Fc.cells=LC at *
     repeat' (first|refine QV ?_|((with_reducible apply(Bj (f:=40) (henter:=call40) (hp:=Ao _) (h:=hFa.out)));(focus exact q_v);(focus exact q_l);(rintro d0 st0 ⟨rfl,rfl⟩))|((with_reducible apply(Bj (f:=35) (henter:=call35) (hp:=Ao _) (h:=hRt.out)));(focus exact q_v);(focus exact q_l);(rintro d0 st0 ⟨N2,hL2,hb2,rfl,hp2⟩))|refine QY ?_|refine QB ?_;intro b|with_reducible refine QZ ?_<;>(try constructor)<;>intro hb<;>try intro hb1|fail)
     refine⟨i+1,_,Al _,⟨hlt,?_,?_,?_,?_,?_,?_,N2,M,L2,hb2,hMb,Aa hL2,HK,by omega,by omega,hp2.symm⟩,by omega⟩
     all_goals exact Qf
 clear HM hFc
 have hLc:Hid (∀(i:Nat) (f:Fc),L[i]?=some f->(L.map Fc.cells)[i]?=some [.i f.id,.i f.time,.i f.tmpl,.i f.ver,.sl .shared (f.s.map V.cells)]):=λi t h=>by rw[Ar,h];rfl
 have hMaN:Hid (∀N':NT,NetL N' R L->∀st,TrF prog 37 [.ptr N'.b 0] (N'.st++st) λd st'=>d=.sl .shared ((Mat.sortM (Mat.raws R L)).map Mt.cells)/\st'=N'.st++st):=λN' h st=>h.matches_ hR1.out HR.out.p4 (Gw HR.out.rl HR.out.p4 q_o) st
 have hToN:Hid (∀N':NT,NetL N' R L->∀st,TrF prog 41 [.ptr N'.b 0] (N'.st++st) λd st'=>d=.i (Fq L R)/\st'=N'.st++st):=λN' h st=>h.tokens hR1.out HR.out.p14 (HR.out.tok q_o) st
 have hSa:=Aa (OA (R:=R) (F:=L) HR.out.rl HR.out.p4 q_o)
 have hSl:Hid (∀st:St,TrF prog 39 [.sl .shared (L.map Fc.cells),.sl .shared (L.map Fc.cells)] st λd st'=>d=.b true/\st'=st):=λst=>Yt L (λf hf=>⟨λv hv=>((HL.out.fk.f f hf).v v hv).1,(HL.out.fk.f f hf).l⟩) q_o st
 have hFaN:Hid (∀N':NT,NetL N' R L->∀st,TrF prog 40 [.ptr N'.b 0] (N'.st++st) λd st'=>d=.sl .shared (L.map Fc.cells)/\st'=N'.st++st):=λN' h st=>h.facts st
 clear HR
 repeat' (first|refine QV ?_|((with_reducible apply(Bj (f:=40) (henter:=call40) (hp:=Ao _) (h:=hFa.out)));(focus exact q_v);(focus exact q_l);(rintro d0 st0 ⟨rfl,rfl⟩))|refine QY ?_|refine QB ?_;intro b|with_reducible refine QZ ?_<;>(try constructor)<;>intro hb<;>try intro hb1|fail)
 refine Bw (ι:=Nat) (λj A st'=>j<=L.length/\A.df=[]/\A.e 1=.sl .shared RS/\A.e 7=.ptr na 0/\A.e 8=.ptr nb 0/\A.e 10=.sl .shared (L.map Fc.cells)/\A.e 11=.i ((j:Int) - 1)/\∃M:NT,M.b=nb/\Hid (NetL M R (L.drop j))/\st'.Perm (N.st++(M.st++st))) (λj=>j) L.length ⟨Ap _,Qf,Qf,Qf,Qf,Qf,Qf,M,hMb,by rw[JU];exact HK,.refl _⟩ ?_
 clear e1 e2 e7 e8 e9 hdf A st' hFa HK hMb M hFm hi hlt hLl
 rintro j A st' ⟨hj,hdf,e1,e7,e8,e10,e11,M,hMb,HK,hp⟩
 refine Bq hp ?_
 clear hp
 cases j with
|succ k =>
  rw[show((k+1:Nat):Int) - 1=k by omega]at e11
  obtain⟨f,hf⟩:=gEx hj
  have hfc:=hLc.out k f hf
  have hfm:=Ah hf
  have hAs:Hid (TrF prog 33 [.ptr nb 0,.agg [.i f.id,.i f.time,.i f.tmpl,.i f.ver,.sl .shared (f.s.map V.cells)]] (N.st++(M.st++st)) λd st'=>∃M2:NT,NetL M2 R (L.drop k)/\M2.b=nb/\d=.b true/\(N.st++(M2.st++st)).Perm st'):=by
   have h:=HK.out.assert f hR1.out (HL.out.fk.f f hfm) (HL.out.ok.f0 f (HL.out.p.mem_iff.1 hfm)) (by have:=AP (l:=L) (i:=k+1);omega) (N.st++st)
   rw[hMb,ZP HL.out.s HL.out.nd hf,decide_eq_false (MF HL.out.nd hf).2]at h
   exact(TrF.perm (List.perm_append_comm_assoc ..) h).mono λd st' ⟨M2,h1,h2,h3,h4⟩=>⟨M2,h1,h2,h3,(List.perm_append_comm_assoc ..).trans h4⟩
  clear hE hF hSe hNew hMaN hToN hSa hSl hFaN hLc
  generalize f.s.map V.cells=VS at *
  generalize L.map Fc.cells=LC at *
  repeat' (first|refine QV ?_|((with_reducible apply(Bj (f:=33) (henter:=call33) (hp:=Ao _) (h:=hAs.out)));(focus exact q_v);(focus exact q_l);(rintro d0 st0 ⟨M2,hM2,hb2,rfl,hp2⟩))|refine QY ?_|refine QB ?_;intro b|with_reducible refine QZ ?_<;>(try constructor)<;>intro hb<;>try intro hb1|fail)
  refine⟨k,_,Al _,⟨by omega,?_,?_,?_,?_,?_,?_,M2,hb2,Aa hM2,hp2.symm⟩,by omega⟩
  all_goals exact Qf
|zero =>
 rw[Ca]at HK
 rw[show((0:Nat):Int) - 1 = -1 by omega]at e11
 have a1:=hMaN.out N HL.out (M.st++st)
 have a2:=hToN.out N HL.out (M.st++st)
 have a3:=hFaN.out N HL.out (M.st++st)
 have b1:=hMaN.out M HK.out (N.st++st)
 have b2:=hToN.out M HK.out (N.st++st)
 have b3:=hFaN.out M HK.out (N.st++st)
 rw[hNb]at a1 a2 a3
 rw[hMb]at b1 b2 b3
 replace a1:=Aa a1
 replace a2:=Aa a2
 replace a3:=Aa a3
 replace b1:=Aa b1
 replace b2:=Aa b2
 replace b3:=Aa b3
 clear hMaN hToN hFaN HK hMb
 generalize (Mat.sortM (Mat.raws R L)).map Mt.cells=MT at *
 generalize Fq L R=TL at *
 obtain⟨LC,hLC⟩:∃LC,LC=L.map Fc.cells:=⟨_,rfl⟩
 rw[<-hLC]at hSl a3 b3 hLm hLc e10
 clear hLC
 generalize M.st=MS at *
 repeat' (first|refine QV ?_|((with_reducible apply(Bj (f:=37) (henter:=call37) (hp:=Ao _) (h:=a1.out)));(focus exact q_v);(focus exact q_l);(rintro d0 st0 ⟨rfl,rfl⟩))|((with_reducible apply(Bj (f:=37) (henter:=call37) (hp:=(List.perm_append_comm_assoc ..)) (h:=b1.out)));(focus exact q_v);(focus exact q_l);(rintro d0 st0 ⟨rfl,rfl⟩))|((with_reducible apply(Bj (f:=22) (henter:=call22) (hp:=Ao _) (h:=(hSa.out _))));(focus exact q_v);(focus exact q_l);(rintro d0 st0 ⟨rfl,rfl⟩))|((with_reducible apply(Bj (f:=41) (henter:=call41) (hp:=(List.perm_append_comm_assoc ..)) (h:=a2.out)));(focus exact q_v);(focus exact q_l);(rintro d0 st0 ⟨rfl,rfl⟩))|((with_reducible apply(Bj (f:=41) (henter:=call41) (hp:=(List.perm_append_comm_assoc ..)) (h:=b2.out)));(focus exact q_v);(focus exact q_l);(rintro d0 st0 ⟨rfl,rfl⟩))|((with_reducible apply(Bj (f:=40) (henter:=call40) (hp:=(List.perm_append_comm_assoc ..)) (h:=a3.out)));(focus exact q_v);(focus exact q_l);(rintro d0 st0 ⟨rfl,rfl⟩))|((with_reducible apply(Bj (f:=40) (henter:=call40) (hp:=(List.perm_append_comm_assoc ..)) (h:=b3.out)));(focus exact q_v);(focus exact q_l);(rintro d0 st0 ⟨rfl,rfl⟩))|((with_reducible apply(Bj (f:=39) (henter:=call39) (hp:=Ao _) (h:=(hSl.out _))));(focus exact q_v);(focus exact q_l);(rintro d0 st0 ⟨rfl,rfl⟩))|refine QY ?_|refine QB ?_;intro b|with_reducible refine QZ ?_<;>(try constructor)<;>intro hb<;>try intro hb1|fail)
 refine Bw (ι:=Nat) (λi A st'=>i<=L.length/\A.df=[]/\A.e 1=.sl .shared RS/\A.e 7=.ptr na 0/\A.e 10=.sl .shared LC/\A.e 12=.i i/\∃N:NT,N.b=na/\Hid (NetL N R (L.drop i))/\st'.Perm (N.st++(MS++st))) (λi=>L.length - i) 0 ⟨Aq _,Qf,Qf,Qf,Qf,Qf,N,hNb,HL,List.perm_append_comm_assoc ..⟩ ?_
 have hnd:=Aa HL.out.nd
 clear a1 a2 a3 b1 b2 b3 e1 e7 e8 e10 e11 hdf A st' HL hNb N hSa hSl
 rintro i A st' ⟨hi,hdf,e1,e7,e10,e12,N,hNb,HL,hp⟩
 refine Bq hp ?_
 clear hp
 by_cases hlt:i<L.length
 . obtain⟨f,hf⟩:=gEx hlt
   have hfc:=hLc.out i f hf
   have hRt:Hid (TrF prog 35 [.ptr na 0,.i f.id] (N.st++(MS++st)) λd st'=>∃N2:NT,NetL N2 R (L.drop (i+1))/\N2.b=na/\d=.b true/\(N2.st++(MS++st)).Perm st'):=by
    have h:=HL.out.retract f.id hR1.out (MS++st)
    have hm:f.id∈(L.drop i).map Fc.id:=by rw[(MF hnd.out hf).1];exact Ag ..
    rwa[hNb,ZO hnd.out hf,decide_eq_true hm]at h
   clear hE hF hSe hNew hLc hnd HL
   generalize f.s.map V.cells=VS at *
   repeat' (first|refine QV ?_|((with_reducible apply(Bj (f:=35) (henter:=call35) (hp:=Ao _) (h:=hRt.out)));(focus exact q_v);(focus exact q_l);(rintro d0 st0 ⟨N2,hN2,hb2,rfl,hp2⟩))|refine QY ?_|refine QB ?_;intro b|with_reducible refine QZ ?_<;>(try constructor)<;>intro hb<;>try intro hb1|fail)
   refine⟨i+1,_,Al _,⟨hlt,?_,?_,?_,?_,?_,N2,hb2,Aa hN2,hp2.symm⟩,by omega⟩
   all_goals exact Qf
 rw[AB q_o]at HL
 have hl0:(([]:List Fc).map Fc.cells)=[]:=rfl
 have hn0:∀(N:NT),N.Ok R->N.fs=[]->NetL N R []:=λN h h2=>.new h h2
 have a1:=hE.out N HL.out (MS++st)
 rw[hNb]at a1
 have a2:=Aa (λs=>hF.out N HL.out s)
 rw[hNb]at a2
 have a3:=Aa (λs=>HL.out.facts s)
 rw[hNb,hl0]at a3
 replace a1:=Aa a1
 replace hn0:=Aa hn0
 clear HL hNb hnd hLc
 generalize N.st=NS at *
 repeat' (first|refine QV ?_|((with_reducible apply(Bj (f:=37) (henter:=call37) (hp:=Ao _) (h:=a1.out)));(focus exact q_v);(focus exact q_l);(rintro d0 st0 ⟨rfl,rfl⟩))|((with_reducible apply(Bj (f:=32) (henter:=call32) (hp:=(Function.const _ (Ao _) hp3)) (h:=(hNew.out _))));(focus exact q_v);(focus exact q_l);(rintro d0 st0 ⟨N4,hN4,hf4,rfl,hp4⟩))|((with_reducible apply(Bj (f:=32) (henter:=call32) (hp:=Ao _) (h:=(hNew.out _))));(focus exact q_v);(focus exact q_l);(rintro d0 st0 ⟨N3,hN3,hf3,rfl,hp3⟩))|((with_reducible apply(Bj (f:=37) (henter:=call37) (hp:=hp3.symm) (h:=(hE.out _ (hn0.out _ hN3 hf3) _))));(focus exact q_v);(focus exact q_l);(rintro d0 st0 ⟨rfl,rfl⟩))|((with_reducible apply(Bj (f:=22) (henter:=call22) (hp:=Ao _) (h:=(hSe.out _))));(focus exact q_v);(focus exact q_l);(rintro d0 st0 ⟨rfl,rfl⟩))|((with_reducible apply(Bj (f:=41) (henter:=call41) (hp:=(List.perm_append_comm_assoc ..)) (h:=(a2.out _))));(focus exact q_v);(focus exact q_l);(rintro d0 st0 ⟨rfl,rfl⟩))|((with_reducible apply(Bj (f:=41) (henter:=call41) (hp:=hp4.symm) (h:=(hF.out _ (hn0.out _ hN4 hf4) _))));(focus exact q_v);(focus exact q_l);(rintro d0 st0 ⟨rfl,rfl⟩))|((with_reducible apply(Bj (f:=40) (henter:=call40) (hp:=(List.perm_append_comm_assoc ..)) (h:=(a3.out _))));(focus exact q_v);(focus exact q_l);(rintro d0 st0 ⟨rfl,rfl⟩))|refine QY ?_|refine QB ?_;intro b|with_reducible refine QZ ?_<;>(try constructor)<;>intro hb<;>try intro hb1|fail)
 all_goals exact Bl (by simp) q_y (by first|exact mw|exact jI) (LE.of_eq q_v) ⟨rfl,rfl⟩
end
end Go.Proofs.YtoeidpmjifjplaaGreat
