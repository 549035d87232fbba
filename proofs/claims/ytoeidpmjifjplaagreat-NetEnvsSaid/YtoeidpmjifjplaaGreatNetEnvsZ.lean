/- The walk of the statement NetEnvs. -/
import Derived.Test.YtoeidpmjifjplaaGreatZ14
set_option linter.all false
set_option maxRecDepth 10000
set_option maxHeartbeats 8000000
namespace Go.Proofs.YtoeidpmjifjplaaGreat
open Go.RowKit Tryz
section
attribute [local push_cast] Br Bl BV V.cells_mk V.cells_len Nat.mul_one Int.sub_zero List.map_nil beq_self_eq_true bne_self_eq_false List.head?_cons Bool.not_true Bool.not_false Nat.zero_add
set_option maxHeartbeats 16000000
attribute [-instance] Ds
theorem ZN{a b:Mt}(h:(!Mat.less a b && !Mat.less b a)=true):a=b:=by
 rw[AF,Cs,Cs]at h
 have h1:=Mat.not_less.1 h.1
 have h2:=Mat.not_less.1 h.2
 have h3:=Mat.ord_anti a b
 exact Mat.ord_eq (show Mat.ord a b=0 by omega)
theorem ZM(a:Mt):Mat.less a a=false:=by unfold Mat.less;rw[Mat.ord_self];rfl
theorem Vz{R:List Rl}{F:List Fc}{m:Mt}(hnd:(F.map Fc.id).Nodup)(hv:∀f∈F,∀x∈f.s,V.Ok x)(h:m∈Mat.sortM (Mat.raws R F)):∃(k:Nat) (x:Rl) (e:List V),R[k]?=some x/\m.rule=k/\NI R F m=some e/\Mat.envF F x.pats m.ids Mat.empty=(e,true)/\(∀v∈e,v.Ok)/\e.length=8:=by
 obtain⟨k,x,e,h1,h2,h3,h4, -⟩:=Mat.once h
 have h5:=h3
 rw[Mat.envP_eq hnd]at h5
 have h6:=Mat.envF_R F x.pats m.ids Mat.empty
 rw[h5]at h6
 refine⟨k,x,e,h1,h2,?_,h6,(Mat.envR_mem (Q:=V.Ok) hv x.pats m.ids Mat.empty e h5 ⟨dt,by decide⟩).1,h4⟩
 unfold NI
 rw[h2,if_pos q_o,BR,h1]
 exact h3
theorem dm{R:List Rl}{F:List Fc}{m:Mt}(hnd:(F.map Fc.id).Nodup)(hv:∀f∈F,∀x∈f.s,V.Ok x):(NI R F m).isSome=(Mat.sortM (Mat.raws R F)).any λx=>!Mat.less x m && !Mat.less m x:=by
 cases h:NI R F m with
|some e =>
  refine(List.any_eq_true.2 ⟨m,Mat.sortM_mem.2 ?_,by rw[ZM];rfl⟩).symm
  unfold NI at h
  split at h
  . rename_i h0
    split at h
    . rename_i x hx
      exact Mat.raws_mem_of hx h0 (KT h)
    . cases h
  . cases h
|none =>
  refine(Bool.eq_false_iff.2 λhm=>?_).symm
  obtain⟨y,hy,h1⟩:=List.any_eq_true.1 hm
  rw[ZN h1]at hy
  obtain⟨k,x,e, -, -,h3, -⟩:=Vz hnd hv hy
  rw[h]at h3
  cases h3
theorem WB(L0:List Tm)(R:List Rl)(A0:List Ak)(m:Mt)(hwL:∀t∈L0,t.Wf)(hlL:L0.length<=maxLen)(hwR:∀x∈R,x.Wf)(hlR:R.length<=maxLen)(hwF:∀f∈A0,f.Wf)(hlF:A0.length<=maxLen)(hwm:m.Wf)(st:St):TrF prog 10 [.sl .shared (L0.map Tm.cells),.sl .shared (R.map Rl.cells),.sl .shared (A0.map Ak.cells),.agg m.cells] st λd st'=>d=.b true/\st'=st:=by
 have hA:=Aa dJ
 have hY:=i7 L0 R A0 hwL hlL hwR hlR hwF hlF
 have hlm:=hwm.l
 unfold maxLen at hlm
 have hmm:(m.ids.map Bl).length=m.ids.length:=Ab ..
 clear hwm
 cases hm:Mat.may19 L0 R A0 with
|false =>
  rw[hm]at hY
  clear hwL hlL hwR hlR hwF hlF
  unfold Mt.cells
  generalize L0.map Tm.cells=LS at *
  generalize R.map Rl.cells=RS at *
  generalize A0.map Ak.cells=FS at *
  generalize m.ids.map Bl=IM at *
  generalize m.rule=rm at *
  replace hY:=Aa hY
  refine Qin [8] func10 results10 ntmps10 ?_
  repeat' (first|refine QV ?_|(with_reducible refine Du ?_)|refine QY ?_|refine QB ?_;intro b|with_reducible refine QZ ?_<;>(try constructor)<;>intro hb<;>try intro hb1|refine Qc call30 ((hA.out _)) ?_|refine Qc call31 ((hY.out _)) ?_|fail)
  all_goals exact BZ
|true =>
 rw[hm]at hY
 have hM:=Mat.may19_iff hwR hwF hm
 clear hwL hlL hwR hlR hwF hlF hm
 by_cases h10:10<m.ids.length
 . clear hM
   unfold Mt.cells
   generalize L0.map Tm.cells=LS at *
   generalize R.map Rl.cells=RS at *
   generalize A0.map Ak.cells=FS at *
   generalize m.ids.map Bl=IM at *
   generalize m.rule=rm at *
   replace hY:=Aa hY
   refine Qin [8] func10 results10 ntmps10 ?_
   repeat' (first|refine QV ?_|(with_reducible refine Du ?_)|refine QY ?_|refine QB ?_;intro b|with_reducible refine QZ ?_<;>(try constructor)<;>intro hb<;>try intro hb1|refine Qc call30 ((hA.out _)) ?_|refine Qc call31 ((hY.out _)) ?_|fail)
   all_goals exact BZ
 have hrk:=hM.rk
 have hal:=hM.al
 have hNew:=Aa (Yb R hrk.rk (by have:=hrk.rl;omega))
 have hFm:(A0.map Ak.cells).length=A0.length:=Ab ..
 have hFc:Hid (∀(i:Nat) (a:Ak),A0[i]?=some a->(A0.map Ak.cells)[i]?=some [.i a.kind,.i a.id,.i a.f.id,.i a.f.time,.i a.f.tmpl,.i a.f.ver,.sl .shared (a.f.s.map V.cells)]):=λi t h=>by rw[Aq,h];rfl
 have hRc:=hMp Rl.cells R
 have HM:=Aa hM
 have HR:=Aa hrk
 have n1:=Aa (ZD m)
 have n2:=Aa (Th ⟨1,0,0,0,[]⟩)
 have n3:=Aa (Qy 1)
 have n4:=Aa Qz
 have n5:=Aa UY
 have n6:=Aa Tg
 clear hM hrk
 generalize L0.map Tm.cells=LS at *
 generalize A0.map Ak.cells=FS at *
 obtain⟨RS,hRS⟩:∃RS,RS=R.map Rl.cells:=⟨_,rfl⟩
 rw[<-hRS]at hY hNew hRc |-
 replace hRS:=Aa hRS
 replace hY:=Aa hY
 obtain⟨rm,hrm⟩:∃rm,rm=m.rule:=⟨_,rfl⟩
 obtain⟨IM,hIM⟩:∃IM,IM=m.ids.map Bl:=⟨_,rfl⟩
 have hmc:m.cells=[.i rm,.sl .shared IM]:=by rw[hrm,hIM];rfl
 rw[<-hIM]at hmm
 rw[hmc]at n1 |-
 replace hmc:=Aa hmc
 clear hrm hIM
 refine Qin [8] func10 results10 ntmps10 ?_
 repeat' (first|refine QV ?_|with_reducible refine DR (t:=64) ?_|((with_reducible apply(BG (f:=32) (henter:=call32) (hp:=Ar _) (h:=(hNew.out _))));(focus exact q_v);(focus exact q_l);(rintro d0 st0 ⟨N0,hN0,hf0,rfl,hp0⟩))|((with_reducible apply(BG (f:=43) (henter:=call43) (hp:=Ar _) (h:=(n1.out _))));(focus exact q_v);(focus exact q_l);(rintro d0 st0 ⟨rfl,he⟩;rw[he];clear he))|((with_reducible apply(BG (f:=33) (henter:=call33) (hp:=Ar _) (h:=(n2.out _))));(focus exact q_v);(focus exact q_l);(rintro d0 st0 ⟨rfl,he⟩;rw[he];clear he))|((with_reducible apply(BG (f:=35) (henter:=call35) (hp:=Ar _) (h:=(n3.out _))));(focus exact q_v);(focus exact q_l);(rintro d0 st0 ⟨rfl,he⟩;rw[he];clear he))|((with_reducible apply(BG (f:=37) (henter:=call37) (hp:=Ar _) (h:=(n4.out _))));(focus exact q_v);(focus exact q_l);(rintro d0 st0 ⟨rfl,he⟩;rw[he];clear he))|((with_reducible apply(BG (f:=40) (henter:=call40) (hp:=Ar _) (h:=(n5.out _))));(focus exact q_v);(focus exact q_l);(rintro d0 st0 ⟨rfl,he⟩;rw[he];clear he))|((with_reducible apply(BG (f:=41) (henter:=call41) (hp:=Ar _) (h:=(n6.out _))));(focus exact q_v);(focus exact q_l);(rintro d0 st0 ⟨rfl,he⟩;rw[he];clear he))|(with_reducible refine Du ?_)|refine QY ?_|refine QB ?_;intro b|with_reducible refine QZ ?_<;>(try constructor)<;>intro hb<;>try intro hb1|refine Qc call30 ((hA.out _)) ?_|refine Qc call31 ((hY.out _)) ?_|fail)
 revert b
 intro rb
 obtain⟨nb,hnb⟩:∃nb,nb=N0.b:=⟨_,rfl⟩
 rw[<-hnb]
 refine Ua (b:=rb) (.refl _) (cs':=[.sl .shared RS,.sl .shared (([]:List Fc).map Fc.cells)]) ⟨LE.refl _,LE.sl _ _,trivial⟩ (λd hd=>by
  simp only[Ax,AP,or_false]at hd
  rcases hd with rfl|rfl<;>rfl) ?_
 refine Bs (ι:=Nat) (λi A st'=>i<=A0.length/\A.df=[]/\A.e 1=.sl .shared RS/\A.e 2=.sl .shared FS/\A.e 7=.ip [.i rm,.sl .shared IM]/\A.e 12=.ptr nb 0/\A.e 13=.ptr rb 0/\A.e 14=.i i/\∃(N:NT) (L:List Fc),N.b=nb/\Hid (NetL N R L)/\L.length<=i/\st'.Perm (.box rb 64 [.sl .shared RS,.sl .shared (L.map Fc.cells)]::(N.st++st))) (λi=>A0.length - i) 0 ⟨Ao _,Qf,Qf,Qf,Qf,Qf,Qf,Qf,N0,[],hnb.symm,Aa (.new hN0 hf0),Ao _,hp0.symm.cons _⟩ ?_
 clear hnb hN0 hf0 hp0 hY hA hNew N0 n1 n2 n3 n4 n5 n6 hb
 rintro i A st' ⟨hi,hdf,e1,e2,e7,e12,e13,e14,N,L,hNb,HL,hLl,hp⟩
 have hLm:(L.map Fc.cells).length=L.length:=Ab ..
 have hR1:Hid (R.length<=1000):=by have:=HR.out.rl;show _<=_;omega
 refine Bn hp ?_
 clear hp
 by_cases hlt:i<A0.length
 . obtain⟨a,ha⟩:=gEx hlt
   have hac:=hFc.out i a ha
   have ham:=Ah ha
   have hbd:=HM.out.bd a ham
   by_cases hk:a.kind=0
   . obtain⟨hfk,hid0, -⟩:=HM.out.fk a ham hk
     have hAs:Hid (TrF prog 33 [.ptr nb 0,.agg [.i a.f.id,.i a.f.time,.i a.f.tmpl,.i a.f.ver,.sl .shared (a.f.s.map V.cells)]] (.box rb 64 [.sl .shared RS,.sl .shared (L.map Fc.cells)]::(N.st++st)) λd st'=>∃N2:NT,NetL N2 R (QD L a.f)/\N2.b=nb/\d=.b (!(decide (a.f.id∈L.map Fc.id)))/\(Res.box rb 64 [.sl .shared RS,.sl .shared (L.map Fc.cells)]::(N2.st++st)).Perm st'):=by
      have h:=HL.out.assert a.f hR1.out hfk hid0 q_o (.box rb 64 [.sl .shared RS,.sl .shared (L.map Fc.cells)]::st)
      rw[hNb]at h
      exact(TrF.perm AD.symm h).mono λd st' ⟨N2,h1,h2,h3,h4⟩=>⟨N2,h1,h2,h3,AD.symm.trans h4⟩
     have hRA:Hid (∀st:St,TrF prog 34 [.ptr rb 0,.agg [.i a.f.id,.i a.f.time,.i a.f.tmpl,.i a.f.ver,.sl .shared (a.f.s.map V.cells)]] (.box rb 64 [.sl .shared RS,.sl .shared (L.map Fc.cells)]::st) λd st'=>d=.b (!(decide (a.f.id∈L.map Fc.id)))/\st'=.box rb 64 [.sl .shared RS,.sl .shared ((QD L a.f).map Fc.cells)]::st):=λst=>Wr rb RS L a.f q_o st
     have hal2:=dL L a.f
     generalize QD L a.f=L2 at *
     generalize (!(decide (a.f.id∈L.map Fc.id)))=X at *
     rw[hk]at hac
     clear HL HM HR hFc hRc hRS hmc ham ha hfk
     generalize a.f.s.map V.cells=VS at *
     generalize hLC:L.map Fc.cells=LC at *
     repeat' (first|refine QV ?_|((with_reducible apply(BG (f:=33) (henter:=call33) (hp:=Ar _) (h:=hAs.out)));(focus exact q_v);(focus exact q_l);(rintro d0 st0 ⟨N2,hL2,hb2,rfl,hp2⟩))|((with_reducible apply(BG (f:=34) (henter:=call34) (hp:=hp2.symm) (h:=(hRA.out _))));(focus exact q_v);(focus exact q_l);(rintro d0 st0 ⟨rfl,rfl⟩))|refine QY ?_|refine QB ?_;intro b|with_reducible refine QZ ?_<;>(try constructor)<;>intro hb<;>try intro hb1|fail)
     refine⟨i+1,_,Aj _,⟨hlt,?_,?_,?_,?_,?_,?_,?_,N2,L2,hb2,Aa hL2,by omega,.refl _⟩,by omega⟩
     all_goals exact Qf
   . have hRt : Hid (TrF prog 35 [.ptr nb 0, .i a.id] (.box rb 64 [.sl .shared RS, .sl .shared (L.map Fc.cells)] :: (N.st ++ st)) λd st' => ∃ N2 : NT, NetL N2 R (Xh L a.id) /\ N2.b = nb /\ d = .b (decide (a.id ∈ L.map Fc.id)) /\ (Res.box rb 64 [.sl .shared RS, .sl .shared (L.map Fc.cells)] :: (N2.st ++ st)).Perm st') := by
      have h:=HL.out.retract a.id hR1.out (.box rb 64 [.sl .shared RS,.sl .shared (L.map Fc.cells)]::st)
      rw[hNb]at h
      exact(TrF.perm AD.symm h).mono λd st' ⟨N2,h1,h2,h3,h4⟩=>⟨N2,h1,h2,h3,AD.symm.trans h4⟩
     have hRA:Hid (∀st:St,TrF prog 36 [.ptr rb 0,.i a.id] (.box rb 64 [.sl .shared RS,.sl .shared (L.map Fc.cells)]::st) λd st'=>d=.b (decide (a.id∈L.map Fc.id))/\st'=.box rb 64 [.sl .shared RS,.sl .shared ((Xh L a.id).map Fc.cells)]::st):=λst=>Ux rb RS L a.id q_o st
     have hal2:=dK L a.id
     generalize Xh L a.id=L2 at *
     generalize (decide (a.id∈L.map Fc.id))=X at *
     clear HL HM HR hFc hRc hRS hmc ham ha
     generalize a.f.s.map V.cells=VS at *
     generalize hLC:L.map Fc.cells=LC at *
     repeat' (first|refine QV ?_|((with_reducible apply(BG (f:=35) (henter:=call35) (hp:=Ar _) (h:=hRt.out)));(focus exact q_v);(focus exact q_l);(rintro d0 st0 ⟨N2,hL2,hb2,rfl,hp2⟩))|((with_reducible apply(BG (f:=36) (henter:=call36) (hp:=hp2.symm) (h:=(hRA.out _))));(focus exact q_v);(focus exact q_l);(rintro d0 st0 ⟨rfl,rfl⟩))|refine QY ?_|refine QB ?_;intro b|with_reducible refine QZ ?_<;>(try constructor)<;>intro hb<;>try intro hb1|fail)
     refine⟨i+1,_,Aj _,⟨hlt,?_,?_,?_,?_,?_,?_,?_,N2,L2,hb2,Aa hL2,by omega,.refl _⟩,by omega⟩
     all_goals exact Qf
 by_cases h6:6<L.length
 . clear HL HM HR hFc hRc hR1 hRS hmc
   generalize L.map Fc.cells=LC at *
   repeat' (first|refine QX ?_|refine QB ?_;intro b|with_reducible refine QZ ?_<;>(try constructor)<;>intro hb<;>try intro hb1|fail)
   all_goals exact Bf (by simp) q_y ((Hw ..).cons _) (LE.of_eq q_v) ⟨rfl,rfl⟩
 have hEm:Hid (∀(j:Nat) (y:Mt),(Mat.sortM (Mat.raws R L))[j]?=some y->∃(k:Nat) (x:Rl) (EC:List (List D)),y.rule=k/\R[k]?=some x/\Hid (TrF prog 43 [.ptr nb 0,.agg y.cells] (.box rb 64 [.sl .shared RS,.sl .shared (L.map Fc.cells)]::(N.st++st)) λd st'=>d=.tup [.sl .shared EC,.b true]/\st'=.box rb 64 [.sl .shared RS,.sl .shared (L.map Fc.cells)]::(N.st++st))/\Hid (∀s:St,TrF prog 28 [.agg x.cells,.sl .shared (L.map Fc.cells),.sl .shared (y.ids.map Bl)] s λd s'=>d=.tup [.sl .shared EC,.b true]/\s'=s)/\Hid (∀s:St,TrF prog 19 [.sl .shared EC,.sl .shared EC] s λd s'=>d=.b true/\s'=s)):=by
  intro j y hj
  have hy:=Ah hj
  have hyl:=cR HR.out.p4 y hy
  obtain⟨k,x,e,h1,h2,h3,h4,h5,h6⟩:=Vz HL.out.nd (λf hf x hx=>((HL.out.fk.f f hf).v x hx).1) hy
  refine⟨k,x,e.map V.cells,h2,h1,?_,λs=>?_,λs=>dH e h5 q_o .shared .shared s⟩
  . have:=HL.out.env y hR1.out HR.out.p4 hyl (.box rb 64 [.sl .shared RS,.sl .shared (L.map Fc.cells)]::st)
    rw[h3,hNb]at this
    exact TrF.det AD.symm this
  . have:=Rm x L (HR.out.rk x (Ah h1)).1 HL.out.fk y.ids hyl s
    rwa[h4]at this
 have hEl:Hid (∃ec:D,TrF prog 43 [.ptr nb 0,.agg [.i rm,.sl .shared IM]] (.box rb 64 [.sl .shared RS,.sl .shared (L.map Fc.cells)]::(N.st++st)) λd st'=>d=.tup [ec,.b ((Mat.sortM (Mat.raws R L)).any λx=>!Mat.less x m && !Mat.less m x)]/\st'=.box rb 64 [.sl .shared RS,.sl .shared (L.map Fc.cells)]::(N.st++st)):=by
  have h:=HL.out.env m hR1.out HR.out.p4 q_o (.box rb 64 [.sl .shared RS,.sl .shared (L.map Fc.cells)]::st)
  rw[hNb,hmc.out]at h
  have h2:=dm (R:=R) (m:=m) HL.out.nd (λf hf x hx=>((HL.out.fk.f f hf).v x hx).1)
  have h3:=TrF.det AD.symm h
  rw[<-h2]
  cases hq:NI R L m with
  | none=>rw[hq]at h3;exact⟨_,h3⟩
  | some e=>rw[hq]at h3;exact⟨_,h3⟩
 have hMa:=Uy rb R L (λx hx=>⟨(HR.out.rk x hx).1,(HR.out.rk x hx).2.2⟩) HR.out.rl HL.out.fk q_o HL.out.nd (N.st++st)
 rw[<-hRS.out]at hMa
 replace hMa:=Aa hMa
 have hIl:=Aa (cR (R:=R) (F:=L) HR.out.p4)
 have hSm:((Mat.sortM (Mat.raws R L)).map Mt.cells).length=(Mat.sortM (Mat.raws R L)).length:=Ab ..
 have hSc:Hid (∀(i:Nat) (y:Mt),(Mat.sortM (Mat.raws R L))[i]?=some y->((Mat.sortM (Mat.raws R L)).map Mt.cells)[i]?=some [.i y.rule,.sl .shared (y.ids.map Bl)]):=λi t h=>by rw[Aq,h];rfl
 have hSl:Hid ((Mat.sortM (Mat.raws R L)).length<=1000000):=by
  have:=Pe (F:=L) HR.out.rl HR.out.p4 q_o
  show _<=_
  rwa[(Mat.sortM_srt _).2.length_eq]
 generalize Mat.sortM (Mat.raws R L)=ms at *
 generalize ms.map Mt.cells=MS at *
 clear HM hFc HL hRS
 generalize L.map Fc.cells=LC at *
 generalize hNS:N.st=NS at *
 repeat' (first|refine QV ?_|((with_reducible apply(BG (f:=38) (henter:=call38) (hp:=Ar _) (h:=hMa.out)));(focus exact q_v);(focus exact q_l);(rintro d0 st0 ⟨rfl,rfl⟩))|refine QY ?_|refine QB ?_;intro b|with_reducible refine QZ ?_<;>(try constructor)<;>intro hb<;>try intro hb1|fail)
 refine Bs (ι:=Nat) (λi A st'=>i<=ms.length/\A.df=[]/\A.e 1=.sl .shared RS/\A.e 7=.ip [.i rm,.sl .shared IM]/\A.e 12=.ptr nb 0/\A.e 13=.ptr rb 0/\A.e 15=.sl .shared MS/\A.e 16=.b ((ms.take i).any λx=>!Mat.less x m && !Mat.less m x)/\A.e 17=.i i/\st'=.box rb 64 [.sl .shared RS,.sl .shared LC]::(NS++st)) (λi=>ms.length - i) 0 ⟨Ao _,Qf,Qf,Qf,Qf,Qf,Qf,Qf,Qf,rfl⟩ ?_
 clear hMa e1 e2 e7 e12 e13 e14 hdf A st'
 rintro j A st' ⟨hj,hdf,e1,e7,e12,e13,e15,e16,e17,rfl⟩
 by_cases hjt:j<ms.length
 . obtain⟨y,hy⟩:=gEx hjt
   have hyc:=hSc.out j y hy
   obtain⟨k,x,EC,q0,q1,q2,q3,q4⟩:=hEm.out j y hy
   have hyl:=hIl.out y (Ah hy)
   have l1:=LX y m hyl q_o
   have l2:=LX m y q_o hyl
   rw[hmc.out]at l1 l2
   rw[show y.cells=[.i y.rule,.sl .shared (y.ids.map Bl)]from rfl]at *
   rw[q0]at hyc q2 l1 l2
   have hxc:=hRc.out k x q1
   have hkl:=(Af.1 hxc).1
   have hst:((ms.take (j+1)).any λx=>!Mat.less x m && !Mat.less m x)=(((ms.take j).any λx=>!Mat.less x m && !Mat.less m x) || (!Mat.less y m && !Mat.less m y)):=by
    rw[Bk,hy]
    simp only[Bw,List.any_append,VV,Gv,Fh]
   generalize ((ms.take j).any λx=>!Mat.less x m && !Mat.less m x)=T at *
   replace hst:=Aa hst
   clear hEm hSc hIl hRc hEl
   rw[show x.cells=[.str x.name,.i x.sal,.sl .shared (x.pats.map Pt.cells),.sl .shared (x.acts.map Ac.cells)]from rfl]at *
   generalize x.pats.map Pt.cells=PS at *
   generalize x.acts.map Ac.cells=AS at *
   generalize x.name=nm at *
   generalize x.sal=sal at *
   generalize y.ids.map Bl=IY at *
   generalize Mat.less y m=Y1 at *
   generalize Mat.less m y=Y2 at *
   replace l1:=Aa l1
   replace l2:=Aa l2
   repeat' (first|refine QV ?_|(refine Lb 26 (λA' st'=>A'.df=[]/\A'.e 1=.sl .shared RS/\A'.e 7=.ip [.i rm,.sl .shared IM]/\A'.e 12=.ptr nb 0/\A'.e 13=.ptr rb 0/\A'.e 15=.sl .shared MS/\A'.e 16=.b T/\A'.e 17=.i j/\A'.e 18=.sl .shared EC/\A'.e 19=.b true/\A'.e 20=.sl .shared EC/\st'=.box rb 64 [.sl .shared RS,.sl .shared LC]::(NS++st)) ?_ ?_)|((with_reducible apply(BG (f:=43) (henter:=call43) (hp:=Ar _) (h:=q2.out)));(focus exact q_v);(focus exact q_l);(rintro d0 st0 ⟨rfl,rfl⟩))|((with_reducible apply(Da (id:=26) [(rb,[.sl .shared RS,.sl .shared LC])]));(iterate 3 (focus kernel_rfl));(focus exact q_k);intro hne;(try simp only[nes,ne1,and_assoc]at hne);repeat(have hq:=hne.1;replace hne:=hne.2))|((with_reducible refine And.intro ?_ ?_);(focus exact q_k))|((with_reducible apply(DL call28));(focus exact Ar _);(focus exact(q3.out _));(focus exact LEL.refl _);(focus exact⟨_,_,rfl,rfl⟩);(rintro d2 st2 ⟨rfl,rfl⟩;refine⟨by((repeat(first|exact BI|refine BX q_m ?_));done),?_⟩))|(with_reducible refine Du ?_)|refine QY ?_|refine QB ?_;intro b|with_reducible refine QZ ?_<;>(try constructor)<;>intro hb<;>try intro hb1|fail)
   . exact⟨Qf,Qf,Qf,Qf,Qf,Qf,Qf,Qf,Qf,Qf,Qf,rfl⟩
   clear q2 q3 hxc hkl q1 hdf e1 e7 e12 e13 e15 e16 e17 A
   rintro A st2 ⟨hdf,e1,e7,e12,e13,e15,e16,e17,e18,e19,e20,rfl⟩
   have hSl2:ms.length<=1000000:=hSl.out
   cases T
   . cases Y1
     . cases Y2
       . skip
         repeat' (first|refine QV ?_|((with_reducible apply(Da (id:=29) []));(iterate 3 (focus kernel_rfl));(focus exact q_k);intro hne;(try simp only[nes,ne1,and_assoc]at hne);repeat(have hq:=hne.1;replace hne:=hne.2))|((with_reducible refine And.intro ?_ ?_);(focus exact q_k))|((with_reducible apply(DL call26));(focus exact Ar _);(focus exact(l1.out _));(focus exact LEL.refl _);(focus exact⟨_,_,rfl,rfl⟩);(rintro d2 st2 ⟨rfl,rfl⟩;refine⟨by((repeat(first|exact BI|refine BX q_m ?_));done),?_⟩))|((with_reducible apply(DL call26));(focus exact Ar _);(focus exact(l2.out _));(focus exact LEL.refl _);(focus exact⟨_,_,rfl,rfl⟩);(rintro d2 st2 ⟨rfl,rfl⟩;refine⟨by((repeat(first|exact BI|refine BX q_m ?_));done),?_⟩))|(with_reducible refine Du ?_)|refine QY ?_|refine QB ?_;intro b|with_reducible refine QZ ?_<;>(try constructor)<;>intro hb<;>try intro hb1|refine Qc call19 ((q4.out _)) ?_|fail)
         refine⟨j+1,_,Aj _,⟨hjt,?_,?_,?_,?_,?_,?_,by rw[hst.out];exact Qf,?_,rfl⟩,by omega⟩
         all_goals exact Qf
       . skip
         repeat' (first|refine QV ?_|((with_reducible apply(Da (id:=29) []));(iterate 3 (focus kernel_rfl));(focus exact q_k);intro hne;(try simp only[nes,ne1,and_assoc]at hne);repeat(have hq:=hne.1;replace hne:=hne.2))|((with_reducible refine And.intro ?_ ?_);(focus exact q_k))|((with_reducible apply(DL call26));(focus exact Ar _);(focus exact(l1.out _));(focus exact LEL.refl _);(focus exact⟨_,_,rfl,rfl⟩);(rintro d2 st2 ⟨rfl,rfl⟩;refine⟨by((repeat(first|exact BI|refine BX q_m ?_));done),?_⟩))|((with_reducible apply(DL call26));(focus exact Ar _);(focus exact(l2.out _));(focus exact LEL.refl _);(focus exact⟨_,_,rfl,rfl⟩);(rintro d2 st2 ⟨rfl,rfl⟩;refine⟨by((repeat(first|exact BI|refine BX q_m ?_));done),?_⟩))|(with_reducible refine Du ?_)|refine QY ?_|refine QB ?_;intro b|with_reducible refine QZ ?_<;>(try constructor)<;>intro hb<;>try intro hb1|refine Qc call19 ((q4.out _)) ?_|fail)
         refine⟨j+1,_,Aj _,⟨hjt,?_,?_,?_,?_,?_,?_,by rw[hst.out];exact Qf,?_,rfl⟩,by omega⟩
         all_goals exact Qf
     . skip
       repeat' (first|refine QV ?_|((with_reducible apply(Da (id:=29) []));(iterate 3 (focus kernel_rfl));(focus exact q_k);intro hne;(try simp only[nes,ne1,and_assoc]at hne);repeat(have hq:=hne.1;replace hne:=hne.2))|((with_reducible refine And.intro ?_ ?_);(focus exact q_k))|((with_reducible apply(DL call26));(focus exact Ar _);(focus exact(l1.out _));(focus exact LEL.refl _);(focus exact⟨_,_,rfl,rfl⟩);(rintro d2 st2 ⟨rfl,rfl⟩;refine⟨by((repeat(first|exact BI|refine BX q_m ?_));done),?_⟩))|(with_reducible refine Du ?_)|refine QY ?_|refine QB ?_;intro b|with_reducible refine QZ ?_<;>(try constructor)<;>intro hb<;>try intro hb1|refine Qc call19 ((q4.out _)) ?_|fail)
       refine⟨j+1,_,Aj _,⟨hjt,?_,?_,?_,?_,?_,?_,by rw[hst.out];exact Qf,?_,rfl⟩,by omega⟩
       all_goals exact Qf
   . skip
     repeat' (first|refine QV ?_|((with_reducible apply(Da (id:=29) []));(iterate 3 (focus kernel_rfl));(focus exact q_k);intro hne;(try simp only[nes,ne1,and_assoc]at hne);repeat(have hq:=hne.1;replace hne:=hne.2))|((with_reducible refine And.intro ?_ ?_);(focus exact q_k))|(with_reducible refine Du ?_)|refine QY ?_|refine QB ?_;intro b|with_reducible refine QZ ?_<;>(try constructor)<;>intro hb<;>try intro hb1|refine Qc call19 ((q4.out _)) ?_|fail)
     refine⟨j+1,_,Aj _,⟨hjt,?_,?_,?_,?_,?_,?_,by rw[hst.out];exact Qf,?_,rfl⟩,by omega⟩
     all_goals exact Qf
 . clear hEm hSc hIl hRc hmc
   obtain⟨ec,hEl⟩:=hEl.out
   have:ms.take j=ms:=Bj q_o
   rw[this]at e16
   generalize (ms.any λx=>!Mat.less x m && !Mat.less m x)=T at *
   replace hEl:=Aa hEl
   repeat' (first|refine QV ?_|((with_reducible apply(BG (f:=43) (henter:=call43) (hp:=Ar _) (h:=hEl.out)));(focus exact q_v);(focus exact q_l);(rintro d0 st0 ⟨rfl,rfl⟩))|refine QY ?_|refine QB ?_;intro b|with_reducible refine QZ ?_<;>(try constructor)<;>intro hb<;>try intro hb1|fail)
   all_goals exact Bf (by simp) q_y ((Hw ..).cons _) (LE.of_eq q_v) ⟨rfl,rfl⟩
end
end Go.Proofs.YtoeidpmjifjplaaGreat
