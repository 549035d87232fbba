/- The walk of the statement NetTells. -/
import Derived.Test.YtoeidpmjifjplaaGreatZ14
set_option linter.all false
set_option maxRecDepth 10000
set_option maxHeartbeats 8000000
namespace Go.Proofs.YtoeidpmjifjplaaGreat
open Go.RowKit Tryz
section
attribute [local push_cast] Bq Bm BW V.cells_mk V.cells_len Nat.mul_one Int.sub_zero List.map_nil beq_self_eq_true bne_self_eq_false List.head?_cons Bool.not_true Bool.not_false Nat.zero_add
set_option maxHeartbeats 16000000
attribute [-instance] Dy
theorem TrF.det{P:Program}{f:FuncId}{args:List D}{X:D}{S S':St}(hp:S.Perm S')(h:TrF P f args S' λd st'=>d=X/\st'=S'):TrF P f args S λd st'=>d=X/\st'=S :=
 TrF.permPost hp (h.mono λd st' ⟨e1,e2⟩=>⟨_,⟨e1,rfl⟩,by rw[e2];exact hp.symm⟩)
theorem g9{S:St}{A:AA}(hw:∃(w:World) (tm:Nat->Value),Holds S w/\∀t,Rep (OwnS S) w (tm t) (A.e t))(t:Nat)(d:D)(he:A.e t=d):∃w,Holds S w/\∃v,Rep (OwnS S) w v d:=by
 obtain⟨w,tm,h1,h2⟩:=hw
 exact⟨w,h1,tm t,he▸h2 t⟩
theorem UM(L0:List Tm)(R:List Rl)(A0:List Ak)(hwL:∀t∈L0,t.Wf)(hlL:L0.length<=maxLen)(hwR:∀x∈R,x.Wf)(hlR:R.length<=maxLen)(hwF:∀f∈A0,f.Wf)(hlF:A0.length<=maxLen)(st:St):TrF prog 9 [.sl .shared (L0.map Tm.cells),.sl .shared (R.map Rl.cells),.sl .shared (A0.map Ak.cells)] st λd st'=>d=.b true/\st'=st:=by
 have hA:=Aa dy
 have hY:=iR L0 R A0 hwL hlL hwR hlR hwF hlF
 cases hm:Mat.may19 L0 R A0 with
|false =>
  rw[hm]at hY
  clear hwL hlL hwR hlR hwF hlF
  generalize L0.map Tm.cells=LS at *
  generalize R.map Rl.cells=RS at *
  generalize A0.map Ak.cells=FS at *
  replace hY:=Aa hY
  refine Qin [6] func9 results9 ntmps9 ?_
  repeat' (first|refine QV ?_|(with_reducible refine DH ?_)|refine QY ?_|refine QB ?_;intro b|with_reducible refine QZ ?_<;>(try constructor)<;>intro hb<;>try intro hb1|refine Qc call30 ((hA.out _)) ?_|refine Qc call31 ((hY.out _)) ?_|fail)
  all_goals exact Cd
|true =>
 rw[hm]at hY
 have hM:=Mat.may19_iff hwR hwF hm
 have hrk:=hM.rk
 have hal:=hM.al
 have hNew:=Aa (XT R hrk.rk (by have:=hrk.rl;omega))
 have hFm:(A0.map Ak.cells).length=A0.length:=Ab ..
 have hFc:Hid (∀(i:Nat) (a:Ak),A0[i]?=some a->(A0.map Ak.cells)[i]?=some [.i a.kind,.i a.id,.i a.f.id,.i a.f.time,.i a.f.tmpl,.i a.f.ver,.sl .shared (a.f.s.map V.cells)]):=λi t h=>by rw[Aq,h];rfl
 have HM:=Aa hM
 have HR:=Aa hrk
 clear hwL hlL hwR hlR hwF hlF hm hM hrk
 generalize L0.map Tm.cells=LS at *
 obtain⟨FS,hFS⟩:∃FS,FS=A0.map Ak.cells:=⟨_,rfl⟩
 rw[<-hFS]at hY hFm hFc |-
 replace hFS:=Aa hFS
 obtain⟨RS,hRS⟩:∃RS,RS=R.map Rl.cells:=⟨_,rfl⟩
 rw[<-hRS]at hY hNew |-
 replace hRS:=Aa hRS
 replace hY:=Aa hY
 refine Qin [6] func9 results9 ntmps9 ?_
 repeat' (first|refine QV ?_|with_reducible refine DQ ?_|((with_reducible apply(BV (f:=32) (henter:=call32) (hp:=Aw _) (h:=(hNew.out _))));(focus exact q_v);(focus exact q_l);(rintro d0 st0 ⟨N0,hN0,hf0,rfl,hp0⟩))|(with_reducible refine DH ?_)|refine QY ?_|refine QB ?_;intro b|with_reducible refine QZ ?_<;>(try constructor)<;>intro hb<;>try intro hb1|refine Qc call30 ((hA.out _)) ?_|refine Qc call31 ((hY.out _)) ?_|fail)
 revert b
 intro rb
 obtain⟨nb,hnb⟩:∃nb,nb=N0.b:=⟨_,rfl⟩
 rw[<-hnb]
 refine TM (b:=rb) (.refl _) (cs':=[.sl .shared RS,.sl .shared (([]:List Fc).map Fc.cells)]) ⟨LE.refl _,LE.sl _ _,trivial⟩ (λd hd=>by
  simp only[Ay,AQ,or_false]at hd
  rcases hd with rfl|rfl<;>rfl) ?_
 refine Br (ι:=Nat) (λi A st'=>i<=A0.length/\A.df=[]/\A.e 2=.sl .shared FS/\A.e 7=.ptr nb 0/\A.e 8=.ptr rb 0/\A.e 9=.i i/\∃(N:NT) (L:List Fc),N.b=nb/\Hid (NetL N R L)/\L.length<=i/\L.length<=7/\st'.Perm (.box rb 64 [.sl .shared RS,.sl .shared (L.map Fc.cells)]::(N.st++st))) (λi=>A0.length - i) 0 ⟨Ao _,Qf,Qf,Qf,Qf,Qf,N0,[],hnb.symm,Aa (.new hN0 hf0),Ao _,Ao _,hp0.symm.cons _⟩ ?_
 clear hnb hN0 hf0 hp0 hY hA hNew N0
 rintro i A st' ⟨hi,hdf,e2,e7,e8,e9,N,L,hNb,HL,hLl,hL7,hp⟩
 have hLm:(L.map Fc.cells).length=L.length:=Ab ..
 have hR1:Hid (R.length<=1000):=by have:=HR.out.rl;show _<=_;omega
 refine Bs hp ?_
 clear hp
 by_cases hlt:i<A0.length
 . obtain⟨a,ha⟩:=gEx hlt
   have hac:=hFc.out i a ha
   have ham:=Ag ha
   by_cases h6:6<L.length
   . clear HL HM HR hFc ham ha hR1
     generalize a.f.s.map V.cells=VS at *
     generalize L.map Fc.cells=LC at *
     repeat' (first|refine QX ?_|refine QB ?_;intro b|with_reducible refine QZ ?_<;>(try constructor)<;>intro hb<;>try intro hb1|fail)
     all_goals exact Bh (by simp) q_y ((Hx ..).cons _) (LE.of_eq q_v) ⟨rfl,rfl⟩
   . obtain⟨RB,hRB⟩:∃RB:List Fc->Res,RB=λl=>.box rb 64 [.sl .shared RS,.sl .shared (l.map Fc.cells)]:=⟨_,rfl⟩
     have hbd:=HM.out.bd a ham
     have hS2:Hid (∀(N2:NT) (L2:List Fc),N2.b=nb->Hid (NetL N2 R L2)->L2.length<=7->∃(MT LC2:List (List D)),L2.map Fc.cells=LC2/\Hid (TrF prog 37 [.ptr nb 0] (.box rb 64 [.sl .shared RS,.sl .shared (L2.map Fc.cells)]::(N2.st++st)) λd st'=>d=.sl .shared MT/\st'=.box rb 64 [.sl .shared RS,.sl .shared (L2.map Fc.cells)]::(N2.st++st))/\Hid (TrF prog 38 [.ptr rb 0] (.box rb 64 [.sl .shared RS,.sl .shared (L2.map Fc.cells)]::(N2.st++st)) λd st'=>d=.sl .shared MT/\st'=.box rb 64 [.sl .shared RS,.sl .shared (L2.map Fc.cells)]::(N2.st++st))/\Hid (∀s:St,TrF prog 22 [.sl .shared MT,.sl .shared MT] s λd s'=>d=.b true/\s'=s)/\Hid (TrF prog 40 [.ptr nb 0] (.box rb 64 [.sl .shared RS,.sl .shared (L2.map Fc.cells)]::(N2.st++st)) λd st'=>d=.sl .shared LC2/\st'=.box rb 64 [.sl .shared RS,.sl .shared (L2.map Fc.cells)]::(N2.st++st))/\Hid (∀s:St,TrF prog 39 [.sl .shared LC2,.sl .shared LC2] s λd s'=>d=.b true/\s'=s)):=by
      intro N2 L2 hb2 HL2 hl2
      have hL2:=HL2.out
      subst hb2
      refine⟨_,_,rfl,TrF.det AB.symm (hL2.matches_ hR1.out HR.out.p4 (My HR.out.rl HR.out.p4 q_o) _),?_,λs=>VX HR.out.rl HR.out.p4 q_o s,TrF.det AB.symm (hL2.facts _),λs=>YM L2 (λf hf=>?_) q_o s⟩
      . have:=Un rb R L2 (λx hx=>⟨(HR.out.rk x hx).1,(HR.out.rk x hx).2.2⟩) HR.out.rl hL2.fk hl2 hL2.nd (N2.st++st)
        rwa[<-hRS.out]at this
      . have:=hL2.fk.f f hf
        exact⟨λv hv=>(this.v v hv).1,this.l⟩
     by_cases hk:a.kind=0
     . obtain⟨hfk,hid0, -⟩:=HM.out.fk a ham hk
       have hAs:Hid (TrF prog 33 [.ptr nb 0,.agg [.i a.f.id,.i a.f.time,.i a.f.tmpl,.i a.f.ver,.sl .shared (a.f.s.map V.cells)]] (.box rb 64 [.sl .shared RS,.sl .shared (L.map Fc.cells)]::(N.st++st)) λd st'=>∃N2:NT,NetL N2 R (PU L a.f)/\N2.b=nb/\d=.b (!(decide (a.f.id∈L.map Fc.id)))/\(Res.box rb 64 [.sl .shared RS,.sl .shared (L.map Fc.cells)]::(N2.st++st)).Perm st'):=by
        have h:=HL.out.assert a.f hR1.out hfk hid0 q_o (.box rb 64 [.sl .shared RS,.sl .shared (L.map Fc.cells)]::st)
        rw[hNb]at h
        exact(TrF.perm AB.symm h).mono λd st' ⟨N2,h1,h2,h3,h4⟩=>⟨N2,h1,h2,h3,AB.symm.trans h4⟩
       have hinh:Hid ((∃w,Holds (.box rb 64 [.sl .shared RS,.sl .shared (L.map Fc.cells)]::(N.st++st)) w/\∃v,Rep (OwnS (.box rb 64 [.sl .shared RS,.sl .shared (L.map Fc.cells)]::(N.st++st))) w v (.sl .shared FS))->∃(d:D) (st':St),∃N2:NT,NetL N2 R (PU L a.f)/\N2.b=nb/\d=.b (!(decide (a.f.id∈L.map Fc.id)))/\(Res.box rb 64 [.sl .shared RS,.sl .shared (L.map Fc.cells)]::(N2.st++st)).Perm st'):=λ⟨w,hw,v,hv⟩=>by
        rw[hFS.out]at hv
        obtain⟨us,hus⟩:=cA hv
        obtain⟨vs,hvs⟩:=Ys (us:=us) hus ha
        exact hAs.out.inhab (us:=[.pointer (some ⟨nb,0,none⟩),.agg vs.toArray]) (RepL.cons (.ptr _ _) (RepL.cons (.agg vs _ hvs.1 hvs.2) .nil)) hw
       have hRA:Hid (∀st:St,TrF prog 34 [.ptr rb 0,.agg [.i a.f.id,.i a.f.time,.i a.f.tmpl,.i a.f.ver,.sl .shared (a.f.s.map V.cells)]] (.box rb 64 [.sl .shared RS,.sl .shared (L.map Fc.cells)]::st) λd st'=>d=.b (!(decide (a.f.id∈L.map Fc.id)))/\st'=.box rb 64 [.sl .shared RS,.sl .shared ((PU L a.f).map Fc.cells)]::st):=λst=>Wk rb RS L a.f q_o st
       have hal2:=dA L a.f
       generalize PU L a.f=L2 at *
       generalize (!(decide (a.f.id∈L.map Fc.id)))=X at *
       rw[hk]at hac
       clear HL HM hFc ham ha hfk HR hRS hFS
       generalize a.f.s.map V.cells=VS at *
       generalize hLC:L.map Fc.cells=LC at *
       repeat' (first|refine QV ?_|(refine JN 12 (λA' st'=>A'.df=[]/\A'.e 2=.sl .shared FS/\A'.e 7=.ptr nb 0/\A'.e 8=.ptr rb 0/\A'.e 9=.i i/\A'.e 54=.b false/\∃(N2:NT) (L2:List Fc),N2.b=nb/\Hid (NetL N2 R L2)/\L2.length<=i+1/\L2.length<=7/\st'=.box rb 64 [.sl .shared RS,.sl .shared (L2.map Fc.cells)]::(N2.st++st)) ?_ ?_)|((with_reducible apply(Xq (id:=12) []));(iterate 3 (focus kernel_rfl));(focus exact q_k);intro hne;(try simp only[nes,ne1,and_assoc]at hne);(repeat(have hq:=hne.1;replace hne:=hne.2));intro hw)|((with_reducible refine And.intro ?_ ?_);(focus exact q_k))|((with_reducible apply(CW call33));(focus exact Aw _);(focus exact hAs.out);(focus exact LEL.refl _);(focus exact(hinh.out (g9 hw 2 _ (Qf))));(rintro d2 st2 ⟨N2,hL2,hb2,rfl,hp2⟩;refine⟨by((repeat(first|exact Bv|refine BE q_m ?_));done),?_⟩))|((with_reducible apply(CW call34));(focus exact hp2.symm);(focus exact(hRA.out _));(focus exact LEL.refl _);(focus exact⟨_,_,rfl,rfl⟩);(rintro d2 st2 ⟨rfl,rfl⟩;refine⟨by((repeat(first|exact Bv|refine BE q_m ?_));done),?_⟩))|(with_reducible refine DH ?_)|refine QY ?_|refine QB ?_;intro b|with_reducible refine QZ ?_<;>(try constructor)<;>intro hb<;>try intro hb1|fail)
       . exact⟨Qf,Qf,Qf,Qf,Qf,Qf,N2,L2,hb2,Aa hL2,by omega,by omega,rfl⟩
       . rintro A2 st2 ⟨hdf,e2,e7,e8,e9,e54,N3,L3,hb3,HL3,hl3,h73,rfl⟩
         obtain⟨MT,LC3,q0,q1,q2,q3,q4,q5⟩:=hS2.out N3 L3 hb3 HL3 h73
         have hLE3:=q0
         rw[q0]at q1 q2 q4 |-
         clear hS2
         repeat' (first|refine QV ?_|((with_reducible apply(Da (id:=16) [(rb,[.sl .shared RS,.sl .shared LC3])]));(iterate 3 (focus kernel_rfl));(focus exact q_k);intro hne;(try simp only[nes,ne1,and_assoc]at hne);repeat(have hq:=hne.1;replace hne:=hne.2))|((with_reducible refine And.intro ?_ ?_);(focus exact q_k))|((with_reducible apply(CW call37));(focus exact Aw _);(focus exact q1.out);(focus exact LEL.refl _);(focus exact⟨_,_,rfl,rfl⟩);(rintro d2 st2 ⟨rfl,rfl⟩;refine⟨by((repeat(first|exact Bv|refine BE q_m ?_));done),?_⟩))|((with_reducible apply(CW call38));(focus exact Aw _);(focus exact q2.out);(focus exact LEL.refl _);(focus exact⟨_,_,rfl,rfl⟩);(rintro d2 st2 ⟨rfl,rfl⟩;refine⟨by((repeat(first|exact Bv|refine BE q_m ?_));done),?_⟩))|((with_reducible apply(CW call22));(focus exact Aw _);(focus exact(q3.out _));(focus exact LEL.refl _);(focus exact⟨_,_,rfl,rfl⟩);(rintro d2 st2 ⟨rfl,rfl⟩;refine⟨by((repeat(first|exact Bv|refine BE q_m ?_));done),?_⟩))|((with_reducible apply(CW call40));(focus exact Aw _);(focus exact q4.out);(focus exact LEL.refl _);(focus exact⟨_,_,rfl,rfl⟩);(rintro d2 st2 ⟨rfl,rfl⟩;refine⟨by((repeat(first|exact Bv|refine BE q_m ?_));done),?_⟩))|((with_reducible apply(CW call39));(focus exact Aw _);(focus exact(q5.out _));(focus exact LEL.refl _);(focus exact⟨_,_,rfl,rfl⟩);(rintro d2 st2 ⟨rfl,rfl⟩;refine⟨by((repeat(first|exact Bv|refine BE q_m ?_));done),?_⟩))|(with_reducible refine DH ?_)|refine QY ?_|refine QB ?_;intro b|with_reducible refine QZ ?_<;>(try constructor)<;>intro hb<;>try intro hb1|fail)
         refine⟨i+1,_,Aj _,⟨hlt,?_,?_,?_,?_,?_,N3,L3,hb3,HL3,hl3,h73,by rw[hLE3]⟩,by omega⟩
         all_goals exact Qf
     . have hRt : Hid (TrF prog 35 [.ptr nb 0, .i a.id] (.box rb 64 [.sl .shared RS, .sl .shared (L.map Fc.cells)] :: (N.st ++ st)) λd st' => ∃ N2 : NT, NetL N2 R (VC L a.id) /\ N2.b = nb /\ d = .b (decide (a.id ∈ L.map Fc.id)) /\ (Res.box rb 64 [.sl .shared RS, .sl .shared (L.map Fc.cells)] :: (N2.st ++ st)).Perm st') := by
        have h:=HL.out.retract a.id hR1.out (.box rb 64 [.sl .shared RS,.sl .shared (L.map Fc.cells)]::st)
        rw[hNb]at h
        exact(TrF.perm AB.symm h).mono λd st' ⟨N2,h1,h2,h3,h4⟩=>⟨N2,h1,h2,h3,AB.symm.trans h4⟩
       have hinh:Hid ((∃w,Holds (.box rb 64 [.sl .shared RS,.sl .shared (L.map Fc.cells)]::(N.st++st)) w/\∃v,Rep (OwnS (.box rb 64 [.sl .shared RS,.sl .shared (L.map Fc.cells)]::(N.st++st))) w v (.sl .shared FS))->∃(d:D) (st':St),∃N2:NT,NetL N2 R (VC L a.id)/\N2.b=nb/\d=.b (decide (a.id∈L.map Fc.id))/\(Res.box rb 64 [.sl .shared RS,.sl .shared (L.map Fc.cells)]::(N2.st++st)).Perm st'):=λ⟨w,hw,_,_⟩ =>
        hRt.out.inhab (us:=[.pointer (some ⟨nb,0,none⟩),.int .i64 a.id]) (RepL.cons (.ptr _ _) (RepL.cons (.s _ rfl) .nil)) hw
       have hRA:Hid (∀st:St,TrF prog 36 [.ptr rb 0,.i a.id] (.box rb 64 [.sl .shared RS,.sl .shared (L.map Fc.cells)]::st) λd st'=>d=.b (decide (a.id∈L.map Fc.id))/\st'=.box rb 64 [.sl .shared RS,.sl .shared ((VC L a.id).map Fc.cells)]::st):=λst=>Um rb RS L a.id q_o st
       have hal2:=dz L a.id
       generalize VC L a.id=L2 at *
       generalize (decide (a.id∈L.map Fc.id))=X at *
       clear HL HM hFc ham ha HR hRS hFS
       generalize a.f.s.map V.cells=VS at *
       generalize hLC:L.map Fc.cells=LC at *
       repeat' (first|refine QV ?_|(refine JN 14 (λA' st'=>A'.df=[]/\A'.e 2=.sl .shared FS/\A'.e 7=.ptr nb 0/\A'.e 8=.ptr rb 0/\A'.e 9=.i i/\A'.e 69=.b false/\∃(N2:NT) (L2:List Fc),N2.b=nb/\Hid (NetL N2 R L2)/\L2.length<=i+1/\L2.length<=7/\st'=.box rb 64 [.sl .shared RS,.sl .shared (L2.map Fc.cells)]::(N2.st++st)) ?_ ?_)|((with_reducible apply(Xq (id:=14) []));(iterate 3 (focus kernel_rfl));(focus exact q_k);intro hne;(try simp only[nes,ne1,and_assoc]at hne);(repeat(have hq:=hne.1;replace hne:=hne.2));intro hw)|((with_reducible refine And.intro ?_ ?_);(focus exact q_k))|((with_reducible apply(CW call35));(focus exact Aw _);(focus exact hRt.out);(focus exact LEL.refl _);(focus exact(hinh.out (g9 hw 2 _ (Qf))));(rintro d2 st2 ⟨N2,hL2,hb2,rfl,hp2⟩;refine⟨by((repeat(first|exact Bv|refine BE q_m ?_));done),?_⟩))|((with_reducible apply(CW call36));(focus exact hp2.symm);(focus exact(hRA.out _));(focus exact LEL.refl _);(focus exact⟨_,_,rfl,rfl⟩);(rintro d2 st2 ⟨rfl,rfl⟩;refine⟨by((repeat(first|exact Bv|refine BE q_m ?_));done),?_⟩))|(with_reducible refine DH ?_)|refine QY ?_|refine QB ?_;intro b|with_reducible refine QZ ?_<;>(try constructor)<;>intro hb<;>try intro hb1|fail)
       . exact⟨Qf,Qf,Qf,Qf,Qf,Qf,N2,L2,hb2,Aa hL2,by omega,by omega,rfl⟩
       . rintro A2 st2 ⟨hdf,e2,e7,e8,e9,e69,N3,L3,hb3,HL3,hl3,h73,rfl⟩
         obtain⟨MT,LC3,q0,q1,q2,q3,q4,q5⟩:=hS2.out N3 L3 hb3 HL3 h73
         have hLE3:=q0
         rw[q0]at q1 q2 q4 |-
         clear hS2
         repeat' (first|refine QV ?_|((with_reducible apply(Da (id:=16) [(rb,[.sl .shared RS,.sl .shared LC3])]));(iterate 3 (focus kernel_rfl));(focus exact q_k);intro hne;(try simp only[nes,ne1,and_assoc]at hne);repeat(have hq:=hne.1;replace hne:=hne.2))|((with_reducible refine And.intro ?_ ?_);(focus exact q_k))|((with_reducible apply(CW call37));(focus exact Aw _);(focus exact q1.out);(focus exact LEL.refl _);(focus exact⟨_,_,rfl,rfl⟩);(rintro d2 st2 ⟨rfl,rfl⟩;refine⟨by((repeat(first|exact Bv|refine BE q_m ?_));done),?_⟩))|((with_reducible apply(CW call38));(focus exact Aw _);(focus exact q2.out);(focus exact LEL.refl _);(focus exact⟨_,_,rfl,rfl⟩);(rintro d2 st2 ⟨rfl,rfl⟩;refine⟨by((repeat(first|exact Bv|refine BE q_m ?_));done),?_⟩))|((with_reducible apply(CW call22));(focus exact Aw _);(focus exact(q3.out _));(focus exact LEL.refl _);(focus exact⟨_,_,rfl,rfl⟩);(rintro d2 st2 ⟨rfl,rfl⟩;refine⟨by((repeat(first|exact Bv|refine BE q_m ?_));done),?_⟩))|((with_reducible apply(CW call40));(focus exact Aw _);(focus exact q4.out);(focus exact LEL.refl _);(focus exact⟨_,_,rfl,rfl⟩);(rintro d2 st2 ⟨rfl,rfl⟩;refine⟨by((repeat(first|exact Bv|refine BE q_m ?_));done),?_⟩))|((with_reducible apply(CW call39));(focus exact Aw _);(focus exact(q5.out _));(focus exact LEL.refl _);(focus exact⟨_,_,rfl,rfl⟩);(rintro d2 st2 ⟨rfl,rfl⟩;refine⟨by((repeat(first|exact Bv|refine BE q_m ?_));done),?_⟩))|(with_reducible refine DH ?_)|refine QY ?_|refine QB ?_;intro b|with_reducible refine QZ ?_<;>(try constructor)<;>intro hb<;>try intro hb1|fail)
         refine⟨i+1,_,Aj _,⟨hlt,?_,?_,?_,?_,?_,N3,L3,hb3,HL3,hl3,h73,by rw[hLE3]⟩,by omega⟩
         all_goals exact Qf
 . have hTo:=HL.out.tokens hR1.out HR.out.p14 (HR.out.tok q_o) (.box rb 64 [.sl .shared RS,.sl .shared (L.map Fc.cells)]::st)
   have hTr:=We rb R L (λx hx=>⟨(HR.out.rk x hx).1,(HR.out.rk x hx).2.2⟩) HR.out.rl HL.out.fk hL7 HL.out.nd (N.st++st)
   rw[<-hRS.out]at hTr
   rw[hNb]at hTo
   replace hTo:=TrF.permPost (st':=N.st++(.box rb 64 [.sl .shared RS,.sl .shared (L.map Fc.cells)]::st)) (st:=.box rb 64 [.sl .shared RS,.sl .shared (L.map Fc.cells)]::(N.st++st)) (R:=λd st'=>d=.i (GA L R)/\st'=.box rb 64 [.sl .shared RS,.sl .shared (L.map Fc.cells)]::(N.st++st)) AB.symm (hTo.mono λd st' ⟨e1,e2⟩=>⟨_,⟨e1,rfl⟩,by rw[e2];exact AB⟩)
   clear HL HM HR hFc hR1
   generalize L.map Fc.cells=LC at *
   generalize GA L R=T at *
   generalize N.st=NS at *
   replace hTo:=Aa hTo
   replace hTr:=Aa hTr
   repeat' (first|refine QV ?_|((with_reducible apply(BV (f:=41) (henter:=call41) (hp:=Aw _) (h:=hTo.out)));(focus exact q_v);(focus exact q_l);(rintro d0 st0 ⟨rfl,rfl⟩))|((with_reducible apply(BV (f:=42) (henter:=call42) (hp:=Aw _) (h:=hTr.out)));(focus exact q_v);(focus exact q_l);(rintro d0 st0 ⟨rfl,rfl⟩))|refine QY ?_|refine QB ?_;intro b|with_reducible refine QZ ?_<;>(try constructor)<;>intro hb<;>try intro hb1|fail)
   all_goals exact Bh (by simp) q_y ((Hx ..).cons _) (LE.of_eq q_v) ⟨rfl,rfl⟩
end
end Go.Proofs.YtoeidpmjifjplaaGreat
