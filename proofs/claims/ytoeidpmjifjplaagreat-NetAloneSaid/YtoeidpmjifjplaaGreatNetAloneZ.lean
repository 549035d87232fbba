/- The walk of the statement NetAlone. -/
import Derived.Test.YtoeidpmjifjplaaGreatZ14
set_option linter.all false
set_option maxRecDepth 10000
set_option maxHeartbeats 8000000
namespace Go.Proofs.YtoeidpmjifjplaaGreat
open Go.RowKit Tryz
section
attribute [local push_cast] Bs Bn BV V.cells_mk V.cells_len Nat.mul_one Int.sub_zero List.map_nil beq_self_eq_true bne_self_eq_false List.head?_cons Bool.not_true Bool.not_false Nat.zero_add
set_option maxHeartbeats 16000000
attribute [-instance] Dl
def JZ (i:Int)(m:Mt):Mt:=⟨i,m.ids⟩
def Js (F:List Fc):List Rl->Int->List Mt
|[],_=>[]
|x::l,i=>(Mat.sortM (Mat.raws [x] F)).map (JZ i)++Js F l (i+1)
theorem QS{x:Rl}{F:List Fc}:∀m∈Mat.raws [x] F,m.rule=0:=λm h=>by
 unfold Mat.raws Mat.flatR Mat.flatR at h
 rw[Bi]at h
 obtain⟨r, -,rfl⟩:=Ax.1 h
 rfl
theorem Pn{F:List Fc}:∀{R:List Rl} {i:Int},∀m∈Js F R i,i<=m.rule
|[],_,m,h=>by cases h
|x::l,i,m,h=>by
  unfold Js at h
  rcases Bh.1 h with h|h
  . obtain⟨r, -,rfl⟩:=Ax.1 h
    exact MZ _
  . have:=Pn (R:=l) m h
    omega
theorem Po{F:List Fc}:∀{R:List Rl} {i:Int},(Js F R i).Perm (Mat.flatR (λx=>(Mat.mats x F).map Prod.fst) R i)
|[],_=>.refl _
|x::l,i=>by
  unfold Js Mat.flatR
  refine List.Perm.append ?_ Po
  refine((Mat.sortM_srt _).2.map _).trans ?_
  unfold Mat.raws Mat.flatR Mat.flatR
  rw[Bi,Ec]
  exact .refl _
theorem eJ{a b:Mt}(i:Int)(h:a.rule=b.rule):Mat.ord (JZ i a) (JZ i b)=Mat.ord a b:=by
 unfold Mat.ord JZ
 rw[h,V.sgn_self,V.sgn_self]
theorem ig{a b:Mt}(h:a.rule<b.rule):Mat.ord a b<=0:=by
 have:=Mat.less_rule (a:=a) (b:=b) q_o
 unfold Mat.less at this
 rw[decide_eq_true h]at this
 have:=of_decide_eq_true this
 omega
theorem RA{F:List Fc}:∀{R:List Rl} {i:Int},Mat.Srt (Js F R i)
|[],_=>List.Pairwise.nil
|x::l,i=>by
  unfold Js Mat.Srt
  rw[DR]
  refine⟨?_,RA,λa ha b hb=>?_⟩
  . rw[Eb]
    refine List.Pairwise.imp_of_mem (λ{a b} ha hb h=>?_) (Mat.sortM_srt (Mat.raws [x] F)).1
    rw[eJ i (by rw[QS a (Mat.sortM_mem.1 ha),QS b (Mat.sortM_mem.1 hb)])]
    exact h
  . obtain⟨r, -,rfl⟩:=Ax.1 ha
    have:=Pn b hb
    exact ig (show i<b.rule by omega)
theorem VH(R:List Rl)(F:List Fc):Js F R 0=Mat.sortM (Mat.raws R F):=Mat.sortM_eq Po RA
def CU (A:List Ak):List Fc:=A.foldl (λL a=>if a.kind=0 then MJ L a.f else PL L a.id) []
theorem LO{A:List Ak}{i:Nat}{a:Ak}(h:A[i]?=some a):CU (A.take (i+1))=if a.kind=0 then MJ (CU (A.take i)) a.f else PL (CU (A.take i)) a.id:=by
 unfold CU
 rw[Br,h,BQ,List.foldl_append]
 rfl
theorem Sk{A:List Ak}:∀i,(CU (A.take i)).length<=i
|0=>Ap _
|i+1=>by
  have ih:=Sk (A:=A) i
  cases h:A[i]? with
  | none=>rw[Br,h,Option.toList_none,Bi];omega
  | some a =>
   rw[LO h]
   split
   . have:=PM (CU (A.take i)) a.f;omega
   . have:=PJ (CU (A.take i)) a.id;omega
theorem NetL.matchesRaw{N:NT}{R:List Rl}{L:List Fc}(h:NetL N R L)(hR:R.length<=1000)(hp:∀x∈R,x.pats.length<=4)(hl:(Mat.raws R L).length<=1000000)(st:St):TrF prog 37 [.ptr N.b 0] (N.st++st) λd st'=>(Mat.sortM (Mat.raws R L)=[]/\d=.sl .tight []/\st'=N.st++st)\/(Mat.sortM (Mat.raws R L)≠[]/\∃g cap zs,d=.ar g 0 (Mat.sortM (Mat.raws R L)).length cap/\st'=.box g 52 (Ej (Mat.sortM (Mat.raws R L))++zs)::(N.st++st)):=by
 have hpm:=QT h.p R
 have hp2:=h.ok.ends
 have h2:=KA N R h.ok hR (by have:=hp2.length_eq;have:=hpm.length_eq;rw[Ab]at *;omega) (λy hy=>by have:=h.ok.ids_len hp y hy;omega) st
 refine h2.mono λd st' h3=>?_
 have e1:Mat.sortM ((DX N.cs 0).map Prod.fst)=Mat.sortM (Mat.raws R L):=by rw[sortM_perm hp2,<-sortM_perm hpm]
 have e2:((DX N.cs 0).map Prod.fst).length=(Mat.sortM (Mat.raws R L)).length:=by rw[<-e1,(Mat.sortM_srt _).2.length_eq]
 rcases h3 with⟨k1,k2,k3⟩|⟨k1,g,cap,zs,k2,k3⟩
 . refine .inl ⟨?_,k2,k3⟩
   rw[<-e1,k1]
   rfl
 . refine .inr ⟨λe=>k1 ?_,g,cap,zs,by rw[k2,e2],by rw[k3,e1]⟩
   rw[e,BZ]at e2
   exact Au e2
theorem gQ{P:Program}{N:Nat}{r:Option Nat}{A:AA}{st:St}{Q:Exit->AA->St->Prop}{c:Code}{t g off n cap:Nat}(he:A.e t=.ar g off n cap)(h:n<=cap->Tr P N r c A st Q):Tr P N r c A st Q:=λa w h1 h2=>by
 have hr:=h1.2.2 t
 rw[he]at hr
 generalize a.tmps.getD t undef=v at hr
 cases hr with
|ar _ _ _ _ k1 k2=>exact h k1 a w h1 h2
theorem iQ{P:Program}{t:TypeId}{sz:Nat}{o:Own}{es:List (List D)}{k:Nat}{e:List D}(ht:∃el bytes z,kT P t=.slice el sz bytes z)(hall:(es.all λe=>e.length == sz)=true)(h:es[k]?=some e):KQ P t (.sl o es) (some (k:Int)) (some ((k:Int)+1)) none=some (.sl .shared [e]):=by
 obtain⟨el,bytes,z,ht⟩:=ht
 have hl:=(Af.1 h).1
 have hb:GZ es.length (some (k:Int)) (some ((k:Int)+1))=some (k,k+1):=by
  unfold GZ
  simp only
  rw[if_pos ⟨by omega,by omega⟩]
  simp only
  rw[if_pos ⟨by omega,by omega⟩,BR,show((k:Int)+1).toNat=k+1 by omega]
 unfold KQ
 rw[ht]
 simp only[hb,hall,if_true]
 rw[show k+1 - k=1 by omega,V.drop_cons h]
 rfl
theorem Lend.rowAt{st:St}{g off:Nat}{el:TypeId}{es:List (List D)}{pre zs:List D}{sz n cap:Nat}(hm:Res.box g el (pre++(es.flatten++zs))∈st)(hp:pre.length=off)(hsz:0<sz)(hes:∀e∈es,e.length=sz)(hn:es.length=n):Lend st (.ar g off n cap) (.sl .shared es):=by
 intro w v hh hv
 obtain⟨⟨us,hb,hr⟩,hlc⟩:=hh.2 _ hm
 cases hv with
|ar _ _ _ _ h1 h2 =>
 subst hn
 subst hp
 have hfl:=Dz hes
 have hrl:RepL (OwnS st) w ((us.toList.drop pre.length).take (es.length*sz)) es.flatten:=by
  have:=(hr.drop pre.length).take (es.length*sz)
  rwa[CH,Cl q_o,Bf (l:=es.flatten) q_o]at this
 have hrl:=hrl.ext (Oe _ w)
 refine .sl .shared es (some ⟨g,pre.length,none⟩) cap ((us.toList.drop pre.length).take (es.length*sz)) sz h1 h2 (λe=>by cases e) hsz hes hrl.1 (λd hd=>hlc d (Bc _ (Bm _ hd))) (λi hi=>⟨g,pre.length,rfl,(AD.1 hb).1,OwnS.nil _ _,?_⟩) hrl.2 trivial
 rw[cell_of_row w g (pre.length+i) us el (0,0) hb]
 rw[EH,Ed]
 simp at hi
 rw[AZ q_o]
 simp
theorem kw{α:Type}{x:Option α}{k:α->Prop}{d:α}(h:x=some d)(hk:k d):Ev x k:=⟨d,h,hk⟩
theorem gU{P:Program}{t:TypeId}{pre post cs':List D}{d e c:D}{off:Nat}(ht:∃ti,Bv P t=some ti/\ti.sz=1)(hp:pre.length=off)(hc:c.cells=[c])(hl:c.leaf=true)(hq:pre++([c,e]++post)=cs'):TD P t (pre++([d,e]++post)) off c.cells=some cs':=by
 obtain⟨ti,h1,h2⟩:=ht
 subst hq
 subst hp
 unfold TD
 rw[h1,hc]
 show(if _ then _ else _)=_
 rw[if_pos ⟨h2.symm,by simp[hl],by simp⟩]
 unfold DV
 simp
theorem UI(L0:List Tm)(R:List Rl)(A0:List Ak)(hwL:∀t∈L0,t.Wf)(hlL:L0.length<=maxLen)(hwR:∀x∈R,x.Wf)(hlR:R.length<=maxLen)(hwF:∀f∈A0,f.Wf)(hlF:A0.length<=maxLen)(st:St):TrF prog 13 [.sl .shared (L0.map Tm.cells),.sl .shared (R.map Rl.cells),.sl .shared (A0.map Ak.cells)] st λd st'=>d=.b true/\st'=st:=by
 have hA:=Aa Vo
 have hY:=bP L0 R A0 hwL hlL hwR hlR hwF hlF
 cases hm:Mat.may19 L0 R A0 with
|false =>
  rw[hm]at hY
  clear hwL hlL hwR hlR hwF hlF
  generalize L0.map Tm.cells=LS at *
  generalize R.map Rl.cells=RS at *
  generalize A0.map Ak.cells=FS at *
  replace hY:=Aa hY
  refine Qin [6] func13 results13 ntmps13 ?_
  repeat' (first|refine QV ?_|(with_reducible refine DM ?_)|refine QY ?_|refine QB ?_;intro b|with_reducible refine QZ ?_<;>(try constructor)<;>intro hb<;>try intro hb1|refine Qc call30 ((hA.out _)) ?_|refine Qc call31 ((hY.out _)) ?_|fail)
  all_goals exact Cf
|true =>
 rw[hm]at hY
 have hM:=Mat.may19_iff hwR hwF hm
 have hrk:=hM.rk
 have hal:=hM.al
 have hNew:=Aa (Oc R hrk.rk (by have:=hrk.rl;omega))
 have hFm:(A0.map Ak.cells).length=A0.length:=Ab ..
 have hFc:Hid (∀(i:Nat) (a:Ak),A0[i]?=some a->(A0.map Ak.cells)[i]?=some [.i a.kind,.i a.id,.i a.f.id,.i a.f.time,.i a.f.tmpl,.i a.f.ver,.sl .shared (a.f.s.map V.cells)]):=λi t h=>by rw[Ar,h];rfl
 have hRm:(R.map Rl.cells).length=R.length:=Ab ..
 have hRc:=hMp Rl.cells R
 have hRal:Hid (((R.map Rl.cells).all λe=>e.length == 4)=true):=AQ.2 λe he=>by
  obtain⟨x, -,rfl⟩:=Ax.1 he
  rfl
 have HM:=Aa hM
 have HR:=Aa hrk
 have hR1:Hid (R.length<=1000):=by have:=hrk.rl;show _<=_;omega
 clear hwL hlL hwR hlR hwF hlF hm hM hrk
 generalize L0.map Tm.cells=LS at *
 generalize A0.map Ak.cells=FS at *
 obtain⟨RS,hRS⟩:∃RS,RS=R.map Rl.cells:=⟨_,rfl⟩
 rw[<-hRS]at hY hNew hRm hRc hRal |-
 clear hRS
 replace hY:=Aa hY
 refine Qin [6] func13 results13 ntmps13 ?_
 repeat' (first|refine QV ?_|((with_reducible apply(Bj (f:=32) (henter:=call32) (hp:=Ao _) (h:=(hNew.out _))));(focus exact q_v);(focus exact q_l);(rintro d0 st0 ⟨N0,hN0,hf0,rfl,hp0⟩))|(with_reducible refine DM ?_)|refine QY ?_|refine QB ?_;intro b|with_reducible refine QZ ?_<;>(try constructor)<;>intro hb<;>try intro hb1|refine Qc call30 ((hA.out _)) ?_|refine Qc call31 ((hY.out _)) ?_|fail)
 obtain⟨na,hna⟩:∃na,na=N0.b:=⟨_,rfl⟩
 rw[<-hna]
 refine Bw (ι:=Nat) (λi A st'=>i<=A0.length/\A.df=[]/\A.e 1=.sl .shared RS/\A.e 2=.sl .shared FS/\A.e 7=.ptr na 0/\A.e 8=.i i/\∃(N:NT),N.b=na/\Hid (NetL N R (CU (A0.take i)))/\(CU (A0.take i)).length<=9/\st'.Perm (N.st++st)) (λi=>A0.length - i) 0 ⟨Aq _,Qf,Qf,Qf,Qf,Qf,N0,hna.symm,Aa (.new hN0 hf0),Aq _,hp0.symm⟩ ?_
 clear hna hN0 hf0 hp0 hY hA hNew N0
 rintro i A st' ⟨hi,hdf,e1,e2,e7,e8,N,hNb,HL,hL9,hp⟩
 refine Bq hp ?_
 clear hp
 have hst:=λa=>LO (A:=A0) (i:=i) (a:=a)
 by_cases hlt:i<A0.length
 . generalize CU (A0.take i)=L at *
   have hLm:(L.map Fc.cells).length=L.length:=Ab ..
   have hFa:Hid (TrF prog 40 [.ptr na 0] (N.st++st) λd st'=>d=.sl .shared (L.map Fc.cells)/\st'=N.st++st):=by have:=HL.out.facts st;rwa[hNb]at this
   by_cases h8:8<L.length
   . clear HL HM HR hFc hRc hst
     repeat' (first|refine QV ?_|((with_reducible apply(Bj (f:=40) (henter:=call40) (hp:=Ao _) (h:=hFa.out)));(focus exact q_v);(focus exact q_l);(rintro d0 st0 ⟨rfl,rfl⟩))|refine QY ?_|refine QB ?_;intro b|with_reducible refine QZ ?_<;>(try constructor)<;>intro hb<;>try intro hb1|fail)
     all_goals exact Bl (by simp) q_y (CX ..) (LE.of_eq q_v) ⟨rfl,rfl⟩
   obtain⟨a,ha⟩:=gEx hlt
   have hac:=hFc.out i a ha
   have ham:=Ah ha
   have hbd:=HM.out.bd a ham
   have hst:=hst a ha
   by_cases hk:a.kind=0
   . rw[if_pos hk]at hst
     obtain⟨hfk,hid0, -⟩:=HM.out.fk a ham hk
     have hAs:Hid (TrF prog 33 [.ptr na 0,.agg [.i a.f.id,.i a.f.time,.i a.f.tmpl,.i a.f.ver,.sl .shared (a.f.s.map V.cells)]] (N.st++st) λd st'=>∃N2:NT,NetL N2 R (MJ L a.f)/\N2.b=na/\d=.b (!(decide (a.f.id∈L.map Fc.id)))/\(N2.st++st).Perm st'):=by
      have h:=HL.out.assert a.f hR1.out hfk hid0 q_o st
      rw[hNb]at h
      exact h
     have hal2:=PM L a.f
     rw[<-hst]at hAs hal2
     replace hal2:(CU (A0.take (i+1))).length<=9:=by omega
     generalize (!(decide (a.f.id∈L.map Fc.id)))=X at *
     rw[hk]at hac
     clear HL HM HR hFc hRc ham ha hfk hst
     generalize a.f.s.map V.cells=VS at *
     generalize L.map Fc.cells=LC at *
     repeat' (first|refine QV ?_|((with_reducible apply(Bj (f:=40) (henter:=call40) (hp:=Ao _) (h:=hFa.out)));(focus exact q_v);(focus exact q_l);(rintro d0 st0 ⟨rfl,rfl⟩))|((with_reducible apply(Bj (f:=33) (henter:=call33) (hp:=Ao _) (h:=hAs.out)));(focus exact q_v);(focus exact q_l);(rintro d0 st0 ⟨N2,hL2,hb2,rfl,hp2⟩))|refine QY ?_|refine QB ?_;intro b|with_reducible refine QZ ?_<;>(try constructor)<;>intro hb<;>try intro hb1|fail)
     refine⟨i+1,_,Al _,⟨hlt,?_,?_,?_,?_,?_,N2,hb2,Aa hL2,hal2,hp2.symm⟩,by omega⟩
     all_goals exact Qf
   . rw[if_neg hk]at hst
     have hRt:Hid (TrF prog 35 [.ptr na 0,.i a.id] (N.st++st) λd st'=>∃N2:NT,NetL N2 R (PL L a.id)/\N2.b=na/\d=.b (decide (a.id∈L.map Fc.id))/\(N2.st++st).Perm st'):=by
      have h:=HL.out.retract a.id hR1.out st
      rw[hNb]at h
      exact h
     have hal2:=PJ L a.id
     rw[<-hst]at hRt hal2
     replace hal2:(CU (A0.take (i+1))).length<=9:=by omega
     generalize (decide (a.id∈L.map Fc.id))=X at *
     clear HL HM HR hFc hRc ham ha hst
     generalize a.f.s.map V.cells=VS at *
     generalize L.map Fc.cells=LC at *
     repeat' (first|refine QV ?_|((with_reducible apply(Bj (f:=40) (henter:=call40) (hp:=Ao _) (h:=hFa.out)));(focus exact q_v);(focus exact q_l);(rintro d0 st0 ⟨rfl,rfl⟩))|((with_reducible apply(Bj (f:=35) (henter:=call35) (hp:=Ao _) (h:=hRt.out)));(focus exact q_v);(focus exact q_l);(rintro d0 st0 ⟨N2,hL2,hb2,rfl,hp2⟩))|refine QY ?_|refine QB ?_;intro b|with_reducible refine QZ ?_<;>(try constructor)<;>intro hb<;>try intro hb1|fail)
     refine⟨i+1,_,Al _,⟨hlt,?_,?_,?_,?_,?_,N2,hb2,Aa hL2,hal2,hp2.symm⟩,by omega⟩
     all_goals exact Qf
 clear hst
 have hA0:A0.take i=A0:=Bf q_o
 rw[hA0]at HL hL9
 clear hA0
 have hMa:Hid (TrF prog 37 [.ptr na 0] (N.st++st) λd st'=>d=.sl .shared ((Mat.sortM (Mat.raws R (CU A0))).map Mt.cells)/\st'=N.st++st):=by
  have:=HL.out.matches_ hR1.out HR.out.p4 (Gw HR.out.rl HR.out.p4 hL9) st
  rwa[hNb]at this
 have hTo:Hid (∀st:St,TrF prog 41 [.ptr na 0] (N.st++st) λd st'=>d=.i (Fq (CU A0) R)/\st'=N.st++st):=λst=>by
  have:=HL.out.tokens hR1.out HR.out.p14 (HR.out.tok hL9) st
  rwa[hNb]at this
 have hms:=VH R (CU A0)
 have hMSm:((Mat.sortM (Mat.raws R (CU A0))).map Mt.cells).length=(Mat.sortM (Mat.raws R (CU A0))).length:=Ab ..
 have hMSc:Hid (∀(i:Nat) (y:Mt),(Mat.sortM (Mat.raws R (CU A0)))[i]?=some y->((Mat.sortM (Mat.raws R (CU A0))).map Mt.cells)[i]?=some [.i y.rule,.sl .shared (y.ids.map Bn)]):=λi t h=>by rw[Ar,h];rfl
 have hMSal:Hid ((((Mat.sortM (Mat.raws R (CU A0))).map Mt.cells).all λe=>e.length == 2)=true):=AQ.2 λe he=>by
  obtain⟨y, -,rfl⟩:=Ax.1 he
  rfl
 have hMSl:(Mat.sortM (Mat.raws R (CU A0))).length<=1000000:=by
  rw[(Mat.sortM_srt _).2.length_eq]
  exact Gw HR.out.rl HR.out.p4 hL9
 generalize Mat.sortM (Mat.raws R (CU A0))=ms at *
 generalize ms.map Mt.cells=MS at *
 generalize N.st=NS at *
 replace hms:=Aa hms
 have hTk:=Aa (HR.out.tok hL9)
 repeat' (first|refine QV ?_|((with_reducible apply(Bj (f:=37) (henter:=call37) (hp:=Ao _) (h:=hMa.out)));(focus exact q_v);(focus exact q_l);(rintro d0 st0 ⟨rfl,rfl⟩))|refine QY ?_|refine QB ?_;intro b|with_reducible refine QZ ?_<;>(try constructor)<;>intro hb<;>try intro hb1|fail)
 refine Bw (ι:=Nat) (λk A st'=>k<=R.length/\A.df=[]/\A.e 1=.sl .shared RS/\A.e 2=.sl .shared FS/\A.e 7=.ptr na 0/\A.e 9=.sl .shared MS/\A.e 12=.i k/\st'=NS++st/\∃T n:Nat,A.e 10=.i T/\A.e 11=.i n/\Hid (ms.drop n=Js (CU A0) (R.drop k) k)/\n<=ms.length/\Hid (T+Fq (CU A0) (R.drop k)=Fq (CU A0) R)) (λk=>R.length - k) 0 ⟨Aq _,Qf,Qf,Qf,Qf,Qf,Qf,rfl,0,0,Qf,Qf,hms.out.symm,Aq _,Bt _⟩ ?_
 clear e1 e2 e7 e8 hdf A st' hMa HL hNb hi hlt i
 rintro k A st' ⟨hk,hdf,e1,e2,e7,e9,e12,rfl,T,n,e10,e11,hdr,hn,hT⟩
 by_cases hlt:k<R.length
 . obtain⟨x,hx⟩:=gEx hlt
   have hxc:=hRc.out k x hx
   have hxm:=Ah hx
   have hNew:Hid (∀st:St,TrF prog 32 [.sl .shared [x.cells]] st λd st'=>∃N:NT,N.Ok [x]/\N.fs=[]/\d=.ptr N.b 0/\(N.st++st).Perm st'):=Oc [x] (λy hy=>by rw[Ay.1 hy];exact HR.out.rk x hxm) (by simp)
   have hk1:R.length<=1000:=hR1.out
   have hRall:(RS.all λe=>e.length == 4)=true:=hRal.out
   have hcut:List.take (((k:Int)+1).toNat - k) (List.drop k RS)=[x.cells]:=by
    rw[show((k:Int)+1).toNat - k=1 by omega,V.drop_cons hxc]
    rfl
   repeat' (first|refine QV ?_|((with_reducible apply(Bj (f:=32) (henter:=call32) (hp:=Ao _) (h:=(hNew.out _))));(focus exact q_v);(focus exact q_l);(rintro d0 st0 ⟨N1,hN1,hf1,rfl,hp1⟩))|refine QY ?_|refine QB ?_;intro b|with_reducible refine QZ ?_<;>(try constructor)<;>intro hb<;>try intro hb1|fail)
   clear hcut hNew hxc hRall
   obtain⟨nb,hnb⟩:∃nb,nb=N1.b:=⟨_,rfl⟩
   rw[<-hnb]
   refine Bw (ι:=Nat) (λi A st'=>i<=A0.length/\A.df=[]/\A.e 1=.sl .shared RS/\A.e 2=.sl .shared FS/\A.e 7=.ptr na 0/\A.e 9=.sl .shared MS/\A.e 10=.i T/\A.e 11=.i n/\A.e 12=.i k/\A.e 13=.ptr nb 0/\A.e 14=.i i/\∃(N:NT),N.b=nb/\Hid (NetL N [x] (CU (A0.take i)))/\st'.Perm (N.st++(NS++st))) (λi=>A0.length - i) 0 ⟨Aq _,Qf,Qf,Qf,Qf,Qf,Qf,Qf,Qf,Qf,Qf,N1,hnb.symm,Aa (.new hN1 hf1),hp1.symm⟩ ?_
   clear hnb hN1 hf1 hp1 e1 e2 e7 e9 e10 e11 e12 hdf A N1
   rintro i A st' ⟨hi,hdf,e1,e2,e7,e9,e10,e11,e12,e13,e14,N,hNb,HL,hp⟩
   refine Bq hp ?_
   clear hp
   by_cases hil:i<A0.length
   . obtain⟨a,ha⟩:=gEx hil
     have hac:=hFc.out i a ha
     have ham:=Ah ha
     have hbd:=HM.out.bd a ham
     have hst:=LO ha
     have hll:=Sk (A:=A0) i
     by_cases hkd:a.kind=0
     . rw[if_pos hkd]at hst
       obtain⟨hfk,hid0, -⟩:=HM.out.fk a ham hkd
       have hAs:Hid (TrF prog 33 [.ptr nb 0,.agg [.i a.f.id,.i a.f.time,.i a.f.tmpl,.i a.f.ver,.sl .shared (a.f.s.map V.cells)]] (N.st++(NS++st)) λd st'=>∃(N2:NT) (X:Bool),NetL N2 [x] (CU (A0.take (i+1)))/\N2.b=nb/\d=.b X/\(N2.st++(NS++st)).Perm st'):=by
        have h:=HL.out.assert a.f (by simp) hfk hid0 q_o (NS++st)
        rw[hNb]at h
        rw[hst]
        exact h.mono λd st' ⟨N2,h1,h2,h3,h4⟩=>⟨N2,_,h1,h2,h3,h4⟩
       rw[hkd]at hac
       clear HL HM HR hFc hRc ham ha hfk hst hdr hT hTo hMSc hms hTk hRal hx hxm
       generalize a.f.s.map V.cells=VS at *
       repeat' (first|refine QV ?_|((with_reducible apply(Bj (f:=33) (henter:=call33) (hp:=Ao _) (h:=hAs.out)));(focus exact q_v);(focus exact q_l);(rintro d0 st0 ⟨N2,X,hL2,hb2,rfl,hp2⟩))|refine QY ?_|refine QB ?_;intro b|with_reducible refine QZ ?_<;>(try constructor)<;>intro hb<;>try intro hb1|fail)
       refine⟨i+1,_,Al _,⟨hil,?_,?_,?_,?_,?_,?_,?_,?_,?_,?_,N2,hb2,Aa hL2,hp2.symm⟩,by omega⟩
       all_goals exact Qf
     . rw[if_neg hkd]at hst
       have hRt:Hid (TrF prog 35 [.ptr nb 0,.i a.id] (N.st++(NS++st)) λd st'=>∃(N2:NT) (X:Bool),NetL N2 [x] (CU (A0.take (i+1)))/\N2.b=nb/\d=.b X/\(N2.st++(NS++st)).Perm st'):=by
        have h:=HL.out.retract a.id (by simp) (NS++st)
        rw[hNb]at h
        rw[hst]
        exact h.mono λd st' ⟨N2,h1,h2,h3,h4⟩=>⟨N2,_,h1,h2,h3,h4⟩
       clear HL HM HR hFc hRc ham ha hst hdr hT hTo hMSc hms hTk hRal hx hxm
       generalize a.f.s.map V.cells=VS at *
       repeat' (first|refine QV ?_|((with_reducible apply(Bj (f:=35) (henter:=call35) (hp:=Ao _) (h:=hRt.out)));(focus exact q_v);(focus exact q_l);(rintro d0 st0 ⟨N2,X,hL2,hb2,rfl,hp2⟩))|refine QY ?_|refine QB ?_;intro b|with_reducible refine QZ ?_<;>(try constructor)<;>intro hb<;>try intro hb1|fail)
       refine⟨i+1,_,Al _,⟨hil,?_,?_,?_,?_,?_,?_,?_,?_,?_,?_,N2,hb2,Aa hL2,hp2.symm⟩,by omega⟩
       all_goals exact Qf
   rw[Bf q_o]at HL
   have hrx:RK9 [x]:=⟨by simp,λy hy=>by rw[Ay.1 hy];exact HR.out.rk x hxm⟩
   have hTo1:Hid (TrF prog 41 [.ptr nb 0] (N.st++(NS++st)) λd st'=>d=.i (Fq (CU A0) [x])/\st'=N.st++(NS++st)):=by
    have:=HL.out.tokens (by simp) hrx.p14 (hrx.tok hL9) (NS++st)
    rwa[hNb]at this
   have hMr:Hid (TrF prog 37 [.ptr nb 0] (N.st++(NS++st)) λd st'=>(Mat.sortM (Mat.raws [x] (CU A0))=[]/\d=.sl .tight []/\st'=N.st++(NS++st))\/(Mat.sortM (Mat.raws [x] (CU A0))≠[]/\∃g cap zs,d=.ar g 0 (Mat.sortM (Mat.raws [x] (CU A0))).length cap/\st'=.box g 52 (Ej (Mat.sortM (Mat.raws [x] (CU A0)))++zs)::(N.st++(NS++st)))):=by
    have:=HL.out.matchesRaw (by simp) hrx.p4 (Gw hrx.rl hrx.p4 hL9) (NS++st)
    rwa[hNb]at this
   have hdr2:Hid (ms.drop n=(Mat.sortM (Mat.raws [x] (CU A0))).map (JZ k)++Js (CU A0) (R.drop (k+1)) ((k:Int)+1)):=by
    have:=hdr.out
    rw[V.drop_cons hx,Js]at this
    exact this
   have hT2:T+Fq (CU A0) [x]+Fq (CU A0) (R.drop (k+1))=Fq (CU A0) R:=by
    have h1:=hT.out
    rw[Qy hx]at h1
    have h2:Fq (CU A0) [x]=Kp (CU A0) x.pats x.pats.length:=by rw[Fq,Fq,Ea]
    omega
   have hT3:=hTk.out
   have hT4:T+Fq (CU A0) [x]<=1000000000:=by omega
   replace hT2:=Aa hT2
   have hql:(Mat.sortM (Mat.raws [x] (CU A0))).length<=1000000:=by
    rw[(Mat.sortM_srt _).2.length_eq]
    exact Gw hrx.rl hrx.p4 hL9
   have hqi:=Aa (Wt (R:=[x]) (F:=CU A0) hrx.p4)
   clear HL hNb hdr hT hTk hT3 hx hxm hrx HM HR hFc
   generalize Fq (CU A0) [x]=t1 at *
   generalize Mat.sortM (Mat.raws [x] (CU A0))=q at *
   generalize N.st=N1 at *
   repeat' (first|refine QV ?_|((with_reducible apply(Bj (f:=41) (henter:=call41) (hp:=Ao _) (h:=hTo1.out)));(focus exact q_v);(focus exact q_l);(rintro d0 st0 ⟨rfl,rfl⟩))|((with_reducible apply(Bj (f:=37) (henter:=call37) (hp:=Ao _) (h:=hMr.out)));(focus exact q_v);(focus exact q_l);(rintro d0 st0 (⟨hq,rfl,rfl⟩|⟨hq,g,cap,zs,rfl,rfl⟩)))|refine QY ?_|refine QB ?_;intro b|with_reducible refine QZ ?_<;>(try constructor)<;>intro hb<;>try intro hb1|fail)
   . skip
     rw[hq,BF,AO]at hdr2
     refine dB ?_
     repeat' (first|refine QX ?_|refine QB ?_;intro b|with_reducible refine QZ ?_<;>(try constructor)<;>intro hb<;>try intro hb1|fail)
     refine⟨k+1,NS++st,CX ..,⟨hlt,?_,?_,?_,?_,?_,?_,rfl,T+t1,n,?_,?_,hdr2,hn,hT2⟩,by omega⟩
     all_goals exact Qf
   . have hlen : n + q.length <= ms.length := by
      have:=congrArg List.length hdr2.out
      rw[AP,Ae,Ab]at this
      omega
     have hat:Hid (∀(i:Nat) (y:Mt),q[i]?=some y->ms[n+i]?=some (JZ k y)):=λi y hy=>by
      have hi:=(Af.1 hy).1
      rw[<-Eu,hdr2.out,AY (by rw[Ab];exact hi),Ar,hy]
      rfl
     have hdr3:Hid (ms.drop (n+q.length)=Js (CU A0) (R.drop (k+1)) ((k+1:Nat):Int)):=by
      rw[<-CJ,hdr2.out,CW (by rw[Ab];exact Ap _),AB (by rw[Ab];exact Ap _)]
      rfl
     clear hdr2
     refine gQ (t:=15) (g:=g) (off:=0) (n:=q.length) (cap:=cap) q_v λhcap=>?_
     obtain⟨Z,hZ⟩:∃Z,Z=N1++(NS++st):=⟨_,rfl⟩
     rw[<-hZ]
     refine Bw (ι:=Nat) (λi A st'=>i<=q.length/\A.df=[]/\A.e 1=.sl .shared RS/\A.e 2=.sl .shared FS/\A.e 7=.ptr na 0/\A.e 9=.sl .shared MS/\A.e 10=.i ((T+t1:Nat):Int)/\A.e 11=.i ((n+i:Nat):Int)/\A.e 12=.i k/\A.e 15=.ar g 0 q.length cap/\A.e 16=.i i/\st'=.box g 52 (Ej ((q.take i).map (JZ k))++(Ej (q.drop i)++zs))::Z) (λi=>q.length - i) 0 ⟨Aq _,Qf,Qf,Qf,Qf,Qf,Qf,Qf,Qf,Qf,Qf,rfl⟩ ?_
     clear e1 e2 e7 e9 e10 e11 e12 e13 e14 hdf A hq hTo1 hMr hi hil i
     rintro i A st' ⟨hi,hdf,e1,e2,e7,e9,e10,e11,e12,e15,e16,rfl⟩
     by_cases hil:i<q.length
     . obtain⟨y,hy⟩:=gEx hil
       have hyl:=hqi.out y (Ah hy)
       obtain⟨j,hj⟩:∃j,j=n+i:=⟨_,rfl⟩
       have hz:=hMSc.out _ _ (hat.out i y hy)
       rw[<-hj]at hz e11
       replace hj:Hid (j=n+i):=hj
       have hni:=(Af.1 hz).1
       rw[hMSm]at hni
       have hcut:List.take (((j:Int)+1).toNat - j) (List.drop j MS)=[[.i k,.sl .shared (y.ids.map Bn)]]:=by
        rw[show((j:Int)+1).toNat - j=1 by omega,V.drop_cons hz]
        rfl
       have hSame:Hid (TrF prog 22 [.sl .shared [[.i k,.sl .shared (y.ids.map Bn)]],.sl .shared [[.i k,.sl .shared (y.ids.map Bn)]]] [] λd st'=>d=.b true/\st'=[]):=by
        have:=OM [JZ k y] [JZ k y] (λm hm=>by rw[Ay.1 hm];exact hyl) (λm hm=>by rw[Ay.1 hm];exact hyl) (by simp) []
        rwa[Mat.same_self]at this
       obtain⟨pre,hpre⟩:∃pre,pre=Ej ((q.take i).map (JZ k)):=⟨_,rfl⟩
       obtain⟨post,hpost⟩:∃post,post=Ej (q.drop (i+1))++zs:=⟨_,rfl⟩
       have hpl:pre.length=i*2:=by rw[hpre,Iq,Ab,Bb,PT q_o]
       have hst0:Ej (q.drop i)++zs=[D.i y.rule,.sl .shared (y.ids.map Bn)]++post:=by rw[V.drop_cons hy,hpost];rfl
       have hst1:Hid (Res.box g 52 (pre++([[D.i k,.sl .shared (y.ids.map Bn)]].flatten++post))::Z=Res.box g 52 (Ej ((q.take (i+1)).map (JZ k))++(Ej (q.drop (i+1))++zs))::Z):=by
        show _=_
        rw[Br,hy,BQ,Bo,hpre,hpost]
        unfold Ej
        rw[Bo,CQ,Ai]
        rfl
       rw[<-hpre,hst0]
       have hsto:Hid (TD prog 3 (pre++([D.i y.rule,.sl .shared (y.ids.map Bn)]++post)) (i*2) (D.i k).cells=some (pre++([[D.i k,.sl .shared (y.ids.map Bn)]].flatten++post))):=gU ⟨_,rfl,rfl⟩ hpl rfl rfl rfl
       have hlp:(pre++([D.i y.rule,.sl .shared (y.ids.map Bn)]++post)).length=i*2+2+post.length:=by
        rw[Ae,Ae,hpl]
        simp only[An,BZ]
        omega
       have hMSall:(MS.all λe=>e.length == 2)=true:=hMSal.out
       replace hpl:=Aa hpl
       clear hy hz hat hMSc hdr3 hpre hpost hst0 hqi hT2 hms hTo hRc hRal
       generalize y.ids.map Bn=IY at *
       generalize y.rule=ry at *
       repeat' (first|refine QV ?_|(with_reducible refine kw hsto.out ?_)|((with_reducible apply(DN (id:=32) []));(iterate 3 (focus kernel_rfl));(focus exact q_k);intro hne;(try simp only[nes,ne1,and_assoc]at hne);repeat(have hq:=hne.1;replace hne:=hne.2))|((with_reducible refine And.intro ?_ ?_);(focus exact q_k))|((with_reducible apply(EX call22));(focus exact hSame.out);(focus exact⟨Lend.rowAt (es:=[[.i k,.sl .shared IY]]) (sz:=2) (Ag ..) hpl.out (by decide) (λe he=>by rw[Ay.1 he];rfl) (by show 1=_;omega),Lend.refl _,trivial⟩);(refine⟨by((repeat(first|exact BP|refine Cp (by((repeat(first|exact UK|apply UJ));done)) ?_));done),?_⟩))|(with_reducible refine DM ?_)|refine QY ?_|refine QB ?_;intro b|with_reducible refine QZ ?_<;>(try constructor)<;>intro hb<;>try intro hb1|fail)
       rw[hst1.out]
       refine⟨i+1,_,Al _,⟨hil,?_,?_,?_,?_,?_,?_,by rw[show((n+(i+1):Nat):Int)=(j:Int)+1 by have:=hj.out;omega];exact Qf,?_,?_,?_,rfl⟩,by omega⟩
       all_goals exact Qf
     . obtain rfl:i=q.length:=by omega
       generalize Ej ((q.take q.length).map (JZ k))++(Ej (q.drop q.length)++zs)=C0 at *
       repeat' (first|refine QX ?_|refine QB ?_;intro b|with_reducible refine QZ ?_<;>(try constructor)<;>intro hb<;>try intro hb1|fail)
       refine⟨k+1,NS++st,by rw[hZ];exact(CX ..).cons _,⟨hlt,?_,?_,?_,?_,?_,?_,rfl,T+t1,n+q.length,?_,?_,hdr3,hlen,hT2⟩,by omega⟩
       all_goals exact Qf
 . obtain rfl:k=R.length:=by omega
   have h1:=hdr.out
   rw[AB (Ap _),Js]at h1
   have h2:=hT.out
   rw[AB (Ap _)]at h2
   have h3:T=Fq (CU A0) R:=by rw[<-h2];rfl
   have h4:=congrArg List.length h1
   rw[AP,BZ]at h4
   obtain rfl:n=ms.length:=by omega
   clear h1 h2 h4 hdr hT hn
   subst h3
   replace hMSm:=hMSm
   generalize Fq (CU A0) R=T at *
   generalize CU A0=AF at *
   repeat' (first|refine QV ?_|((with_reducible apply(Bj (f:=41) (henter:=call41) (hp:=Ao _) (h:=(hTo.out _))));(focus exact q_v);(focus exact q_l);(rintro d0 st0 ⟨rfl,rfl⟩))|refine QY ?_|refine QB ?_;intro b|with_reducible refine QZ ?_<;>(try constructor)<;>intro hb<;>try intro hb1|fail)
   all_goals exact Bl (by simp) q_y (CX ..) (LE.of_eq q_v) ⟨rfl,rfl⟩
end
end Go.Proofs.YtoeidpmjifjplaaGreat
