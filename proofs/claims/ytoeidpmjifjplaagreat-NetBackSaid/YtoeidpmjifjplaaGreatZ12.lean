/- Texts put together. No statement is proved here. -/
import Derived.Test.YtoeidpmjifjplaaGreatZ11
set_option linter.all false
set_option maxRecDepth 10000
set_option maxHeartbeats 8000000
namespace Go.Proofs.YtoeidpmjifjplaaGreat
open Go.RowKit
section
theorem Rb:∀(R:List MK),R.Nodup→∃l,MRep l R.reverse
|[],_=>⟨[],MRep.nil⟩
|k::R,h=>by
  obtain⟨l,hl⟩:=Rb R (List.nodup_cons.1 h).2
  exact⟨_,by rw[List.reverse_cons];exact hl.put 0 (fun hm=>(List.nodup_cons.1 h).1 (List.mem_reverse.1 hm))⟩
theorem Pq(K:List Fc)(h:(K.map Fc.id).Nodup):∃M:MemP,M.okF K:=by
 have h2:(K.map JI).Nodup:=List.pairwise_map.2 ((List.pairwise_map.1 h).imp fun hne e=>hne (MK.i.inj e))
 obtain⟨l,hl⟩:=Rb (K.map JI).reverse (List.pairwise_reverse.2 (h2.imp fun a=>a.symm))
 rw[List.reverse_reverse] at hl
 refine⟨.at_ 0 l 0 0 K.length [] 0 K.length [],hl,?_,?_,?_⟩
 · rw[List.append_nil,AQ]
 · rw[List.append_nil,List.length_map,List.length_map]
 · rw[AQ,List.length_map]
theorem QS{M:MemP}{K:List Fc}{f:Fc}(hok:M.okF K)(hk:f.id∉K.map Fc.id):∃M':MemP,M'.okF (K++[f]):=Pq _ (by
 rw[List.map_append,List.nodup_append]
 refine⟨Ge hok,List.nodup_cons.2 ⟨List.not_mem_nil,List.nodup_nil⟩,?_⟩
 rintro a ha b hb rfl
 rw[List.map_cons,List.map_nil,List.mem_singleton] at hb
 exact hk (hb▸ha))
namespace Nt
structure ComeI (S:NC)(f:Fc)(i:Nat)(Si:NC):Prop where
 str:Str Si []
 loc:Loc Si []
 c:Si.c=S.c
 g:Si.g=S.g
 cap:Si.cap=S.cap
 nl:Si.ns.length=S.ns.length
 ns:∀(k:Nat) (x:Nd),S.ns[k]?=some x→∃y,Si.ns[k]?=some y∧y.p=x.p∧y.fs=if S.ns.length - 1 - i≤k∧k+1<S.ns.length∧Mat.solo x.p f=true then x.fs++[f] else x.fs
theorem ComeI.zero{S:NC}{f:Fc}(hS:Str S [])(hL:Loc S []):ComeI S f 0 S:=⟨hS,hL,rfl,rfl,rfl,rfl,fun k x hx=>⟨x,hx,rfl,by
 rw[if_neg]
 rintro⟨h1,h2, -⟩
 omega⟩⟩
variable {S Si S':NC} {f:Fc} {i k:Nat} {x y:Nd}
theorem ComeI.no(h:ComeI S f i Si)(hi:i<S.ns.length - 1)(hk:k=S.ns.length - 2 - i)(hx:S.ns[k]?=some x)(ha:Mat.solo x.p f=false):ComeI S f (i+1) Si:=by
 refine⟨h.str,h.loc,h.c,h.g,h.cap,h.nl,fun k2 z hz=>?_⟩
 obtain⟨y,y1,y2,y3⟩:=h.ns k2 z hz
 refine⟨y,y1,y2,?_⟩
 rw[y3]
 by_cases e:k2=k
 · subst e
   rw[hx] at hz
   cases hz
   rw[if_neg (by rw[ha];simp),if_neg (by rw[ha];simp)]
 · congr 1
   refine propext ⟨fun⟨a,b,c⟩=>⟨by omega,b,c⟩,fun⟨a,b,c⟩=>⟨by omega,b,c⟩⟩
theorem ComeI.at_(h:ComeI S f i Si)(hi:i<S.ns.length - 1)(hk:k=S.ns.length - 2 - i)(hx:S.ns[k]?=some x):∃y,Si.ns[k]?=some y∧y.p=x.p∧y.fs=x.fs:=by
 obtain⟨y,y1,y2,y3⟩:=h.ns k x hx
 refine⟨y,y1,y2,?_⟩
 rw[y3,if_neg]
 rintro⟨a, -⟩
 omega
theorem ComeI.yes{M:MemP}(h:ComeI S f i Si)(hi:i<S.ns.length - 1)(hk:k=S.ns.length - 2 - i)(hx:S.ns[k]?=some x)(ha:Mat.solo x.p f=true)(hy:Si.ns[k]?=some y)(hS':Str S' [])(hL':Loc S' [])(hK:Kept (Nt.setFs Si k y (y.fs++[f]) M) S'):ComeI S f (i+1) S':=by
 have hkl:=(List.getElem?_eq_some_iff.1 hy).1
 refine⟨hS',hL',hK.c.trans h.c,hK.g.trans h.g,hK.cap.trans h.cap,hK.nl.trans ((show(Si.ns.set k _).length=_ from List.length_set ..).trans h.nl),fun k2 z hz=>?_⟩
 obtain⟨y2,q1,q2,q3⟩:=h.ns k2 z hz
 by_cases e:k2=k
 · subst e
   rw[hx] at hz
   cases hz
   rw[hy] at q1
   cases q1
   have h1:(Nt.setFs Si k2 y (y.fs++[f]) M).ns[k2]?=some {y with fs:=y.fs++[f],fm:=M}:=List.getElem?_set_self hkl
   obtain⟨z,z1,z2,z3⟩:=hK.ns k2 _ h1
   refine⟨z,z1,z2.trans q2,z3.trans ?_⟩
   show y.fs++[f]=_
   rw[q3,if_neg q_o,if_pos ⟨by omega,by omega,ha⟩]
 · have h1 : (Nt.setFs Si k y (y.fs ++ [f]) M).ns[k2]? = some y2 := by
    show(Si.ns.set k _)[k2]?=_
    rw[List.getElem?_set_ne (fun e1=>e e1.symm)];exact q1
   obtain⟨z2,z1,z3,z4⟩:=hK.ns k2 _ h1
   refine⟨z2,z1,z3.trans q2,?_⟩
   rw[z4,q3]
   congr 1
   refine propext ⟨fun⟨a,b,c⟩=>⟨by omega,b,c⟩,fun⟨a,b,c⟩=>⟨by omega,b,c⟩⟩
end Nt
end
section
attribute [local push_cast] Ad Ae Ao V.cells_mk V.cells_len Nat.mul_one Int.sub_zero List.map_nil beq_self_eq_true bne_self_eq_false List.head?_cons Bool.not_true Bool.not_false Nat.zero_add
attribute [-instance] Aq Av Am AV
theorem NC.layP{S Sj:NC}{k:Nat}{y:Nd}(hc:Sj.c=S.c)(hg:Sj.g=S.g)(hcap:Sj.cap=S.cap)(hnl:Sj.ns.length=S.ns.length)(hy:Sj.ns[k]?=some y)(s:St):∃(ROWj:List D) (RJ:St),(Sj.st++s).Perm (.box S.c 109 [.ar S.g 0 S.ns.length S.cap]::.box S.g 115 ROWj::RJ)∧List.take 3 (List.drop (k*9) ROWj)=y.p.cells∧k*9+9≤ROWj.length:=by
 have hs:Az Sj.ns++Sj.zs=Az (Sj.ns.take k)++(y.p.cells++((y.fm.cells y.fs.length++y.tm.cells y.ts.length)++(Az (Sj.ns.drop (k+1))++Sj.zs))):=by
  rw[CX hy]
  unfold Nd.cells
  simp only[List.append_assoc]
 have hl:=Dz hy
 have hpc:y.p.cells=[.i y.p.tmpl,.b y.p.neg,.sl .shared (y.p.tests.map Ts.cells)]:=rfl
 refine⟨Az Sj.ns++Sj.zs,(Sj.ns.flatMap Nd.res++Sj.H.flatMap Tok.res)++s,?_,?_,?_⟩
 · rw[←hc,←hg,←hcap,←hnl]
   exact .refl _
 · rw[hs,←hl,List.drop_left,hpc];rfl
 · rw[List.length_append,AZ]
   have:=(List.getElem?_eq_some_iff.1 hy).1
   omega
theorem cN(S : NC)(f:Fc)(hS:Nt.Str S [])(hL:Nt.Loc S [])(hf:FK f)(hn1:1≤S.ns.length)(hid:∀x∈S.ns,f.id∉x.fs.map Fc.id)(hlen:∀x∈S.ns,x.fs.length<1000)(st:St) :
 TrF Tryz.prog 66 [.ptr S.c 0,.agg f.cells] (S.st++st) fun d st'=>∃S',Nt.ComeI S f (S.ns.length - 1) S'∧d=.tup []∧(S'.st++st).Perm st':=by
 have hcap:S.ns.length≤S.cap:=by
  have:=hS.row
  rw[List.length_append,AZ] at this
  omega
 have hP:=Lib.hid (patsF S.c)
 have hIt:=Lib.hid (NH S.c S.g S.ns.length S.cap hS.nl hn1 hcap)
 have hJ0:Hid (Nt.ComeI S f 0 S):=Nt.ComeI.zero hS hL
 have hpk:Hid (∀x∈S.ns,PK x.p∧FKs x.fs):=fun x hx=>⟨(hS.pk x hx).1,(hS.pk x hx).2.1⟩
 have hfk:=Lib.hid hf
 have hid2:=Lib.hid hid
 have hlen2:=Lib.hid hlen
 clear hS hL hf hid hlen
 generalize hST:S.st++st=ST at *
 rw[show f.cells=[.i f.id,.i f.time,.i f.tmpl,.i f.ver,.sl .shared (f.s.map V.cells)] from rfl]
 generalize hVS:f.s.map V.cells=VS at *
 refine Qin [] Tryz.func66 Tryz.results66 Tryz.ntmps66 ?_
 repeat' (first|refine QV ?_|(with_reducible refine Bl ?_)|refine QY ?_|(refine QB ?_;intro b)|(with_reducible refine QZ ?_<;>(try constructor)<;>intro hb<;>try intro hb1)|refine Qc Tryz.call98 ((hP.out _)) ?_|fail)
 rw[←hST]
 refine Af (st':=[]++(S.st++st)) (.refl _) ?_
 refine FY hIt.out Tryz.call139 q_v (fun _=>rfl) rfl (fun i C=>∃Si,Nt.ComeI S f i Si∧C=Si.st++st) (fun _ _ _=>False) (fun C B h=>h.app C B) (fun i C ⟨Si,h,e⟩=>by
  subst e
  refine⟨(Si.gbox::(Si.ns.flatMap Nd.res++Si.H.flatMap Tok.res))++st,?_⟩
  have:Si.cbox=.box S.c 109 [.ar S.g 0 S.ns.length S.cap]:=by unfold NC.cbox;rw[h.c,h.g,h.cap,h.nl]
  rw[←this]
  exact .refl _) ⟨S,hJ0.out,rfl⟩ ?_ ?_ (fun _ _ _ _ _ _ h=>h.elim)
 · rintro l i k C K hk ⟨Si,hJ,rfl⟩
   have hin:i<S.ns.length - 1:=by
    have:=(List.getElem?_eq_some_iff.1 hk).1
    rwa[EN] at this
   have hkk:k=S.ns.length - 2 - i:=by
    rw[Kb hin] at hk
    exact(Option.some.inj hk).symm
   have hkn:k<S.ns.length:=by omega
   obtain⟨x,hx⟩:=gEx hkn
   have hxm:=List.mem_of_getElem? hx
   obtain⟨y,hy,hyp,hyf⟩:=hJ.at_ hin hkk hx
   have hA:∀s:St,TrF Tryz.prog 99 [.agg x.p.cells,.agg [.i f.id,.i f.time,.i f.tmpl,.i f.ver,.sl .shared VS]] s fun d st'=>d=.b (Mat.solo x.p f)∧st'=s:=fun s=>by
    have:=aA x.p f (hpk.out x hxm).1 hfk.out s
    rw[show f.cells=[.i f.id,.i f.time,.i f.tmpl,.i f.ver,.sl .shared (f.s.map V.cells)] from rfl,hVS] at this
    exact this
   have hkk2:Hid (k=S.ns.length - 2 - i):=hkk
   clear hk hIt hJ0 hP hkk
   refine(?_:Tr _ _ _ _ (AA.put ⟨_,[]⟩ (some 7) (.ptr S.g (k*9))) ((Si.st++st)++K) _)
   repeat' (first|refine QX ?_|(refine QB ?_;intro b)|(with_reducible refine QZ ?_<;>(try constructor)<;>intro hb<;>try intro hb1)|fail)
   obtain⟨nb,rfl⟩:∃q,q=b:=⟨_,rfl⟩
   refine⟨.box nb 164 [.ptr S.g (k*9)]::(Si.st++st),List.Sublist.refl _,fun K'=>?_⟩
   clear K
   obtain⟨ROWj,RJ,v1,v2,v3⟩:=NC.layP hJ.c hJ.g hJ.cap hJ.nl hy (st++K')
   rw[hyp] at v2
   have v4:=v1.cons (Res.box nb 164 [.ptr S.g (k*9)])
   refine De ?_
   refine Af (st':=.box nb 164 [.ptr S.g (k*9)]::.box S.c 109 [.ar S.g 0 S.ns.length S.cap]::.box S.g 115 ROWj::RJ) (by
    show List.Perm (_::((Si.st++st)++K')) _
    rw[List.append_assoc]
    exact v4) ?_
   have v7:3≤(List.drop (k*9) ROWj).length:=by rw[List.length_drop];omega
   have hpc:x.p.cells=[.i x.p.tmpl,.b x.p.neg,.sl .shared (x.p.tests.map Ts.cells)]:=rfl
   rw[hpc] at v2 hA
   cases ha:Mat.solo x.p f with
   | false =>
    have hJn:=Lib.hid (hJ.no hin hkk2.out hx ha)
    rw[ha] at hA
    replace hA:=Lib.hid hA
    replace v4:=Lib.hid v4
    clear v1 hJ hx hxm hy hyp hyf ha hpc hkk2 hin hpk hid2 hlen2 hfk
    generalize x.p.tests.map Ts.cells=TS at *
    repeat' (first|refine QV ?_|((with_reducible apply(Bf (id:=3) [(nb,[.ptr S.g (k*9)]),(S.g,ROWj)]));(iterate 3 (focus kernel_rfl));(focus exact q_k);intro hne;(try simp only[nes,ne1,and_assoc] at hne);repeat(have hq:=hne.1;replace hne:=hne.2))|((with_reducible refine And.intro ?_ ?_);(focus exact q_k))|(with_reducible refine Bl ?_)|refine QY ?_|(refine QB ?_;intro b)|(with_reducible refine QZ ?_<;>(try constructor)<;>intro hb<;>try intro hb1)|refine Qc Tryz.call99 ((hA.out _)) ?_|fail)
    exact⟨(.box nb 164 [.ptr S.g (k*9)]::(Si.st++st))++K',by rw[show(Res.box nb 164 [.ptr S.g (k*9)]::(Si.st++st))++K'=Res.box nb 164 [.ptr S.g (k*9)]::(Si.st++(st++K')) from by rw[List.cons_append,List.append_assoc]];exact v4.out.symm,_,List.sublist_cons_self ..,Si,hJn.out,rfl⟩
   | true =>
    have hnew:f.id∉y.fs.map Fc.id:=by rw[hyf];exact hid2.out x hxm
    have hyl:y.fs.length<1000:=by rw[hyf];exact hlen2.out x hxm
    obtain⟨hpk1,hpk2⟩:=hpk.out x hxm
    have hFK:FKs (y.fs++[f]):=⟨fun z hz=>by
     rw[List.mem_append,List.mem_singleton,hyf] at hz
     rcases hz with hz|rfl
     · exact hpk2.f z hz
     · exact hfk.out,by rw[List.length_append,List.length_singleton];omega⟩
    have hl1:(y.fs++[f]).length≤1000:=by rw[List.length_append,List.length_singleton];omega
    have hk1:k+1<Si.ns.length:=by
     have h1:=hkk2.out
     rw[hJ.nl]
     omega
    have hput:=Vw Si k y f (.box nb 164 [.ptr S.g (k*9)]) hJ.str hy hnew (st++K')
    rw[hJ.g] at hput
    have hput2:=TrF.perm v4.symm hput
    have hE:∃(d:D) (st':St) (M':MemP),M'.okF (y.fs++[f])∧d=.tup []∧(Res.box nb 164 [.ptr S.g (k*9)]::((Nt.setFs Si k y (y.fs++[f]) M').st++(st++K'))).Perm st':=by
     obtain⟨M0,hM0⟩:=QS (hJ.str.okx y (List.mem_of_getElem? hy)).1 hnew
     exact⟨_,_,M0,hM0,rfl,.refl _⟩
    have hpas:Hid (∀M':MemP,M'.okF (y.fs++[f])→TrF Tryz.prog 100 [.ptr S.g (k*9),.agg f.cells,.fn (.func 101) [] [.ptr nb 0,.ip [.ptr S.c 0],.ip f.cells]] (.box nb 164 [.ptr S.g (k*9)]::((Nt.setFs Si k y (y.fs++[f]) M').st++(st++K'))) fun d st'=>∃S',Nt.ComeI S f (i+1) S'∧d=.tup []∧(Res.box nb 164 [.ptr S.g (k*9)]::(S'.st++(st++K'))).Perm st'):=fun M' hM=>by
     have hy2:(Nt.setFs Si k y (y.fs++[f]) M').ns[k]?=some {y with fs:=y.fs++[f],fm:=M'}:=List.getElem?_set_self (List.getElem?_eq_some_iff.1 hy).1
     have h1:=Ta (Nt.setFs Si k y (y.fs++[f]) M') k nb {y with fs:=y.fs++[f],fm:=M'} y.fs f hy2 ((show(Si.ns.set k _).length=_ from List.length_set ..).symm▸hk1) rfl hnew hyl hfk.out (Nt.StepJ.zero hJ.loc hJ.str hy q_o hM hFK hl1) (st++K')
     have e1:(Nt.setFs Si k y (y.fs++[f]) M').g=S.g:=hJ.g
     have e2:(Nt.setFs Si k y (y.fs++[f]) M').c=S.c:=hJ.c
     rw[e1,e2] at h1
     exact h1.mono fun d st' ⟨S',a1,a2,a3,a4,a5⟩=>⟨S',hJ.yes hin hkk2.out hx ha hy a1 a2 a3,a4,a5⟩
    rw[show f.cells=[.i f.id,.i f.time,.i f.tmpl,.i f.ver,.sl .shared (f.s.map V.cells)] from rfl,hVS] at hput2 hpas
    rw[ha] at hA
    replace hA:=Lib.hid hA
    replace hput2:=Lib.hid hput2
    replace hE:=Lib.hid hE
    clear v1 v4 hput hJ hx hxm hy hyp hyf ha hpc hkk2 hin hpk hid2 hlen2 hfk hnew hyl hpk1 hpk2 hFK hl1 hk1
    generalize x.p.tests.map Ts.cells=TS at *
    repeat' (first|refine QV ?_|((with_reducible apply(Bf (id:=3) [(nb,[.ptr S.g (k*9)]),(S.g,ROWj)]));(iterate 3 (focus kernel_rfl));(focus exact q_k);intro hne;(try simp only[nes,ne1,and_assoc] at hne);repeat(have hq:=hne.1;replace hne:=hne.2))|((with_reducible refine And.intro ?_ ?_);(focus exact q_k))|((with_reducible apply(Bf (id:=4) [(nb,[.ptr S.g (k*9)])]));(iterate 3 (focus kernel_rfl));(focus exact q_k);intro hne;(try simp only[nes,ne1,and_assoc] at hne);repeat(have hq:=hne.1;replace hne:=hne.2))|((with_reducible refine And.intro ?_ ?_);(focus exact q_k))|((with_reducible apply(Br Tryz.call65));(focus exact List.Perm.refl _);(focus exact hput2.out);(focus exact LEL.refl _);(focus exact hE.out);(rintro d st2 ⟨M2,hok2,rfl,hp2⟩;refine⟨An,?_⟩))|((with_reducible refine Af hp2.symm ?_))|((with_reducible apply(Ah (f:=100) (henter:=Tryz.call100) (hp:=List.Perm.refl _) (h:=hpas.out M2 hok2)));(focus exact q_v);(focus(first|exact LEL.refl _|((repeat' (first|exact LEL.nil|refine LEL.cons ?_ ?_|exact LE.refl _|exact LE.sl _ _|refine LE.agg ?_));done)));(rintro d0 st0 ⟨S',h1,rfl,hp4⟩))|(with_reducible refine Bl ?_)|refine QY ?_|(refine QB ?_;intro b)|(with_reducible refine QZ ?_<;>(try constructor)<;>intro hb<;>try intro hb1)|refine Qc Tryz.call99 ((hA.out _)) ?_|fail)
    exact⟨(.box nb 164 [.ptr S.g (k*9)]::(S'.st++st))++K',by rw[show(Res.box nb 164 [.ptr S.g (k*9)]::(S'.st++st))++K'=Res.box nb 164 [.ptr S.g (k*9)]::(S'.st++(st++K')) from by rw[List.cons_append,List.append_assoc]];exact hp4.symm,_,List.sublist_cons_self ..,S',h1,rfl⟩
 · rintro d K1 C' rfl ⟨Si,hJ,rfl⟩
   have hfin:Hid (∃S',Nt.ComeI S f (S.ns.length - 1) S'∧D.tup []=D.tup []∧(S'.st++st).Perm (Si.st++st)):=⟨Si,by rw[EN] at hJ;exact hJ,rfl,.refl _⟩
   repeat' (first|refine QX ?_|(refine QB ?_;intro b)|(with_reducible refine QZ ?_<;>(try constructor)<;>intro hb<;>try intro hb1)|fail)
   exact Bn q_x q_y (.refl _) (List.Sublist.refl _) (LE.refl _) hfin.out
end
section
theorem Jh{α:Type}{K:List α}{i n:Nat}{a z:α}(hn:K.length=n+1)(hi:K[i]?=some a)(hz:K[n]?=some z):K.Perm (a::Ax K i z):=by
 obtain⟨hil,hia⟩:=List.getElem?_eq_some_iff.1 hi
 have hs:K=K.take i++a::K.drop (i+1):=by rw[←V.drop_cons hi,List.take_append_drop]
 have ht:K.set i z=K.take i++z::K.drop (i+1):=by rw[List.set_eq_take_append_cons_drop,if_pos hil]
 rw[GW hn q_o hz] at ht
 have h1:(Ax K i z++[z]).Perm (z::(K.take i++K.drop (i+1))):=by rw[ht];exact List.perm_middle
 have h2:(Ax K i z).Perm (K.take i++K.drop (i+1)):=(List.perm_cons z).1 ((List.perm_append_comm (l₁:=[z])).trans h1)
 have h3:K.Perm (a::(K.take i++K.drop (i+1))):=by
  conv=>lhs;rw[hs]
  exact List.perm_middle
 exact h3.trans (h2.symm.cons a)
def BG (id:Int)(F:List Fc):List Fc:=F.filter fun g=>g.id != id
theorem Md{id:Int}{F:List Fc}(h:Mat.find F id=none):BG id F=F:=by
 unfold BG
 rw[List.filter_eq_self]
 intro g hg
 have:=List.find?_eq_none.1 h g hg
 simpa using this
theorem GN{f:Fc}{F G:List Fc}(hF:F.Perm (f::G))(hid:f.id∉G.map Fc.id):G.Perm (BG f.id F):=by
 have h1:(BG f.id F).Perm (BG f.id (f::G)):=hF.filter _
 have h2:BG f.id (f::G)=G:=by
  unfold BG
  rw[List.filter_cons_of_neg (by simp),List.filter_eq_self]
  intro g hg
  have:g.id≠f.id:=fun e=>hid (by rw[←e];exact List.mem_map_of_mem hg)
  simpa using this
 rw[h2] at h1
 exact h1.symm
namespace Nt
structure LeaI (S:NC)(id:Int)(i:Nat)(Si:NC):Prop where
 str:Str Si []
 loc:Loc Si []
 c:Si.c=S.c
 g:Si.g=S.g
 cap:Si.cap=S.cap
 nl:Si.ns.length=S.ns.length
 ns:∀(k:Nat) (x:Nd),S.ns[k]?=some x→∃y,Si.ns[k]?=some y∧y.p=x.p∧if S.ns.length - 1 - i≤k∧k+1<S.ns.length then y.fs.Perm (BG id x.fs) else y.fs=x.fs
theorem LeaI.zero{S:NC}{id:Int}(hS:Str S [])(hL:Loc S []):LeaI S id 0 S:=⟨hS,hL,rfl,rfl,rfl,rfl,fun k x hx=>⟨x,hx,rfl,by
 rw[if_neg]
 rintro⟨h1,h2⟩
 omega⟩⟩
variable {S Si S':NC} {id:Int} {i k:Nat} {x y:Nd}
theorem LeaI.at_(h:LeaI S id i Si)(hi:i<S.ns.length - 1)(hk:k=S.ns.length - 2 - i)(hx:S.ns[k]?=some x):∃y,Si.ns[k]?=some y∧y.p=x.p∧y.fs=x.fs:=by
 obtain⟨y,y1,y2,y3⟩:=h.ns k x hx
 refine⟨y,y1,y2,?_⟩
 rw[if_neg] at y3
 · exact y3
 · rintro⟨a, -⟩
   omega
theorem LeaI.no(h:LeaI S id i Si)(hi:i<S.ns.length - 1)(hk:k=S.ns.length - 2 - i)(hx:S.ns[k]?=some x)(ha:Mat.find x.fs id=none):LeaI S id (i+1) Si:=by
 refine⟨h.str,h.loc,h.c,h.g,h.cap,h.nl,fun k2 z hz=>?_⟩
 by_cases e:k2=k
 · subst e
   rw[hx] at hz
   cases hz
   obtain⟨y,y1,y2,y3⟩:=h.at_ hi hk hx
   refine⟨y,y1,y2,?_⟩
   rw[if_pos ⟨by omega,by omega⟩,Md ha,y3]
 · obtain⟨y,y1,y2,y3⟩:=h.ns k2 z hz
   refine⟨y,y1,y2,?_⟩
   by_cases e2:S.ns.length - 1 - i≤k2∧k2+1<S.ns.length
   · rw[if_pos e2] at y3
     rw[if_pos ⟨by omega,e2.2⟩]
     exact y3
   · rw[if_neg e2] at y3
     rw[if_neg (fun h1=>e2 ⟨by omega,h1.2⟩)]
     exact y3
theorem LeaI.yes{M:MemP}{G:List Fc}(h:LeaI S id i Si)(hi:i<S.ns.length - 1)(hk:k=S.ns.length - 2 - i)(hx:S.ns[k]?=some x)(hG:G.Perm (BG id x.fs))(hy:Si.ns[k]?=some y)(hS':Str S' [])(hL':Loc S' [])(hK:Kept (Nt.setFs Si k y G M) S'):LeaI S id (i+1) S':=by
 have hkl:=(List.getElem?_eq_some_iff.1 hy).1
 refine⟨hS',hL',hK.c.trans h.c,hK.g.trans h.g,hK.cap.trans h.cap,hK.nl.trans ((show(Si.ns.set k _).length=_ from List.length_set ..).trans h.nl),fun k2 z hz=>?_⟩
 obtain⟨y2,q1,q2,q3⟩:=h.ns k2 z hz
 by_cases e:k2=k
 · subst e
   rw[hx] at hz
   cases hz
   rw[hy] at q1
   cases q1
   have h1:(Nt.setFs Si k2 y G M).ns[k2]?=some {y with fs:=G,fm:=M}:=List.getElem?_set_self hkl
   obtain⟨z,z1,z2,z3⟩:=hK.ns k2 _ h1
   refine⟨z,z1,z2.trans q2,?_⟩
   rw[if_pos ⟨by omega,by omega⟩,z3]
   exact hG
 · have h1 : (Nt.setFs Si k y G M).ns[k2]? = some y2 := by
    show(Si.ns.set k _)[k2]?=_
    rw[List.getElem?_set_ne (fun e1=>e e1.symm)];exact q1
   obtain⟨z2,z1,z3,z4⟩:=hK.ns k2 _ h1
   refine⟨z2,z1,z3.trans q2,?_⟩
   rw[z4]
   by_cases e2:S.ns.length - 1 - i≤k2∧k2+1<S.ns.length
   · rw[if_pos e2] at q3
     rw[if_pos ⟨by omega,e2.2⟩]
     exact q3
   · rw[if_neg e2] at q3
     rw[if_neg (fun h1=>e2 ⟨by omega,h1.2⟩)]
     exact q3
end Nt
end
section
attribute [local push_cast] Ad Ae Ao V.cells_mk V.cells_len Nat.mul_one Int.sub_zero List.map_nil beq_self_eq_true bne_self_eq_false List.head?_cons Bool.not_true Bool.not_false Nat.zero_add
attribute [-instance] Aq Av Am AV
theorem Tu(S : NC)(id:Int)(hS:Nt.Str S [])(hL:Nt.Loc S [])(hn1:1≤S.ns.length)(st:St) :
 TrF Tryz.prog 69 [.ptr S.c 0,.i id] (S.st++st) fun d st'=>∃S',Nt.LeaI S id (S.ns.length - 1) S'∧d=.tup []∧(S'.st++st).Perm st':=by
 have hcap:S.ns.length≤S.cap:=by
  have:=hS.row
  rw[List.length_append,AZ] at this
  omega
 have hP:=Lib.hid (patsF S.c)
 have hIt:=Lib.hid (NH S.c S.g S.ns.length S.cap hS.nl hn1 hcap)
 have hJ0:Hid (Nt.LeaI S id 0 S):=Nt.LeaI.zero hS hL
 clear hS hL
 generalize hST:S.st++st=ST at *
 refine Qin [] Tryz.func69 Tryz.results69 Tryz.ntmps69 ?_
 repeat' (first|refine QV ?_|(with_reducible refine Bl ?_)|refine QY ?_|(refine QB ?_;intro b)|(with_reducible refine QZ ?_<;>(try constructor)<;>intro hb<;>try intro hb1)|refine Qc Tryz.call98 ((hP.out _)) ?_|fail)
 rw[←hST]
 refine Af (st':=[]++(S.st++st)) (.refl _) ?_
 refine FY hIt.out Tryz.call139 q_v (fun _=>rfl) rfl (fun i C=>∃Si,Nt.LeaI S id i Si∧C=Si.st++st) (fun _ _ _=>False) (fun C B h=>h.app C B) (fun i C ⟨Si,h,e⟩=>by
  subst e
  refine⟨(Si.gbox::(Si.ns.flatMap Nd.res++Si.H.flatMap Tok.res))++st,?_⟩
  have:Si.cbox=.box S.c 109 [.ar S.g 0 S.ns.length S.cap]:=by unfold NC.cbox;rw[h.c,h.g,h.cap,h.nl]
  rw[←this]
  exact .refl _) ⟨S,hJ0.out,rfl⟩ ?_ ?_ (fun _ _ _ _ _ _ h=>h.elim)
 · rintro l i k C K hk ⟨Si,hJ,rfl⟩
   have hin:i<S.ns.length - 1:=by
    have:=(List.getElem?_eq_some_iff.1 hk).1
    rwa[EN] at this
   have hkk:k=S.ns.length - 2 - i:=by
    rw[Kb hin] at hk
    exact(Option.some.inj hk).symm
   have hkn:k<S.ns.length:=by omega
   obtain⟨x,hx⟩:=gEx hkn
   have hxm:=List.mem_of_getElem? hx
   obtain⟨y,hy,hyp,hyf⟩:=hJ.at_ hin hkk hx
   have hkk2:Hid (k=S.ns.length - 2 - i):=hkk
   clear hk hIt hJ0 hP hkk
   refine(?_:Tr _ _ _ _ (AA.put ⟨_,[]⟩ (some 9) (.ptr S.g (k*9))) ((Si.st++st)++K) _)
   repeat' (first|refine QX ?_|(refine QB ?_;intro b)|(with_reducible refine QZ ?_<;>(try constructor)<;>intro hb<;>try intro hb1)|fail)
   obtain⟨nb,rfl⟩:∃q,q=b:=⟨_,rfl⟩
   refine⟨.box nb 164 [.ptr S.g (k*9)]::(Si.st++st),List.Sublist.refl _,fun K'=>?_⟩
   clear K
   obtain⟨ROWj,RJ,v1,v2,v3⟩:=NC.layP hJ.c hJ.g hJ.cap hJ.nl hy (st++K')
   have v4:=v1.cons (Res.box nb 164 [.ptr S.g (k*9)])
   refine De ?_
   refine Af (st':=.box nb 164 [.ptr S.g (k*9)]::.box S.c 109 [.ar S.g 0 S.ns.length S.cap]::.box S.g 115 ROWj::RJ) (by
    show List.Perm (_::((Si.st++st)++K')) _
    rw[List.append_assoc]
    exact v4) ?_
   have hget:=NW Si k y id (.box nb 164 [.ptr S.g (k*9)]) hJ.str hy (st++K')
   rw[hJ.g] at hget
   have hg2:TrF Tryz.prog 64 [.ptr S.g (k*9+3),.i id] (.box nb 164 [.ptr S.g (k*9)]::.box S.c 109 [.ar S.g 0 S.ns.length S.cap]::.box S.g 115 ROWj::RJ) fun d st'=>d=DV (Mat.find y.fs id)∧st'=.box nb 164 [.ptr S.g (k*9)]::.box S.c 109 [.ar S.g 0 S.ns.length S.cap]::.box S.g 115 ROWj::RJ:=TrF.permPost v4.symm (hget.mono fun d st' ⟨e1,e2⟩=>⟨_,⟨e1,rfl⟩,e2.symm.trans v4⟩)
   clear hget
   have hg3:∀fb:Res,TrF Tryz.prog 64 [.ptr S.g (k*9+3),.i id] (fb::.box nb 164 [.ptr S.g (k*9)]::.box S.c 109 [.ar S.g 0 S.ns.length S.cap]::.box S.g 115 ROWj::RJ) fun d st'=>d=DV (Mat.find y.fs id)∧st'=fb::.box nb 164 [.ptr S.g (k*9)]::.box S.c 109 [.ar S.g 0 S.ns.length S.cap]::.box S.g 115 ROWj::RJ:=fun fb=>by
    have h1:=NW Si k y id (.box nb 164 [.ptr S.g (k*9)]) hJ.str hy (fb::(st++K'))
    rw[hJ.g] at h1
    have h2:(fb::.box nb 164 [.ptr S.g (k*9)]::.box S.c 109 [.ar S.g 0 S.ns.length S.cap]::.box S.g 115 ROWj::RJ).Perm (.box nb 164 [.ptr S.g (k*9)]::(Si.st++(fb::(st++K')))):=(v4.symm.cons fb).trans (BH fb _ Si.st (st++K'))
    exact TrF.permPost h2 (h1.mono fun d st' ⟨e1,e2⟩=>⟨_,⟨e1,rfl⟩,e2.symm.trans h2.symm⟩)
   cases ha:Mat.find y.fs id with
   | none =>
    have hJn:=Lib.hid (hJ.no hin hkk2.out hx (by rw[←hyf];exact ha))
    rw[ha] at hg2 hg3
    dsimp only[DV] at hg2 hg3
    replace hg2:=Lib.hid hg2
    replace hg3:=Lib.hid hg3
    replace v4:=Lib.hid v4
    clear v1 hJ hx hxm hy hyp hyf ha hkk2 hin
    repeat' (first|refine QV ?_|((with_reducible apply(IP (id:=3) [(nb,[.ptr S.g (k*9)])] 8 4));(iterate 3 (focus kernel_rfl));(focus(repeat(first|exact An|refine Aw q_m ?_)));(focus exact rfl);(focus(simp only[List.eraseIdx_cons_succ,List.eraseIdx_cons_zero];rfl)))|((with_reducible refine And.intro ?_ ?_);(focus exact q_k))|((with_reducible apply(Br Tryz.call64));(focus exact List.Perm.refl _);(focus exact hg2.out);(focus exact LEL.refl _);(focus exact⟨_,_,rfl,rfl⟩);(rintro d2 st2 ⟨rfl,rfl⟩;refine⟨by first|exact An|exact Hm q_m,?_⟩))|((with_reducible apply(Br Tryz.call64));(focus exact List.Perm.refl _);(focus exact(hg3.out _));(focus exact LEL.refl _);(focus exact⟨_,_,rfl,rfl⟩);(rintro d2 st2 ⟨rfl,rfl⟩;refine⟨by first|exact An|exact Hm q_m,?_⟩))|(with_reducible refine Bl ?_)|refine QY ?_|(refine QB ?_;intro b)|(with_reducible refine QZ ?_<;>(try constructor)<;>intro hb<;>try intro hb1)|fail)
    all_goals exact⟨_::((.box nb 164 [.ptr S.g (k*9)]::(Si.st++st))++K'),(by rw[show(Res.box nb 164 [.ptr S.g (k*9)]::(Si.st++st))++K'=Res.box nb 164 [.ptr S.g (k*9)]::(Si.st++(st++K')) from by rw[List.cons_append,List.append_assoc]];exact v4.out.symm.cons _),_,((List.sublist_cons_self ..).trans (List.sublist_cons_self ..)),Si,hJn.out,rfl⟩
   | some f =>
    have hfid:f.id=id:=by
     have:=List.find?_some ha
     simpa using this
    have hfm:f∈y.fs:=List.mem_of_find?_eq_some ha
    obtain⟨i0,hi0⟩:=List.getElem?_of_mem hfm
    obtain⟨n,hn⟩:∃n,y.fs.length=n+1:=⟨y.fs.length - 1,by have:=List.length_pos_of_mem hfm;omega⟩
    obtain⟨z,hz⟩:=gEx (l:=y.fs) (i:=n) q_o
    obtain⟨G,hG⟩:∃G,G=Ax y.fs i0 z:=⟨_,rfl⟩
    have hF:y.fs.Perm (f::G):=by rw[hG];exact Jh hn hi0 hz
    have hym:=List.mem_of_getElem? hy
    obtain⟨-,hfk,hfl⟩:=hJ.str.pk y hym
    have hnd:=Ge (hJ.str.okx y hym).1
    have hnd2:(f.id::G.map Fc.id).Nodup:=(hF.map Fc.id).nodup_iff.1 hnd
    have hnew:=(List.nodup_cons.1 hnd2).1
    have hFK:FKs G:=⟨fun q hq=>hfk.f q (hF.mem_iff.2 (List.mem_cons_of_mem _ hq)),by have:=hF.length_eq;rw[List.length_cons] at this;omega⟩
    have hGl:G.length≤1000:=by have:=hF.length_eq;rw[List.length_cons] at this;omega
    have hGw:G.Perm (BG id x.fs):=by
     have:=GN hF hnew
     rw[hfid,hyf] at this
     exact this
    have hk1:k+1<Si.ns.length:=by
     have h1:=hkk2.out
     rw[hJ.nl]
     omega
    have hdrop:∀fb:Res,TrF Tryz.prog 68 [.ptr S.g (k*9+3),.i id] (fb::.box nb 164 [.ptr S.g (k*9)]::.box S.c 109 [.ar S.g 0 S.ns.length S.cap]::.box S.g 115 ROWj::RJ) fun d st'=>∃M':MemP,M'.okF G∧d=.tup []∧(Res.box nb 164 [.ptr S.g (k*9)]::fb::((Nt.setFs Si k y G M').st++(st++K'))).Perm st':=fun fb=>by
     have h1:=SZ Si k y f z i0 n (.box nb 164 [.ptr S.g (k*9)]) hJ.str hy hn hi0 hz (fb::(st++K'))
     rw[hJ.g,hfid,←hG] at h1
     have h2:(fb::.box nb 164 [.ptr S.g (k*9)]::.box S.c 109 [.ar S.g 0 S.ns.length S.cap]::.box S.g 115 ROWj::RJ).Perm (.box nb 164 [.ptr S.g (k*9)]::(Si.st++(fb::(st++K')))):=(v4.symm.cons fb).trans (BH fb _ Si.st (st++K'))
     exact(TrF.perm h2 h1).mono fun d st' ⟨M',a1,a2,a3⟩=>⟨M',a1,a2,(List.perm_middle.symm.cons _).trans a3⟩
    have hE:∀fb:Res,∃(d:D) (st':St) (M':MemP),M'.okF G∧d=.tup []∧(Res.box nb 164 [.ptr S.g (k*9)]::fb::((Nt.setFs Si k y G M').st++(st++K'))).Perm st':=fun fb=>by
     obtain⟨M0,hM0⟩:=Pq G (List.nodup_cons.1 hnd2).2
     exact⟨_,_,M0,hM0,rfl,.refl _⟩
    have hpas:Hid (∀(M':MemP) (fb:Res),M'.okF G→TrF Tryz.prog 100 [.ptr S.g (k*9),.agg f.cells,.fn (.func 103) [] [.ptr nb 0,.ip [.ptr S.c 0],.ip [.i id]]] (.box nb 164 [.ptr S.g (k*9)]::fb::((Nt.setFs Si k y G M').st++(st++K'))) fun d st'=>∃S',Nt.LeaI S id (i+1) S'∧d=.tup []∧(fb::Res.box nb 164 [.ptr S.g (k*9)]::(S'.st++(st++K'))).Perm st'):=fun M' fb hM=>by
     have hy2:(Nt.setFs Si k y G M').ns[k]?=some {y with fs:=G,fm:=M'}:=List.getElem?_set_self (List.getElem?_eq_some_iff.1 hy).1
     have h1:=Ps (Nt.setFs Si k y G M') k nb {y with fs:=G,fm:=M'} y.fs f hy2 ((show(Si.ns.set k _).length=_ from List.length_set ..).symm▸hk1) hF hnew (hfk.f f hfm) hfl (Nt.StepJ.zero hJ.loc hJ.str hy q_o hM hFK hGl) (fb::(st++K'))
     have e1:(Nt.setFs Si k y G M').g=S.g:=hJ.g
     have e2:(Nt.setFs Si k y G M').c=S.c:=hJ.c
     rw[e1,e2,hfid] at h1
     exact(TrF.perm (List.perm_middle.symm.cons _) h1).mono fun d st' ⟨S',a1,a2,a3,a4,a5⟩=>⟨S',hJ.yes hin hkk2.out hx hGw hy a1 a2 a3,a4,(BH fb _ _ _).trans a5⟩
    rw[ha] at hg2 hg3
    dsimp only[DV] at hg2 hg3
    rw[show f.cells=[.i f.id,.i f.time,.i f.tmpl,.i f.ver,.sl .shared (f.s.map V.cells)] from rfl] at hg2 hg3 hpas
    generalize f.s.map V.cells=VS at *
    replace hg2:=Lib.hid hg2
    replace hg3:=Lib.hid hg3
    replace hdrop:=Lib.hid hdrop
    replace hE:=Lib.hid hE
    clear v1 v4 hJ hx hxm hy hyp hyf ha hkk2 hin hfid hfm hi0 hn hz hG hF hym hfk hfl hnd hnd2 hnew hFK hGl hGw hk1
    repeat' (first|refine QV ?_|((with_reducible apply(IP (id:=3) [(nb,[.ptr S.g (k*9)])] 8 4));(iterate 3 (focus kernel_rfl));(focus(repeat(first|exact An|refine Aw q_m ?_)));(focus exact rfl);(focus(simp only[List.eraseIdx_cons_succ,List.eraseIdx_cons_zero];rfl)))|((with_reducible refine And.intro ?_ ?_);(focus exact q_k))|((with_reducible apply(Br Tryz.call64));(focus exact List.Perm.refl _);(focus exact hg2.out);(focus exact LEL.refl _);(focus exact⟨_,_,rfl,rfl⟩);(rintro d2 st2 ⟨rfl,rfl⟩;refine⟨by first|exact An|exact Hm q_m,?_⟩))|((with_reducible apply(Br Tryz.call64));(focus exact List.Perm.refl _);(focus exact(hg3.out _));(focus exact LEL.refl _);(focus exact⟨_,_,rfl,rfl⟩);(rintro d2 st2 ⟨rfl,rfl⟩;refine⟨by first|exact An|exact Hm q_m,?_⟩))|((with_reducible apply(Bf (id:=5) [(nb,[.ptr S.g (k*9)])]));(iterate 3 (focus kernel_rfl));(focus exact q_k);intro hne;(try simp only[nes,ne1,and_assoc] at hne);repeat(have hq:=hne.1;replace hne:=hne.2))|((with_reducible refine And.intro ?_ ?_);(focus exact q_k))|((with_reducible apply(Br Tryz.call68));(focus exact List.Perm.refl _);(focus exact hdrop.out _);(focus exact LEL.refl _);(focus exact hE.out _);(rintro d2 st2 ⟨M2,hok2,rfl,hp2⟩;refine⟨An,?_⟩))|((with_reducible refine Af hp2.symm ?_))|((with_reducible apply(Ah (f:=100) (henter:=Tryz.call100) (hp:=List.Perm.refl _) (h:=hpas.out M2 _ hok2)));(focus exact q_v);(focus(first|exact LEL.refl _|((repeat' (first|exact LEL.nil|refine LEL.cons ?_ ?_|exact LE.refl _|exact LE.sl _ _|refine LE.agg ?_));done)));(rintro d0 st0 ⟨S',h1,rfl,hp4⟩))|(with_reducible refine Bl ?_)|refine QY ?_|(refine QB ?_;intro b)|(with_reducible refine QZ ?_<;>(try constructor)<;>intro hb<;>try intro hb1)|fail)
    all_goals exact⟨_::((.box nb 164 [.ptr S.g (k*9)]::(S'.st++st))++K'),(by rw[show(Res.box nb 164 [.ptr S.g (k*9)]::(S'.st++st))++K'=Res.box nb 164 [.ptr S.g (k*9)]::(S'.st++(st++K')) from by rw[List.cons_append,List.append_assoc]];exact hp4.symm),_,((List.sublist_cons_self ..).trans (List.sublist_cons_self ..)),S',h1,rfl⟩
 · rintro d K1 C' rfl ⟨Si,hJ,rfl⟩
   have hfin:Hid (∃S',Nt.LeaI S id (S.ns.length - 1) S'∧D.tup []=D.tup []∧(S'.st++st).Perm (Si.st++st)):=⟨Si,by rw[EN] at hJ;exact hJ,rfl,.refl _⟩
   repeat' (first|refine QX ?_|(refine QB ?_;intro b)|(with_reducible refine QZ ?_<;>(try constructor)<;>intro hb<;>try intro hb1)|fail)
   exact Bn q_x q_y (.refl _) (List.Sublist.refl _) (LE.refl _) hfin.out
end
section
attribute [local push_cast] Ad Ae Ao V.cells_mk V.cells_len Nat.mul_one Int.sub_zero List.map_nil beq_self_eq_true bne_self_eq_false List.head?_cons Bool.not_true Bool.not_false Nat.zero_add
attribute [-instance] Aq Av Am AV
inductive IdsR (S:NC):Tok→List Int→Prop
|root {w:Tok} (h:w.anc.tail=[]):IdsR S w []
|zero {w p:Tok} {l:List Int} (hp:p∈S.H) (h:w.anc.tail=p.anc) (h0:w.id=0) (hl:IdsR S p l):IdsR S w l
|cons {w p:Tok} {l:List Int} (hp:p∈S.H) (h:w.anc.tail=p.anc) (h0:w.id≠0) (hl:IdsR S p l):IdsR S w (l++[w.id])
theorem IdsR.ex{S:NC}(hS:Nt.Str S []):∀(n:Nat) (w:Tok),w∈S.H→w.anc.length=n→∃l,IdsR S w l
|0,w,hw,hn=>absurd (List.eq_nil_of_length_eq_zero hn) (hS.ne w hw)
|n+1,w,hw,hn=>by
  by_cases ht:w.anc.tail=[]
  · exact⟨[],.root ht⟩
  · obtain⟨p,hp,e⟩:=hS.up w hw ht
    obtain⟨l,hl⟩:=IdsR.ex hS n p hp (by rw[←e,List.length_tail];omega)
    by_cases h0:w.id=0
    · exact⟨l,.zero hp e h0 hl⟩
    · exact⟨_,.cons hp e h0 hl⟩
def IdO (out:List Int)(d:D)(X:St):Prop:=(out=[]∧d=.sl .tight []∧X=[])∨∃g cap zs,(out.map D.i++zs).length=cap∧d=.ar g 0 out.length cap∧X=[.box g 3 (out.map D.i++zs)]
theorem NC.layW{S:NC}{w:Tok}(hw:w∈S.H)(s:St):∃(UC:List D) (RJ:St),(S.st++s).Perm (.box w.b 119 (w.fromD::.i w.lv::.i w.id::.sl .shared (w.env.map V.cells)::UC)::RJ):=by
 obtain⟨H0,hp⟩:=Nt.tok_split hw
 exact⟨_,_,(NC.at_tok hp).append_right s⟩
theorem Xz(st:St):TrF Tryz.prog 143 [.sl .tight []] st fun d st'=>d=.tup []∧st'=st:=by
 refine Qin [] Tryz.func143 Tryz.results143 Tryz.ntmps143 ?_
 repeat' (first|refine QX ?_|(refine QB ?_;intro b)|(with_reducible refine QZ ?_<;>(try constructor)<;>intro hb<;>try intro hb1)|fail)
 refine Aj (ι:=Nat) (fun i A st'=>A.df=[]∧A.e 2=.i 0∧A.e 3=.i (-1)∧st'=st) (fun i=>i) 0 ⟨Qf,Qf,Qf,rfl⟩ ?_
 rintro i A st' ⟨hdf,e2,e3,rfl⟩
 exact WR
theorem Yn(S:NC)(w:Tok)(l:List Int)(hS:Nt.Str S [])(hw:w∈S.H)(hl:IdsR S w l)(st:St):TrF Tryz.prog 107 [.ptr w.b 0] (S.st++st) fun d st'=>∃X,IdO l d X∧st'.Perm (X++(S.st++st)):=by
 have hS2:=Lib.hid hS
 clear hS
 refine Qin [2] Tryz.func107 Tryz.results107 Tryz.ntmps107 ?_
 repeat' (first|refine QX ?_|(refine QB ?_;intro b)|(with_reducible refine QZ ?_<;>(try constructor)<;>intro hb<;>try intro hb1)|fail)
 refine Aj (ι:=Nat) (fun n A st'=>∃(w:Tok) (l2 out:List Int) (d:D) (X:St),w∈S.H∧w.anc.length=n∧IdsR S w l2∧Hid (l2++out.reverse=l)∧out.length+n≤10∧IdO out d X∧A.df=[]∧A.e 0=.ptr w.b 0∧A.e 3=d∧st'.Perm (X++(S.st++st))) (fun n=>n) w.anc.length ⟨w,l,[],_,[],hw,rfl,hl,by simp[Hid],?_,.inl ⟨rfl,rfl,rfl⟩,Qf,Qf,Qf,.refl _⟩ ?_
 · have:=hS2.out.lv w hw
   have:=hS2.out.nl
   show 0+_≤10
   omega
 clear hl hw w
 rintro n A st' ⟨w,l2,out,d,X,hw,hn,hl,hout,hlen,hO,hdf,e0,e3,hp⟩
 obtain⟨UC,RJ,v1⟩:=NC.layW hw st
 have hp2:st'.Perm (.box w.b 119 (w.fromD::.i w.lv::.i w.id::.sl .shared (w.env.map V.cells)::UC)::(X++RJ)):=(hp.trans (v1.append_left X)).trans List.perm_middle
 refine Af hp2 ?_
 by_cases ht:w.anc.tail=[]
 · have hfd:w.fromD=.s (.pointer none):=by unfold Tok.fromD;rw[ht]
   have hl0:l2=[]:=by
    cases hl with
    | root=>rfl
    | zero hq h=>exact absurd (h.symm.trans ht) (hS2.out.ne _ hq)
    | cons hq h=>exact absurd (h.symm.trans ht) (hS2.out.ne _ hq)
   subst hl0
   have hr:Hid (out.reverse=l):=by
    have:=hout.out
    rwa[List.nil_append] at this
   have hb:out.length≤10:=by omega
   have hv:Hid ((Res.box w.b 119 (.s (.pointer none)::.i w.lv::.i w.id::.sl .shared (w.env.map V.cells)::UC)::RJ).Perm (S.st++st)):=by
    rw[hfd] at v1
    exact v1.symm
   rw[hfd]
   clear hp2 v1 hout hl ht hfd hp hw hn hlen
   generalize w.env.map V.cells=TE at *
   rcases hO with⟨ho,rfl,rfl⟩|⟨g,cap,zs,hz,rfl,rfl⟩
   · subst ho
     have hR:=Lib.hid Xz
     rw[List.nil_append]
     repeat' (first|refine QV ?_|((with_reducible apply Nm);(focus kernel_rfl);(focus exact q_v))|((with_reducible apply(Ah (f:=143) (henter:=Tryz.call143) (hp:=List.Perm.refl _) (h:=(hR.out _))));(focus exact q_v);(focus(first|exact LEL.refl _|((repeat' (first|exact LEL.nil|refine LEL.cons ?_ ?_|exact LE.refl _|exact LE.sl _ _|refine LE.agg ?_));done)));(rintro d0 st0 ⟨rfl,rfl⟩))|refine QY ?_|(refine QB ?_;intro b)|(with_reducible refine QZ ?_<;>(try constructor)<;>intro hb<;>try intro hb1)|fail)
     all_goals exact Ab (by simp) q_y (List.Sublist.refl _) (LE.refl _) ⟨[],.inl ⟨hr.out.symm,by(try simp(disch:=omega) only[push_cast,simprocAttr, *]);(try exact rfl);done,rfl⟩,hv.out⟩
   · have hR:=Lib.hid (XA g cap out zs hz q_o)
     have hrr:=hr.out
     have hzr:Hid ((l.map D.i++zs).length=cap∧l.length=out.length):=by
      rw[←hrr]
      refine Lib.hid ⟨?_,List.length_reverse⟩
      rw[List.length_append,List.length_map,List.length_reverse]
      rw[List.length_append,List.length_map] at hz
      exact hz
     rw[hrr] at hR
     clear hrr
     rw[show∀(a b:Res) (c:St),a::([b]++c)=a::b::c from fun _ _ _=>rfl]
     generalize out.map D.i++zs=RO at *
     generalize hRL:l.map D.i++zs=RL at *
     repeat' (first|refine QV ?_|((with_reducible apply Nm);(focus kernel_rfl);(focus exact q_v))|((with_reducible apply(Ah (f:=143) (henter:=Tryz.call143) (hp:=List.Perm.swap _ _ _) (h:=(hR.out _))));(focus exact q_v);(focus(first|exact LEL.refl _|((repeat' (first|exact LEL.nil|refine LEL.cons ?_ ?_|exact LE.refl _|exact LE.sl _ _|refine LE.agg ?_));done)));(rintro d0 st0 ⟨rfl,rfl⟩))|refine QY ?_|(refine QB ?_;intro b)|(with_reducible refine QZ ?_<;>(try constructor)<;>intro hb<;>try intro hb1)|fail)
     all_goals exact Ab (by simp) q_y (List.Sublist.refl _) (LE.refl _) ⟨[.box g 3 RL],.inr ⟨g,cap,zs,by rw[hRL];exact hzr.out.1,by rw[hzr.out.2];(try simp(disch:=omega) only[push_cast,simprocAttr, *]);(try exact rfl);done,by rw[hRL]⟩,hv.out.cons _⟩
 · obtain⟨p,hpm,hpe⟩:=hS2.out.up w hw ht
   have hfd:w.fromD=.ptr p.b 0:=by
    have h1:=Nt.tok_b (hS2.out.ne p hpm)
    unfold Tok.fromD
    rw[hpe,h1]
   have hpn:p.anc.length+1=n:=by
    have h1:=Nt.tok_b (hS2.out.ne w hw)
    rw[h1,List.length_cons,hpe] at hn
    exact hn
   have hback:Hid ((Res.box w.b 119 (.ptr p.b 0::.i w.lv::.i w.id::.sl .shared (w.env.map V.cells)::UC)::(X++RJ)).Perm (X++(S.st++st))):=by
    rw[←hfd]
    exact hp2.symm.trans hp
   have hv:Hid ((Res.box w.b 119 (.ptr p.b 0::.i w.lv::.i w.id::.sl .shared (w.env.map V.cells)::UC)::RJ).Perm (S.st++st)):=by
    rw[hfd] at v1
    exact v1.symm
   rw[hfd]
   clear hp2 v1 hp hfd
   generalize w.env.map V.cells=TE at *
   cases hl with
   | root h=>exact absurd h ht
   | @zero _ p2 l3 hq h h0 hl3 =>
    have:=hS2.out.anc_b hq hpm (h.symm.trans hpe)
    subst this
    clear ht hw
    have HO:=Lib.hid hO
    clear hO hn
    rw[h0] at *
    repeat' (first|refine QV ?_|((with_reducible apply(Fy (b:=p2.b) (off:=0)));(focus kernel_rfl);(focus exact q_v))|refine QY ?_|(refine QB ?_;intro b)|(with_reducible refine QZ ?_<;>(try constructor)<;>intro hb<;>try intro hb1)|fail)
    refine⟨p2.anc.length,_,List.Sublist.refl _,⟨p2,l2,out,d,X,hq,rfl,hl3,hout,by omega,HO.out,?_,?_,?_,hback.out⟩,by omega⟩
    all_goals exact Qf
   | @cons _ p2 l3 hq h h0 hl3 =>
    have:=hS2.out.anc_b hq hpm (h.symm.trans hpe)
    subst this
    have hout2:Hid (l3++(out++[w.id]).reverse=l):=by
     have h1:=hout.out
     rw[List.append_assoc] at h1
     rw[List.reverse_append]
     exact h1
    have hol:(out++[w.id]).length+p2.anc.length≤10:=by rw[List.length_append,List.length_singleton];omega
    clear ht hw hn hout
    generalize w.id=wi at *
    rcases hO with⟨ho,rfl,rfl⟩|⟨g,cap,zs,hz,rfl,rfl⟩
    · subst ho
      rw[List.nil_append]
      repeat' (first|refine QV ?_|((with_reducible apply(Fy (b:=p2.b) (off:=0)));(focus kernel_rfl);(focus exact q_v))|with_reducible refine Em ?_|with_reducible refine Gs ?_|((with_reducible apply Eo);(focus exact q_n);(focus exact AF rfl);(focus exact q_n);(focus exact q_n);intro g' cap' zs' hc hl')|refine QY ?_|(refine QB ?_;intro b)|(with_reducible refine QZ ?_<;>(try constructor)<;>intro hb<;>try intro hb1)|fail)
      refine⟨p2.anc.length,_,List.Sublist.refl _,⟨p2,l3,[wi],.ar g' 0 1 cap',[.box g' 3 ([[D.i wi]].flatten++zs')],hq,rfl,hl3,hout2,hol,.inr ⟨g',cap',zs',?_,?_,rfl⟩,?_,?_,?_,hv.out.cons _⟩,by omega⟩
      · rw[Nat.mul_one] at hl';exact hl'
      · exact rfl
      all_goals exact Qf
    · have hrl:(out.map D.i).length=out.length*1:=by rw[List.length_map,Nat.mul_one]
      have hzl:(out.map D.i++zs).length=cap*1:=by rw[hz,Nat.mul_one]
      have hle:out.length≤10:=by rw[List.length_append] at hol;omega
      have hmap:(out++[wi]).map D.i=out.map D.i++[[D.i wi]].flatten:=by rw[List.map_append];rfl
      rw[show∀(a b:Res) (c:St),a::([b]++c)=a::b::c from fun _ _ _=>rfl]
      clear hback
      repeat' (first|refine QV ?_|((with_reducible apply(Fy (b:=p2.b) (off:=0)));(focus kernel_rfl);(focus exact q_v))|with_reducible refine DK ?_|with_reducible refine FD ?_|((with_reducible apply(DN hrl hzl));(focus(intro g' cs';repeat(first|exact Dl|apply Dk)));(focus exact AF rfl);(iterate 2 (focus exact q_n));intro g1 c1 z1 hc1 hl1)|refine QY ?_|(refine QB ?_;intro b)|(with_reducible refine QZ ?_<;>(try constructor)<;>intro hb<;>try intro hb1)|fail)
      refine⟨p2.anc.length,_,List.Sublist.refl _,⟨p2,l3,out++[wi],.ar g1 0 (out.length+1) c1,[.box g1 3 (out.map D.i++[[D.i wi]].flatten++z1)],hq,rfl,hl3,hout2,hol,.inr ⟨g1,c1,z1,?_,?_,?_⟩,?_,?_,?_,?_⟩,by omega⟩
      · rw[hmap];rw[Nat.mul_one] at hl1;exact hl1
      · rw[List.length_append,List.length_singleton]
      · rw[hmap]
      · exact Qf
      · exact Qf
      · exact Qf
      · exact(List.Perm.swap _ _ _).trans (hv.out.cons _)
end
section
theorem DQ{α:Type}:∀{l m:List α},l.Nodup→m.Nodup→(∀a,a∈l↔a∈m)→l.Perm m
|[],m,_,_,h=>by
  cases m with
  | nil=>exact .refl _
  | cons b m=>exact absurd ((h b).2 (List.mem_cons_self ..)) List.not_mem_nil
|a::l,m,hl,hm,h=>by
  obtain⟨m1,m2,rfl⟩:=List.append_of_mem ((h a).1 (List.mem_cons_self ..))
  have h1:=List.perm_middle.nodup_iff.1 hm
  rw[List.nodup_cons] at hl h1
  refine(List.Perm.cons a (DQ hl.2 h1.2 fun b=>?_)).trans List.perm_middle.symm
  constructor
  · intro hb
    have:=(h b).1 (List.mem_cons_of_mem _ hb)
    rw[List.perm_middle.mem_iff,List.mem_cons] at this
    exact this.resolve_left (fun e=>hl.1 (e▸hb))
  · intro hb
    have:b∈a::l:=(h b).2 (List.perm_middle.mem_iff.2 (List.mem_cons_of_mem _ hb))
    exact(List.mem_cons.1 this).resolve_left (fun e=>h1.1 (e▸hb))
theorem Er{α β:Type}:∀{l:List α} {f g:α→List β},(∀a∈l,(f a).Perm (g a))→(l.flatMap f).Perm (l.flatMap g)
|[],_,_,_=>.refl _
|a::l,f,g,h=>by
  rw[List.flatMap_cons,List.flatMap_cons]
  exact(h a (List.mem_cons_self ..)).append (Er fun b hb=>h b (List.mem_cons_of_mem _ hb))
namespace Mat
theorem UA{t:Ts}{f:Fc}{env e env':List V}(h:test t f env=some e)(hk:t.kind<5)(hl:env'.length=env.length):test t f env'=some env':=by
 unfold test at h ⊢
 rw[hl]
 by_cases hc:0≤t.slot∧t.slot<f.s.length∧0≤t.var∧t.var<env.length∧1≤t.kind∧t.kind≤9
 · rw[if_pos hc] at h ⊢
   rw[if_neg q_o,if_pos hk] at h ⊢
   split at h
   · rename_i hh;rw[if_pos hh]
   · cases h
 · rw[if_neg hc] at h;cases h
theorem Sa{t:Ts}{f:Fc}{env e:List V}(h:test t f env=some e):e.length=env.length:=by
 unfold test at h
 repeat' split at h
 all_goals first
  | (cases h;done)
  | (cases h;first|rfl|exact List.length_set ..)
theorem HH{f:Fc}:∀(l:List Ts) (env e:List V),tests f l env=some e→∀env':List V,env'.length=env.length→(tests f (l.filter fun t=>decide (t.kind<5)) env').isSome=true
|[],_,_,_,env',_=>rfl
|t::l,env,e,h,env',hl=>by
  unfold tests at h
  cases ht:test t f env with
  | none=>rw[ht] at h;cases h
  | some e1 =>
   rw[ht] at h
   have h1:=Sa ht
   by_cases hk:t.kind<5
   · rw[List.filter_cons_of_pos (by simpa using hk)]
     unfold tests
     rw[UA ht hk hl]
     exact HH l e1 e h env' (by rw[h1,hl])
   · rw[List.filter_cons_of_neg (by simpa using hk)]
     exact HH l e1 e h env' (by rw[h1,hl])
theorem Pk{p:Pt}{f:Fc}{env e:List V}(h:pass p f env=some e):solo p f=true:=by
 unfold pass at h
 by_cases hc:p.tmpl=f.tmpl∧env.length=8
 · rw[if_pos hc] at h
   unfold solo pass
   rw[if_pos ⟨hc.1,rfl⟩]
   exact HH p.tests env e h empty (by rw[hc.2];rfl)
 · rw[if_neg hc] at h;cases h
theorem passL_alone(p:Pt)(F:List Fc)(env:List V):passL p (F.filter (solo p)) env=passL p F env:=by
 induction F with
|nil=>rfl
|cons f F ih =>
  by_cases ha:solo p f=true
  · rw[List.filter_cons_of_pos ha]
    unfold passL at ih ⊢
    rw[List.filterMap_cons,List.filterMap_cons,ih]
  · rw[List.filter_cons_of_neg ha,ih]
    have:pass p f env=none:=by
     cases h:pass p f env with
     | none=>rfl
     | some e=>exact absurd (Pk h) ha
    rw[Nt.passL_none this]
theorem nil_iff{α:Type}{l m:List α}(h:l.Perm m):l=[]↔m=[]:=⟨fun e=>List.perm_nil.1 (e▸h.symm),fun e=>List.perm_nil.1 (e▸h)⟩
theorem passL_nodup(p:Pt){F:List Fc}(env:List V)(h:(F.map Fc.id).Nodup):((passL p F env).map Prod.fst).Nodup:=by
 refine h.sublist ?_
 induction F with
|nil=>exact List.Sublist.refl _
|cons f F ih =>
  rw[List.map_cons,List.nodup_cons] at h
  have h1:=ih h.2
  unfold passL at h1 ⊢
  cases hp:pass p f env with
  | none=>rw[List.filterMap_cons_none (by rw[hp];rfl)];exact h1.cons _
  | some e=>rw[List.filterMap_cons_some (by rw[hp];rfl)];exact h1.cons_cons _
theorem passL_mem{p:Pt}{F:List Fc}{env:List V}{y:Int×List V}(h:y∈passL p F env):∃f∈F,f.id=y.1∧pass p f env=some y.2:=by
 unfold passL at h
 obtain⟨f,hf,e⟩:=List.mem_filterMap.1 h
 cases hp:pass p f env with
|none=>rw[hp] at e;cases e
|some e1=>rw[hp] at e;cases e;exact⟨f,hf,rfl,hp⟩
end Mat
namespace Nt
theorem exps_perm{p:Pt}{F G:List Fc}{env:List V}(h:F.Perm G):(exps p F env).Perm (exps p G env):=by
 unfold exps
 have h1:=passL_perm (p:=p) h env
 have h2:=Mat.nil_iff h1
 split
 · by_cases e:Mat.passL p F env=[]
   · rw[if_pos e,if_pos (h2.1 e)]
   · rw[if_neg e,if_neg (fun k=>e (h2.2 k))]
 · exact h1
theorem exps_alone(p:Pt)(F:List Fc)(env:List V):exps p (F.filter (Mat.solo p)) env=exps p F env:=by
 unfold exps
 rw[Mat.passL_alone]
theorem exps_nodup(p:Pt){F:List Fc}(env:List V)(h:(F.map Fc.id).Nodup):(exps p F env).Nodup:=by
 unfold exps
 split
 · split
   · exact List.nodup_cons.2 ⟨List.not_mem_nil,List.nodup_nil⟩
   · exact List.nodup_nil
 · have h1:=Mat.passL_nodup p env h
   exact(List.pairwise_map.1 h1).imp fun hne e=>hne (congrArg Prod.fst e)
end Nt
def stp (p:Pt)(F:List Fc)(y:List Int×List V):List (List Int×List V):=(Nt.exps p F y.2).map fun z=>(if p.neg=true then y.1 else y.1++[z.1],z.2)
theorem Io(F:List Fc)(p:Pt):∀(ps:List Pt) (ids:List Int) (env:List V),Mat.from_ F (ps++[p]) ids env=(Mat.from_ F ps ids env).flatMap (stp p F)
|[],ids,env=>by
  rw[List.nil_append]
  simp only[Mat.from_,List.flatMap_cons,List.flatMap_nil,List.append_nil]
  unfold stp Nt.exps
  dsimp only
  by_cases hn:p.neg=true
  · rw[if_pos hn,if_pos hn]
    by_cases h0:Mat.passL p F env=[]
    · rw[if_pos h0,if_pos h0];simp[hn]
    · rw[if_neg h0,if_neg h0];rfl
  · rw[if_neg hn,if_neg hn,List.map_eq_flatMap]
    refine Mat.flatMap_congr fun z _=>?_
    rw[if_neg hn]
|q::ps,ids,env=>by
  rw[List.cons_append]
  simp only[Mat.from_]
  by_cases hn:q.neg=true
  · rw[if_pos hn,if_pos hn]
    by_cases h0:Mat.passL q F env=[]
    · rw[if_pos h0,if_pos h0];exact Io F p ps ids env
    · rw[if_neg h0,if_neg h0];rfl
  · rw[if_neg hn,if_neg hn,List.flatMap_assoc]
    exact Mat.flatMap_congr fun x _=>Io F p ps _ _
theorem from_perm{F G:List Fc}(h:F.Perm G):∀(ps:List Pt) (ids:List Int) (env:List V),(Mat.from_ F ps ids env).Perm (Mat.from_ G ps ids env)
|[],_,_=>.refl _
|p::ps,ids,env=>by
  simp only[Mat.from_]
  have h1:=Nt.passL_perm (p:=p) h env
  have h2:=Mat.nil_iff h1
  by_cases hn:p.neg=true
  · rw[if_pos hn,if_pos hn]
    by_cases e:Mat.passL p F env=[]
    · rw[if_pos e,if_pos (h2.1 e)];exact from_perm h ps ids env
    · rw[if_neg e,if_neg (fun k=>e (h2.2 k))]
  · rw[if_neg hn,if_neg hn]
    exact(h1.flatMap_right _).trans (Er fun x _=>from_perm h ps _ _)
theorem IdsR.fn{S:NC}(hS:Nt.Str S []){w:Tok}{l m:List Int}(h:IdsR S w l)(k:IdsR S w m):l=m:=by
 induction h generalizing m with
|root h=>cases k with
  | root=>rfl
  | zero hp e=>exact absurd (e.symm.trans h) (hS.ne _ hp)
  | cons hp e=>exact absurd (e.symm.trans h) (hS.ne _ hp)
|zero hp e h0 hl ih=>cases k with
  | root h=>exact absurd (e.symm.trans h) (hS.ne _ hp)
  | zero hq e' h0' hl' =>
   have:=hS.anc_b hp hq (e.symm.trans e')
   subst this
   exact ih hl'
  | cons hq e' h0'=>exact absurd h0 h0'
|cons hp e h0 hl ih=>cases k with
  | root h=>exact absurd (e.symm.trans h) (hS.ne _ hp)
  | zero hq e' h0'=>exact absurd h0' h0
  | cons hq e' h0' hl' =>
   have:=hS.anc_b hp hq (e.symm.trans e')
   subst this
   rw[ih hl']
open Classical in
noncomputable def Eh (S:NC)(w:Tok):List Int:=if h:∃l,IdsR S w l then Classical.choose h else[]
theorem Gh{S:NC}{w:Tok}(hS:Nt.Str S [])(hw:w∈S.H):IdsR S w (Eh S w):=by
 have h:=IdsR.ex hS _ w hw rfl
 unfold Eh
 rw[dif_pos h]
 exact Classical.choose_spec h
theorem PG{S:NC}{w:Tok}(hS:Nt.Str S [])(hw:w∈S.H)(h:w.anc.tail=[]):Eh S w=[]:=(Gh hS hw).fn hS (.root h)
theorem Tz{S:NC}{w p:Tok}(hS:Nt.Str S [])(hw:w∈S.H)(hp:p∈S.H)(h:w.anc.tail=p.anc):Eh S w=if w.id=0 then Eh S p else Eh S p++[w.id]:=by
 by_cases h0:w.id=0
 · rw[if_pos h0];exact(Gh hS hw).fn hS (.zero hp h h0 (Gh hS hp))
 · rw[if_neg h0];exact(Gh hS hw).fn hS (.cons hp h h0 (Gh hS hp))
structure ChainOk (S:NC)(ps:List Pt)(F:List Fc):Prop where
 str:Nt.Str S []
 loc:Nt.Loc S []
 nl:S.ns.length=ps.length+1
 ns:∀(k:Nat) (p:Pt),ps[k]?=some p→∃y,S.ns[k]?=some y∧y.p=p∧y.fs.Perm (F.filter (Mat.solo p))
 last:∃y,S.ns[ps.length]?=some y∧y.fs=[]
def lvl (S:NC)(k:Nat):List Tok:=S.H.filter fun u=>decide (u.anc.length=k+1)
def GI (S:NC)(t:Tok):List Tok:=S.H.filter fun u=>decide (u.anc.tail=t.anc)
noncomputable def tkR (S:NC)(u:Tok):List Int×List V:=(Eh S u,u.env)
variable {S:NC} {ps:List Pt} {F:List Fc}
theorem Cg{k:Nat}{u:Tok}:u∈lvl S k↔u∈S.H∧u.anc.length=k+1:=by unfold lvl;rw[List.mem_filter,decide_eq_true_iff]
theorem Bj{t u:Tok}:u∈GI S t↔u∈S.H∧u.anc.tail=t.anc:=by unfold GI;rw[List.mem_filter,decide_eq_true_iff]
theorem Gl(hS:Nt.Str S []):S.H.Nodup:=(List.pairwise_map.1 hS.nd).imp fun hne e=>hne (congrArg Tok.b e)
theorem ZT(hS:Nt.Str S []){k:Nat}{x:Nd}(hx:S.ns[k]?=some x):x.ts.Perm ((lvl S k).map Tok.b):=by
 refine DQ (hS.tn k x hx) (List.pairwise_map.2 (((Gl hS).sublist List.filter_sublist).imp_of_mem fun {a b} ha hb hne e=>hne (hS.same (Cg.1 ha).1 (Cg.1 hb).1 e))) fun b=>?_
 rw[hS.tm k x hx b,List.mem_map]
 constructor
 · rintro⟨u,h1,h2,h3, -⟩;exact⟨u,Cg.2 ⟨h1,h3⟩,h2⟩
 · rintro⟨u,h1,h2⟩;exact⟨u,(Cg.1 h1).1,h2,(Cg.1 h1).2,List.not_mem_nil⟩
theorem Tv(h:ChainOk S ps F)(hid:∀f∈F,f.id≠0)(hnd:(F.map Fc.id).Nodup){k:Nat}{p:Pt}(hp:ps[k]?=some p){t:Tok}(ht:t∈lvl S k):((GI S t).map (tkR S)).Perm (stp p F (tkR S t)):=by
 obtain⟨x,hx,hxp,hxf⟩:=h.ns k p hp
 obtain⟨htm,htl⟩:=Cg.1 ht
 have hkl:=(List.getElem?_eq_some_iff.1 hp).1
 have hP:=(h.loc t htm List.not_mem_nil).part (by rw[htl,h.nl];omega) (x:=x) (by rw[htl];exact hx)
 have hfe:∀y,y∈Nt.exps x.p x.fs t.env↔y∈Nt.exps p F t.env:=fun y=>by
  rw[hxp,←Nt.exps_alone p F]
  exact(Nt.exps_perm hxf).mem_iff
 have h1:((GI S t).map fun u=>(u.id,u.env)).Perm (Nt.exps p F t.env):=by
  refine DQ ?_ (Nt.exps_nodup p _ hnd) fun y=>?_
  · refine List.pairwise_map.2 (((Gl h.str).sublist List.filter_sublist).imp_of_mem fun {a b} ha hb hne e=>hne ?_)
    exact hP.one a (Bj.1 ha).1 b (Bj.1 hb).1 (Bj.1 ha).2 (Bj.1 hb).2 (congrArg Prod.fst e)
  · rw[List.mem_map,←hfe]
    constructor
    · rintro⟨u,hu,rfl⟩
      exact hP.sub u (Bj.1 hu).1 (Bj.1 hu).2
    · intro hy
      obtain⟨u,u1,u2,u3⟩:=hP.all y hy
      exact⟨u,Bj.2 ⟨u1,u2⟩,u3⟩
 have h2:(GI S t).map (tkR S)=((GI S t).map fun u=>(u.id,u.env)).map fun z=>((if z.1=0 then Eh S t else Eh S t++[z.1],z.2):List Int×List V):=by
  rw[List.map_map]
  refine List.map_congr_left fun u hu=>?_
  obtain⟨u1,u2⟩:=Bj.1 hu
  show(Eh S u,u.env)=_
  rw[Tz h.str u1 htm u2]
  rfl
 rw[h2]
 refine(h1.map _).trans ?_
 unfold stp
 refine List.Perm.of_eq (List.map_congr_left fun z hz=>?_)
 show _=((if p.neg=true then Eh S t else Eh S t++[z.1],z.2):List Int×List V)
 unfold Nt.exps at hz
 by_cases hn:p.neg=true
 · rw[if_pos hn] at hz ⊢
   by_cases h0:Mat.passL p F t.env=[]
   · have hz:z∈(if Mat.passL p F t.env=[] then[((0:Int),t.env)] else[]):=hz
     rw[if_pos h0,List.mem_singleton] at hz
     rw[hz,if_pos rfl]
   · have hz:z∈(if Mat.passL p F t.env=[] then[((0:Int),t.env)] else[]):=hz
     rw[if_neg h0] at hz
     cases hz
 · rw[if_neg hn] at hz ⊢
   obtain⟨f,hf,e, -⟩:=Mat.passL_mem hz
   rw[if_neg (by rw[←e];exact hid f hf)]
theorem Og(h:ChainOk S ps F)(hid:∀f∈F,f.id≠0)(hnd:(F.map Fc.id).Nodup):∀k,k≤ps.length→((lvl S k).map (tkR S)).Perm (Mat.from_ F (ps.take k) [] Mat.empty)
|0,_=>by
  obtain⟨r,r1,r2,r3,r4⟩:=h.str.rx
  have h1:(lvl S 0).Perm [r]:=DQ ((Gl h.str).sublist List.filter_sublist) (List.nodup_cons.2 ⟨List.not_mem_nil,List.nodup_nil⟩) fun u=>by
   rw[Cg,List.mem_singleton]
   constructor
   · rintro⟨u1,u2⟩;exact h.str.same u1 r1 (h.str.rt u u1 r r1 u2 r2)
   · rintro rfl;exact⟨r1,r2⟩
  refine(h1.map _).trans ?_
  have h2:tkR S r=([],Mat.empty):=by
   unfold tkR
   rw[PG h.str r1 (List.eq_nil_of_length_eq_zero (by rw[List.length_tail,r2])),r4]
  rw[List.map_cons,List.map_nil,h2]
  exact .refl _
|k+1,hk=>by
  obtain⟨p,hp⟩:=gEx (l:=ps) (i:=k) q_o
  rw[List.take_add_one,hp,Option.toList_some,Io]
  have ih:=(Og h hid hnd k q_o).flatMap_right (stp p F)
  refine List.Perm.trans ?_ ih
  rw[List.flatMap_map]
  have h1:(lvl S (k+1)).Perm ((lvl S k).flatMap (GI S)):=by
   refine DQ ((Gl h.str).sublist List.filter_sublist) (List.pairwise_flatMap.2 ⟨fun a _=>(Gl h.str).sublist List.filter_sublist,((Gl h.str).sublist List.filter_sublist).imp_of_mem fun {a b} ha hb hne=>?_⟩) fun u=>?_
   · rintro x hx y hy rfl
     exact hne (h.str.anc_b (Cg.1 ha).1 (Cg.1 hb).1 ((Bj.1 hx).2.symm.trans (Bj.1 hy).2))
   · rw[Cg,List.mem_flatMap]
     constructor
     · rintro⟨u1,u2⟩
       have hne:u.anc.tail≠[]:=fun e=>by
        have:=congrArg List.length e
        rw[List.length_tail,u2] at this
        cases this
       obtain⟨t,t1,t2⟩:=h.str.up u u1 hne
       refine⟨t,Cg.2 ⟨t1,?_⟩,Bj.2 ⟨u1,t2⟩⟩
       rw[←t2,List.length_tail,u2];rfl
     · rintro⟨t,t1,t2⟩
       obtain⟨u1,u2⟩:=Bj.1 t2
       have h3:=(Cg.1 t1).2
       have h4:=congrArg List.length u2
       rw[List.length_tail] at h4
       have:=List.length_pos_iff.2 (h.str.ne u u1)
       exact⟨u1,by omega⟩
  refine(h1.map _).trans ?_
  rw[List.map_flatMap]
  exact Er fun t ht=>Tv h hid hnd hp ht
end
section
theorem LH:∀l:List Int,(l.map Ae).flatten=l.map D.i
|[]=>rfl
|a::l=>by rw[List.map_cons,List.flatten_cons,LH l];rfl
section
variable {P:Program} {f:FuncId} {args:List D} {st s0:St} {l:List Int}
theorem TrF.frI(h:TrF P f args st fun d st'=>∃X,IdO l d X∧st'.Perm (X++s0)):TrF P f args st fun d st'=>d=.sl .shared (l.map Ae)∧st'=s0:=by
 intro vs w h1 h2
 refine(h vs w h1 h2).mono fun _ w' ⟨v,ev,d,s,k1,k2,k3,X,hX,hp⟩=>?_
 have k1':Rep (OwnS (X++s0)) w' v d:=by rw[←OwnS.perm hp];exact k1
 have k2':Holds (X++s0) w':=k2.perm hp
 have k3':Ext (OwnS st) w (OwnS (X++s0)) w':=by rw[←OwnS.perm hp];exact k3
 rcases hX with⟨rfl,rfl,rfl⟩|⟨g,cap,zs,hz,rfl,rfl⟩
 · exact⟨v,ev,_,s0,(LE.sl .tight []) _ _ _ k1',k2',k3',rfl,rfl⟩
 · have hfl:=LH l
   have hes:∀e∈l.map Ae,e.length=1:=fun e he=>by
    obtain⟨a, -,rfl⟩:=List.mem_map.1 he
    rfl
   rw[←hfl] at k1' k2' k3'
   have hr:=FA (sz:=1) k2' (by decide) hes (List.length_map ..) v k1'
   have he:=Ext.drop (st:=.box g 3 ((l.map Ae).flatten++zs)::s0) (st':=s0) (fun _ h=>List.mem_cons_of_mem _ h) w'
   exact⟨v,ev,_,s0,hr,k2'.sub (List.sublist_cons_self _ _),k3'.trans he,rfl,rfl⟩
end
theorem fe(S:NC)(w:Tok)(hS:Nt.Str S [])(hw:w∈S.H)(st:St):TrF Tryz.prog 107 [.ptr w.b 0] (S.st++st) fun d st'=>d=.sl .shared ((Eh S w).map Ae)∧st'=S.st++st :=
 (Yn S w _ hS hw (Gh hS hw) st).frI
section
variable {P:Program} {N:Nat} {r:Option Nat} {c:Code} {A:AA} {st:St} {Q:Exit→AA→St→Prop}
theorem Ux{b:Nat}{ty:TypeId}{cs cs':List D}{s:St}(hp:st.Perm (.box b ty cs::s))(hle:LEL cs cs')(hl:∀d∈cs',d.leaf=true)(h:Tr P N r c A (.box b ty cs'::s) Q):Tr P N r c A st Q:=by
 refine Af hp ?_
 intro a w h1 h2
 obtain⟨⟨us,hb,hr⟩,hlc⟩:=h2.2 (.box b ty cs) (List.mem_cons_self ..)
 have hO:OwnS (.box b ty cs::s)=OwnS (.box b ty cs'::s):=by
  funext b' off;apply propext
  rw[OwnS.cons_iff,OwnS.cons_iff];exact Iff.rfl
 have h4:Holds (.box b ty cs'::s) w:=by
  refine⟨List.pairwise_cons.2 ⟨fun x hx b' hb'=>(List.pairwise_cons.1 h2.1).1 x hx b' hb',(List.pairwise_cons.1 h2.1).2⟩,fun x hx=>?_⟩
  rcases List.mem_cons.1 hx with rfl|hx
  · exact⟨⟨us,hb,by rw[←hO];exact hle.repL hr⟩,hl⟩
  · rw[←hO];exact h2.2 x (List.mem_cons_of_mem _ hx)
 have he:Ext (OwnS (.box b ty cs::s)) w (OwnS (.box b ty cs'::s)) w:=by rw[←hO];exact Ext.refl _ _
 exact wpIn_mono (h a w (h1.ext he) h4) fun _ _ _=>PostA.ext he
end
end
section
structure NT where
 b:Nat
 cs:List NC
 fm:MemP
 fs:List Fc
def NT.row (N:NT):List (List D):=N.cs.map fun S=>[D.ptr S.c 0]
def NT.cells (N:NT):List D:=.sl .shared N.row::N.fm.cells N.fs.length
def NT.st (N:NT):St:=.box N.b 105 N.cells::(N.fm.resF N.fs++N.cs.flatMap NC.st)
structure NT.Ok (N:NT)(R:List Rl):Prop where
 fok:N.fm.okF N.fs
 fk:FKs N.fs
 fl:N.fs.length≤1000
 f0:∀f∈N.fs,f.id≠0
 cl:N.cs.length=R.length
 ch:∀(i:Nat) (x:Rl) (S:NC),R[i]?=some x→N.cs[i]?=some S→ChainOk S x.pats N.fs
variable {S S':NC} {ps:List Pt} {F G:List Fc} {f:Fc}
theorem ChainOk.node(h:ChainOk S ps F){x:Nd}(hx:x∈S.ns):(∃p,x.fs.Perm (F.filter (Mat.solo p)))∨x.fs=[]:=by
 obtain⟨k,hk⟩:=List.getElem?_of_mem hx
 have hkl:=(List.getElem?_eq_some_iff.1 hk).1
 rw[h.nl] at hkl
 by_cases e:k=ps.length
 · obtain⟨y,y1,y2⟩:=h.last
   rw[e,y1] at hk
   cases hk
   exact .inr y2
 · obtain⟨p,hp⟩:=gEx (l:=ps) (i:=k) q_o
   obtain⟨y,y1, -,y2⟩:=h.ns k p hp
   rw[y1] at hk
   cases hk
   exact .inl ⟨p,y2⟩
theorem ChainOk.new(h:ChainOk S ps F)(hf:f.id∉F.map Fc.id):∀x∈S.ns,f.id∉x.fs.map Fc.id:=fun x hx hm=>by
 rcases h.node hx with⟨p,hp⟩|e
 · obtain⟨g,hg,e⟩:=List.mem_map.1 hm
   exact hf (List.mem_map.2 ⟨g,(List.mem_filter.1 (hp.mem_iff.1 hg)).1,e⟩)
 · rw[e] at hm;cases hm
theorem ChainOk.few(h:ChainOk S ps F){n:Nat}(hn:F.length<n):∀x∈S.ns,x.fs.length<n:=fun x hx=>by
 rcases h.node hx with⟨p,hp⟩|e
 · rw[hp.length_eq]
   exact Nat.lt_of_le_of_lt (List.length_filter_le ..) hn
 · rw[e];exact Nat.lt_of_le_of_lt (Nat.zero_le _) hn
theorem ChainOk.come(h:ChainOk S ps F)(hC:Nt.ComeI S f (S.ns.length - 1) S'):ChainOk S' ps (F++[f]):=by
 refine⟨hC.str,hC.loc,hC.nl.trans h.nl,fun k p hp=>?_,?_⟩
 · obtain⟨x,hx,hxp,hxf⟩:=h.ns k p hp
   obtain⟨y,y1,y2,y3⟩:=hC.ns k x hx
   have hkl:=(List.getElem?_eq_some_iff.1 hp).1
   refine⟨y,y1,y2.trans hxp,?_⟩
   rw[y3,List.filter_append]
   by_cases ha:Mat.solo p f=true
   · rw[if_pos ⟨by omega,by rw[h.nl];omega,by rw[hxp];exact ha⟩,List.filter_cons_of_pos ha]
     exact hxf.append_right _
   · rw[if_neg (fun h1=>ha (by rw[←hxp];exact h1.2.2)),List.filter_cons_of_neg ha]
     show x.fs.Perm (_++[])
     rw[List.append_nil]
     exact hxf
 · obtain⟨x,hx,hxf⟩:=h.last
   obtain⟨y,y1,y2,y3⟩:=hC.ns _ x hx
   refine⟨y,y1,?_⟩
   rw[y3,if_neg (by rw[h.nl];omega)]
   exact hxf
theorem ChainOk.leave{id:Int}(h:ChainOk S ps F)(hC:Nt.LeaI S id (S.ns.length - 1) S')(hG:G.Perm (BG id F)):ChainOk S' ps G:=by
 refine⟨hC.str,hC.loc,hC.nl.trans h.nl,fun k p hp=>?_,?_⟩
 · obtain⟨x,hx,hxp,hxf⟩:=h.ns k p hp
   obtain⟨y,y1,y2,y3⟩:=hC.ns k x hx
   have hkl:=(List.getElem?_eq_some_iff.1 hp).1
   refine⟨y,y1,y2.trans hxp,?_⟩
   rw[if_pos ⟨by omega,by rw[h.nl];omega⟩] at y3
   refine y3.trans (((hxf.filter _).trans ?_).trans (hG.filter _).symm)
   unfold BG
   rw[List.filter_filter,List.filter_filter]
   refine List.Perm.of_eq (List.filter_congr fun g _=>Bool.and_comm _ _)
 · obtain⟨x,hx,hxf⟩:=h.last
   obtain⟨y,y1,y2,y3⟩:=hC.ns _ x hx
   refine⟨y,y1,?_⟩
   rw[if_neg (by rw[h.nl];omega)] at y3
   rw[y3]
   exact hxf
theorem ChainOk.perm(h:ChainOk S ps F)(hG:F.Perm G):ChainOk S ps G:=⟨h.str,h.loc,h.nl,fun k p hp=>by
 obtain⟨x,h1,h2,h3⟩:=h.ns k p hp
 exact⟨x,h1,h2,h3.trans (hG.filter _)⟩,h.last⟩
theorem NT.Ok.nodup{N:NT}{R:List Rl}(h:N.Ok R):(N.fs.map Fc.id).Nodup:=Ge h.fok
theorem TZ{cs:List NC}{i:Nat}(h:cs[i]?=some S):(cs.flatMap NC.st).Perm (S.st++((cs.take i).flatMap NC.st++(cs.drop (i+1)).flatMap NC.st)):=by
 conv=>lhs;rw[show cs=cs.take i++S::cs.drop (i+1) by rw[←V.drop_cons h,List.take_append_drop]]
 rw[List.flatMap_append,List.flatMap_cons,←List.append_assoc,←List.append_assoc]
 exact List.Perm.append_right _ List.perm_append_comm
structure StepC (cs:List NC)(R:List Rl)(F G:List Fc)(i:Nat)(cs':List NC):Prop where
 row:cs'.map NC.c=cs.map NC.c
 done:∀(j:Nat) (x:Rl) (S:NC),j<i→R[j]?=some x→cs'[j]?=some S→ChainOk S x.pats G
 todo:∀j,i≤j→cs'[j]?=cs[j]?
theorem StepC.zero(cs:List NC)(R:List Rl)(F G:List Fc):StepC cs R F G 0 cs:=⟨rfl,fun _ _ _ h=>absurd h (Nat.not_lt_zero _),fun _ _=>rfl⟩
theorem StepC.len{cs cs':List NC}{R:List Rl}{i:Nat}(h:StepC cs R F G i cs'):cs'.length=cs.length:=by
 have:=congrArg List.length h.row
 rwa[List.length_map,List.length_map] at this
theorem StepC.next{cs cs':List NC}{R:List Rl}{i:Nat}{x:Rl}(h:StepC cs R F G i cs')(hx:R[i]?=some x)(hS:cs[i]?=some S)(hc:S'.c=S.c)(hok:ChainOk S' x.pats G):StepC cs R F G (i+1) (cs'.set i S'):=by
 have hS2:=(h.todo i (Nat.le_refl _)).trans hS
 have hil:=(List.getElem?_eq_some_iff.1 hS2).1
 refine⟨?_,fun j y T hj hy hT=>?_,fun j hj=>?_⟩
 · rw[←h.row,List.map_set,hc]
   apply List.ext_getElem?
   intro k
   rw[List.getElem?_set]
   by_cases e:i=k
   · subst e
     rw[if_pos rfl,List.length_map,if_pos hil,List.getElem?_map,hS2]
     rfl
   · rw[if_neg e]
 · by_cases e:i=j
   · subst e
     rw[List.getElem?_set_self hil] at hT
     cases hT
     rw[hx] at hy
     cases hy
     exact hok
   · rw[List.getElem?_set_ne e] at hT
     exact h.done j y T q_o hy hT
 · rw[List.getElem?_set_ne q_o]
   exact h.todo j q_o
theorem StepC.row_eq{cs cs':List NC}{R:List Rl}{i:Nat}(h:StepC cs R F G i cs'):(cs'.map fun S=>[D.ptr S.c 0])=cs.map fun S=>[D.ptr S.c 0]:=by
 have:=congrArg (List.map fun c=>[D.ptr c 0]) h.row
 rwa[List.map_map,List.map_map] at this
end
section
def CN (p:Pt):Nd:=⟨p,.no,[],.no,[]⟩
def PR:Pt:=⟨0,false,[]⟩
def Bc (ps:List Pt):List Nd:=ps.map CN++[CN PR]
def QF (kb:Nat):Tok:=⟨[kb],0,Mat.empty,.no,[],0⟩
def GK (c g cap:Nat)(zs:List D)(ps:List Pt)(kb:Nat):NC:=⟨c,g,cap,zs,Bc ps,[QF kb]⟩
theorem Ej(ps:List Pt):(Bc ps).length=ps.length+1:=by unfold Bc;rw[List.length_append,List.length_map];rfl
theorem FP{ps:List Pt}{x:Nd}(h:x∈Bc ps):∃p,(p∈ps∨p=PR)∧x=CN p:=by
 unfold Bc at h
 rcases List.mem_append.1 h with h|h
 · obtain⟨p,hp,rfl⟩:=List.mem_map.1 h
   exact⟨p,.inl hp,rfl⟩
 · exact⟨PR,.inr rfl,List.mem_singleton.1 h⟩
theorem PJ{ps:List Pt}{k:Nat}{p:Pt}(h:ps[k]?=some p):(Bc ps)[k]?=some (CN p):=by
 unfold Bc
 rw[List.getElem?_append_left (by rw[List.length_map];exact(List.getElem?_eq_some_iff.1 h).1),List.getElem?_map,h]
 rfl
theorem MD(ps:List Pt):(Bc ps)[ps.length]?=some (CN PR):=by
 unfold Bc
 rw[List.getElem?_append_right (by rw[List.length_map];exact Nat.le_refl _),List.length_map,Nat.sub_self]
 rfl
theorem Yu:PK PR:=⟨fun t h=>(by cases h),Nat.zero_le _⟩
theorem QU:FKs []:=⟨fun f h=>(by cases h),Nat.zero_le _⟩
variable {c g cap kb:Nat} {zs:List D} {ps:List Pt}
theorem TA(hrow:(Az (Bc ps)++zs).length=cap*9)(hl:ps.length≤4)(hp:∀p∈ps,PK p):Nt.Str (GK c g cap zs ps kb) [kb]:=by
 have hm:∀t,t∈(GK c g cap zs ps kb).H→t=QF kb:=fun t h=>List.mem_singleton.1 h
 have hn:∀x,x∈(GK c g cap zs ps kb).ns→∃p,(p∈ps∨p=PR)∧x=CN p:=fun x h=>FP h
 constructor
 · intro t h;rw[hm t h];exact List.cons_ne_nil _ _
 · exact List.nodup_cons.2 ⟨List.not_mem_nil,List.nodup_nil⟩
 · intro t h hne;rw[hm t h] at hne;exact absurd rfl hne
 · intro u hu v hv _ _;rw[hm u hu,hm v hv]
 · intro t h;rw[hm t h];exact List.nodup_nil
 · intro t h b
   rw[hm t h]
   refine⟨fun hb=>(by cases hb),?_⟩
   rintro⟨u,hu, -,e⟩
   rw[hm u hu] at e
   cases e
 · intro t h;rw[hm t h];exact Nat.zero_le _
 · intro t h
   rw[hm t h]
   show 1≤(Bc ps).length
   rw[Ej];omega
 · intro k x hx
   obtain⟨p, -,rfl⟩:=hn x (List.mem_of_getElem? hx)
   exact List.nodup_nil
 · intro k x hx b
   obtain⟨p, -,rfl⟩:=hn x (List.mem_of_getElem? hx)
   refine⟨fun hb=>(by cases hb),?_⟩
   rintro⟨u,hu,e, -,hb⟩
   rw[hm u hu] at e
   exact absurd (List.mem_singleton.2 e.symm) hb
 · intro t h;rw[hm t h];exact⟨rfl,rfl⟩
 · intro x hx
   obtain⟨p, -,rfl⟩:=hn x hx
   exact⟨⟨rfl,rfl⟩,⟨rfl,rfl⟩⟩
 · exact hrow
 · show(Bc ps).length≤5
   rw[Ej];omega
 · intro t h;rw[hm t h];exact empty_ek
 · intro x hx
   obtain⟨p,h1,rfl⟩:=hn x hx
   refine⟨?_,QU,Nat.zero_le _⟩
   rcases h1 with h1|rfl
   · exact hp p h1
   · exact Yu
 · intro t h;rw[hm t h];exact⟨Int.le_refl _,(by show(0:Int)≤1000;decide)⟩
 · exact⟨QF kb,List.mem_cons_self ..,rfl,rfl,rfl⟩
theorem TD:Nt.Loc (GK c g cap zs ps kb) [kb]:=fun t h hb=>by
 rw[List.mem_singleton.1 h] at hb
 exact absurd (List.mem_cons_self ..) hb
theorem We{S':NC}(hS:Nt.Str S' [])(hL:Nt.Loc S' [])(hK:Nt.Kept (GK c g cap zs ps kb) S'):ChainOk S' ps []:=by
 refine⟨hS,hL,hK.nl.trans (Ej ps),fun k p hp=>?_,?_⟩
 · obtain⟨y,y1,y2,y3⟩:=hK.ns k _ (PJ hp)
   exact⟨y,y1,y2,by rw[y3];exact .refl _⟩
 · obtain⟨y,y1,y2,y3⟩:=hK.ns _ _ (MD ps)
   exact⟨y,y1,y3⟩
theorem Wd:(GK c g cap zs ps kb).st=[.box c 109 [.ar g 0 (ps.length+1) cap],.box g 115 (Az (Bc ps)++zs),.box kb 119 [.s (.pointer none),.i 0,.i 0,.sl .shared (Mat.empty.map V.cells),.s (.map none),.sl .tight [],.sl .tight [],.i 0]]:=by
 have h1:∀ns:List Nd,(∀x∈ns,∃p,(p∈ps∨p=PR)∧x=CN p)→ns.flatMap Nd.res=[]:=fun ns h=>by
  induction ns with
  | nil=>rfl
  | cons x ns ih =>
   rw[List.flatMap_cons,ih fun y hy=>h y (List.mem_cons_of_mem _ hy)]
   obtain⟨p, -,rfl⟩:=h x (List.mem_cons_self ..)
   rfl
 unfold NC.st NC.cbox NC.gbox
 show .box c _ [.ar g 0 (Bc ps).length cap]::_::((Bc ps).flatMap Nd.res++_)=_
 rw[h1 _ fun x h=>FP h,Ej]
 rfl
end
section
attribute [local push_cast] Ad Ae Ao V.cells_mk V.cells_len Nat.mul_one Int.sub_zero List.map_nil beq_self_eq_true bne_self_eq_false List.head?_cons Bool.not_true Bool.not_false Nat.zero_add
theorem Holds.boxLE{b:Nat}{ty:TypeId}{cs cs':List D}{s:St}{w:World}(h:Holds (.box b ty cs::s) w)(hle:LEL cs cs')(hl:∀d∈cs',d.leaf=true):Holds (.box b ty cs'::s) w∧OwnS (.box b ty cs::s)=OwnS (.box b ty cs'::s):=by
 obtain⟨⟨us,hb,hr⟩,hlc⟩:=h.2 (.box b ty cs) (List.mem_cons_self ..)
 have hO:OwnS (.box b ty cs::s)=OwnS (.box b ty cs'::s):=by
  funext b' off;apply propext
  rw[OwnS.cons_iff,OwnS.cons_iff];exact Iff.rfl
 refine⟨⟨List.pairwise_cons.2 ⟨fun x hx b' hb'=>(List.pairwise_cons.1 h.1).1 x hx b' hb',(List.pairwise_cons.1 h.1).2⟩,fun x hx=>?_⟩,hO⟩
 rcases List.mem_cons.1 hx with rfl|hx
 · exact⟨⟨us,hb,by rw[←hO];exact hle.repL hr⟩,hl⟩
 · rw[←hO];exact h.2 x (List.mem_cons_of_mem _ hx)
def Uk (l:List Fc):Prop:=l.Pairwise fun a b=>a.id≤b.id
def GJ (f:Fc):List Fc→List Fc
|[]=>[f]
|g::l=>if f.id<g.id then f::g::l else g::GJ f l
theorem DD(f:Fc):∀l,(GJ f l).Perm (f::l)
|[]=>.refl _
|g::l=>by
  unfold GJ
  split
  · exact .refl _
  · exact((DD f l).cons g).trans (List.Perm.swap _ _ _)
theorem JL(f:Fc):∀{l},Uk l→Uk (GJ f l)
|[],_=>List.pairwise_cons.2 ⟨fun a h=>(by cases h),List.Pairwise.nil⟩
|g::l,h=>by
  have h1:=List.pairwise_cons.1 h
  unfold GJ
  split
  · refine List.pairwise_cons.2 ⟨fun a ha=>?_,h⟩
    rcases List.mem_cons.1 ha with rfl|ha
    · omega
    · have:=h1.1 a ha;omega
  · refine List.pairwise_cons.2 ⟨fun a ha=>?_,JL f h1.2⟩
    rcases List.mem_cons.1 ((DD f l).mem_iff.1 ha) with rfl|ha
    · omega
    · exact h1.1 a ha
def fT (f:Fc)(put:Bool)(out:List Fc)(l:List Fc):List Fc:=if put=true then out++l else out++GJ f l
end
section
attribute [local push_cast] Ad Ae Ao V.cells_mk V.cells_len Nat.mul_one Int.sub_zero List.map_nil beq_self_eq_true bne_self_eq_false List.head?_cons Bool.not_true Bool.not_false Nat.zero_add
attribute [-instance] Aq Av Am AV
def ft (ns:List Nd)(d:D)(X:St):Prop:=(ns=[]∧d=.sl .tight []∧X=[])∨∃g cap zs,(Az ns++zs).length=cap*9∧d=.ar g 0 ns.length cap∧X=[.box g 115 (Az ns++zs)]
def Jo (cs:List NC):List D:=cs.map fun S=>D.ptr S.c 0
def ChO (cs:List NC)(d:D)(X:St):Prop:=(cs=[]∧d=.sl .tight []∧X=[])∨∃g cap zs,(Jo cs++zs).length=cap*1∧d=.ar g 0 cs.length cap∧X=[.box g 106 (Jo cs++zs)]
theorem Nv(ns:List Nd)(x:Nd):Az (ns++[x])=Az ns++[x.cells].flatten:=by
 unfold Az
 rw[List.map_append,List.flatten_append]
 rfl
theorem PP(c g cap kb:Nat)(zs:List D)(ps:List Pt)(hrow:(Az (Bc ps)++zs).length=cap*9)(hl:ps.length≤4)(hp:∀p∈ps,PK p)(st:St):TrF Tryz.prog 63 [.ptr c 0,.ptr kb 0] (.box kb 119 [.s (.pointer none),.i 0,.i 0,.sl .shared (Mat.empty.map V.cells),.s (.map none),.sl .tight [],.sl .tight [],.i 0]::.box c 109 [.ar g 0 (ps.length+1) cap]::.box g 115 (Az (Bc ps)++zs)::st) fun d st'=>∃S',ChainOk S' ps []∧S'.c=c∧d=.tup []∧(S'.st++st).Perm st':=by
 have h:=ak 0 (GK c g cap zs ps kb) (QF kb) [] (TA hrow hl hp) TD (List.mem_cons_self ..) rfl rfl rfl st
 rw[Wd] at h
 refine(TrF.perm ?_ h).mono fun d st' ⟨S',h1,h2,h3,h4,h5⟩=>⟨S',We h1 h2 h3.toKept,h3.c,h4,h5⟩
 exact(List.perm_middle (l₁:=[_,_])).symm
theorem Rf:∀(A:List D) {l l':List D},LEL l l'→LEL (A++l) (A++l')
|[],_,_,h=>h
|a::A,_,_,h=>⟨LE.refl a,Rf A h⟩
theorem TrF.boxIn{P:Program}{f:FuncId}{args:List D}{b:Nat}{ty:TypeId}{cs cs':List D}{s:St}{R:D→St→Prop}(hle:LEL cs cs')(hl:(∀d∈cs,d.leaf=true)→∀d∈cs',d.leaf=true)(h:TrF P f args (.box b ty cs'::s) R):TrF P f args (.box b ty cs::s) R:=by
 intro vs w h1 h2
 obtain⟨q1,q2⟩:=h2.boxLE hle (hl (h2.2 (.box b ty cs) (List.mem_cons_self ..)).2)
 refine(h vs w (by rw[←q2];exact h1) q1).mono fun _ w' ⟨v,ev,d,s',k1,k2,k3,k4⟩=>?_
 exact⟨v,ev,d,s',k1,k2,by rw[q2];exact k3,k4⟩
theorem Td{ns:List Nd}(h:∀x∈ns,∃p,x=CN p):∀d∈Az ns,d.leaf=true:=fun d hd=>by
 obtain⟨e,he,hd⟩:=List.mem_flatten.1 hd
 obtain⟨x,hx,rfl⟩:=List.mem_map.1 he
 obtain⟨p,rfl⟩:=h x hx
 have hd:d∈[D.i p.tmpl,.b p.neg,.sl .shared (p.tests.map Ts.cells),.s (.map none),.sl .tight [],.sl .tight [],.s (.map none),.sl .tight [],.sl .tight []]:=hd
 simp only[List.mem_cons,List.not_mem_nil,or_false] at hd
 rcases hd with rfl|rfl|rfl|rfl|rfl|rfl|rfl|rfl|rfl<;>rfl
theorem IG(ps:List Pt):Az (Bc ps)=Az (ps.map CN)++[D.i 0,.b false,.sl .shared [],.s (.map none),.sl .tight [],.sl .tight [],.s (.map none),.sl .tight [],.sl .tight []]:=by
 unfold Bc
 rw[Nv]
 rfl
theorem OC(c g cap kb:Nat)(zs:List D)(ps:List Pt)(hrow:(Az (ps.map CN)++[D.i 0,.b false,.sl .tight [],.s (.map none),.sl .tight [],.sl .tight [],.s (.map none),.sl .tight [],.sl .tight []]++zs).length=cap*9)(hl:ps.length≤4)(hp:∀p∈ps,PK p)(st:St):TrF Tryz.prog 63 [.ptr c 0,.ptr kb 0] (.box g 115 (Az (ps.map CN)++[D.i 0,.b false,.sl .tight [],.s (.map none),.sl .tight [],.sl .tight [],.s (.map none),.sl .tight [],.sl .tight []]++zs)::.box kb 119 [.s (.pointer none),.i 0,.i 0,.sl .shared (Mat.empty.map V.cells),.s (.map none),.sl .tight [],.sl .tight [],.i 0]::.box c 109 [.ar g 0 (ps.length+1) cap]::st) fun d st'=>∃S',ChainOk S' ps []∧S'.c=c∧d=.tup []∧(S'.st++st).Perm st':=by
 have hrow2:(Az (Bc ps)++zs).length=cap*9:=by
  rw[←hrow,IG]
  simp only[List.length_append,List.length_cons,List.length_nil]
 refine TrF.boxIn (cs':=Az (Bc ps)++zs) ?_ ?_ ?_
 · rw[IG,List.append_assoc,List.append_assoc]
   exact Rf _ ⟨LE.refl _,LE.refl _,LE.sl _ _,LEL.refl _⟩
 · intro hlf d hd
   rcases List.mem_append.1 hd with hd|hd
   · exact Td (fun x hx=>by obtain⟨p, -,h⟩:=FP hx;exact⟨p,h⟩) d hd
   · exact hlf d (List.mem_append_right _ hd)
 · exact TrF.perm ((List.Perm.swap _ _ _).trans ((List.Perm.swap _ _ _).cons _)) (PP c g cap kb zs ps hrow2 hl hp st)
theorem Ra(R:List Rl)(hR:∀x∈R,XK x∧1≤x.pats.length∧x.pats.length≤4)(hRl:R.length≤1000)(st:St):TrF Tryz.prog 32 [.sl .shared (R.map Rl.cells)] st fun d st'=>∃N:NT,N.Ok R∧N.fs=[]∧d=.ptr N.b 0∧(N.st++st).Perm st':=by
 have hEm:=Lib.hid Lk
 have hRm:(R.map Rl.cells).length=R.length:=List.length_map ..
 have hRc:=hMp Rl.cells R
 have HR:Hid _:=hR
 clear hR
 generalize R.map Rl.cells=RC at *
 refine Qin [2] Tryz.func32 Tryz.results32 Tryz.ntmps32 ?_
 repeat' (first|with_reducible refine Co ?_|refine QX ?_|(refine QB ?_;intro b)|(with_reducible refine QZ ?_<;>(try constructor)<;>intro hb<;>try intro hb1)|fail)
 revert b
 intro nb
 refine Aj (ι:=Nat) (fun i A st'=>i≤R.length∧A.df=[]∧A.e 3=.ptr nb 0∧A.e 11=.sl .shared RC∧A.e 12=.i R.length∧A.e 13=.i i∧∃(cs:List NC) (dc:D) (X:St),cs.length=i∧Hid (∀(j:Nat) (x:Rl) (S:NC),R[j]?=some x→cs[j]?=some S→ChainOk S x.pats [])∧ChO cs dc X∧st'.Perm (.box nb 105 [dc,.s (.map none),.sl .tight [],.sl .tight []]::(X++(cs.flatMap NC.st++st)))) (fun i=>R.length - i) 0 ⟨Nat.zero_le _,Qf,Qf,Qf,Qf,Qf,[],_,[],rfl,Lib.hid (fun j x S _ h=>by cases h),.inl ⟨rfl,rfl,rfl⟩,.refl _⟩ ?_
 rintro i A st' ⟨hi,hdf,e3,e11,e12,e13,cs,dc,X,hcl,HC,hO,hp⟩
 by_cases hlt:i<R.length
 · obtain⟨x,hx⟩:=gEx hlt
   have hxc:=hRc.out i x hx
   obtain⟨hxk,hx1,hx4⟩:=HR.out x (List.mem_of_getElem? hx)
   have hPm:(x.pats.map Pt.cells).length=x.pats.length:=List.length_map ..
   have hPc:Hid (∀(k:Nat) (p:Pt),x.pats[k]?=some p→(x.pats.map Pt.cells)[k]?=some [.i p.tmpl,.b p.neg,.sl .shared (p.tests.map Ts.cells)]):=fun k p h=>by rw[List.getElem?_map,h];rfl
   have hen:Hid (∀(c g cap kb:Nat) (zs:List D),(Az (x.pats.map CN)++[[D.i 0,D.b false,D.sl .tight [],D.s (.map none),D.sl .tight [],D.sl .tight [],D.s (.map none),D.sl .tight [],D.sl .tight []]].flatten++zs).length=cap*9→∀st:St,TrF Tryz.prog 63 [.ptr c 0,.ptr kb 0] (.box g 115 (Az (x.pats.map CN)++[[D.i 0,D.b false,D.sl .tight [],D.s (.map none),D.sl .tight [],D.sl .tight [],D.s (.map none),D.sl .tight [],D.sl .tight []]].flatten++zs)::.box kb 119 [.s (.pointer none),.i 0,.i 0,.sl .shared (Mat.empty.map V.cells),.s (.map none),.sl .tight [],.sl .tight [],.i 0]::.box c 109 [.ar g 0 (x.pats.length+1) cap]::st) fun d st'=>∃S',ChainOk S' x.pats []∧S'.c=c∧d=.tup []∧(S'.st++st).Perm st'):=fun c g cap kb zs h st=>OC c g cap kb zs x.pats h hx4 hxk.p st
   rw[show x.cells=[.str x.name,.i x.sal,.sl .shared (x.pats.map Pt.cells),.sl .shared (x.acts.map Ac.cells)] from rfl] at hxc
   obtain⟨WW,hWW⟩:∃WW,WW=X++(cs.flatMap NC.st++st):=⟨_,rfl⟩
   rw[←hWW] at hp
   refine Af hp ?_
   clear hp hRc HR hxk
   generalize x.pats.map Pt.cells=PS at *
   generalize x.acts.map Ac.cells=AS at *
   generalize x.name=nm at *
   generalize x.sal=sal at *
   repeat' (first|with_reducible refine Co ?_|refine QX ?_|(refine QB ?_;intro b)|(with_reducible refine QZ ?_<;>(try constructor)<;>intro hb<;>try intro hb1)|fail)
   rename_i xb
   revert b
   intro cb
   have ht1:Hid (∀(k:Nat) (p:Pt),x.pats[k]?=some p→(x.pats.take (k+1)).map CN=(x.pats.take k).map CN++[CN p]):=fun k p h=>by rw[List.take_add_one,h,Option.toList_some,List.map_append];rfl
   have htl:Hid (∀k,k≤x.pats.length→((x.pats.take k).map CN).length=k):=fun k h=>by
    show _=_
    rw[List.length_map,List.length_take];omega
   refine Aj (ι:=Nat) (fun k A2 st2=>k≤x.pats.length∧A2.df=[]∧A2.e 3=.ptr nb 0∧A2.e 6=.ptr cb 0∧A2.e 11=.sl .shared RC∧A2.e 12=.i R.length∧A2.e 13=.i i∧A2.e 20=.sl .shared PS∧A2.e 21=.i x.pats.length∧A2.e 22=.i k∧∃(dn:D) (Y:St),ft ((x.pats.take k).map CN) dn Y∧st2.Perm (.box cb 109 [dn]::(Y++(.box nb 105 [dc,.s (.map none),.sl .tight [],.sl .tight []]::(.box xb 34 [.str nm,.i sal,.sl .shared PS,.sl .shared AS]::WW))))) (fun k=>x.pats.length - k) 0 ⟨Nat.zero_le _,Qf,Qf,Qf,Qf,Qf,Qf,Qf,Qf,Qf,_,[],.inl ⟨rfl,rfl,rfl⟩,(List.Perm.swap _ _ _).cons _⟩ ?_
   clear hdf e3 e11 e12 e13
   rintro k A2 st2 ⟨hk,hdf,e3,e6,e11,e12,e13,e20,e21,e22,dn,Y,hN,hp⟩
   by_cases hkl:k<x.pats.length
   · obtain⟨p,hpk⟩:=gEx hkl
     have hpc:=hPc.out k p hpk
     have hs:=ht1.out k p hpk
     have hl:=htl.out k q_o
     have hnc:(CN p).cells=[.i p.tmpl,.b p.neg,.sl .shared (p.tests.map Ts.cells),.s (.map none),.sl .tight [],.sl .tight [],.s (.map none),.sl .tight [],.sl .tight []]:=rfl
     clear hPc ht1 htl hen hpk hWW HC hO hxc hx
     generalize p.tests.map Ts.cells=TS at *
     generalize (x.pats.take k).map CN=ns at *
     refine Af hp ?_
     clear hp
     rcases hN with⟨hnil,rfl,rfl⟩|⟨g,cap,zs,hz,rfl,rfl⟩
     · subst hnil
       rw[List.nil_append]
       repeat' (first|refine QV ?_|((with_reducible apply(CH (id:=9) [(b,[.i p.tmpl,.b p.neg,.sl .shared TS]),(cb,[.sl .tight []])] [1,2,3,4,5,6,7] 8 [0,9,10,11]));(iterate 3 (focus kernel_rfl));(iterate 2 (focus(simp only[CD,List.cons_append,List.nil_append,List.getElem?_cons_zero,List.getElem?_cons_succ];exact rfl)));(focus exact q_k);intro hne;(try simp only[nes,ne1,and_assoc] at hne);repeat(have hq:=hne.1;replace hne:=hne.2))|((with_reducible refine Exists.intro [] ?_);(with_reducible refine And.intro ?_ ?_);(focus exact q_k))|((with_reducible refine And.intro ?_ ?_);(focus exact q_k))|with_reducible refine Em ?_|with_reducible refine Gs ?_|((with_reducible apply Eo);(focus exact q_n);(focus exact AF rfl);(focus exact q_n);(focus exact q_n);intro g' cap' zs' hc hl')|refine QY ?_|(refine QB ?_;intro b)|(with_reducible refine QZ ?_<;>(try constructor)<;>intro hb<;>try intro hb1)|fail)
       refine⟨k+1,.box g' 115 ([[D.i p.tmpl,D.b p.neg,D.sl .shared TS,D.s (.map none),D.sl .tight [],D.sl .tight [],D.s (.map none),D.sl .tight [],D.sl .tight []]].flatten++zs')::.box cb 109 [.ar g' 0 1 cap']::.box nb 105 [dc,.s (.map none),.sl .tight [],.sl .tight []]::.box xb 34 [.str nm,.i sal,.sl .shared PS,.sl .shared AS]::WW,((List.Sublist.refl _).cons _).cons_cons _,⟨hkl,?_,?_,?_,?_,?_,?_,?_,?_,?_,.ar g' 0 1 cap',[.box g' 115 ([[D.i p.tmpl,D.b p.neg,D.sl .shared TS,D.s (.map none),D.sl .tight [],D.sl .tight [],D.s (.map none),D.sl .tight [],D.sl .tight []]].flatten++zs')],.inr ⟨g',cap',zs',?_,?_,?_⟩,List.Perm.swap _ _ _⟩,by omega⟩
       · exact Qf
       · exact Qf
       · exact Qf
       · exact Qf
       · exact Qf
       · exact Qf
       · exact Qf
       · exact Qf
       · exact Qf
       · rw[hs,List.nil_append,show Az [CN p]=[(CN p).cells].flatten from rfl,hnc];exact hl'
       · rw[hs];rfl
       · rw[hs,List.nil_append,show Az [CN p]=[(CN p).cells].flatten from rfl,hnc]
     · have hrl:(Az ns).length=ns.length*9:=AZ _
       have hra:=Nv ns (CN p)
       rw[hnc] at hra
       rw[show∀(a:Res) (c:St),[a]++c=a::c from fun _ _=>rfl]
       generalize hRN:Az ns=RW at *
       rw[hl] at hrl ⊢
       repeat' (first|refine QV ?_|((with_reducible apply(CH (id:=9) [(b,[.i p.tmpl,.b p.neg,.sl .shared TS]),(cb,[.ar g 0 k cap])] [1,2,3,4,5,6,7] 8 [0,9,10,11]));(iterate 3 (focus kernel_rfl));(iterate 2 (focus(simp only[CD,List.cons_append,List.nil_append,List.getElem?_cons_zero,List.getElem?_cons_succ];exact rfl)));(focus exact q_k);intro hne;(try simp only[nes,ne1,and_assoc] at hne);repeat(have hq:=hne.1;replace hne:=hne.2))|((with_reducible refine Exists.intro [] ?_);(with_reducible refine And.intro ?_ ?_);(focus exact q_k))|((with_reducible refine And.intro ?_ ?_);(focus exact q_k))|with_reducible refine DK ?_|with_reducible refine FD ?_|((with_reducible apply(DN hrl hz));(focus(intro g' cs';repeat(first|exact Dl|apply Dk)));(focus exact AF rfl);(iterate 2 (focus exact q_n));intro g1 c1 z1 hc1 hl1)|refine QY ?_|(refine QB ?_;intro b)|(with_reducible refine QZ ?_<;>(try constructor)<;>intro hb<;>try intro hb1)|fail)
       refine⟨k+1,.box cb 109 [.ar g1 0 (k+1) c1]::.box g1 115 (RW++[[D.i p.tmpl,D.b p.neg,D.sl .shared TS,D.s (.map none),D.sl .tight [],D.sl .tight [],D.s (.map none),D.sl .tight [],D.sl .tight []]].flatten++z1)::.box nb 105 [dc,.s (.map none),.sl .tight [],.sl .tight []]::.box xb 34 [.str nm,.i sal,.sl .shared PS,.sl .shared AS]::WW,List.sublist_cons_self ..,⟨hkl,?_,?_,?_,?_,?_,?_,?_,?_,?_,.ar g1 0 (k+1) c1,[.box g1 115 (RW++[[D.i p.tmpl,D.b p.neg,D.sl .shared TS,D.s (.map none),D.sl .tight [],D.sl .tight [],D.s (.map none),D.sl .tight [],D.sl .tight []]].flatten++z1)],.inr ⟨g1,c1,z1,?_,?_,?_⟩,.refl _⟩,by omega⟩
       · exact Qf
       · exact Qf
       · exact Qf
       · exact Qf
       · exact Qf
       · exact Qf
       · exact Qf
       · exact Qf
       · exact Qf
       · rw[hs,hra];exact hl1
       · rw[hs,List.length_append,hl];rfl
       · rw[hs,hra]
   · have hkx:k=x.pats.length:=by omega
     subst hkx
     rw[List.take_length] at hN
     rcases hN with⟨hnil, -, -⟩|⟨g,cap,zs,hz,rfl,rfl⟩
     · exfalso
       have:=congrArg List.length hnil
       rw[List.length_map] at this
       simp only[List.length_nil] at this
       omega
     have hrl:(Az (x.pats.map CN)).length=x.pats.length*9:=by rw[AZ,List.length_map]
     have hx0:Hid (R[i]?=some x):=hx
     refine Af hp ?_
     have hnl:(x.pats.map CN).length=x.pats.length:=List.length_map ..
     rw[hnl,show∀(a:Res) (c:St),[a]++c=a::c from fun _ _=>rfl]
     clear hp ht1 htl hPc hxc hk hkl hnl hx
     obtain⟨RW,hRW⟩:∃RW,RW=Az (x.pats.map CN):=⟨_,rfl⟩
     rw[←hRW] at hz hrl hen ⊢
     clear hRW
     obtain⟨EC,hEC⟩:∃EC,EC=Mat.empty.map V.cells:=⟨_,rfl⟩
     rw[←hEC] at hen hEm
     clear hEC
     have hEm2:=hEm
     repeat' (first|refine QV ?_|(refine GP 12 (fun A3 st3=>A3.df=[]∧A3.e 3=.ptr nb 0∧A3.e 6=.ptr cb 0∧A3.e 11=.sl .shared RC∧A3.e 12=.i R.length∧A3.e 13=.i i∧∃S2:NC,Hid (ChainOk S2 x.pats [])∧S2.c=cb∧st3.Perm (.box nb 105 [dc,.s (.map none),.sl .tight [],.sl .tight []]::(S2.st++(.box xb 34 [.str nm,.i sal,.sl .shared PS,.sl .shared AS]::WW)))) ?_ ?_)|with_reducible refine Co ?_|with_reducible refine DK ?_|with_reducible refine FD ?_|((with_reducible apply(DN hrl hz));(focus(intro g' cs';repeat(first|exact Dl|apply Dk)));(focus exact AF rfl);(iterate 2 (focus exact q_n));intro g1 c1 z1 hc1 hl1)|((with_reducible apply(Ah (f:=20) (henter:=Tryz.call20) (hp:=List.Perm.refl _) (h:=(hEm2.out _))));(focus exact q_v);(focus(first|exact LEL.refl _|((repeat' (first|exact LEL.nil|refine LEL.cons ?_ ?_|exact LE.refl _|exact LE.sl _ _|refine LE.agg ?_));done)));(rintro d0 st0 ⟨rfl,rfl⟩))|((with_reducible apply(Ah (f:=63) (henter:=Tryz.call63) (hp:=(AG (AG Ba))) (h:=(hen.out _ _ _ _ _ hl1 _))));(focus exact q_v);(focus(first|exact LEL.refl _|((repeat' (first|exact LEL.nil|refine LEL.cons ?_ ?_|exact LE.refl _|exact LE.sl _ _|refine LE.agg ?_));done)));(rintro d0 st0 ⟨S2,hok2,hSc2,rfl,hp4⟩))|refine QY ?_|(refine QB ?_;intro b)|(with_reducible refine QZ ?_<;>(try constructor)<;>intro hb<;>try intro hb1)|fail)
     · exact⟨Qf,Qf,Qf,Qf,Qf,Qf,S2,Lib.hid hok2,hSc2,hp4.symm.trans List.perm_middle⟩
     clear hEm2 hen hz hrl hdf e3 e6 e11 e12 e13 e20 e21 e22
     rintro A3 st3 ⟨hdf,e3,e6,e11,e12,e13,S2,hok2,hSc2,hp⟩
     have HCn:=Lib.hid (fun(j:Nat) (y:Rl) (T:NC) (h1:R[j]?=some y) (h2:(cs++[S2])[j]?=some T)=>show ChainOk T y.pats [] from by
      by_cases e:j<cs.length
      · rw[List.getElem?_append_left e] at h2
        exact HC.out j y T h1 h2
      · have hj : j = i := by
         have:=(List.getElem?_eq_some_iff.1 h2).1
         rw[List.length_append,List.length_singleton] at this
         omega
        subst hj
        rw[List.getElem?_append_right q_o,hcl,Nat.sub_self] at h2
        cases h2
        rw[hx0.out] at h1
        cases h1
        exact hok2.out)
     have hcn:(cs++[S2]).length=i+1:=by rw[List.length_append,hcl];rfl
     have hrkn:Jo (cs++[S2])=Jo cs++[[D.ptr cb 0]].flatten:=by unfold Jo;rw[List.map_append,←hSc2];rfl
     have hfm:(cs++[S2]).flatMap NC.st=cs.flatMap NC.st++S2.st:=by rw[List.flatMap_append,List.flatMap_cons,List.flatMap_nil,List.append_nil]
     clear hok2 HC hx0
     rcases hO with⟨rfl,rfl,rfl⟩|⟨gc,capc,zsc,hzc,rfl,rfl⟩
     · have hWW2:WW=st:=hWW
       subst hWW2
       clear hWW
       refine Af hp ?_
       clear hp
       generalize S2.st=SS at *
       repeat' (first|refine QV ?_|with_reducible refine Em ?_|with_reducible refine Gs ?_|((with_reducible apply Eo);(focus exact q_n);(focus exact AF rfl);(focus exact q_n);(focus exact q_n);intro g2 c2 z2 hc2 hl2)|refine QY ?_|(refine QB ?_;intro b)|(with_reducible refine QZ ?_<;>(try constructor)<;>intro hb<;>try intro hb1)|fail)
       refine⟨i+1,.box g2 106 ([[D.ptr cb 0]].flatten++z2)::.box nb 105 [.ar g2 0 1 c2,.s (.map none),.sl .tight [],.sl .tight []]::(SS++WW),(((List.sublist_cons_self ..).append_left SS).cons_cons _).cons_cons _,⟨hlt,?_,?_,?_,?_,?_,[]++[S2],.ar g2 0 1 c2,[.box g2 106 ([[D.ptr cb 0]].flatten++z2)],hcn,Lib.hid HCn,.inr ⟨g2,c2,z2,?_,?_,?_⟩,?_⟩,by omega⟩
       · exact Qf
       · exact Qf
       · exact Qf
       · exact Qf
       · exact Qf
       · rw[hrkn];exact hl2
       · rfl
       · rw[hrkn];rfl
       · rw[hfm];exact List.Perm.swap _ _ _
     · have hrlc:(Jo cs).length=cs.length*1:=by unfold Jo;rw[List.length_map,Nat.mul_one]
       obtain⟨W2,hW2⟩:∃W2,W2=cs.flatMap NC.st++st:=⟨_,rfl⟩
       have hWW2:WW=.box gc 106 (Jo cs++zsc)::W2:=by rw[hWW,hW2];rfl
       subst hWW2
       refine Af (hp.trans ((((List.Perm.swap _ _ _).append_left _).trans List.perm_middle).cons _)) ?_
       clear hp hWW
       rw[hcl] at hrlc ⊢
       generalize hSS:S2.st=SS at *
       obtain⟨RK,hRK⟩:∃RK,RK=Jo cs:=⟨_,rfl⟩
       rw[←hRK] at hrlc hzc hrkn ⊢
       repeat' (first|refine QV ?_|with_reducible refine DK ?_|with_reducible refine FD ?_|((with_reducible apply(DN hrlc hzc));(focus(intro g' cs';repeat(first|exact Dl|apply Dk)));(focus exact AF rfl);(iterate 2 (focus exact q_n));intro g2 c2 z2 hc2 hl2)|refine QY ?_|(refine QB ?_;intro b)|(with_reducible refine QZ ?_<;>(try constructor)<;>intro hb<;>try intro hb1)|fail)
       refine⟨i+1,.box nb 105 [.ar g2 0 (i+1) c2,.s (.map none),.sl .tight [],.sl .tight []]::.box g2 106 (RK++[[D.ptr cb 0]].flatten++z2)::(SS++W2),(((List.sublist_cons_self ..).append_left SS).cons_cons _).cons_cons _,⟨hlt,?_,?_,?_,?_,?_,cs++[S2],.ar g2 0 (i+1) c2,[.box g2 106 (RK++[[D.ptr cb 0]].flatten++z2)],hcn,Lib.hid HCn,.inr ⟨g2,c2,z2,?_,?_,?_⟩,?_⟩,by omega⟩
       · exact Qf
       · exact Qf
       · exact Qf
       · exact Qf
       · exact Qf
       · rw[hrkn];exact hl2
       · rw[hcn]
       · rw[hrkn]
       · rw[hfm,hW2]
         refine(List.Perm.cons _ ?_).cons _
         rw[←List.append_assoc]
         exact List.perm_append_comm.append_right _
 · have hil:i=R.length:=by omega
   subst hil
   have hfin:Hid (∃N:NT,N.Ok R∧N.fs=[]∧D.ptr nb 0=.ptr N.b 0∧(N.st++st).Perm (.box nb 105 [.sl .shared (cs.map fun S=>[D.ptr S.c 0]),.s (.map none),.sl .tight [],.sl .tight []]::(cs.flatMap NC.st++st))):=⟨⟨nb,cs,.no,[]⟩,⟨⟨rfl,rfl⟩,QU,Nat.zero_le _,(fun f h=>by cases h),hcl,fun j x S h1 h2=>HC.out j x S h1 h2⟩,rfl,rfl,.refl _⟩
   have hfl:(cs.map fun S=>[D.ptr S.c 0]).flatten=Jo cs:=by
    unfold Jo
    clear hcl HC hO hp hfin
    induction cs with
    | nil=>rfl
    | cons S l ih=>rw[List.map_cons,List.flatten_cons,ih];rfl
   have hlf:∀d∈[D.sl .shared (cs.map fun S=>[D.ptr S.c 0]),D.s (.map none),D.sl .tight [],D.sl .tight []],d.leaf=true:=fun d hd=>by
    simp only[List.mem_cons,List.not_mem_nil,or_false] at hd
    rcases hd with rfl|rfl|rfl|rfl<;>rfl
   rcases hO with⟨rfl,rfl,rfl⟩|⟨gc,capc,zsc,hzc,rfl,rfl⟩
   · refine Ux hp (cs':=[.sl .shared [],.s (.map none),.sl .tight [],.sl .tight []]) ⟨LE.sl _ _,LEL.refl _⟩ hlf ?_
     clear hp HC hRc HR
     repeat' (first|refine QX ?_|(refine QB ?_;intro b)|(with_reducible refine QZ ?_<;>(try constructor)<;>intro hb<;>try intro hb1)|fail)
     exact Ab (by simp) q_y (List.Sublist.refl _) (LE.of_eq q_v) hfin.out
   · refine WZ (sz := 1) (es := cs.map fun S => [D.ptr S.c 0]) (cs' := [.sl .shared (cs.map fun S => [D.ptr S.c 0]), .s (.map none), .sl .tight [], .sl .tight []]) (hp.trans (by rw [hfl]; exact List.Perm.swap _ _ _)) (by decide) (fun e he => by
      obtain⟨S, -,rfl⟩:=List.mem_map.1 he
      rfl) (List.length_map ..) (.cons _ _ _ _ .ar (.cons _ _ _ _ (.same _) (.cons _ _ _ _ (.same _) (.cons _ _ _ _ (.same _) .nil)))) hlf ?_
     clear hp HC hRc HR hfl hlf hzc
     generalize (cs.map fun S=>[D.ptr S.c 0])=RWS at *
     repeat' (first|refine QX ?_|(refine QB ?_;intro b)|(with_reducible refine QZ ?_<;>(try constructor)<;>intro hb<;>try intro hb1)|fail)
     exact Ab (by simp) q_y (List.Sublist.refl _) (LE.of_eq q_v) hfin.out
end
section
attribute [local push_cast] Ad Ae Ao V.cells_mk V.cells_len Nat.mul_one Int.sub_zero List.map_nil beq_self_eq_true bne_self_eq_false List.head?_cons
open Go.RowKit B
set_option maxHeartbeats 16000000
theorem NA(R:List Rl)(hw:∀x∈R,x.Wf)(hl:R.length≤maxLen)(st:St):TrF Tryz.prog 46 [.sl .shared (R.map Rl.cells)] st fun d st'=>d=.b (Rul.great R)∧st'=st:=by
 unfold maxLen at hl
 have hm:(R.map Rl.cells).length=R.length:=List.length_map ..
 have hc:=hMp Rl.cells R
 replace hw:=Lib.hid hw
 unfold Rul.great
 generalize R.map Rl.cells=LS at *
 by_cases h12:12<R.length
 · rw[decide_eq_true h12,Bool.true_or]
   refine Qin [2] Tryz.func46 Tryz.results46 Tryz.ntmps46 ?_
   exact WR
 rw[decide_eq_false h12,Bool.false_or]
 obtain⟨F,hF⟩:∃F,R.any Rul.gR=F:=⟨_,rfl⟩
 rw[hF]
 have HF:Hid ((R.drop 0).any Rul.gR=F):=hF
 clear hF
 refine Qin [2] Tryz.func46 Tryz.results46 Tryz.ntmps46 ?_
 repeat' (first|refine QX ?_|(refine QB ?_;intro b)|(with_reducible refine QZ ?_<;>(try constructor)<;>intro hb<;>try intro hb1)|fail)
 refine Aj (ι:=Nat) (fun i A st'=>i≤R.length∧Hid ((R.drop i).any Rul.gR=F)∧A.df=[]∧A.e 0=.sl .shared LS∧A.e 3=.i i∧st=st') (fun i=>R.length - i) 0 ⟨Nat.zero_le _,HF,Qf,Qf,Qf,rfl⟩ ?_
 rintro i A st' ⟨hi,HT,hdf,e0,e3,rfl⟩
 clear HF
 by_cases hlt:¬i<R.length
 · have HE:=HT.out
   rw[List.drop_of_length_le q_o] at HE
   subst HE
   clear HT
   exact WR
 rw[Classical.not_not] at hlt
 obtain⟨x,hx⟩:=gEx hlt
 have h1:=hc.out i x hx
 have HE:=HT.out
 rw[CM hx] at HE
 have hxw:=hw.out x (List.mem_of_getElem? hx)
 clear HT hx
 obtain⟨G,hGG⟩:∃G,(R.drop (i+1)).any Rul.gR=G:=⟨_,rfl⟩
 rw[hGG] at HE
 replace hGG:=Lib.hid hGG
 cases x with
|mk nm sal ps ac =>
 unfold Rl.cells at h1
 unfold Rul.gR at HE
 obtain⟨-,hps,hpl,hac,hal⟩:=hxw
 dsimp only at h1 HE hps hpl hac hal
 replace hps:=Lib.hid hps
 replace hac:=Lib.hid hac
 unfold maxLen at hpl hal
 have hmp:(ps.map Pt.cells).length=ps.length:=List.length_map ..
 have hcp:=hMp Pt.cells ps
 have hma:(ac.map Ac.cells).length=ac.length:=List.length_map ..
 have hca:=hMp Ac.cells ac
 generalize ps.map Pt.cells=PS at *
 generalize ac.map Ac.cells=AS at *
 by_cases hz:300<nm.size
 · rw[decide_eq_true hz] at HE
   simp only[Bool.true_or,Bool.or_true] at HE
   subst HE
   exact WR
 rw[decide_eq_false hz,Bool.false_or] at HE
 by_cases hy:8<ps.length
 · rw[decide_eq_true hy] at HE
   simp only[Bool.true_or,Bool.or_true] at HE
   subst HE
   exact WR
 rw[decide_eq_false hy,Bool.false_or] at HE
 by_cases hv:8<ac.length
 · rw[decide_eq_true hv] at HE
   simp only[Bool.true_or,Bool.or_true] at HE
   subst HE
   exact WR
 rw[decide_eq_false hv,Bool.false_or] at HE
 rw[Bool.or_assoc] at HE
 replace HE:=Lib.hid HE
 repeat' (first|refine QX ?_|(refine QB ?_;intro b)|(with_reducible refine QZ ?_<;>(try constructor)<;>intro hb<;>try intro hb1)|fail)
 refine Aj (ι:=Nat) (fun j A st'=>j≤ps.length∧Hid (((ps.drop j).any Rul.gP || (ac.any Rul.gA || G))=F)∧A.df=[]∧A.e 0=.sl .shared LS∧A.e 3=.i i∧A.e 5=.i j∧(∃b:Nat,A.e 4=.ptr b 0∧st'=.box b 34 [.str nm,.i sal,.sl .shared PS,.sl .shared AS]::st)) (fun j=>ps.length - j) 0 ⟨Nat.zero_le _,HE,Qf,Qf,Qf,Qf,_,Qf,rfl⟩ ?_
 clear hdf e0 e3
 rintro j A st' ⟨hj,HT,hdf,e0,e3,e5,b,e4,rfl⟩
 clear HE
 by_cases hlj:j<ps.length
 · obtain⟨p,hp⟩:=gEx hlj
   have k1:=hcp.out j p hp
   have HE:=HT.out
   rw[CM hp,Bool.or_assoc] at HE
   have hpw:=hps.out p (List.mem_of_getElem? hp)
   clear HT hp
   obtain⟨G2,hG2⟩:∃G2,((ps.drop (j+1)).any Rul.gP || (ac.any Rul.gA || G))=G2:=⟨_,rfl⟩
   rw[hG2] at HE
   replace hG2:=Lib.hid hG2
   cases p with
   | mk tm ng ts =>
   unfold Pt.cells at k1
   unfold Rul.gP at HE
   obtain⟨hts,htl⟩:=hpw
   dsimp only at k1 HE hts htl
   replace hts:=Lib.hid hts
   unfold maxLen at htl
   have hmt:(ts.map Ts.cells).length=ts.length:=List.length_map ..
   have hct:=hMp Ts.cells ts
   generalize ts.map Ts.cells=TL at *
   by_cases hz:10<ts.length
   · rw[decide_eq_true hz] at HE
     simp only[Bool.true_or,Bool.or_true] at HE
     subst HE
     exact WR
   rw[decide_eq_false hz,Bool.false_or] at HE
   have HU:Hid (((ts.drop 0).any Rul.gT || G2)=F):=HE
   clear HE
   repeat' (first|refine QX ?_|(refine QB ?_;intro b)|(with_reducible refine QZ ?_<;>(try constructor)<;>intro hb<;>try intro hb1)|fail)
   refine Aj (ι:=Nat) (fun k A st'=>k≤ts.length∧Hid (((ts.drop k).any Rul.gT || G2)=F)∧A.df=[]∧A.e 0=.sl .shared LS∧A.e 3=.i i∧A.e 5=.i j∧A.e 6=.i k∧(∃b:Nat,A.e 4=.ptr b 0∧st'=.box b 34 [.str nm,.i sal,.sl .shared PS,.sl .shared AS]::st)) (fun k=>ts.length - k) 0 ⟨Nat.zero_le _,HU,Qf,Qf,Qf,Qf,Qf,_,Qf,rfl⟩ ?_
   clear hdf e0 e3 e4 e5
   rintro k A st' ⟨hk,HT,hdf,e0,e3,e5,e6,b,e4,rfl⟩
   clear HU
   by_cases hlk:k<ts.length
   · obtain⟨t,ht⟩:=gEx hlk
     have k2:=hct.out k t ht
     have HE:=HT.out
     rw[CM ht,Bool.or_assoc] at HE
     have hG:=EG t.val (hts.out t (List.mem_of_getElem? ht))
     clear HT ht
     unfold Rul.gT at HE
     cases t with
     | mk kd sl vr v =>
     dsimp only at HE hG
     generalize V.great v=g at *
     cases v with
     | mk vk vn vs vl =>
     rw[Ts.cells_mk] at k2
     rw[V.cells_mk] at hG
     replace hG:=Lib.hid hG
     cases g with
     | true =>
      rw[Bool.true_or] at HE
      subst HE
      exact WR
     | false =>
      rw[Bool.false_or] at HE
      replace HE:=Lib.hid HE
      repeat' (first|refine QX ?_|(refine QB ?_;intro b)|(with_reducible refine QZ ?_<;>(try constructor)<;>intro hb<;>try intro hb1)|fail)
      refine⟨k+1,.box b 34 [.str nm,.i sal,.sl .shared PS,.sl .shared AS]::st,q_u,⟨hlk,HE,?_,?_,?_,?_,?_,b,?_,rfl⟩,by omega⟩
      all_goals exact Qf
   · have HE:=HT.out
     rw[List.drop_of_length_le q_o,List.any_nil,Bool.false_or] at HE
     replace HE:=Lib.hid (hG2.out.trans HE)
     clear HT hG2
     repeat' (first|refine QX ?_|(refine QB ?_;intro b)|(with_reducible refine QZ ?_<;>(try constructor)<;>intro hb<;>try intro hb1)|fail)
     refine⟨j+1,.box b 34 [.str nm,.i sal,.sl .shared PS,.sl .shared AS]::st,q_u,⟨hlj,HE,?_,?_,?_,?_,b,?_,rfl⟩,by omega⟩
     all_goals exact Qf
 have HE:=HT.out
 rw[List.drop_of_length_le q_o,List.any_nil,Bool.false_or] at HE
 replace HE:=Lib.hid HE
 clear HT
 repeat' (first|refine QX ?_|(refine QB ?_;intro b)|(with_reducible refine QZ ?_<;>(try constructor)<;>intro hb<;>try intro hb1)|fail)
 refine Aj (ι:=Nat) (fun j A st'=>j≤ac.length∧Hid (((ac.drop j).any Rul.gA || G)=F)∧A.df=[]∧A.e 0=.sl .shared LS∧A.e 3=.i i∧A.e 7=.i j∧(∃b:Nat,A.e 4=.ptr b 0∧st'=.box b 34 [.str nm,.i sal,.sl .shared PS,.sl .shared AS]::st)) (fun j=>ac.length - j) 0 ⟨Nat.zero_le _,HE,Qf,Qf,Qf,Qf,_,Qf,rfl⟩ ?_
 clear hdf e0 e3 e4 e5
 rintro j A st' ⟨hj,HT,hdf,e0,e3,e5,b,e4,rfl⟩
 clear HE
 by_cases hlj:j<ac.length
 · obtain⟨p,hp⟩:=gEx hlj
   have k1:=hca.out j p hp
   have HE:=HT.out
   rw[CM hp,Bool.or_assoc] at HE
   have hpw:=hac.out p (List.mem_of_getElem? hp)
   clear HT hp
   obtain⟨G2,hG2⟩:∃G2,((ac.drop (j+1)).any Rul.gA || G)=G2:=⟨_,rfl⟩
   rw[hG2] at HE
   replace hG2:=Lib.hid hG2
   cases p with
   | mk kd pt tm sl ts =>
   unfold Ac.cells at k1
   unfold Rul.gA at HE
   obtain⟨hts,htl⟩:=hpw
   dsimp only at k1 HE hts htl
   replace hts:=Lib.hid hts
   unfold maxLen at htl
   have hmt:(ts.map Ex.cells).length=ts.length:=List.length_map ..
   have hct:=hMp Ex.cells ts
   generalize ts.map Ex.cells=TL at *
   by_cases hz:20<ts.length
   · rw[decide_eq_true hz] at HE
     simp only[Bool.true_or,Bool.or_true] at HE
     subst HE
     exact WR
   rw[decide_eq_false hz,Bool.false_or] at HE
   have HU:Hid (((ts.drop 0).any Rul.gE || G2)=F):=HE
   clear HE
   repeat' (first|refine QX ?_|(refine QB ?_;intro b)|(with_reducible refine QZ ?_<;>(try constructor)<;>intro hb<;>try intro hb1)|fail)
   refine Aj (ι:=Nat) (fun k A st'=>k≤ts.length∧Hid (((ts.drop k).any Rul.gE || G2)=F)∧A.df=[]∧A.e 0=.sl .shared LS∧A.e 3=.i i∧A.e 7=.i j∧A.e 8=.i k∧(∃b:Nat,A.e 4=.ptr b 0∧st'=.box b 34 [.str nm,.i sal,.sl .shared PS,.sl .shared AS]::st)) (fun k=>ts.length - k) 0 ⟨Nat.zero_le _,HU,Qf,Qf,Qf,Qf,Qf,_,Qf,rfl⟩ ?_
   clear hdf e0 e3 e4 e5
   rintro k A st' ⟨hk,HT,hdf,e0,e3,e5,e6,b,e4,rfl⟩
   clear HU
   by_cases hlk:k<ts.length
   · obtain⟨t,ht⟩:=gEx hlk
     have k2:=hct.out k t ht
     have HE:=HT.out
     rw[CM ht,Bool.or_assoc] at HE
     have hG:=EG t.val (hts.out t (List.mem_of_getElem? ht))
     clear HT ht
     unfold Rul.gE at HE
     cases t with
     | mk iv vr v =>
     dsimp only at HE hG
     generalize V.great v=g at *
     cases v with
     | mk vk vn vs vl =>
     rw[Ex.cells_mk] at k2
     rw[V.cells_mk] at hG
     replace hG:=Lib.hid hG
     cases g with
     | true =>
      rw[Bool.true_or] at HE
      subst HE
      exact WR
     | false =>
      rw[Bool.false_or] at HE
      replace HE:=Lib.hid HE
      repeat' (first|refine QX ?_|(refine QB ?_;intro b)|(with_reducible refine QZ ?_<;>(try constructor)<;>intro hb<;>try intro hb1)|fail)
      refine⟨k+1,.box b 34 [.str nm,.i sal,.sl .shared PS,.sl .shared AS]::st,q_u,⟨hlk,HE,?_,?_,?_,?_,?_,b,?_,rfl⟩,by omega⟩
      all_goals exact Qf
   · have HE:=HT.out
     rw[List.drop_of_length_le q_o,List.any_nil,Bool.false_or] at HE
     replace HE:=Lib.hid (hG2.out.trans HE)
     clear HT hG2
     repeat' (first|refine QX ?_|(refine QB ?_;intro b)|(with_reducible refine QZ ?_<;>(try constructor)<;>intro hb<;>try intro hb1)|fail)
     refine⟨j+1,.box b 34 [.str nm,.i sal,.sl .shared PS,.sl .shared AS]::st,q_u,⟨hlj,HE,?_,?_,?_,?_,b,?_,rfl⟩,by omega⟩
     all_goals exact Qf
 have HE:=HT.out
 rw[List.drop_of_length_le q_o,List.any_nil,Bool.false_or] at HE
 replace HE:=Lib.hid (hGG.out.trans HE)
 clear HT hGG
 repeat' (first|refine QX ?_|(refine QB ?_;intro b)|(with_reducible refine QZ ?_<;>(try constructor)<;>intro hb<;>try intro hb1)|fail)
 refine⟨i+1,st,q_u,⟨hlt,HE,?_,?_,?_,rfl⟩,by omega⟩
 all_goals exact Qf
end
section
attribute [local push_cast] Ad Ae Ao V.cells_mk V.cells_len Nat.mul_one Int.sub_zero List.map_nil beq_self_eq_true bne_self_eq_false List.head?_cons Bool.not_true Bool.not_false Nat.zero_add
set_option maxHeartbeats 16000000
end
section
attribute [local push_cast] Ad Ae Ao V.cells_mk V.cells_len Nat.mul_one Int.sub_zero List.map_nil beq_self_eq_true bne_self_eq_false List.head?_cons Bool.not_true Bool.not_false Nat.zero_add
section
set_option maxHeartbeats 16000000
structure Ak where
 kind:Int
 id:Int
 f:Fc
def Ak.cells (a:Ak):List D:=[.i a.kind,.i a.id]++a.f.cells
structure Ak.Wf (a:Ak):Prop where
 i : -9223372036854775808≤a.id∧a.id≤9223372036854775807
 f:a.f.Wf
theorem XQ:BZ Tryz.prog 66 Ak.cells Ak.Wf:=by
 intro n H enc W fuel cs x hf h
 obtain⟨xs,m,rfl, -,hl,hn,hx⟩:=DataW.trod_struct Tryz.underlying66 h
 have hl2:cs.length=7:=hl.trans (by kernel_rfl)
 obtain⟨a,a1,a2⟩:=Aa (i:=0) (n:=m) (f:=fun a:Int=>[D.i a]) hx hn rfl (k:=1) (by kernel_rfl) (Ay (k:=.i64) Tryz.underlying3 _) (Nat.le_refl _)
 obtain⟨b,b1,b2⟩:=Aa (i:=1) (n:=m) (f:=fun a:Int=>[D.i a]) hx hn rfl (k:=1) (by kernel_rfl) (Ay (k:=.i64) Tryz.underlying3 _) (Nat.le_refl _)
 obtain⟨c,c1,c2⟩:=Aa (i:=2) (n:=m) (f:=Fc.cells) hx hn rfl (k:=5) (by kernel_rfl) (XO _) (Nat.le_refl _)
 refine⟨⟨a,b,c⟩,?_,Ce b2,c2⟩
 have:=RepL.glue a1 (RepL.glue b1 (RepL.glue c1 (RepL.glue_end hl2)))
 rw[List.append_nil] at this
 exact this
theorem Vk:BZ Tryz.prog 58 (fun l:List Ak=>[D.sl .shared (l.map Ak.cells)]) fun l=>(∀x∈l,x.Wf)∧l.length≤maxLen :=
 AR (sz:=7) Tryz.underlying58 (by kernel_rfl) q_o XQ (fun _=>rfl) fun t d hd=>by
  unfold Ak.cells Fc.cells at hd
  simp only[List.cons_append,List.nil_append,List.mem_cons,List.not_mem_nil,or_false] at hd
  rcases hd with rfl|rfl|rfl|rfl|rfl|rfl|rfl<;>rfl
namespace Mat
def actB (S:List Int)(a:Ak):Bool:=!(decide (a.kind=0)) || right S [a.f]
def actsB (S:List Int):List Ak→Bool
|[]=>true
|a::l=>!(a.f.s.any V.great) && (actB S a && actsB S l)
def may19 (L:List Tm)(R:List Rl)(A:List Ak):Bool:=!(Reg.great L || Rul.great R) && (Rul.right L R && (decide (A.length≤40) && actsB (slotN L) A))
theorem It{S:List Int}:∀{A:List Ak},actsB S A=true→∀a∈A,(a.f.s.any V.great)=false∧actB S a=true
|[],_,a,h=>by cases h
|b::l,h,a,ha=>by
  unfold actsB at h
  simp only[Bool.and_eq_true,Bool.not_eq_true'] at h
  rcases List.mem_cons.1 ha with rfl|ha
  · exact⟨h.1,h.2.1⟩
  · exact It h.2.2 a ha
structure May19 (R:List Rl)(A:List Ak):Prop where
 rl:R.length≤8
 rn:∀x∈R,1≤x.pats.length∧x.pats.length≤4
 xk:∀x∈R,XK x
 al:A.length≤40
 fk:∀a∈A,a.kind=0→FK a.f∧a.f.id≠0∧1≤a.f.id
 fr:∀a∈A,a.kind=0→FcR a.f
 bd:∀a∈A,(-9223372036854775808≤a.id∧a.id≤9223372036854775807) ∧ -9223372036854775808≤a.f.id∧a.f.id≤9223372036854775807
theorem may19_iff{L:List Tm}{R:List Rl}{A:List Ak}(hw:∀x∈R,x.Wf)(hf:∀a∈A,a.Wf)(h:may19 L R A=true):May19 R A:=by
 unfold may19 at h
 simp only[Bool.and_eq_true,Bool.not_eq_true',Bool.or_eq_false_iff,decide_eq_true_eq] at h
 obtain⟨⟨h1,h2⟩,h3,h4,h5⟩:=h
 obtain⟨-,hk⟩:=Rul.not_great hw h2
 obtain⟨r1,r2,r3, -⟩:=Rul.right_iff.1 h3
 have hh:∀x∈R,1≤x.pats.length∧x.pats.length≤4:=fun x hx=>by
  have:=r3 x hx
  unfold Rul.oneB Rul.headB at this
  simp only[Bool.and_eq_true,decide_eq_true_eq] at this
  exact this.1.2.2.1
 have hv:∀a∈A,∀x∈a.f.s,x.Ok∧x.nodes≤1000∧x.deep≤10:=fun a h x hx=>by
  have:=(It h5 a h).1
  have:=List.any_eq_false.1 this x hx
  rw[Bool.not_eq_true] at this
  exact⟨(hf a h).f.v x hx,V.not_great this⟩
 have hd:∀a∈A,a.kind=0→headB (slotN L) a.f=true:=fun a ha hk0=>by
  have:=(It h5 a ha).2
  unfold actB at this
  rw[decide_eq_true hk0,Bool.not_true,Bool.false_or] at this
  exact(Sz this).2 a.f (List.mem_cons_self ..)
 have hs:∀a∈A,a.kind=0→a.f.s.length≤1000000:=fun a ha hk0=>by
  obtain⟨-,h1,h2,h3⟩:=headB_iff.1 (hd a ha hk0)
  rw[slotN_len] at h2
  have e0:a.f.tmpl.toNat<L.length:=by omega
  have e:(slotN L)[a.f.tmpl.toNat]?=some ((Rul.slots L a.f.tmpl.toNat).length:Int):=by
   unfold slotN
   rw[List.getElem?_map,List.getElem?_range e0]
   rfl
  rw[List.getD_eq_getElem?_getD,e,Option.getD_some] at h3
  have:=Rul.slots_le L a.f.tmpl.toNat
  omega
 refine⟨r2,hh,fun x hx=>⟨fun p hp=>⟨fun t ht=>V.Ok.bg ((hk x hx).vt p hp t ht).ok,by have:=(hk x hx).nt p hp;omega⟩,by have:=(hh x hx).2;omega⟩,h4,fun a ha hk0=>?_,fun a ha hk0=>⟨fun x hx=>⟨(hv a ha x hx).1,(hv a ha x hx).2.1,by have:=(hv a ha x hx).2.2;omega⟩,(hf a ha).f.l⟩,fun a ha=>⟨(hf a ha).i,(hf a ha).f.id⟩⟩
 have h1:=(headB_iff.1 (hd a ha hk0)).1
 exact⟨⟨fun x hx=>⟨(hv a ha x hx).1,(hv a ha x hx).2.1⟩,hs a ha hk0⟩,by omega,h1⟩
theorem actsB_drop{S:List Int}{A:List Ak}{i:Nat}{a:Ak}(h:A[i]?=some a):actsB S (A.drop i)=(!(a.f.s.any V.great) && (actB S a && actsB S (A.drop (i+1)))):=by
 rw[V.drop_cons h,actsB]
end Mat
theorem ZS(L:List Tm)(R:List Rl)(F:List Ak)(hwL:∀t∈L,t.Wf)(hlL:L.length≤maxLen)(hwR:∀x∈R,x.Wf)(hlR:R.length≤maxLen)(hwF:∀f∈F,f.Wf)(hlF:F.length≤maxLen)(st:St):TrF Tryz.prog 31 [.sl .shared (L.map Tm.cells),.sl .shared (R.map Rl.cells),.sl .shared (F.map Ak.cells)] st fun d st'=>d=.b (Mat.may19 L R F)∧st'=st:=by
 have hG1:=ND L hwL hlL
 have hG2:=NA R hwR hlR
 unfold Mat.may19
 have hFm:(F.map Ak.cells).length=F.length:=List.length_map ..
 have hlF2:=hlF
 unfold maxLen at hlF2
 cases h1:Reg.great L with
|true =>
  rw[h1] at hG1
  rw[Bool.true_or,Bool.not_true,Bool.false_and]
  clear hwL hwR hwF h1 hG2 hlL hlR hlF
  generalize L.map Tm.cells=LS at *
  generalize R.map Rl.cells=RS at *
  generalize F.map Ak.cells=FS at *
  replace hG1:=Lib.hid hG1
  refine Qin [6] Tryz.func31 Tryz.results31 Tryz.ntmps31 ?_
  repeat' (first|refine QX ?_|(refine QB ?_;intro b)|(refine QP ?_;intro o' ho')|(with_reducible refine QZ ?_<;>(try constructor)<;>intro hb<;>try intro hb1)|refine Qc Tryz.call45 ((hG1.out _)) ?_|fail)
  all_goals exact Ar
|false =>
 rw[Bool.false_or]
 obtain⟨hl12,hkn⟩:=Reg.not_great hwL h1
 rw[h1] at hG1
 clear h1 hwL
 cases h2:Rul.great R with
|true =>
  rw[h2] at hG2
  rw[Bool.not_true,Bool.false_and]
  clear hwR hwF h2 hlL hlR hlF hkn
  generalize L.map Tm.cells=LS at *
  generalize R.map Rl.cells=RS at *
  generalize F.map Ak.cells=FS at *
  replace hG1:=Lib.hid hG1
  replace hG2:=Lib.hid hG2
  refine Qin [6] Tryz.func31 Tryz.results31 Tryz.ntmps31 ?_
  repeat' (first|refine QX ?_|(refine QB ?_;intro b)|(refine QP ?_;intro o' ho')|(with_reducible refine QZ ?_<;>(try constructor)<;>intro hb<;>try intro hb1)|refine Qc Tryz.call45 ((hG1.out _)) ?_|refine Qc Tryz.call46 ((hG2.out _)) ?_|fail)
  all_goals exact Ar
|false =>
 rw[Bool.not_false,Bool.true_and]
 obtain⟨hr12,hrk⟩:=Rul.not_great hwR h2
 rw[h2] at hG2
 clear h2 hwR
 have hok:∀t∈L,TOk t:=fun t h=>(hkn t h).ok
 have hRt:=Pd L hok q_o R hrk q_o
 cases h3:Rul.right L R with
|false =>
  rw[h3] at hRt
  rw[Bool.false_and]
  clear hwF h3 hlL hlR hlF hkn hrk hok
  generalize L.map Tm.cells=LS at *
  generalize R.map Rl.cells=RS at *
  generalize F.map Ak.cells=FS at *
  replace hG1:=Lib.hid hG1
  replace hG2:=Lib.hid hG2
  replace hRt:=Lib.hid hRt
  refine Qin [6] Tryz.func31 Tryz.results31 Tryz.ntmps31 ?_
  repeat' (first|refine QX ?_|(refine QB ?_;intro b)|(refine QP ?_;intro o' ho')|(with_reducible refine QZ ?_<;>(try constructor)<;>intro hb<;>try intro hb1)|refine Qc Tryz.call45 ((hG1.out _)) ?_|refine Qc Tryz.call46 ((hG2.out _)) ?_|refine Qc Tryz.call47 ((hRt.out _)) ?_|fail)
  all_goals exact Ar
|true =>
 rw[h3] at hRt
 rw[Bool.true_and]
 clear h3 hrk
 by_cases h7:40<F.length
 · rw[decide_eq_false q_o,Bool.false_and]
   clear hwF hlL hlR hlF hkn hok
   generalize L.map Tm.cells=LS at *
   generalize R.map Rl.cells=RS at *
   generalize F.map Ak.cells=FS at *
   replace hG1:=Lib.hid hG1
   replace hG2:=Lib.hid hG2
   replace hRt:=Lib.hid hRt
   refine Qin [6] Tryz.func31 Tryz.results31 Tryz.ntmps31 ?_
   repeat' (first|refine QX ?_|(refine QB ?_;intro b)|(refine QP ?_;intro o' ho')|(with_reducible refine QZ ?_<;>(try constructor)<;>intro hb<;>try intro hb1)|refine Qc Tryz.call45 ((hG1.out _)) ?_|refine Qc Tryz.call46 ((hG2.out _)) ?_|refine Qc Tryz.call47 ((hRt.out _)) ?_|fail)
   all_goals exact Ar
 rw[decide_eq_true q_o,Bool.true_and]
 have hSl:=Lib.hid fun(i:Nat)=>Fd L hok q_o i
 have hSm:=Lib.hid fun(i:Nat)=>Rul.slots_le L i
 have hLm:(L.map Tm.cells).length=L.length:=List.length_map ..
 have hRg:Hid (∀a∈F,(a.f.s.any V.great)=false→∀(o1 o:Own) (st:St),TrF Tryz.prog 49 [.sl o1 [a.f.cells],.sl o ((Mat.slotN L).map Ae)] st fun d st'=>d=.b (Mat.right (Mat.slotN L) [a.f])∧st'=st):=fun a ha hg o1 o st=>by
  have h1:=Nz [a.f] (Mat.slotN L) (fun _ f hf=>by
   rw[List.mem_singleton] at hf
   subst hf
   exact⟨fun x hx=>by
    have h2:=List.any_eq_false.1 hg x hx
    rw[Bool.not_eq_true] at h2
    have h3:=V.not_great h2
    exact⟨(hwF a ha).f.v x hx,h3.1,by omega⟩,(hwF a ha).f.l⟩) (by unfold maxLen;simp) (by rw[Mat.slotN_len];omega) o st
  exact TrF.le h1 ⟨LE.sl _ _,LEL.refl _⟩
 obtain⟨og,hog⟩:∃og:Nat→List (List D),og=fun i=>((Mat.slotN L).take i).map Ae:=⟨_,rfl⟩
 have h0:og 0=[]:=by rw[hog];rfl
 have hst:Hid (∀i,i<L.length→og (i+1)=og i++[[.i (Rul.slots L i).length]]):=fun i h=>by
  have e:(Mat.slotN L)[i]?=some ((Rul.slots L i).length:Int):=by
   unfold Mat.slotN
   rw[List.getElem?_map,List.getElem?_range h]
   rfl
  rw[hog]
  dsimp only
  rw[List.take_add_one,e,Option.toList_some,List.map_append]
  rfl
 have hend:Hid (og L.length=(Mat.slotN L).map Ae):=by
  rw[hog]
  dsimp only
  rw[List.take_of_length_le (Nat.le_of_eq (Mat.slotN_len L))]
  exact Lib.hid rfl
 have hol:Hid (∀i,(og i).length≤12):=fun i=>by
  rw[hog]
  dsimp only
  rw[List.length_map,List.length_take,Mat.slotN_len]
  omega
 have ho1:Hid (∀i,∀a∈og i,a.length=1):=fun i a ha=>by
  rw[hog] at ha
  obtain⟨x, -,rfl⟩:=List.mem_map.1 ha
  rfl
 have hFc:=hMp Ak.cells F
 replace hwF:=Lib.hid hwF
 rw[←hend.out] at hRg
 clear hog hend hok hkn hlL hlR hlF
 obtain⟨SN,hSN⟩:∃SN,Mat.slotN L=SN:=⟨_,rfl⟩
 rw[hSN] at hRg ⊢
 clear hSN
 obtain⟨T,hT⟩:∃T,Mat.actsB SN F=T:=⟨_,rfl⟩
 rw[hT]
 have HT:Hid (Mat.actsB SN (F.drop 0)=T):=hT
 clear hT
 generalize L.map Tm.cells=LS at *
 generalize R.map Rl.cells=RS at *
 generalize F.map Ak.cells=FS at *
 replace hG1:=Lib.hid hG1
 replace hG2:=Lib.hid hG2
 replace hRt:=Lib.hid hRt
 refine Qin [6] Tryz.func31 Tryz.results31 Tryz.ntmps31 ?_
 refine ET 3 1 (og 0).length ?_
 rw[h0]
 repeat' (first|refine QX ?_|(refine QB ?_;intro b)|(refine QP ?_;intro o' ho')|(with_reducible refine QZ ?_<;>(try constructor)<;>intro hb<;>try intro hb1)|refine Qc Tryz.call45 ((hG1.out _)) ?_|refine Qc Tryz.call46 ((hG2.out _)) ?_|refine Qc Tryz.call47 ((hRt.out _)) ?_|fail)
 refine Aj (ι:=Nat) (fun i A st'=>i≤L.length∧A.df=[]∧A.e 0=.sl .shared LS∧A.e 2=.sl .shared FS∧A.e 8=.i i∧∃o2,o2≠.shared∧A.e 7=.sl o2 (og i)∧st'=.room o2 3 1 (og i).length::st) (fun i=>L.length - i) 0 ⟨Nat.zero_le _,Qf,Qf,Qf,Qf,.tight,GR,by rw[h0];exact Qf,by rw[h0]⟩ ?_
 clear h0 hG1 hG2 hRt
 rintro i A st' ⟨hi,hdf,e0,e2,e8,o2,ho2,e7,rfl⟩
 by_cases hlt:i<L.length
 · have hC:=Lib.hid (hSl.out i)
   have hs:=Lib.hid (hst.out i hlt)
   have hl1:=hol.out i
   have hl3:=ho1.out i
   have hn:=hSm.out i
   have hCm:((Rul.slots L i).map Sl.cells).length=(Rul.slots L i).length:=List.length_map ..
   clear hSl hst hol ho1 hSm hFc hwF hRg HT
   generalize (Rul.slots L i).map Sl.cells=SC at *
   generalize (Rul.slots L i).length=n at *
   obtain⟨OG,hOG⟩:∃OG,OG=og i:=⟨_,rfl⟩
   rw[←hOG] at hl1 hl3 e7 hs ⊢
   clear hOG
   repeat' (first|refine QV ?_|((with_reducible refine Cm [] ?_ ?_ ?_ ?_ ?_);(iterate 3 (focus kernel_rfl));(focus((repeat(first|exact An|refine Aw q_m ?_));done)))|((with_reducible refine And.intro ?_ ?_);(focus exact q_k))|refine QY ?_|(refine QB ?_;intro b)|(refine QP ?_;intro o' ho')|(with_reducible refine QZ ?_<;>(try constructor)<;>intro hb<;>try intro hb1)|refine Qc Tryz.call48 ((hC.out _)) ?_|fail)
   refine⟨i+1,.room o' 3 1 (OG++[[D.i n]]).length::st,q_t,⟨hlt,?_,?_,?_,?_,o',ho',?_,by rw[hs.out]⟩,by omega⟩
   all_goals first|(rw[hs.out];exact Qf)|exact Qf
 have hil:i=L.length:=by omega
 subst hil
 clear hSl hst hol ho1 hSm
 repeat' (first|refine QX ?_|(refine QB ?_;intro b)|(refine QP ?_;intro o' ho')|(with_reducible refine QZ ?_<;>(try constructor)<;>intro hb<;>try intro hb1)|fail)
 refine Aj (ι:=Nat) (fun i A st'=>i≤F.length∧Hid (Mat.actsB SN (F.drop i)=T)∧A.df=[]∧A.e 2=.sl .shared FS∧A.e 9=.i i∧A.e 7=.sl o2 (og L.length)∧st'=.room o2 3 1 (og L.length).length::st) (fun i=>F.length - i) 0 ⟨Nat.zero_le _,HT,Qf,Qf,Qf,Qf,rfl⟩ ?_
 clear HT hdf e0 e2 e7 e8
 rintro i A st' ⟨hi,HT,hdf,e2,e9,e7,rfl⟩
 by_cases hlt:i<F.length
 · obtain⟨a,hf⟩:=gEx hlt
   have hfc:=hFc.out i a hf
   have ham:=List.mem_of_getElem? hf
   have hfw:=(hwF.out a ham).f
   have HE:=HT.out
   rw[Mat.actsB_drop hf] at HE
   have hRa:=hRg.out a ham
   have hVm:(a.f.s.map V.cells).length=a.f.s.length:=List.length_map ..
   have hVc:=hMp V.cells a.f.s
   have hVg:Hid (∀x∈a.f.s,∀st,TrF Tryz.prog 16 [.agg x.cells] st fun d st'=>d=.b x.great∧st'=st):=fun x hx st=>EG x (hfw.v x hx) st
   have hfl:=hfw.l
   unfold maxLen at hfl
   unfold Mat.actB at HE
   rw[show a.cells=[.i a.kind,.i a.id,.i a.f.id,.i a.f.time,.i a.f.tmpl,.i a.f.ver,.sl .shared (a.f.s.map V.cells)] from rfl] at hfc
   rw[show a.f.cells=[.i a.f.id,.i a.f.time,.i a.f.tmpl,.i a.f.ver,.sl .shared (a.f.s.map V.cells)] from rfl] at hRa
   clear HT hFc hwF hf hfw hRg ham
   obtain⟨G,hGG⟩:∃G,Mat.actsB SN (F.drop (i+1))=G:=⟨_,rfl⟩
   rw[hGG] at HE
   replace hGG:=Lib.hid hGG
   obtain⟨Q,hQ⟩:∃Q,Mat.right SN [a.f]=Q:=⟨_,rfl⟩
   rw[hQ] at HE hRa
   clear hQ
   generalize a.f.s=vs at *
   generalize a.kind=kd at *
   generalize a.id=ai at *
   generalize a.f.id=f0 at *
   generalize a.f.time=f1 at *
   generalize a.f.tmpl=f2 at *
   generalize a.f.ver=f3 at *
   generalize vs.map V.cells=VS at *
   generalize og L.length=OG at *
   have HV:Hid ((!((vs.drop 0).any V.great) && ((!(decide (kd=0)) || Q) && G))=T):=HE
   replace hRa:Hid (((vs.drop 0).any V.great)=false→_):=hRa
   clear HE
   repeat' (first|refine QX ?_|(refine QB ?_;intro b)|(refine QP ?_;intro o' ho')|(with_reducible refine QZ ?_<;>(try constructor)<;>intro hb<;>try intro hb1)|fail)
   refine Aj (ι:=Nat) (fun k A2 st2=>k≤vs.length∧Hid ((!((vs.drop k).any V.great) && ((!(decide (kd=0)) || Q) && G))=T)∧Hid (((vs.drop 0).any V.great)=((vs.drop k).any V.great))∧A2.df=[]∧A2.e 2=.sl .shared FS∧A2.e 9=.i i∧A2.e 7=.sl o2 OG∧A2.e 10=.ptr b 0∧A2.e 11=.i k∧st2=.box b 43 [.i f0,.i f1,.i f2,.i f3,.sl .shared VS]::.room o2 3 1 OG.length::st) (fun k=>vs.length - k) 0 ⟨Nat.zero_le _,HV,Lib.hid rfl,Qf,Qf,Qf,Qf,Qf,Qf,rfl⟩ ?_
   clear HV hdf e2 e9 e7
   rintro k A2 st2 ⟨hk,HK,HZ,hdf,e2,e9,e7,e10,e11,rfl⟩
   by_cases hkl:k<vs.length
   · obtain⟨x,hx⟩:=gEx hkl
     have hxc:=hVc.out k x hx
     have hxr:=hVg.out x (List.mem_of_getElem? hx)
     have HE:=HK.out
     have HZ2:=HZ.out
     rw[CM hx] at HE HZ2
     clear HK hVc hVg hx HZ hRa
     cases x with
     | mk k1 n1 s1 l1 =>
     rw[V.cells_mk] at hxc hxr
     generalize l1.map V.cells=L1 at *
     cases hq:V.great (V.mk k1 n1 s1 l1) with
     | true =>
      rw[hq,Bool.true_or,Bool.not_true,Bool.false_and] at HE
      rw[hq] at hxr
      subst HE
      clear hq HZ2
      replace hxr:=Lib.hid hxr
      repeat' (first|refine QX ?_|(refine QB ?_;intro b)|(refine QP ?_;intro o' ho')|(with_reducible refine QZ ?_<;>(try constructor)<;>intro hb<;>try intro hb1)|refine Qc Tryz.call16 ((hxr.out _)) ?_|fail)
      all_goals exact Ar
     | false =>
      rw[hq,Bool.false_or] at HE HZ2
      rw[hq] at hxr
      clear hq
      replace hxr:=Lib.hid hxr
      replace HE:=Lib.hid HE
      replace HZ2:=Lib.hid HZ2
      repeat' (first|refine QX ?_|(refine QB ?_;intro b)|(refine QP ?_;intro o' ho')|(with_reducible refine QZ ?_<;>(try constructor)<;>intro hb<;>try intro hb1)|refine Qc Tryz.call16 ((hxr.out _)) ?_|fail)
      refine⟨k+1,.box b 43 [.i f0,.i f1,.i f2,.i f3,.sl .shared VS]::.room o2 3 1 OG.length::st,q_u,⟨hkl,HE,HZ2,?_,?_,?_,?_,?_,?_,rfl⟩,by omega⟩
      all_goals exact Qf
   · have HE:=HK.out
     have HZ2:=HZ.out
     have hdk:vs.drop k=[]:=List.drop_of_length_le q_o
     rw[hdk,List.any_nil] at HE HZ2
     rw[Bool.not_false,Bool.true_and] at HE
     have hR:=Lib.hid (hRa.out HZ2)
     clear HK hVc hVg HZ HZ2 hRa
     by_cases hk0:kd=0
     · rw[decide_eq_true hk0,Bool.not_true,Bool.false_or] at HE
       subst hk0
       cases Q with
       | false =>
        rw[Bool.false_and] at HE
        subst HE
        clear hGG
        repeat' (first|refine QX ?_|(refine QB ?_;intro b)|(refine QP ?_;intro o' ho')|(with_reducible refine QZ ?_<;>(try constructor)<;>intro hb<;>try intro hb1)|refine Qc Tryz.call49 ((hR.out _ _ _)) ?_|fail)
        all_goals exact Ar
       | true =>
        rw[Bool.true_and] at HE
        replace HE:=Lib.hid (hGG.out.trans HE)
        clear hGG
        repeat' (first|refine QX ?_|(refine QB ?_;intro b)|(refine QP ?_;intro o' ho')|(with_reducible refine QZ ?_<;>(try constructor)<;>intro hb<;>try intro hb1)|refine Qc Tryz.call49 ((hR.out _ _ _)) ?_|fail)
        refine⟨i+1,.room o2 3 1 OG.length::st,q_t,⟨hlt,HE,?_,?_,?_,?_,rfl⟩,by omega⟩
        all_goals exact Qf
     · rw[decide_eq_false hk0,Bool.not_false,Bool.true_or,Bool.true_and] at HE
       replace HE:=Lib.hid (hGG.out.trans HE)
       clear hGG hR
       repeat' (first|refine QX ?_|(refine QB ?_;intro b)|(refine QP ?_;intro o' ho')|(with_reducible refine QZ ?_<;>(try constructor)<;>intro hb<;>try intro hb1)|fail)
       refine⟨i+1,.room o2 3 1 OG.length::st,q_t,⟨hlt,HE,?_,?_,?_,?_,rfl⟩,by omega⟩
       all_goals exact Qf
 · have HE:=HT.out
   rw[List.drop_of_length_le q_o] at HE
   have HE:true=T:=HE
   subst HE
   clear HT hFc hwF hRg
   generalize og L.length=OG at *
   exact WRa
end
end
section
section
variable {P:Program} {r:Option Nat} {A:AA} {st:St} {k:D→St→Prop} {dst:Option Tmp} {ty:TypeId} {pos:String} {aft:Array Edge} {gd:Option (Nat×Bool)} {t t':TypeId} {x:Operand}
theorem Ez{b off:Nat}(ht:Pj P t=true)(hx:ev A.e x=some (.ptr b off))(hk:k (.b false) st):S P r none ⟨dst,.binOp .eql t x (.const (.pointer none)) t',ty,pos,aft,gd⟩ A st k:=Xq (a:=some ⟨b,off,none⟩) ht hx rfl hk
end
theorem MemP.cells3(M:MemP)(n:Nat):∃a b c,M.cells n=[a,b,c]:=by cases M<;>exact⟨_,_,_,rfl⟩
def Ck (N:NT)(M:MemP)(F:List Fc)(cs:List NC):St:=.box N.b 105 (.sl .shared N.row::M.cells F.length)::(M.resF F++cs.flatMap NC.st)
theorem Ff(N:NT):Ck N N.fm N.fs N.cs=N.st:=rfl
theorem DA(N:NT)(M:MemP)(F:List Fc)(cs:List NC)(s:St):Ck N M F cs++s=.box N.b 105 ([.sl .shared N.row]++(M.cells F.length++[]))::(M.resF F++(cs.flatMap NC.st++s)):=by
 unfold Ck
 rw[List.append_nil,List.cons_append,List.append_assoc]
 rfl
theorem Mx(N:NT)(R:List Rl)(id:Int)(h:N.Ok R)(st:St):TrF Tryz.prog 64 [.ptr N.b 1,.i id] (N.st++st) fun d st'=>d=DV (Mat.find N.fs id)∧st'=N.st++st:=by
 have h1:=Rk N.b 105 [.sl .shared N.row] [] N.fm N.fs id h.fok (by have:=h.fl;omega) (N.cs.flatMap NC.st++st)
 rw[←Ff,DA]
 exact h1
theorem Yb(N:NT)(R:List Rl)(f:Fc)(h:N.Ok R)(hid:f.id∉N.fs.map Fc.id)(st:St):TrF Tryz.prog 65 [.ptr N.b 1,.i f.id,.agg f.cells] (N.st++st) fun d st'=>∃M':MemP,M'.okF (N.fs++[f])∧d=.tup []∧(Ck N M' (N.fs++[f]) N.cs++st).Perm st':=by
 have h1:=Ri N.b 105 [.sl .shared N.row] [] N.fm N.fs f h.fok hid (by have:=h.fl;omega) (N.cs.flatMap NC.st++st)
 rw[←Ff,DA]
 refine h1.mono fun d st' ⟨M',a1,a2,a3⟩=>⟨M',a1,a2,?_⟩
 rw[DA,List.length_append,List.length_singleton]
 exact a3
theorem VC(N:NT)(R:List Rl)(f z:Fc)(i n:Nat)(h:N.Ok R)(hn:N.fs.length=n+1)(hi:N.fs[i]?=some f)(hz:N.fs[n]?=some z)(st:St):TrF Tryz.prog 68 [.ptr N.b 1,.i f.id] (N.st++st) fun d st'=>∃M':MemP,M'.okF (Ax N.fs i z)∧d=.tup []∧(Ck N M' (Ax N.fs i z) N.cs++st).Perm st':=by
 have h1:=OB N.b 105 [.sl .shared N.row] [] N.fm N.fs f z i n h.fok hn hi hz (by have:=h.fl;omega) (N.cs.flatMap NC.st++st)
 rw[←Ff,DA]
 refine h1.mono fun d st' ⟨M',a1,a2,a3⟩=>⟨M',a1,a2,?_⟩
 rw[DA,Ew hn]
 exact a3
theorem EH{N:NT}{M:MemP}{F:List Fc}{cs:List NC}{i:Nat}{S:NC}(h:cs[i]?=some S)(s:St):(Ck N M F cs++s).Perm (S.st++(.box N.b 105 (.sl .shared N.row::M.cells F.length)::(M.resF F++(((cs.take i).flatMap NC.st++(cs.drop (i+1)).flatMap NC.st)++s)))):=by
 have h1:=(TZ h).append_right s
 rw[List.append_assoc] at h1
 unfold Ck
 rw[List.cons_append,List.append_assoc]
 refine((h1.append_left _).cons _).trans ?_
 generalize (cs.take i).flatMap NC.st++(cs.drop (i+1)).flatMap NC.st++s=X
 refine(List.Perm.cons _ ?_).trans List.perm_middle.symm
 rw[←List.append_assoc,←List.append_assoc]
 exact List.perm_append_comm.append_right _
theorem Lg{N:NT}{M:MemP}{F:List Fc}{cs:List NC}{i:Nat}{S S':NC}(h:cs[i]?=some S)(s:St):(Ck N M F (cs.set i S')++s).Perm (S'.st++(.box N.b 105 (.sl .shared N.row::M.cells F.length)::(M.resF F++(((cs.take i).flatMap NC.st++(cs.drop (i+1)).flatMap NC.st)++s)))):=by
 have hil:=(List.getElem?_eq_some_iff.1 h).1
 have h1:=EH (N:=N) (M:=M) (F:=F) (cs:=cs.set i S') (i:=i) (S:=S') (List.getElem?_set_self hil) s
 rwa[Bv,BB] at h1
end
end Go.Proofs.YtoeidpmjifjplaaGreat
