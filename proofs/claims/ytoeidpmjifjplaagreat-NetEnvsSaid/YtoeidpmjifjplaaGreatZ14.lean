/- Texts put together. No statement is proved here. -/
import Derived.Test.YtoeidpmjifjplaaGreatZ13
set_option linter.all false
set_option maxRecDepth 10000
set_option maxHeartbeats 8000000
namespace Go.Proofs.YtoeidpmjifjplaaGreat
open Go.RowKit Tryz
section
attribute [local push_cast] Br Bl BV V.cells_mk V.cells_len Nat.mul_one Int.sub_zero List.map_nil beq_self_eq_true bne_self_eq_false List.head?_cons Bool.not_true Bool.not_false Nat.zero_add
attribute [-instance] Ck Cu BO Ds
theorem Qy(id:Int)(st:St):TrF prog 35 [.s (.pointer none),.i id] st λd st'=>d=.b false/\st'=st:=by
 refine Qin [4] func35 results35 ntmps35 ?_
 repeat' (first|refine QV ?_|((with_reducible apply Mx);(focus kernel_rfl);(focus exact q_v))|refine QY ?_|refine QB ?_;intro b|with_reducible refine QZ ?_<;>(try constructor)<;>intro hb<;>try intro hb1|fail)
 all_goals exact BZ
theorem UX(N:NT)(R:List Rl)(id:Int)(h:N.Ok R)(hR:R.length<=1000)(st:St):TrF prog 35 [.ptr N.b 0,.i id] (N.st++st) λd st'=>∃N':NT,N'.Ok R/\N'.b=N.b/\((id∉N.fs.map Fc.id/\N'.fs=N.fs/\d=.b false)\/(id∈N.fs.map Fc.id/\N'.fs.Perm (EU id N.fs)/\d=.b true))/\(N'.st++st).Perm st':=by
 have hget:=Tj N R id h st
 cases ha:Mat.find N.fs id with
|none =>
  have hin:id∉N.fs.map Fc.id:=λhm=>by
   obtain⟨g,hg,e⟩:=Av.1 hm
   have:=Dr.1 ha g hg
   simp[e]at this
  have hfin:Hid (∃N':NT,N'.Ok R/\N'.b=N.b/\((id∉N.fs.map Fc.id/\N'.fs=N.fs/\D.b false=.b false)\/(id∈N.fs.map Fc.id/\N'.fs.Perm (EU id N.fs)/\D.b false=.b true))/\(N'.st++st).Perm (N.st++st)):=⟨N,h,rfl,.inl ⟨hin,rfl,rfl⟩,.refl _⟩
  rw[ha]at hget
  dsimp only[GL]at hget
  replace hget:=Aa hget
  clear ha hin h hR
  generalize N.st++st=RS at *
  refine Qin [4] func35 results35 ntmps35 ?_
  repeat' (first|refine QV ?_|((with_reducible apply Jz);(focus kernel_rfl);(focus exact q_v))|((with_reducible apply(BG (f:=64) (henter:=call64) (hp:=Ar _) (h:=hget.out)));(focus exact q_v);(focus exact q_l);(rintro d0 st0 ⟨rfl,rfl⟩))|refine QY ?_|refine QB ?_;intro b|with_reducible refine QZ ?_<;>(try constructor)<;>intro hb<;>try intro hb1|fail)
  all_goals exact Bf (by simp) q_y (AK ..) (LE.of_eq q_v) hfin.out
|some f =>
  have hfid:f.id=id:=by have:=FE ha;simpa using this
  have hfm:f∈N.fs:=CI ha
  have hin:id∈N.fs.map Fc.id:=Av.2 ⟨f,hfm,hfid⟩
  obtain⟨i0,hi0⟩:=BT hfm
  obtain⟨n,hn⟩:∃n,N.fs.length=n+1:=⟨N.fs.length - 1,by have:=nO hfm;omega⟩
  obtain⟨z,hz⟩:=gEx (l:=N.fs) (i:=n) q_o
  obtain⟨G,hG⟩:∃G,G=Cz N.fs i0 z:=⟨_,rfl⟩
  have hF:N.fs.Perm (f::G):=by rw[hG];exact OK hn hi0 hz
  have hnd2:(f.id::G.map Fc.id).Nodup:=(hF.map Fc.id).nodup_iff.1 h.nodup
  have hGw:Hid (G.Perm (EU id N.fs)):=by
   have:=Mm hF (Bb.1 hnd2).1
   rw[hfid]at this
   exact this
  have hGm:Hid (∀x∈G,x∈N.fs):=λx hx=>hF.mem_iff.2 (Ae _ hx)
  have hGl:G.length<=1000:=by
   have h1:=hF.length_eq
   have h2:=h.fl
   rw[An]at h1
   omega
  rw[ha]at hget
  dsimp only[GL]at hget
  obtain⟨W,hW⟩:∃W:MemP->St,W=λM=>M.resF G++N.cs.flatMap NC.st++st:=⟨_,rfl⟩
  have hWe:Hid (∀M,.box N.b 105 (.sl .shared N.row::M.cells G.length)::W M=Ga N M G N.cs++st):=λM=>by rw[hW];rfl
  have hput:∀fb:Res,TrF prog 68 [.ptr N.b 1,.i id] (fb::(N.st++st)) λd st'=>∃M':MemP,M'.okF G/\d=.tup []/\(fb::.box N.b 105 (.sl .shared N.row::M'.cells G.length)::W M').Perm st':=λfb=>by
   have h1:=cz N R f z i0 n h hn hi0 hz (fb::st)
   rw[hfid,<-hG]at h1
   exact(TrF.perm AD.symm h1).mono λd st' ⟨M',a1,a2,a3⟩=>⟨M',a1,a2,by rw[hWe.out];exact AD.symm.trans a3⟩
  have hE:Hid (∀fb:Res,∃(d:D) (st':St) (M':MemP),M'.okF G/\d=.tup []/\(fb::.box N.b 105 (.sl .shared N.row::M'.cells G.length)::W M').Perm st'):=λfb=>by
   obtain⟨M0,hM0⟩:=Wy G (Bb.1 hnd2).2
   exact⟨_,_,M0,hM0,rfl,.refl _⟩
  clear hW
  replace hget:=Aa hget
  have HN:=Aa h
  have hcl:=h.cl
  clear ha h hfid hfm hi0 hn hz hG hF hnd2
  rw[show f.cells=[.i f.id,.i f.time,.i f.tmpl,.i f.ver,.sl .shared (f.s.map V.cells)]from rfl]at hget
  generalize f.s.map V.cells=VS at *
  obtain⟨RS,hRS⟩:∃RS,RS=N.st++st:=⟨_,rfl⟩
  rw[<-hRS]at hget hput |-
  have hrl:N.row.length=R.length:=by unfold NT.row;rw[Ab,hcl]
  have hrow:Hid (∀(i:Nat) (S:NC),N.cs[i]?=some S->N.row[i]?=some [.ptr S.c 0]):=λi S h=>by unfold NT.row;rw[Aq,h];rfl
  obtain⟨cl,hcl2⟩:∃cl:MemP->List D,cl=λM=>M.cells G.length:=⟨_,rfl⟩
  have hcle:∀M:MemP,M.cells G.length=cl M:=λM=>by rw[hcl2]
  simp only[hcle]at hput hE hWe
  clear hcle hcl2 hRS
  obtain⟨ROW,hROW⟩:∃ROW,ROW=N.row:=⟨_,rfl⟩
  rw[<-hROW]at hput hE hWe hrl hrow
  replace hROW:=Aa hROW
  replace hput:=Aa hput
  refine Qin [4] func35 results35 ntmps35 ?_
  repeat' (first|refine QV ?_|((with_reducible apply Jz);(focus kernel_rfl);(focus exact q_v))|((with_reducible apply(BG (f:=64) (henter:=call64) (hp:=Ar _) (h:=hget.out)));(focus exact q_v);(focus exact q_l);(rintro d0 st0 ⟨rfl,rfl⟩))|((with_reducible apply(BG (f:=68) (henter:=call68) (hp:=Ar _) (h:=hput.out _)));(focus exact q_v);(focus exact q_l);(rintro d0 st0 ⟨M2,hok2,rfl,hp2⟩))|((with_reducible refine Bn hp2.symm ?_);clear hp2)|refine QY ?_|refine QB ?_;intro b|with_reducible refine QZ ?_<;>(try constructor)<;>intro hb<;>try intro hb1|fail)
  clear hget hput hE
  skip
  focus
   have hW2:Hid (∀B:Res,(B::.box N.b 105 (.sl .shared ROW::cl M2)::W M2).Perm (B::(Ga N M2 (G) N.cs++st))):=λB=>by rw[hWe.out]
   refine Bs (ι:=Nat) (λi A st'=>i<=R.length/\A.df=[]/\A.e 1=.i id/\A.e 29=.sl .shared ROW/\A.e 30=.i R.length/\A.e 31=.i i/\∃(B:Res) (cs':List NC),Hid (StepC N.cs R N.fs (G) i cs')/\st'.Perm (B::(Ga N M2 (G) cs'++st))) (λi=>R.length - i) 0 ⟨Ao _,Qf,Qf,Qf,Qf,Qf,_,N.cs,StepC.zero ..,hW2.out _⟩ ?_
   clear hW2 hWe
   rintro i A st' ⟨hi,hdf,e1,e29,e30,e31,B,cs',HS,hp⟩
   by_cases hlt:i<R.length
   . obtain⟨x,hx⟩:=gEx hlt
     obtain⟨S,hS⟩:∃S,N.cs[i]?=some S:=⟨_,Al (by rw[hcl];exact hlt)⟩
     have hS2:=(HS.out.todo i (Ap _)).trans hS
     have hC:=HN.out.ch i x S hx hS
     have hrc:=hrow.out i S hS
     obtain⟨RR,hRR⟩:∃RR,RR=Res.box N.b 105 (.sl .shared N.row::M2.cells (G).length)::(M2.resF (G)++(((cs'.take i).flatMap NC.st++(cs'.drop (i+1)).flatMap NC.st)++st)):=⟨_,rfl⟩
     have hcome:Hid (TrF prog 69 [.ptr S.c 0,.i id] (S.st++(B::RR)) λd st0=>∃cs2:List NC,Hid (StepC N.cs R N.fs (G) (i+1) cs2)/\d=.tup []/\st0.Perm (B::(Ga N M2 (G) cs2++st))):=by
      have h1:=ZR S id hC.str hC.loc (by rw[hC.nl];omega) (B::RR)
      refine h1.mono λd st0 ⟨S',a1,a2,a3⟩=>⟨cs'.set i S',HS.out.next hx hS a1.c (hC.leave a1 hGw.out),a2,?_⟩
      refine a3.symm.trans (AD.trans (List.Perm.cons _ ?_))
      rw[hRR]
      exact(Ru hS2 st).symm
     have hp2:st'.Perm (S.st++(B::RR)):=by
      refine hp.trans (List.Perm.trans (List.Perm.cons _ ?_) AD.symm)
      rw[hRR]
      exact JD hS2 st
     refine Bn hp2 ?_
     clear hp hp2 hRR HS hC hS hS2 hx hrow
     generalize S.st++(B::RR)=ST at *
     generalize S.c=sc at *
     repeat' (first|refine QV ?_|((with_reducible apply(BG (f:=69) (henter:=call69) (hp:=Ar _) (h:=hcome.out)));(focus exact q_v);(focus exact q_l);(rintro d0 st0 ⟨cs2,hS2,rfl,hp4⟩))|refine QY ?_|refine QB ?_;intro b|with_reducible refine QZ ?_<;>(try constructor)<;>intro hb<;>try intro hb1|fail)
     refine⟨i+1,_,Aj _,⟨hlt,?_,?_,?_,?_,?_,B,cs2,hS2,hp4⟩,by omega⟩
     all_goals exact Qf
   . have hil:i=R.length:=by omega
     subst hil
     have hfin:Hid (∃N':NT,N'.Ok R/\N'.b=N.b/\((id∉N.fs.map Fc.id/\N'.fs=N.fs/\D.b true=.b false)\/(id∈N.fs.map Fc.id/\N'.fs.Perm (EU id N.fs)/\D.b true=.b true))/\(N'.st++st).Perm (Ga N M2 G cs'++st)):=by
      refine⟨⟨N.b,cs',M2,G⟩,⟨hok2,⟨λz hz=>HN.out.fk.f z (hGm.out z hz),?_⟩,?_,λz hz=>HN.out.f0 z (hGm.out z hz),HS.out.len.trans hcl,λj x S h1 h2=>HS.out.done j x S (Af.1 h1).1 h1 h2⟩,rfl,.inr ⟨hin,hGw.out,rfl⟩,?_⟩
      . show G.length<=1000000
        omega
      . exact hGl
      . have h1:(⟨N.b,cs',M2,G⟩:NT).row=N.row:=HS.out.row_eq
        unfold NT.st NT.cells Ga
        rw[h1]
     refine Bn hp ?_
     clear hp HS HN hrow hok2 hGw hGm hin
     generalize Ga N M2 (G) cs'++st=ST at *
     repeat' (first|refine QX ?_|refine QB ?_;intro b|with_reducible refine QZ ?_<;>(try constructor)<;>intro hb<;>try intro hb1|fail)
     exact Bf (by simp) q_y (AK ..) (LE.of_eq q_v) hfin.out
end
end Go.Proofs.YtoeidpmjifjplaaGreat
section
namespace Go.Proofs
open Go.Shelf
def Tryz.sortFact_ren:Go.Shelf.Ren:=⟨fun|6=>109|15=>93|14=>145|28=>137|29=>138|20=>172|21=>173|22=>174|23=>175|24=>176|25=>177|26=>178|27=>179|46=>195|47=>168|48=>169|49=>196|50=>197|57=>207|n=>n,fun|22=>24|24=>43|25=>132|3=>3|39=>161|0=>0|53=>210|55=>212|4=>4|46=>204|45=>203|50=>168|5=>5|9=>9|66=>240|70=>244|76=>260|77=>261|n=>n,fun|n=>n⟩
theorem Tryz.sortFact:Go.Proofs.SlLaysF0.n6 Tryz.prog Tryz.sortFact_ren:={
 mixed:=by kernel_rfl
 f6:=⟨Tryz.f109.name,by decide,Tryz.func109.trans (congrArg some (by kernel_rfl))⟩
 f14:=⟨Tryz.f145.name,by decide,Tryz.func145.trans (congrArg some (by kernel_rfl))⟩
 f15:=Tryz.func93.trans (congrArg some (by kernel_rfl))
 f20:=⟨Tryz.f172.name,by decide,Tryz.func172.trans (congrArg some (by kernel_rfl))⟩
 f21:=⟨Tryz.f173.name,by decide,Tryz.func173.trans (congrArg some (by kernel_rfl))⟩
 f22:=⟨Tryz.f174.name,by decide,Tryz.func174.trans (congrArg some (by kernel_rfl))⟩
 f23:=⟨Tryz.f175.name,by decide,Tryz.func175.trans (congrArg some (by kernel_rfl))⟩
 f24:=⟨Tryz.f176.name,by decide,Tryz.func176.trans (congrArg some (by kernel_rfl))⟩
 f25:=⟨Tryz.f177.name,by decide,Tryz.func177.trans (congrArg some (by kernel_rfl))⟩
 f26:=⟨Tryz.f178.name,by decide,Tryz.func178.trans (congrArg some (by kernel_rfl))⟩
 f27:=⟨Tryz.f179.name,by decide,Tryz.func179.trans (congrArg some (by kernel_rfl))⟩
 f28:=Tryz.func137.trans (congrArg some (by kernel_rfl))
 f29:=Tryz.func138.trans (congrArg some (by kernel_rfl))
 f46:=⟨Tryz.f195.name,by decide,Tryz.func195.trans (congrArg some (by kernel_rfl))⟩
 f47:=Tryz.func168.trans (congrArg some (by kernel_rfl))
 f48:=Tryz.func169.trans (congrArg some (by kernel_rfl))
 f49:=⟨Tryz.f196.name,by decide,Tryz.func196.trans (congrArg some (by kernel_rfl))⟩
 f50:=⟨Tryz.f197.name,by decide,Tryz.func197.trans (congrArg some (by kernel_rfl))⟩
 f57:=⟨Tryz.f207.name,by decide,Tryz.func207.trans (congrArg some (by kernel_rfl))⟩
 t0:=Tryz.underlying0
 a0:=Tryz.isAgg0
 z0:=Tryz.sizeOf0
 v0:=Tryz.zeroValue0
 t3:=Tryz.underlying3
 a3:=Tryz.isAgg3
 z3:=Tryz.sizeOf3
 v3:=Tryz.zeroValue3
 t4:=Tryz.underlying4
 a4:=Tryz.isAgg4
 z4:=Tryz.sizeOf4
 v4:=Tryz.zeroValue4
 t5:=Tryz.underlying5
 a5:=Tryz.isAgg5
 z5:=Tryz.sizeOf5
 v5:=Tryz.zeroValue5
 t9:=Tryz.underlying9
 a9:=Tryz.isAgg9
 z9:=Tryz.sizeOf9
 v9:=Tryz.zeroValue9
 t22:=Tryz.underlying24
 a22:=Tryz.isAgg24
 z22:=Tryz.sizeOf24
 v22:=Tryz.zeroValue24
 t25:=Tryz.underlying132
 a25:=Tryz.isAgg132
 z25:=Tryz.sizeOf132
 v25:=Tryz.zeroValue132
 t39:=Tryz.underlying161
 a39:=Tryz.isAgg161
 z39:=Tryz.sizeOf161
 v39:=Tryz.zeroValue161
 t45:=Tryz.underlying203
 a45:=Tryz.isAgg203
 z45:=Tryz.sizeOf203
 v45:=Tryz.zeroValue203
 t46:=Tryz.underlying204
 a46:=Tryz.isAgg204
 z46:=Tryz.sizeOf204
 v46:=Tryz.zeroValue204
 t50:=Tryz.underlying168
 a50:=Tryz.isAgg168
 z50:=Tryz.sizeOf168
 v50:=Tryz.zeroValue168
 t53:=Tryz.underlying210
 a53:=Tryz.isAgg210
 z53:=Tryz.sizeOf210
 v53:=Tryz.zeroValue210
 t55:=Tryz.underlying212
 a55:=Tryz.isAgg212
 z55:=Tryz.sizeOf212
 v55:=Tryz.zeroValue212
 t66:=Tryz.underlying240
 a66:=Tryz.isAgg240
 z66:=Tryz.sizeOf240
 v66:=Tryz.zeroValue240
 t70:=Tryz.underlying244
 a70:=Tryz.isAgg244
 z70:=Tryz.sizeOf244
 v70:=Tryz.zeroValue244
 t76:=Tryz.underlying260
 a76:=Tryz.isAgg260
 z76:=Tryz.sizeOf260
 v76:=Tryz.zeroValue260
 t77:=Tryz.underlying261
 a77:=Tryz.isAgg261
 z77:=Tryz.sizeOf261
 v77:=Tryz.zeroValue261}
end Go.Proofs
end
namespace Go.Proofs.YtoeidpmjifjplaaGreat
open Go.RowKit Tryz
section
attribute [local push_cast] Br Bl BV V.cells_mk V.cells_len Nat.mul_one Int.sub_zero List.map_nil beq_self_eq_true bne_self_eq_false List.head?_cons Bool.not_true Bool.not_false Nat.zero_add
open Go.RowKit Go.Sort
theorem ah(a b:Fc)(st:St):TrF prog 74 [.agg a.cells,.agg b.cells] st λd st'=>d=.i (V.sgn a.id b.id)/\st'=st:=by
 have hC:=Aa (Sq a.id b.id)
 unfold Fc.cells
 generalize V.sgn a.id b.id=R at *
 generalize a.s.map V.cells=AC at *
 generalize b.s.map V.cells=BC at *
 generalize a.id=r1 at *
 generalize b.id=r2 at *
 refine Qin [4] func74 results74 ntmps74 ?_
 repeat' (first|refine QV ?_|((with_reducible refine QW ?_);intro hne;simp only[nes,ne1,and_assoc]at hne;repeat(have hq:=hne.1;replace hne:=hne.2))|refine QY ?_|refine QB ?_;intro b|with_reducible refine QZ ?_<;>(try constructor)<;>intro hb<;>try intro hb1|refine Qc call75 ((hC.out _)) ?_|fail)
 all_goals exact BZ
structure CellF (O:Nat->Nat->Prop)(w:World) where
 vs:List Value
 f:Fc
 h:RepL O w vs f.cells
variable {O:Nat->Nat->Prop} {w:World}
theorem CellF.len(c:CellF O w):c.vs.length=5:=c.h.1
theorem VJ:∀{l:List Fc} {us:List Value},RepL O w us (CR l)->∃cs:List (CellF O w),cs.map CellF.f=l/\(cs.map CellF.vs).flatten=us
|[],us,h=>by
  obtain rfl:=h.inv_nil
  exact⟨[],rfl,rfl⟩
|f::l,us,h=>by
  have e:CR (f::l)=f.cells++CR l:=by
   unfold CR
   rw[Au,AL]
  rw[e]at h
  have h1:=h.take 5
  have h2:=h.drop 5
  rw[Qj (Fc.cells_len f)]at h1
  rw[Qm (Fc.cells_len f)]at h2
  obtain⟨cs,k1,k2⟩:=VJ h2
  refine⟨⟨us.take 5,f,h1⟩::cs,by rw[Au,k1],?_⟩
  rw[Au,AL,k2]
  exact Bv 5 us
theorem Sz:∀(cs:List (CellF O w)) (t:Nat),((cs.map CellF.vs).flatten)[t]?=(cs[t / 5]?).bind λc=>c.vs[t % 5]?
|[],t=>by simp
|c::cs,t=>by
  rw[Au,AL]
  by_cases ht:t<5
  . rw[Ba (by rw[c.len];exact ht),Nat.div_eq_of_lt ht,Om ht];rfl
  . rw[BP (by rw[c.len];omega),c.len,Sz cs (t - 5)]
    have h1:t / 5=(t - 5) / 5+1:=by omega
    have h2:t % 5=(t - 5) % 5:=by omega
    rw[h1,h2,Bq]
theorem PG[Inhabited (CellF O w)](cs:List (CellF O w)):(flatK CellF.vs 5 cs.toArray).toList=(cs.map CellF.vs).flatten:=by
 apply Cx
 intro t
 rw[Sz]
 by_cases ht:t<cs.length*5
 . have hs:t<(flatK CellF.vs 5 cs.toArray).size:=by rw[size_flatK];simpa using ht
   have h1:=get_flatK CellF.vs 5 cs.toArray t (by simpa using ht)
   rw[getElem!_pos _ t hs]at h1
   rw[BF,Be hs,h1]
   have h2:t / 5<cs.length:=by omega
   rw[Al h2,BS,getElem!_pos _ (t / 5) (by simpa using h2)]
   have h3:t % 5<(cs[t / 5]).vs.length:=by rw[CellF.len];omega
   simp only[oT]
   rw[getElem!_pos _ (t % 5) h3,Al h3]
 . rw[Bz (l:=cs) q_o,BF,Ee (by rw[size_flatK];simp;omega)]
   rfl
theorem Sy:∀cs:List (CellF O w),RepL O w (cs.map CellF.vs).flatten (CR (cs.map CellF.f))
|[]=>RepL.nil
|c::cs=>by
  have e:CR ((c::cs).map CellF.f)=c.f.cells++CR (cs.map CellF.f):=by
   unfold CR
   rw[Au,Au,AL]
  rw[e,Au,AL]
  exact RepL.append c.h (Sy cs)
theorem Rg(l:List Fc):∀d∈CR l,d.leaf=true:=by
 intro d hd
 obtain⟨e,he,hd⟩:=Ht.1 hd
 obtain⟨m, -,rfl⟩:=Av.1 he
 unfold Fc.cells at hd
 simp only[Ax,AP,or_false]at hd
 rcases hd with rfl|rfl|rfl|rfl|rfl<;>rfl
theorem ltF(x y:CellF O w):ltOf (λx y:CellF O w=>V.sgn x.f.id y.f.id) x y=decide (x.f.id<y.f.id):=decide_eq_decide.2 Mat.sgn_neg
theorem m8(O:Nat->Nat->Prop)(w:World):SWO (ltOf (λx y:CellF O w=>V.sgn x.f.id y.f.id)) where
 irrefl x:=by rw[ltF];simp
 trans x y z h1 h2:=by
  rw[ltF]at *
  have h1:=of_decide_eq_true h1
  have h2:=of_decide_eq_true h2
  exact decide_eq_true q_o
 ntrans x y z h1 h2:=by
  rw[ltF]at *
  have h1:=of_decide_eq_false h1
  have h2:=of_decide_eq_false h2
  exact decide_eq_false q_o
theorem ap{g : Nat}{ty:TypeId}{cs:List D}{st:St}{w:World}{us:Array Value}[Inhabited (CellF (OwnS (.box g ty cs::st)) w)](hb:w.heap[g]?=some (.cells us ty (0,0)))(n:Nat) :
 CmpLays prog 74 #[] CellF.vs 5 (λx y:CellF (OwnS (.box g ty cs::st)) w=>V.sgn x.f.id y.f.id) g 0 n w:=by
 intro m os dk _ x y
 have he:Ext (OwnS (.box g ty cs::st)) w (OwnS []) (sortWorldK CellF.vs 5 w g 0 m dk os):=by
  unfold sortWorldK putRowK
  exact Uc hb m _ os
 generalize sortWorldK CellF.vs 5 w g 0 m dk os=W at he |-
 have hx:∀c:CellF (OwnS (.box g ty cs::st)) w,Rep (OwnS []) W (.agg c.vs.toArray) (.agg c.f.cells):=λc=>by
  have hr:=c.h.ext he
  exact .agg _ _ hr.1 hr.2
 have hv:RepL (OwnS []) W (#[Value.agg x.vs.toArray,Value.agg y.vs.toArray]++(#[]:Array Value)).toList [.agg x.f.cells,.agg y.f.cells]:=by
  rw[Array.append_empty]
  exact RepL.cons (hx x) (RepL.cons (hx y) RepL.nil)
 have hcall:=ah x.f y.f [] _ W hv (NF W)
 refine hcall.mono ?_
 rintro e w' ⟨v,rfl,d,st',h1, -,h3,rfl,rfl⟩
 have hv1:=DI h1
 subst hv1
 exact⟨rfl,MN h3⟩
def dV (l:List Fc):Prop:=l.Pairwise λa b=>a.id<=b.id
theorem dj(g cap:Nat)(l:List Fc)(zs:List D)(hl0:l≠[])(hll:l.length<=1000000)(st:St):TrF prog 109 [.ar g 0 l.length cap,.fn (.func 74) [] []] (.box g 43 (CR l++zs)::st) λd st'=>∃l',l'.Perm l/\dV l'/\d=.tup []/\st'=.box g 43 (CR l'++zs)::st:=by
 intro vs w hv hh
 obtain⟨lv⟩:=vs
 obtain⟨v0,t0,e0,h1,hv⟩:=hv.inv_cons
 obtain⟨v1,t1,e1,h2,hv⟩:=hv.inv_cons
 have e2:=hv.inv_nil
 dsimp only at e0
 subst e2 e1 e0
 cases h1 with
|ar _ _ _ _ c1 c2 =>
 cases h2 with
|fn _ us1 us2 _ _ q1 q2 q3 q4 =>
 obtain rfl:us1=[]:=Ay q1
 obtain rfl:us2=[]:=Ay q2
 obtain⟨⟨us,hb,hr⟩,hlc⟩:=hh.2 _ (Ag ..)
 have hrt:=hr.take (l.length*5)
 rw[CH (by rw[Dz];exact Ap _),Bj (l:=CR l) (by rw[Dz];exact Ap _)]at hrt
 obtain⟨cs,hcm,hcu⟩:=VJ hrt
 have hcl:cs.length=l.length:=by
  have:=congrArg List.length hcm
  rwa[Ab]at this
 obtain⟨c0,hc0⟩:∃c0,c0∈cs:=by
  cases cs with
  | nil=>exact absurd hcm.symm hl0
  | cons c cs=>exact⟨c,Ag ..⟩
 haveI:Inhabited (CellF (OwnS (.box g 43 (CR l++zs)::st)) w):=⟨c0⟩
 have hul:us.size=l.length*5+zs.length:=by
  have:=hr.1
  rw[Ad,Dz,AR]at this
  exact this
 have hfl:(flatK CellF.vs 5 cs.toArray).toList=us.toList.take (l.length*5):=by rw[PG,hcu]
 have hH:HoldsK CellF.vs 5 w g 0 cs.toArray:=λj hj=>by
  have hj2:j<l.length*5:=by rw[size_flatK]at hj;simpa [hcl]using hj
  refine⟨?_,?_⟩
  . rw[Bo]
    have h3:(flatK CellF.vs 5 cs.toArray).toList[j]?=us.toList[j]?:=by rw[hfl,Dq,if_pos hj2]
    rw[BF,BF,Be hj,Be q_o]at h3
    rw[getElem!_pos _ j hj]
    show _=some (id _)
    rw[id,Cl h3]
    have:=cell_of_row w g j us 43 (0,0) hb
    rw[this,Be q_o]
  . unfold World.frozen?
    dsimp only
    rw[hb];simp
 have hc:=AnyQ.slices_SortFunc Tryz.sortFact 5 Tryz.isAgg43 Tryz.sizeOf43 CellF.vs (λx=>x.len) (λx v hv=>x.h.leafOne (λd hd=>Rg [x.f] d (by unfold CR;rw[Au,BH,AL,List.flatten_nil,AY];exact hd)) v hv) (λx y:CellF (OwnS (.box g 43 (CR l++zs)::st)) w=>V.sgn x.f.id y.f.id) (m8 _ _) 74 #[] g 0 cap cs.toArray w call74 (ap hb _) hH (AE.1 hb).1 (by simp;omega)
 rw[show cs.toArray.size=l.length by simpa using hcl]at hc
 refine hc.mono ?_
 rintro e w' ⟨rfl,d',n,os,⟨hps, -,hpp⟩,hsrt,rfl⟩
 have hds:d'.size=l.length:=by rw[hps];simpa using hcl
 have hext:∀a:Array (CellF (OwnS (.box g 43 (CR l++zs)::st)) w),a.size=l.length->(a.extract 0 l.length).toList=a.toList:=λa ha=>by
  rw[oV]
  simp only[Hx,LD,Ch]
  exact Bj (by rw[AR,ha];exact Ap _)
 rw[hext d' hds,hext cs.toArray (by simpa using hcl)]at hpp
 have hperm:(d'.toList.map CellF.f).Perm l:=(hpp.map CellF.f).trans (IE hcm)
 have hsort:dV (d'.toList.map CellF.f):=by
  refine FA.2 λi j hi hj hij=>?_
  rw[Ab,AR]at hi hj
  have h3:=hsrt i j (Ao _) hij q_o
  rw[ltF,getElem!_pos _ i hi,getElem!_pos _ j hj]at h3
  rw[Dy,Dy,Kv,Kv]
  have:=of_decide_eq_false h3
  omega
 obtain⟨F,hF⟩:∃F,flatK CellF.vs 5 d'=F:=⟨_,rfl⟩
 have hFl:F.toList=(d'.toList.map CellF.vs).flatten:=by
  have:=PG d'.toList
  rw[oW,hF]at this
  exact this
 have hFs:F.size=l.length*5:=by rw[<-hF,size_flatK,hds]
 have hFll:F.toList.length=l.length*5:=by rw[<-hFs];exact AR
 have hus:(Sort.putCells id 0 F us).toList=(d'.toList.map CellF.vs).flatten++us.toList.drop (l.length*5):=by
  rw[<-hFl]
  apply Cx
  intro k
  unfold Sort.putCells
  rw[BF,QG]
  by_cases hk:k<l.length*5
  . have hk2:k<us.size:=by omega
    rw[Ba q_o,Be hk2,BF,Be (by omega:k<F.size),CK,if_pos ⟨Ao _,by omega⟩,LD,getElem!_pos _ k q_o]
    rfl
  . have e:l.length*5+(k - F.toList.length)=k:=by omega
    rw[BP q_o,Fv,e,BF]
    cases us[k]? with
    | none=>rfl
    | some u=>rw[CK,if_neg q_o]
 have hrep:RepL (OwnS (.box g 43 (CR l++zs)::st)) w (Sort.putCells id 0 F us).toList (CR (d'.toList.map CellF.f)++zs):=by
  rw[hus]
  refine RepL.append (Sy _) ?_
  have:=hr.drop (l.length*5)
  rwa[Kd,Az (l:=CR l) (by rw[Dz];omega),AM,show l.length*5 - (CR l).length=0 by rw[Dz];omega,Ch]at this
 have hlt:=(AE.1 hb).1
 have hs:=SP (w':=Sort.putRow id (Sort.ahead w n) g 0 F) hh hb (by simp[Sort.putCells]) (Fj _ _) rfl rfl rfl (by simp[Sort.putRow,Sort.mapBlock,Sort.ahead]) (by
  simp only[Sort.putRow,Sort.mapBlock,Sort.ahead]
  rw[Di]
  simp[hb,Sort.onCells]) (λk hk=>by
  simp only[Sort.putRow,Sort.mapBlock,Sort.ahead]
  rw[Di,if_neg (LA hk)]) hrep (λd hd=>by
   rw[Bc]at hd
   exact hd.elim (Rg _ d) λh=>hlc d (Bh _ h))
 have hw:sortWorldK CellF.vs 5 w g 0 n d' os=grow (Sort.putRow id (Sort.ahead w n) g 0 F) os:=by rw[<-hF];rfl
 rw[hw]
 have hg:=Pv hs.1 os
 exact⟨_,rfl,.tup [],_,.tup [] [] rfl (λi h=>absurd h (BL _)),hg,hs.2.trans (Pw _ _ os),d'.toList.map CellF.f,hperm,hsort,rfl,rfl⟩
theorem Vx(st:St):TrF prog 109 [.sl .tight [],.fn (.func 74) [] []] st λd st'=>d=.tup []/\st'=st:=by
 intro vs w hv hh
 obtain⟨lv⟩:=vs
 obtain⟨v0,t0,e0,h1,hv⟩:=hv.inv_cons
 obtain⟨v1,t1,e1,h2,hv⟩:=hv.inv_cons
 have e2:=hv.inv_nil
 dsimp only at e0
 subst e2 e1 e0
 obtain⟨a,cap,us,sz,rfl, -⟩:=Ep h1
 have hc:Calls prog 109 #[.slice a 0 cap,v1] w λe w'=>e=.returned (.tuple #[])/\w'=w:=AnyF.slices_SortFunc_none Tryz.sortFact a cap v1 w
 refine hc.mono ?_
 rintro e w' ⟨rfl,rfl⟩
 exact⟨_,rfl,.tup [],st,.tup [] [] rfl (λi h=>absurd h (BL _)),hh,Ext.refl _ _,rfl,rfl⟩
end
section
attribute [local push_cast] Br Bl BV V.cells_mk V.cells_len Nat.mul_one Int.sub_zero List.map_nil beq_self_eq_true bne_self_eq_false List.head?_cons Bool.not_true Bool.not_false Nat.zero_add
attribute [-instance] Ck Cu BO Ds
def nJ (b5:Nat)(acc:List Fc)(rest st':St):Prop:=(acc=[]/\st'=.box b5 24 [.sl .tight []]::rest)\/(acc≠[]/\∃g cap zs,(CR acc++zs).length=cap*5/\st'=.box b5 24 [.ar g 0 acc.length cap]::.box g 43 (CR acc++zs)::rest)
def TR (K:List Fc)(st:St)(d:D)(st':St):Prop:=(K=[]/\d=.sl .tight []/\st'=st)\/(K≠[]/\∃g cap zs,(CR K++zs).length=cap*5/\d=.ar g 0 K.length cap/\st'=.box g 43 (CR K++zs)::st)
theorem Xf(K:List Fc)(hK:K.length<=1000)(st:St):TrF prog 144 [.sl .tight [],.fn (.func 111) [] [.ip [.sl .shared (FQ K)]]] st (TR K st):=by
 have hIt:=Aa (Yk K q_o)
 generalize FQ K=LF at *
 refine Qin [4] func144 results144 ntmps144 ?_
 repeat' (first|with_reducible refine DR ?_|refine QX ?_|refine QB ?_;intro b|with_reducible refine QZ ?_<;>(try constructor)<;>intro hb<;>try intro hb1|fail)
 revert b
 intro b2
 refine Bn (st':=[]++(.box b2 24 [.sl .tight []]::st)) (.refl _) ?_
 refine Iu hIt.out call111 q_v (λ_=>rfl) rfl (λj C=>∃core,C.Perm core/\nJ b2 (K.take j) st core) (λ_ _ _=>False) ⟨_,.refl _,.inl ⟨rfl,rfl⟩⟩ ?_ ?_ (λ_ _ _ _ _ _ h=>h.elim)
 . rintro l j f C K1 hf ⟨core,hp,hO⟩
   have hs:K.take (j+1)=K.take j++[f]:=by rw[Bk,hf];rfl
   have hl:(K.take j).length<=1000:=by rw[AQ];omega
   have hfc:f.cells=[.i f.id,.i f.time,.i f.tmpl,.i f.ver,.sl .shared (f.s.map V.cells)]:=rfl
   clear hIt hf hK
   generalize K.take j=acc at *
   generalize hVS:f.s.map V.cells=VS at *
   refine Bn (hp.append_right K1) ?_
   refine(?_:Tr _ _ _ _ (AA.put ⟨_,[]⟩ (some 7) (.agg f.cells)) (core++K1) _)
   rw[hfc]
   clear hp
   repeat' (first|refine QX ?_|refine QB ?_;intro b|with_reducible refine QZ ?_<;>(try constructor)<;>intro hb<;>try intro hb1|fail)
   revert b
   intro b5
   refine⟨.box b5 43 [.i f.id,.i f.time,.i f.tmpl,.i f.ver,.sl .shared VS]::core,Aj _,λK'=>?_⟩
   clear K1
   rcases hO with⟨hnil,rfl⟩|⟨hne,g,cap,zs,hz,rfl⟩
   . subst hnil
     have hrm:CR [f]=[[D.i f.id,D.i f.time,D.i f.tmpl,D.i f.ver,D.sl .shared VS]].flatten:=by
      unfold CR
      rw[Au,hfc];rfl
     refine(?_:Tr _ _ _ _ _ (.box b5 43 [.i f.id,.i f.time,.i f.tmpl,.i f.ver,.sl .shared VS]::.box b2 24 [.sl .tight []]::(st++K')) _)
     repeat' (first|refine QV ?_|with_reducible refine Hz ?_|with_reducible refine Kj ?_|((with_reducible apply HH);(focus exact q_n);(focus exact CP rfl);(focus exact q_n);(focus exact q_n);intro g' cap' zs' hc hl')|refine QY ?_|refine QB ?_;intro b|with_reducible refine QZ ?_<;>(try constructor)<;>intro hb<;>try intro hb1|fail)
     refine⟨.box g' 43 (_++zs')::.box b2 24 [.ar g' 0 1 cap']::st,((Aj _).cons _).cons_cons _,.box b2 24 [.ar g' 0 1 cap']::.box g' 43 ([[D.i f.id,D.i f.time,D.i f.tmpl,D.i f.ver,D.sl .shared VS]].flatten++zs')::st,List.Perm.swap _ _ _,.inr ⟨?_,g',cap',zs',?_,?_⟩⟩
     . rw[hs];exact Gi _ _
     . rw[hs,AM,hrm];exact hl'
     . rw[hs,AM,hrm];rfl
   . have hrl:(CR acc).length=acc.length*5:=Dz _
     refine(?_:Tr _ _ _ _ _ (.box b5 43 [.i f.id,.i f.time,.i f.tmpl,.i f.ver,.sl .shared VS]::.box b2 24 [.ar g 0 acc.length cap]::.box g 43 (CR acc++zs)::(st++K')) _)
     have hra:=OW acc f
     rw[hfc]at hra
     have hle:(acc++[f]).length=acc.length+1:=Ad
     generalize CR acc=RW at *
     generalize acc.length=n at *
     repeat' (first|refine QV ?_|with_reducible refine Hy ?_|with_reducible refine Kl ?_|((with_reducible apply(Ii hrl hz));(focus(intro g' cs';repeat(first|exact Hn|apply Hm)));(focus exact CP rfl);(iterate 2 (focus exact q_n));intro g' cap' zs' hc hl')|refine QY ?_|refine QB ?_;intro b|with_reducible refine QZ ?_<;>(try constructor)<;>intro hb<;>try intro hb1|fail)
     refine⟨.box b2 24 [.ar g' 0 (n+1) cap']::.box g' 43 (RW++[[D.i f.id,D.i f.time,D.i f.tmpl,D.i f.ver,D.sl .shared VS]].flatten++zs')::st,(Aj _).cons _,_,.refl _,.inr ⟨?_,g',cap',zs',?_,?_⟩⟩
     . rw[hs];exact Xt _ (Gi _ _)
     . rw[hs,hra];exact hl'
     . rw[hs,hra,hle]
 . rintro d K2 C' rfl ⟨core,hp,hO⟩
   rw[Cb]at hO
   change Tr _ _ _ _ _ _ _
   rcases hO with⟨hnil,rfl⟩|⟨hne,g,cap,zs,hz,rfl⟩
   . refine Bn (st':=.box b2 24 [.sl .tight []]::BK d::st) ((hp.cons _).trans (List.Perm.swap _ _ _)) ?_
     clear hp
     repeat' (first|refine QX ?_|refine QB ?_;intro b|with_reducible refine QZ ?_<;>(try constructor)<;>intro hb<;>try intro hb1|fail)
     exact Em q_x q_y (List.Perm.swap _ _ _) (AK ..) (LE.of_eq q_v) (.inl ⟨hnil,rfl,rfl⟩)
   . refine Bn (st':=.box b2 24 [.ar g 0 K.length cap]::.box g 43 (CR K++zs)::BK d::st) ((hp.cons _).trans (by repeat(first|exact .refl _|exact(List.Perm.swap _ _ _).trans ((List.Perm.swap _ _ _).cons _)))) ?_
     clear hp
     obtain⟨RW,hRW⟩:∃RW,RW=CR K++zs:=⟨_,rfl⟩
     rw[<-hRW]
     repeat' (first|refine QX ?_|refine QB ?_;intro b|with_reducible refine QZ ?_<;>(try constructor)<;>intro hb<;>try intro hb1|fail)
     exact Em q_x q_y ((List.Perm.swap _ _ _).trans ((List.Perm.swap _ _ _).cons _)).symm (AK ..) (LE.of_eq q_v) (.inr ⟨hne,g,cap,zs,hz,rfl,by rw[hRW]⟩)
theorem dA(K:List Fc)(hK:K.length<=1000)(st:St):TrF prog 108 [.fn (.func 111) [] [.ip [.sl .shared (FQ K)]]] st (TR K st):=by
 have hA:=Aa (Xf K hK)
 generalize FQ K=LF at *
 refine Qin [2] func108 results108 ntmps108 ?_
 repeat' (first|refine QV ?_|((with_reducible apply(BG (f:=144) (henter:=call144) (hp:=Ar _) (h:=(hA.out _))));(focus exact q_v);(focus exact q_l);(rintro d0 st0 hF))|refine QY ?_|refine QB ?_;intro b|with_reducible refine QZ ?_<;>(try constructor)<;>intro hb<;>try intro hb1|fail)
 exact Bf (by simp) q_y (Aj _) (LE.of_eq q_v) hF
def FacSrt (K:List Fc)(st:St)(d:D)(st':St):Prop:=(K=[]/\d=.sl .tight []/\st'=st)\/(K≠[]/\∃g cap zs l,l.Perm K/\dV l/\d=.ar g 0 l.length cap/\st'=.box g 43 (CR l++zs)::st)
theorem WU{K:List Fc}(hK:K.length<=1000){st:St}{d0:D}{st0:St}(h:TR K st d0 st0):TrF prog 109 [d0,.fn (.func 74) [] []] st0 λd st'=>d=.tup []/\FacSrt K st d0 st':=by
 rcases h with⟨hnil,rfl,rfl⟩|⟨hne,g,cap,zs,hz,rfl,rfl⟩
 . exact(Vx st0).mono λd st' ⟨e1,e2⟩=>⟨e1,.inl ⟨hnil,rfl,e2⟩⟩
 . exact(dj g cap K zs hne q_o st).mono λd st' ⟨l,h1,h2,e1,e2⟩=>⟨e1,.inr ⟨hne,g,cap,zs,l,h1,h2,by rw[h1.length_eq],e2⟩⟩
theorem eJ(K:List Fc)(hK:K.length<=1000)(st:St):TrF prog 72 [.fn (.func 111) [] [.ip [.sl .shared (FQ K)]],.fn (.func 74) [] []] st (FacSrt K st):=by
 have hC:=Aa (dA K hK)
 have hS:=Aa λ(d0:D) (st0:St) (h:TR K st d0 st0)=>WU hK h
 generalize FQ K=LF at *
 refine Qin [4] func72 results72 ntmps72 ?_
 repeat' (first|refine QV ?_|((with_reducible apply(BG (f:=108) (henter:=call108) (hp:=Ar _) (h:=(hC.out _))));(focus exact q_v);(focus exact q_l);(rintro d0 st0 hF))|((with_reducible apply(BG (f:=109) (henter:=call109) (hp:=Ar _) (h:=(hS.out _ _ hF))));(focus exact q_v);(focus exact q_l);(rintro d0 st0 ⟨rfl,hG⟩))|refine QY ?_|refine QB ?_;intro b|with_reducible refine QZ ?_<;>(try constructor)<;>intro hb<;>try intro hb1|fail)
 exact Bf (by simp) q_y (Aj _) (LE.of_eq q_v) hG
theorem FacSrt.rest{f:FuncId}{args:List D}{K:List Fc}{st s0:St}(h:TrF prog f args st (FacSrt K s0)):TrF prog f args st λd st'=>∃l,l.Perm K/\dV l/\d=.sl .shared (l.map Fc.cells)/\st'=s0:=by
 intro vs w h1 h2
 refine(h vs w h1 h2).mono λ_ w' ⟨v,ev,d,s,k1,k2,k3,hA⟩=>?_
 rcases hA with⟨rfl,rfl,rfl⟩|⟨hne,g,cap,zs,l,hp,hs,rfl,rfl⟩
 . exact⟨v,ev,_,s,LE.sl _ _ _ _ _ k1,k2,k3,[],.refl _,List.Pairwise.nil,rfl,rfl⟩
 . have he:=Ext.drop (st:=.box g 43 (CR l++zs)::s0) (st':=s0) (λ_ h=>Ae _ h) w'
   exact⟨v,ev,_,s0,KB k2 (sz:=5) (by decide) (λe he=>by
    obtain⟨x, -,rfl⟩:=Av.1 he
    rfl) (Ab ..) v k1,k2.sub (AK _ _),k3.trans he,l,hp,hs,rfl,rfl⟩
theorem Tk(N:NT)(R:List Rl)(hN:N.Ok R)(st:St):TrF prog 40 [.ptr N.b 0] (N.st++st) (FacSrt N.fs (N.st++st)):=by
 have hAll:Hid (TrF prog 73 [.ptr N.b 1] (N.st++st) λd st'=>d=.fn (.func 111) [] [.ip [.sl .shared (FQ N.fs)]]/\st'=N.st++st):=by
  have h1:=Ym N.b 105 [.sl .shared N.row] [] N.fm N.fs hN.fok (by have:=hN.fl;omega) (N.cs.flatMap NC.st++st)
  rw[<-JX,Iy]
  exact h1
 have hS:=Aa (eJ N.fs hN.fl (N.st++st))
 generalize FQ N.fs=LF at *
 generalize N.st++st=RS at *
 generalize N.b=nb at *
 generalize N.fs=K at *
 refine Qin [2] func40 results40 ntmps40 ?_
 repeat' (first|refine QV ?_|((with_reducible apply Jz);(focus kernel_rfl);(focus exact q_v))|((with_reducible apply(BG (f:=73) (henter:=call73) (hp:=Ar _) (h:=hAll.out)));(focus exact q_v);(focus exact q_l);(rintro d0 st0 ⟨rfl,rfl⟩))|((with_reducible apply(BG (f:=72) (henter:=call72) (hp:=Ar _) (h:=hS.out)));(focus exact q_v);(focus exact q_l);(rintro d0 st0 hG))|refine QY ?_|refine QB ?_;intro b|with_reducible refine QZ ?_<;>(try constructor)<;>intro hb<;>try intro hb1|fail)
 exact Bf (by simp) q_y (Aj _) (LE.of_eq q_v) hG
theorem ZE(N:NT)(R:List Rl)(hN:N.Ok R)(st:St):TrF prog 40 [.ptr N.b 0] (N.st++st) λd st'=>∃l,l.Perm N.fs/\dV l/\d=.sl .shared (l.map Fc.cells)/\st'=N.st++st:=FacSrt.rest (Tk N R hN st)
theorem UY(st:St):TrF prog 40 [.s (.pointer none)] st λd st'=>d=.sl .tight []/\st'=st:=by
 refine Qin [2] func40 results40 ntmps40 ?_
 repeat' (first|refine QV ?_|((with_reducible apply Mx);(focus kernel_rfl);(focus exact q_v))|refine QY ?_|refine QB ?_;intro b|with_reducible refine QZ ?_<;>(try constructor)<;>intro hb<;>try intro hb1|fail)
 all_goals exact BZ
end
namespace Mat
theorem OU{F:List Fc}(hu:(F.map Fc.id).Nodup):∀n,(rows F n []).Nodup
|0=>Bb.2 ⟨AP,CA⟩
|n+1=>by
  have ih:=OU hu n
  rw[rows]
  have key:∀G:List Fc,(G.map Fc.id).Nodup->(G.flatMap λf=>rows F n ([]++[f.id])).Nodup:=by
   intro G
   induction G with
   | nil=>exactλ_=>CA
   | cons f G ih2 =>
    intro hg
    rw[Au,Bb]at hg
    rw[Ca,FG]
    refine⟨?_,ih2 hg.2,?_⟩
    . rw[IP]
      exact List.Pairwise.map _ (λa b hab h=>hab (List.append_cancel_left h)) ih
    . rintro a ha b hb rfl
      rw[IP]at ha
      obtain⟨r, -,rfl⟩:=Av.1 ha
      obtain⟨g,hgm,hb2⟩:=Dx.1 hb
      rw[IP]at hb2
      obtain⟨r2, -,e⟩:=Av.1 hb2
      simp only[AM,AI,gY]at e
      exact hg.1 (e.1▸BJ hgm)
  exact key F hu
theorem refs_nodup{F:List Fc}(hu:(F.map Fc.id).Nodup)(x:Rl):(refs x F).Nodup:=(OU hu _).filter _
theorem Rx{f:Rl->List (List Int)}{m:Mt}:∀{l:List Rl} {i:Nat},m∈flatR f l i->∃(k:Nat) (x:Rl),l[k]?=some x/\m.rule=(i+k:Nat)/\m.ids∈f x
|[],_,h=>by cases h
|x::l,i,h=>by
  rw[flatR,Bc]at h
  rcases h with h|h
  . obtain⟨r,hr,rfl⟩:=Av.1 h
    exact⟨0,x,rfl,rfl,hr⟩
  . obtain⟨k,y,h1,h2,h3⟩:=Rx (i:=i+1) h
    exact⟨k+1,y,h1,by rw[h2];congr 1;omega,h3⟩
theorem sortM_mem{l:List Mt}{m:Mt}:m∈sortM l↔m∈l:=(sortM_srt l).2.mem_iff
theorem from_env{F:List Fc}:∀(ps:List Pt) (ids:List Int) (env:List V),env.length=8->∀y∈from_ F ps ids env,y.2.length=8
|[],ids,env,he,y,hy=>by
  rw[from_,AB]at hy
  rw[hy];exact he
|p::ps,ids,env,he,y,hy=>by
  rw[from_]at hy
  split at hy
  . split at hy
    . exact from_env ps ids env he y hy
    . cases hy
  . obtain⟨q,hq,h⟩:=Dx.1 hy
    obtain⟨f, -,hf⟩:=Mg.1 hq
    refine from_env ps _ _ ?_ y h
    cases hp:pass p f env with
    | none=>rw[hp]at hf;cases hf
    | some e =>
     rw[hp]at hf
     rw[<-Cl hf]
     exact pass_len hp
theorem once{R:List Rl}{F:List Fc}{m:Mt}(h:m∈sortM (raws R F)):∃(k:Nat) (x:Rl) (e:List V),R[k]?=some x/\m.rule=k/\envP x F m.ids=some e/\e.length=8/\m.ids.length<=x.pats.length:=by
 obtain⟨k,x,h1,h2,h3⟩:=Rx (i:=0) (sortM_mem.1 h)
 obtain⟨y,hy,e⟩:=Av.1 h3
 cases hq:envP x F m.ids with
|none =>
  unfold envP at hq
  rw[Qd,Dr]at hq
  exact absurd (decide_eq_true e) (hq y hy)
|some v =>
  refine⟨k,x,v,h1,by rw[h2,Bo],hq,?_,e▸mats_len hy⟩
  unfold envP at hq
  obtain⟨z,hz,rfl⟩:=nK.1 hq
  exact from_env _ _ _ (QE ..) z (CI hz)
theorem passL_perm{F G:List Fc}(h:F.Perm G)(p:Pt)(env:List V):(passL p F env).Perm (passL p G env):=h.filterMap _
theorem from_perm{F G:List Fc}(h:F.Perm G):∀(ps:List Pt) (ids:List Int) (env:List V),(from_ F ps ids env).Perm (from_ G ps ids env)
|[],ids,env=>.refl _
|p::ps,ids,env=>by
  have hp:=passL_perm h p env
  rw[from_,from_]
  by_cases hn:p.neg=true
  . rw[if_pos hn,if_pos hn]
    have e:passL p F env=[]↔passL p G env=[]:=⟨λe=>(e▸hp).symm.eq_nil,λe=>(e▸hp).eq_nil⟩
    by_cases h0:passL p F env=[]
    . rw[if_pos h0,if_pos (e.1 h0)]
      exact from_perm h ps ids env
    . rw[if_neg h0,if_neg λk=>h0 (e.2 k)]
  . rw[if_neg hn,if_neg hn]
    have h1:∀l:List (Int×List V),(l.flatMap λx=>from_ F ps (ids++[x.1]) x.2).Perm (l.flatMap λx=>from_ G ps (ids++[x.1]) x.2):=λl=>by
     induction l with
     | nil=>exact .refl _
     | cons x l ih =>
      rw[Ca,Ca]
      exact(from_perm h ps _ _).append ih
    exact(h1 _).trans (hp.flatMap_right _)
theorem flatR_perm{f g:Rl->List (List Int)}:∀(l:List Rl) (i:Int),(∀x∈l,(f x).Perm (g x))->(flatR f l i).Perm (flatR g l i)
|[],_,_=>.refl _
|x::l,i,h=>by
  rw[flatR,flatR]
  exact((h x (Ag ..)).map _).append (flatR_perm l (i+1) λy hy=>h y (Ae _ hy))
theorem sortM_perm{l m:List Mt}(h:l.Perm m):sortM l=sortM m:=sortM_eq ((sortM_srt l).2.trans h) (sortM_srt l).1
theorem my{F G:List Fc}(h:F.Perm G)(R:List Rl):sortM (raws R F)=sortM (raws R G):=sortM_perm (flatR_perm R 0 λx _=>(from_perm h _ _ _).map _)
def oc (f:Rl->List (List Int))(x:Rl):List (List Int):=(sortM ((f x).map (Mt.mk 0))).map Mt.ids
def ahead (g:Rl->List (List Int))(R:List Rl)(i:Nat):Nat:=(flatR g (R.take i) 0).length
theorem UM{F:List Fc}(g:Int)(p:Pt)(env:List V):passL p (F.filter λf=>f.id≠g) env=(passL p F env).filter λy=>y.1≠g:=by
 unfold passL
 rw[List.filter_filterMap,List.filterMap_filter]
 congr 1
 funext f
 cases pass p f env with
|none=>simp
|some e=>by_cases h:f.id=g<;>simp[h,Option.filter]
theorem Pz{F:List Fc}{g:Int}:∀(ps:List Pt) (ids:List Int) (env:List V),g∈ids->∀y∈from_ F ps ids env,g∈y.1
|[],ids,env,h,y,hy=>by
  rw[from_,AB]at hy
  rw[hy];exact h
|p::ps,ids,env,h,y,hy=>by
  rw[from_]at hy
  split at hy
  . split at hy
    . exact Pz ps ids env h y hy
    . cases hy
  . obtain⟨q, -,h2⟩:=Dx.1 hy
    exact Pz ps _ _ (Bp _ h) y h2
theorem PA{F:List Fc}(g:Int):∀(ps:List Pt) (ids:List Int) (env:List V),(∀p∈ps,p.neg=false)->g∉ids->from_ (F.filter λf=>f.id≠g) ps ids env=(from_ F ps ids env).filter λy=>g∉y.1
|[],ids,env,_,h=>by
  rw[from_,from_,Cf (by simpa using h)];rfl
|p::ps,ids,env,hn,h=>by
  have hp:=hn p (Ag ..)
  rw[from_,from_,if_neg (by rw[hp];exact AJ),if_neg (by rw[hp];exact AJ),UM]
  have key:∀l:List (Int×List V),((l.filter λy=>y.1≠g).flatMap λx=>from_ (F.filter λf=>f.id≠g) ps (ids++[x.1]) x.2)=(l.flatMap λx=>from_ F ps (ids++[x.1]) x.2).filter λy=>g∉y.1:=λl=>by
   induction l with
   | nil=>rfl
   | cons x l ih =>
    rw[Ca,Et]
    by_cases e:x.1=g
    . have h0 : ((from_ F ps (ids ++ [x.1]) x.2).filter λy => g ∉ y.1) = [] := List.filter_eq_nil_iff.2 λy hy => by
       have:=Pz ps _ _ (show g∈ids++[x.1] by rw[e];exact Bh _ (AB.2 rfl)) y hy
       simpa using this
      rw[Cg (by simpa using e),ih,h0,AM]
    . rw[Cf (by simpa using e),Ca,ih]
      rw[PA g ps _ _ (λq hq=>hn q (Ae _ hq)) (by
       intro hm
       rcases Bc.1 hm with hm|hm
       . exact h hm
       . exact e (AB.1 hm).symm)]
  exact key _
theorem MQ{f f2:Rl->List (List Int)}(q:List Int->Bool):∀(l:List Rl) (i:Int),(∀x∈l,f2 x=(f x).filter q)->flatR f2 l i=(flatR f l i).filter λm=>q m.ids
|[],_,_=>rfl
|x::l,i,h=>by
  rw[flatR,flatR,Et,h x (Ag ..),MQ q l (i+1) λy hy=>h y (Ae _ hy),List.filter_map]
  rfl
theorem n9{R:List Rl}{F:List Fc}(g:Int)(h:∀x∈R,∀p∈x.pats,p.neg=false):sortM (raws R (F.filter λf=>f.id≠g))=(sortM (raws R F)).filter λm=>g∉m.ids:=by
 symm
 refine sortM_eq ?_ ((sortM_srt _).1.filter _)
 have e:raws R (F.filter λf=>f.id≠g)=(raws R F).filter λm=>decide (g∉m.ids):=MQ (λl=>decide (g∉l)) R 0 λx hx=>by
  unfold mats
  rw[PA g x.pats [] empty (h x hx) AP,List.filter_map]
  rfl
 rw[e]
 exact(sortM_srt _).2.filter _
theorem Up{F:List Fc}:∀{ids:List Int},(∀v∈ids,∃f∈F,f.id=v)->ids∈rows F ids.length []
|[],_=>AB.2 rfl
|v::ids,h=>by
  obtain⟨f,hf,e⟩:=h v (Ag ..)
  rw[An,rows]
  refine Dx.2 ⟨f,hf,?_⟩
  rw[IP]
  exact Av.2 ⟨ids,Up λw hw=>h w (Ae _ hw),by rw[e];rfl⟩
theorem envR_ids{F:List Fc}:∀{ps:List Pt} {ids:List Int} {env e:List V},envR F ps ids env=some e->ids.length=npos ps/\∀v∈ids,∃f∈F,f.id=v
|[],ids,env,e,h=>by
  rw[envR]at h
  split at h
  . rename_i h0
    subst h0
    exact⟨rfl,List.forall_mem_nil _⟩
  . cases h
|p::ps,ids,env,e,h=>by
  rw[envR.eq_def]at h
  dsimp only at h
  split at h
  . rename_i hn
    split at h
    . obtain⟨h1,h2⟩:=envR_ids h
      exact⟨by rw[h1];unfold npos;rw[Cg (by simp[hn])],h2⟩
    . cases h
  . rename_i hn
    cases ids with
    | nil=>cases h
    | cons v ids =>
     dsimp only at h
     cases hf:find F v with
     | none=>rw[hf]at h;cases h
     | some f =>
      rw[hf]at h
      dsimp only at h
      cases hp:pass p f env with
      | none=>rw[hp]at h;cases h
      | some e2 =>
       rw[hp]at h
       obtain⟨h1,h2⟩:=envR_ids h
       refine⟨by rw[An,h1];unfold npos;rw[Cf (by simpa using hn)];rfl,λw hw=>?_⟩
       rcases Ax.1 hw with rfl|hw
       . refine⟨f,find_mem hf,?_⟩
         unfold find at hf
         exact beq_iff_eq.1 (FE (p:=λf:Fc=>f.id == w) hf)
       . exact h2 w hw
theorem envP_eq{F:List Fc}(hu:(F.map Fc.id).Nodup)(x:Rl)(ids:List Int):envP x F ids=envR F x.pats ids empty:=by
 unfold envP mats
 rw[Lk hu]
 have key:∀L:List (List Int),((L.filterMap λr=>(envR F x.pats r empty).map λe=>(([]:List Int)++r,e)).find? λy=>decide (y.1=ids)).map Prod.snd=if ids∈L then envR F x.pats ids empty else none:=λL=>by
  induction L with
  | nil=>rfl
  | cons r L ih =>
   by_cases hr:r=ids
   . subst hr
     rw[if_pos (Ag ..)]
     cases hq:envR F x.pats r empty with
     | none =>
      rw[De (by rw[hq];rfl),ih,hq,ite_self]
     | some e =>
      rw[CQ (by rw[hq];rfl),GA]
      simp
   . have e1:(ids∈r::L)↔ids∈L:=⟨λh=>(Ax.1 h).resolve_left λh=>hr h.symm,Ae _⟩
     simp only[e1]
     rw[<-ih]
     cases hq:envR F x.pats r empty with
     | none=>rw[De (by rw[hq];rfl)]
     | some e =>
      rw[CQ (by rw[hq];rfl),GA]
      simp[hr]
 rw[key]
 split
 . rfl
 . rename_i hn
   cases hq:envR F x.pats ids empty with
   | none=>rfl
   | some e =>
    obtain⟨h1,h2⟩:=envR_ids hq
    exact absurd (h1▸Up h2) hn
end Mat
section
attribute [local push_cast] Br Bl BV V.cells_mk V.cells_len Nat.mul_one Int.sub_zero List.map_nil beq_self_eq_true bne_self_eq_false List.head?_cons Bool.not_true Bool.not_false Nat.zero_add
section
set_option maxHeartbeats 16000000
def Md (l:List Int):List D:=[.sl .shared (l.map Bl)]
namespace Mat
theorem rows_len(F:List Fc):∀(n:Nat) (h:List Int),(rows F n h).length=F.length ^ n
|0,h=>rfl
|n+1,h=>by
  rw[rows,List.length_flatMap]
  have:(F.map λf=>(rows F n (h++[f.id])).length)=F.map λ_=>F.length ^ n:=List.map_congr_left λf _=>rows_len F n _
  rw[this,List.map_const',List.sum_replicate_nat,Qe,Qg]
end Mat
theorem Pb(F:List Fc)(hF:F.length<=7):∀(n:Nat),n<=6->∀(h:List Int),h.length+n<=1000->∀(o:Own) (st:St),TrF prog 59 [.sl .shared (F.map Fc.cells),.i n,.sl o (h.map Bl)] st λd st'=>d=.sl .shared ((Mat.rows F n h).map Md)/\st'=st
|0,_,h,hh,o,st=>by
  rw[Mat.rows]
  show TrF _ _ _ _ λd st'=>d=.sl .shared [Md h]/\st'=st
  unfold Md
  generalize F.map Fc.cells=FS at *
  generalize h.map Bl=HS at *
  refine Qin [6] func59 results59 ntmps59 ?_
  exact WRa
|n+1,hn,h,hh,o,st=>by
  have IH:=Aa λ(f:Fc)=>Pb F hF n q_o (h++[f.id]) (by rw[Ad,BE];omega)
  have hFm:(F.map Fc.cells).length=F.length:=Ab ..
  have hFc:=hMp Fc.cells F
  have hp:F.length ^ n<=7 ^ 6:=Cp (Nat.pow_le_pow_left hF n) (DW (by decide) q_o)
  obtain⟨g,hg⟩:∃g:Fc->List (List Int),g=λf=>Mat.rows F n (h++[f.id]):=⟨_,rfl⟩
  have hgl:Hid (∀f,(g f).length<=117649):=λf=>by rw[hg];dsimp only;rw[Mat.rows_len];exact hp
  have IH2:Hid (∀(f:Fc) (o:Own) (st:St),TrF prog 59 [.sl .shared (F.map Fc.cells),.i ((n:Int)+1 - 1),.sl o (h.map Bl++[[.i f.id]])] st λd st'=>d=.sl .shared ((g f).map Md)/\st'=st):=λf o st=>by
   rw[show(n:Int)+1 - 1=n by omega]
   have:=IH.out f o st
   rw[Bi]at this
   rw[hg]
   exact this
  obtain⟨og,hog⟩:∃og:Nat->List (List D),og=λi=>((F.take i).flatMap g).map Md:=⟨_,rfl⟩
  have h0:og 0=[]:=by rw[hog];rfl
  have hst:Hid (∀(i:Nat) (f:Fc),F[i]?=some f->og (i+1)=og i++(g f).map Md):=λi f h=>by
   rw[hog]
   dsimp only
   rw[Bk,h,Bw,Lr,Bi,Ca,List.flatMap_nil,AY]
  have hend:Hid (og F.length=(Mat.rows F (n+1) h).map Md):=by
   rw[hog]
   dsimp only
   rw[Cb,hg]
   rfl
  have hol:Hid (∀i,(og i).length<=1000000):=λi=>by
   rw[hog]
   dsimp only
   rw[Ab,List.length_flatMap]
   have h1:∀l:List Fc,(l.map λf=>(g f).length).sum<=l.length*117649:=λl=>by
    induction l with
    | nil=>exact Ap _
    | cons f l ih =>
     rw[Au,List.sum_cons,An]
     have:=hgl.out f
     omega
   have h2:=h1 (F.take i)
   rw[AQ]at h2
   omega
  have ho1:Hid (∀i,∀a∈og i,a.length=1):=λi a ha=>by
   rw[hog]at ha
   obtain⟨x, -,rfl⟩:=Av.1 ha
   rfl
  have hhm:(h.map Bl).length<=1000:=by rw[Ab];omega
  have hh1:∀a∈h.map Bl,a.length=1:=λa ha=>by
   obtain⟨x, -,rfl⟩:=Av.1 ha
   rfl
  rw[<-hend.out]
  clear IH hog hg hp hend
  generalize F.map Fc.cells=FS at *
  generalize h.map Bl=HS at *
  rw[show((n+1:Nat):Int)=(n:Int)+1 by omega]
  refine Qin [6] func59 results59 ntmps59 ?_
  refine GF 50 1 (og 0).length ?_
  rw[h0]
  repeat' (first|refine QX ?_|(refine QB ?_;intro b)|refine QP ?_;intro o' ho'|(with_reducible refine QZ ?_<;>(try constructor)<;>intro hb<;>try intro hb1)|fail)
  refine Bs (ι:=Nat) (λi A st'=>i<=F.length/\A.df=[]/\A.e 0=.sl .shared FS/\A.e 1=.i ((n:Int)+1)/\A.e 2=.sl o HS/\A.e 8=.i i/\∃o2,o2≠.shared/\A.e 7=.sl o2 (og i)/\st'=.room o2 50 1 (og i).length::st) (λi=>F.length - i) 0 ⟨Ao _,Qf,Qf,Qf,Qf,Qf,.tight,IJ,by rw[h0];exact Qf,by rw[h0]⟩ ?_
  clear h0
  rintro i A st' ⟨hi,hdf,e0,e1,e2,e8,o2,ho2,e7,rfl⟩
  by_cases hlt:i<F.length
  . obtain⟨f,hf⟩:=gEx hlt
    have hfc:=hFc.out i f hf
    have hC:=Aa (IH2.out f)
    have hs:=Aa (hst.out i f hf)
    have hl1:=hol.out i
    have hl2:((g f).map Md).length<=117649:=by rw[Ab];exact hgl.out f
    have hl3:=ho1.out i
    have hl4:∀a∈(g f).map Md,a.length=1:=λa ha=>by
     obtain⟨x, -,rfl⟩:=Av.1 ha
     rfl
    clear IH2 hst hol ho1 hFc hf hgl
    generalize (g f).map Md=RW at *
    rw[show f.cells=[.i f.id,.i f.time,.i f.tmpl,.i f.ver,.sl .shared (f.s.map V.cells)]from rfl]at *
    generalize f.s.map V.cells=VS at *
    generalize f.id=f0 at *
    generalize f.time=f1 at *
    generalize f.tmpl=f2 at *
    generalize f.ver=f3 at *
    obtain⟨OG,hOG⟩:∃OG,OG=og i:=⟨_,rfl⟩
    rw[<-hOG]at hl1 hl3 e7 hs |-
    clear hOG
    refine GF 3 1 ([]:List (List D)).length ?_
    repeat' (first|refine QV ?_|((with_reducible refine FL [] ?_ ?_ ?_ ?_ ?_);(iterate 3 (focus kernel_rfl));(focus((repeat(first|exact BI|refine BX q_m ?_));done)))|((with_reducible refine And.intro ?_ ?_);(focus exact q_k))|refine QY ?_|(refine QB ?_;intro b)|refine QP ?_;intro o' ho'|(with_reducible refine QZ ?_<;>(try constructor)<;>intro hb<;>try intro hb1)|refine Qc call59 ((hC.out _ _)) ?_|fail)
    refine⟨i+1,.room o' 50 1 (OG++RW).length::st,q_t,⟨hlt,?_,?_,?_,?_,?_,o',ho',?_,by rw[hs.out]⟩,by omega⟩
    all_goals first|(rw[hs.out];exact Qf)|exact Qf
  . have hil:i=F.length:=by omega
    subst hil
    clear IH2 hst hol ho1 hFc hgl
    exact WRa
end
end
section
attribute [local push_cast] Br Bl BV V.cells_mk V.cells_len Nat.mul_one Int.sub_zero List.map_nil beq_self_eq_true bne_self_eq_false List.head?_cons Bool.not_true Bool.not_false Nat.zero_add
set_option maxHeartbeats 16000000
section
variable {P:Program} {N:Nat} {r:Option Nat} {A:AA} {st:St} {Q:Exit->AA->St->Prop}
theorem eB(id id2:Nat)(K:AA->St->Prop){ops ops2:Array Oper}{b b2:Bool}{c:Code}(h1:(∀A' st',K A' st'->Tr P N r c A' st' Q)->Tr P N r (.seq (.region id ops b) (.seq (.region id2 ops2 b2) c)) A st Q)(h2:∀A' st',K A' st'->Tr P N r c A' st' Q):Tr P N r (.seq (.region id ops b) (.seq (.region id2 ops2 b2) c)) A st Q:=h1 h2
end
theorem fa{l:List Mt}{i:Nat}{x:Mt}(zs:List D)(h:l[i]?=some x):List.take 2 (List.drop (i*2) (DS l++zs))=x.cells:=by
 have h1:DS l=DS (l.take i)++(x.cells++DS (l.drop (i+1))):=by
  unfold DS
  rw[<-AL,<-Au,<-CW,<-Bi]
  congr 2
  have:=V.drop_cons h
  rw[<-this,Bv]
 have h2:(DS (l.take i)).length=i*2:=by
  rw[GG,AQ,KZ (aI (Af.1 h).1)]
 rw[h1,Ai,Ai,<-h2,CN]
 exact Qj rfl
theorem bH{out:List Mt}{c:Nat}{u:Mt}(zs:List D)(h:c<out.length):List.take (c*2) (DS out++zs)++u.cells++List.drop (c*2+2) (DS out++zs)=DS (out.set c u)++zs:=by
 obtain⟨z,hz⟩:=gEx h
 have hL:(out.map Mt.cells)[c]?=some z.cells:=by rw[Aq,hz];rfl
 have hs:=GX (o:=0) (sz:=2) (ds:=u.cells) zs (out.map Mt.cells) c (Np out) hL (by rw[Mt.cells_len];omega)
 have h1:DJ z.cells 0 u.cells=u.cells:=by
  unfold DJ
  rw[CX,AM,Bo,Az (by rw[Mt.cells_len,Mt.cells_len];omega),AY]
 rw[h1,<-Ff]at hs
 unfold DJ at hs
 rw[Ed,Mt.cells_len]at hs
 exact hs
theorem bl{α:Type}{l:List α}{k:Nat}{h v:α}(hk:k<=l.length):(l.take k++h::l.drop k).set k v=l.take k++v::l.drop k:=by
 rw[List.set_append_right _ _ (by rw[AQ];omega),AQ,KZ hk,Gu]
 rfl
theorem ZY{α:Type}{l:List α}{t:Nat}{c:α}(h:l[t]?=some c):l.take (t+1)++c::l.drop (t+1)=l.take t++c::l.drop t:=by
 rw[Bk,h,V.drop_cons h,Bw,Ai]
 rfl
theorem cU{α:Type}{l:List α}{t k:Nat}{h:α}(htk:t<k)(hk:k<=l.length):(l.take k++h::l.drop k)[t]?=l[t]?:=by
 rw[Ba (by rw[AQ];omega),NW htk]
theorem Vm{α:Type}{l:List α}{k:Nat}{h:α}(hk:k<=l.length):(l.take k++h::l.drop k).length=l.length+1:=by
 rw[Ad,An,AQ,AO]
 omega
namespace Mat
theorem rows_lenE(F:List Fc):∀(n:Nat) (h r:List Int),r∈rows F n h->r.length=h.length+n
|0,h,r,hr=>by rw[rows,AB] at hr;rw[hr];rfl
|n+1,h,r,hr=>by
  rw[rows]at hr
  obtain⟨f, -,h2⟩:=Dx.1 hr
  rw[rows_lenE F n _ r h2,Ad,BE]
  omega
theorem npos_le(ps:List Pt):npos ps<=ps.length:=Fw ..
theorem npos_take{ps:List Pt}{k:Nat}{p:Pt}(h:ps[k]?=some p):npos (ps.take (k+1))=if p.neg=true then npos (ps.take k)else npos (ps.take k)+1:=by
 unfold npos
 rw[Bk,h,Bw,Et,Ad]
 cases hn:p.neg with
|true=>rw[Cg (by rw[hn];decide)];rfl
|false=>rw[Cf (by rw[hn];rfl)];rfl
theorem sortM_app(l:List Mt)(m:Mt):sortM (l++[m])=ins (sortM l) m:=by
 unfold sortM
 rw[List.foldl_append]
 rfl
theorem sortM_len(l:List Mt):(sortM l).length=l.length:=(sortM_srt l).2.length_eq
theorem ins_len(l:List Mt)(m:Mt):(ins l m).length=l.length+1:=(ins_perm l m).length_eq
end Mat
def OutB (acc:List Mt)(st:St)(d:D)(st':St):Prop:=(acc=[]/\d=.sl .tight []/\st'=st)\/(acc≠[]/\∃g cap zs,(DS acc++zs).length=cap*2/\d=.ar g 0 acc.length cap/\st'=.box g 52 (DS acc++zs)::st)
theorem OutB.raw{M:List Mt}{st st':St}{d:D}(h:OutB (Mat.sortM M) st d st'):AllRaw M st d st':=by
 have hl:=Mat.sortM_len M
 rcases h with⟨h1,rfl,rfl⟩|⟨h1,g,cap,zs, -,rfl,rfl⟩
 . rw[h1]at hl
   exact .inl ⟨Ay hl.symm,rfl,rfl⟩
 . refine .inr ⟨λh=>h1 ?_,g,cap,zs,by rw[hl],rfl⟩
   rw[h];rfl
theorem Td(R:List Rl)(F:List Fc)(hR:∀x∈R,XK x)(hRl:R.length<=1000)(hR4:∀x∈R,x.pats.length<=4)(hF:FKs F)(hFl:F.length<=7)(hM:(Mat.refRaws R F).length<=1000000)(st:St):TrF prog 24 [.sl .shared (R.map Rl.cells),.sl .shared (F.map Fc.cells)] st (AllRaw (Mat.refRaws R F) st):=by
 have hRm:(R.map Rl.cells).length=R.length:=Ab ..
 have hRc:=hMp Rl.cells R
 have hRw:Hid (∀x∈R,∀st,TrF prog 59 [.sl .shared (F.map Fc.cells),.i (Mat.npos x.pats),.sl .tight []] st λd st'=>d=.sl .shared ((Mat.rows F (Mat.npos x.pats) []).map Md)/\st'=st):=λx hx st=>Pb F hFl (Mat.npos x.pats) (by have:=Mat.npos_le x.pats;have:=hR4 x hx;omega) [] (by have:=Mat.npos_le x.pats;have:=hR4 x hx;rw[Cd];omega) .tight st
 have hEn:Hid (∀x∈R,∀r∈Mat.rows F (Mat.npos x.pats) [],∃w:List V,∀st,TrF prog 28 [.agg x.cells,.sl .shared (F.map Fc.cells),.sl .shared (r.map Bl)] st λd st'=>d=.tup [.sl .shared (w.map V.cells),.b (Mat.envR F x.pats r Mat.empty).isSome]/\st'=st):=λx hx r hr=>by
  have h1:=Rm x F (hR x hx) hF r (by have:=Mat.rows_lenE F _ _ r hr;have:=Mat.npos_le x.pats;have:=hR4 x hx;rw[Cd]at *;omega)
  have h3:=Mat.envF_R F x.pats r Mat.empty
  cases hq:Mat.envR F x.pats r Mat.empty with
  | none =>
   rw[hq]at h3
   generalize Mat.envF F x.pats r Mat.empty=r at *
   obtain⟨w,k⟩:=r
   dsimp only at h3
   subst h3
   exact⟨w,h1⟩
  | some e =>
   rw[hq]at h3
   dsimp only at h3
   rw[h3]at h1
   exact⟨e,h1⟩
 have hrl0:Hid (∀x∈R,(Mat.rows F (Mat.npos x.pats) []).length<=2401):=λx hx=>by
  rw[Mat.rows_len]
  have h1:=Mat.npos_le x.pats
  have h2:=hR4 x hx
  exact Cp (Nat.pow_le_pow_left hFl _) (Cp (DW (by decide) (show Mat.npos x.pats<=4 by omega)) (by decide))
 have hok1:Hid (∀x∈R,∀r,(Mat.envR F x.pats r Mat.empty).isSome=true->r.length<=1000):=λx hx r hr=>by
  obtain⟨e,he⟩:=NR.1 hr
  have:=(Mat.envR_ids he).1
  have:=Mat.npos_le x.pats
  have:=hR4 x hx
  omega
 have hLs:Hid (∀a b:Mt,a.ids.length<=1000->b.ids.length<=1000->∀st,TrF prog 26 [.agg a.cells,.agg b.cells] st λd st'=>d=.b (Mat.less a b)/\st'=st):=λa b ha hb=>LX a b q_o q_o
 have hP4:=Aa hR4
 obtain⟨M,hMe⟩:∃M,Mat.refRaws R F=M:=⟨_,rfl⟩
 have HM:Hid ([]++Mat.flatR (λx=>Mat.refs x F) (R.drop 0) (0:Nat)=M):=hMe
 rw[hMe]at hM |-
 clear hMe hR hF hR4 hFl
 obtain⟨FR,hFR⟩:∃FR:Nat->List Mt,FR=λi=>Mat.flatR (λx=>Mat.refs x F) (R.drop i) i:=⟨_,rfl⟩
 have HM0:Hid ([]++FR 0=M):=by rw[hFR];exact HM.out
 have hstep:Hid (∀(i:Nat) (x:Rl),R[i]?=some x->FR i=(Mat.refs x F).map (Mt.mk i)++FR (i+1)):=λi x h=>by rw[hFR];exact Mat.raws_drop h
 have hend:Hid (FR R.length=[]):=by rw[hFR];dsimp only;rw[Hv];rfl
 clear HM hFR
 obtain⟨rf,hrf⟩:∃rf:Rl->List (List Int),rf=λx=>Mat.refs x F:=⟨_,rfl⟩
 obtain⟨rw0,hrw0⟩:∃rw0:Rl->List (List Int),rw0=λx=>Mat.rows F (Mat.npos x.pats) []:=⟨_,rfl⟩
 obtain⟨ok,hok⟩:∃ok:Rl->List Int->Bool,ok=λx r=>(Mat.envR F x.pats r Mat.empty).isSome:=⟨_,rfl⟩
 have hfil:Hid (∀x,Mat.refs x F=(rw0 x).filter (ok x)):=λx=>by rw[hrw0,hok];rfl
 have hRw2:Hid (∀x∈R,∀st,TrF prog 59 [.sl .shared (F.map Fc.cells),.i (Mat.npos x.pats),.sl .tight []] st λd st'=>d=.sl .shared ((rw0 x).map Md)/\st'=st):=by rw[hrw0];exact hRw.out
 have hEn2:Hid (∀x∈R,∀r∈rw0 x,∃w:List V,∀st,TrF prog 28 [.agg x.cells,.sl .shared (F.map Fc.cells),.sl .shared (r.map Bl)] st λd st'=>d=.tup [.sl .shared (w.map V.cells),.b (ok x r)]/\st'=st):=by rw[hrw0,hok];exact hEn.out
 have hok2:Hid (∀x∈R,∀r,ok x r=true->r.length<=1000):=by rw[hok];exact hok1.out
 have hrl2:Hid (∀x∈R,(rw0 x).length<=2401):=by rw[hrw0];exact hrl0.out
 clear hRw hEn hok1 hrf rf hrw0 hok hrl0
 generalize R.map Rl.cells=RS at *
 generalize F.map Fc.cells=FS at *
 refine Qin [4] func24 results24 ntmps24 ?_
 repeat' (first|refine QX ?_|refine QB ?_;intro b|with_reducible refine QZ ?_<;>(try constructor)<;>intro hb<;>try intro hb1|fail)
 refine Bs (ι:=Nat) (λi A st'=>i<=R.length/\A.df=[]/\A.e 0=.sl .shared RS/\A.e 1=.sl .shared FS/\A.e 6=.i i/\∃don d5,Hid (don++FR i=M)/\Hid (∀m∈Mat.sortM don,m.ids.length<=1000)/\A.e 5=d5/\OutB (Mat.sortM don) st d5 st') (λi=>R.length - i) 0 ⟨Ao _,Qf,Qf,Qf,Qf,[],.sl .tight [],HM0,Aa (λm hm=>by cases hm),Qf,.inl ⟨rfl,rfl,rfl⟩⟩ ?_
 clear HM0
 rintro i A st' ⟨hi,hdf,e0,e1,e6,don,d5,HA,hAi,e5,hO⟩
 by_cases hlt:i<R.length
 . obtain⟨x,hx⟩:=gEx hlt
   have hxc:=hRc.out i x hx
   have hxm:=Ah hx
   have HE:=HA.out
   rw[hstep.out i x hx,hfil.out x,<-Ai]at HE
   have hRx:=hRw2.out x hxm
   have hEx:=Aa (hEn2.out x hxm)
   have hokx:=Aa (hok2.out x hxm)
   have hp4:=hP4.out x hxm
   have hrwl:=hrl2.out x hxm
   clear hrl2 hRc hstep hfil hRw2 hEn2 hok2 hP4 hx hxm HA hend
   generalize rw0 x=RW at *
   generalize ok x=okx at *
   obtain⟨AC,hAC⟩:∃AC:Nat->List Mt,AC=λj=>Mat.sortM (don++((RW.take j).filter okx).map (Mt.mk i)):=⟨_,rfl⟩
   have hAC0:AC 0=Mat.sortM don:=by rw[hAC];dsimp only;rw[CX,List.filter_nil,BH,AY]
   have hACL:Hid (AC RW.length=Mat.sortM (don++(RW.filter okx).map (Mt.mk i))):=by rw[hAC];dsimp only;rw[Cb];exact Aa rfl
   have hACs:Hid (∀(j:Nat) (r:List Int),RW[j]?=some r->(okx r=false->AC (j+1)=AC j)/\(okx r=true->AC (j+1)=Mat.ins (AC j) ⟨i,r⟩)):=λj r h=>by
    rw[hAC]
    dsimp only
    rw[Bk,h,Bw,Et]
    refine⟨λh2=>?_,λh2=>?_⟩
    . rw[Cg (by rw[h2];exact AJ),List.filter_nil,AY]
    . rw[Cf h2,List.filter_nil,Bi,<-Ai]
      exact Mat.sortM_app _ _
   have hACn:Hid (∀j,(AC j).length<=1000000):=λj=>by
    rw[hAC]
    dsimp only
    rw[Mat.sortM_len,Ad,Ab]
    have h1:=((List.take_sublist j RW).filter okx).length_le
    have h2:=congrArg List.length HE
    rw[Ad,Ad,Ab]at h2
    omega
   rw[<-hAC0]at hO hAi
   clear hAC hAC0
   replace HE:=Aa HE
   have hPm:(x.pats.map Pt.cells).length=x.pats.length:=Ab ..
   have hPc:=hMp Pt.cells x.pats
   rw[show x.cells=[.str x.name,.i x.sal,.sl .shared (x.pats.map Pt.cells),.sl .shared (x.acts.map Ac.cells)]from rfl]at *
   obtain⟨NP,hNP⟩:∃NP:Nat->Nat,NP=λk=>Mat.npos (x.pats.take k):=⟨_,rfl⟩
   have hNP0:NP 0=0:=by rw[hNP];rfl
   have hNPs:Hid (∀(k:Nat) (p:Pt),x.pats[k]?=some p->NP (k+1)=if p.neg=true then NP k else NP k+1):=λk p h=>by rw[hNP];exact Mat.npos_take h
   have hNPL:Mat.npos x.pats=NP x.pats.length:=by rw[hNP];dsimp only;rw[Cb]
   have hNPn:Hid (∀k,NP k<=4):=λk=>by
    rw[hNP]
    dsimp only
    have:=Mat.npos_le (x.pats.take k)
    rw[AQ]at this
    omega
   rw[hNPL]at hRx
   clear hNPL hNP
   generalize x.pats.map Pt.cells=PS at *
   generalize x.acts.map Ac.cells=AS at *
   generalize x.name=nm at *
   generalize x.sal=sal at *
   generalize x.pats=ps at *
   clear x
   replace hRx:=Aa hRx
   repeat' (first|refine QX ?_|refine QB ?_;intro b|with_reducible refine QZ ?_<;>(try constructor)<;>intro hb<;>try intro hb1|fail)
   refine Bs (ι:=Nat) (λk A st2=>k<=ps.length/\A.df=[]/\A.e 0=.sl .shared RS/\A.e 1=.sl .shared FS/\A.e 6=.i i/\A.e 5=d5/\A.e 7=.i (NP k)/\A.e 8=.i k/\st'=st2) (λk=>ps.length - k) 0 ⟨Ao _,Qf,Qf,Qf,Qf,Qf,by rw[hNP0];exact Qf,Qf,rfl⟩ ?_
   clear hdf e0 e1 e6 e5 hNP0
   rintro k A st2 ⟨hk,hdf,e0,e1,e6,e5,e7,e8,rfl⟩
   by_cases hkl:k<ps.length
   . obtain⟨p,hp⟩:=gEx hkl
     have hpc:=hPc.out k p hp
     have hN:=hNPs.out k p hp
     have hN4:=hNPn.out k
     clear hPc hNPs hNPn hp hRx hEx hokx hACL hACs hACn HE hAi hLs
     unfold Pt.cells at hpc
     generalize p.tests.map Ts.cells=TS at *
     generalize p.tmpl=p0 at *
     cases hn:p.neg with
     | true =>
      rw[hn]at hpc hN
      rw[if_pos rfl]at hN
      clear hn
      obtain⟨n1,hn1⟩:∃n,n=NP (k+1):=⟨_,rfl⟩
      obtain⟨n0,hn0⟩:∃n,n=NP k:=⟨_,rfl⟩
      rw[<-hn1,<-hn0]at hN
      rw[<-hn0]at e7 hN4
      replace hn1:=Aa hn1
      replace hn0:=Aa hn0
      subst hN
      repeat' (first|refine QX ?_|refine QB ?_;intro b|with_reducible refine QZ ?_<;>(try constructor)<;>intro hb<;>try intro hb1|fail)
      refine⟨k+1,st',q_u,⟨hkl,?_,?_,?_,?_,?_,by rw[<-hn1.out];exact Qf,?_,rfl⟩,by omega⟩
      all_goals exact Qf
     | false =>
      rw[hn]at hpc hN
      rw[if_neg AJ]at hN
      clear hn
      obtain⟨n1,hn1⟩:∃n,n=NP (k+1):=⟨_,rfl⟩
      obtain⟨n0,hn0⟩:∃n,n=NP k:=⟨_,rfl⟩
      rw[<-hn1,<-hn0]at hN
      rw[<-hn0]at e7 hN4
      replace hn1:=Aa hn1
      replace hn0:=Aa hn0
      subst hN
      repeat' (first|refine QX ?_|refine QB ?_;intro b|with_reducible refine QZ ?_<;>(try constructor)<;>intro hb<;>try intro hb1|fail)
      refine⟨k+1,st',q_u,⟨hkl,?_,?_,?_,?_,?_,by rw[<-hn1.out];exact Qf,?_,rfl⟩,by omega⟩
      all_goals exact Qf
   have hkL:k=ps.length:=by omega
   subst hkL
   have hN4:=hNPn.out ps.length
   obtain⟨n0,hn0⟩:∃n,n=NP ps.length:=⟨_,rfl⟩
   rw[<-hn0]at e7 hN4 hRx
   have hWm:(RW.map Md).length=RW.length:=Ab ..
   have hWc:Hid (∀(j:Nat) (r:List Int),RW[j]?=some r->(RW.map Md)[j]?=some [.sl .shared (r.map Bl)]):=λi t h=>by rw[Aq,h];rfl
   clear hn0 hNPs hNPn hPc
   generalize RW.map Md=WS at *
   repeat' (first|refine QX ?_|refine QB ?_;intro b|with_reducible refine QZ ?_<;>(try constructor)<;>intro hb<;>try intro hb1|refine Qc call59 ((hRx.out _)) ?_|fail)
   refine Bs (ι:=Nat) (λj A st2=>j<=RW.length/\A.df=[]/\A.e 0=.sl .shared RS/\A.e 1=.sl .shared FS/\A.e 6=.i i/\A.e 9=.sl .shared WS/\A.e 10=.i j/\∃d5,Hid (∀m∈AC j,m.ids.length<=1000)/\A.e 5=d5/\OutB (AC j) st d5 st2) (λj=>RW.length - j) 0 ⟨Ao _,Qf,Qf,Qf,Qf,Qf,Qf,d5,hAi,Qf,hO⟩ ?_
   clear hdf e0 e1 e6 e5 e7 e8 hRx hO hAi hN4
   clear d5 n0
   rintro j A st2 ⟨hj,hdf,e0,e1,e6,e9,e10,d5,hAi,e5,hO⟩
   by_cases hjl:j<RW.length
   . obtain⟨r,hr⟩:=gEx hjl
     have hrc:=hWc.out j r hr
     obtain⟨w,hw⟩:=hEx.out r (Ah hr)
     have hs:=hACs.out j r hr
     have hn:=hACn.out j
     have hrl:=hokx.out r
     clear hEx hACs hACn hWc hr hokx
     generalize w.map V.cells=WE at *
     obtain⟨m,hm⟩:∃m:Mt,m=⟨i,r⟩:=⟨_,rfl⟩
     have hmc:m.cells=[.i i,.sl .shared (r.map Bl)]:=by rw[hm];rfl
     have hmi:okx r=true->m.ids.length<=1000:=by rw[hm];exact hrl
     rw[<-hm]at hs
     clear hm hrl
     generalize r.map Bl=IR at *
     cases hq:okx r with
     | false =>
      rw[hq]at hw
      rw[<-hs.1 hq]at hO hAi
      clear hs hq hmi hLs HE hACL hn
      replace hw:=Aa hw
      repeat' (first|refine QV ?_|((with_reducible refine QW ?_);intro hne;simp only[nes,ne1,and_assoc]at hne;repeat(have hq:=hne.1;replace hne:=hne.2))|refine QY ?_|refine QB ?_;intro b|with_reducible refine QZ ?_<;>(try constructor)<;>intro hb<;>try intro hb1|refine Qc call28 ((hw.out _)) ?_|fail)
      refine⟨j+1,st2,q_u,⟨hjl,?_,?_,?_,?_,?_,?_,d5,hAi,?_,hO⟩,by omega⟩
      all_goals exact Qf
     | true =>
      rw[hq]at hw
      replace hmi:=hmi hq
      have hs:=Aa (hs.2 hq)
      clear hq HE hACL
      have hAi2:Hid (∀z∈AC (j+1),z.ids.length<=1000):=λz hz=>by
       rw[hs.out]at hz
       rcases Ax.1 ((Mat.ins_perm _ _).mem_iff.1 hz)with rfl|hz
       . exact hmi
       . exact hAi.out z hz
      obtain⟨acc,hacc⟩:∃acc,acc=AC j:=⟨_,rfl⟩
      rw[<-hacc]at hO hAi hn hs
      have hC:Hid (∀(t:Nat) (c:Mt),acc[t]?=some c->∀st,TrF prog 26 [.agg [.i i,.sl .shared IR],.agg c.cells] st λd st'=>d=.b (Mat.less m c)/\st'=st):=λt c h=>by
       rw[<-hmc]
       exact hLs.out m c hmi (hAi.out c (Ah h))
      have hil:=Mat.ins_len acc m
      clear hacc hLs hAi hmi
      rw[<-hs.out]at hil
      obtain⟨PO,hPO⟩:∃PO:Nat->Nat,PO=Mat.pos m acc:=⟨_,rfl⟩
      have hPO0:PO 0=0:=by rw[hPO];rfl
      have hPOs:Hid (∀(t:Nat) (c:Mt),acc[t]?=some c->PO (t+1)=if Mat.less m c=true then PO t else t+1):=λt c h=>by
       rw[hPO,Mat.pos,AW,h,Hs]
      obtain⟨RK,hRK⟩:∃RK:Nat->Mt->List D,RK=λk hole=>DS (acc.take k++hole::acc.drop k):=⟨_,rfl⟩
      have hRg:Hid (∀(k t:Nat) (hole c:Mt) (zs:List D),t<k->k<=acc.length->acc[t]?=some c->List.take 2 (List.drop (t*2) (RK k hole++zs))=c.cells):=λk t hole c zs h1 h2 h3=>by
       rw[hRK]
       exact fa zs (by rw[cU h1 h2];exact h3)
      have hRs:Hid (∀(k:Nat) (hole v:Mt) (zs:List D),k<=acc.length->List.take (k*2) (RK k hole++zs)++v.cells++List.drop (k*2+2) (RK k hole++zs)=RK k v++zs):=λk hole v zs h1=>by
       rw[hRK]
       dsimp only
       rw[bH zs (by rw[Vm h1];omega),bl h1]
      have hRn:Hid (∀(t:Nat) (c:Mt),acc[t]?=some c->RK (t+1) c=RK t c):=λt c h=>by
       rw[hRK]
       dsimp only
       rw[ZY h]
      have hRl2:Hid (∀(k:Nat) (hole:Mt),k<=acc.length->(RK k hole).length=(acc.length+1)*2):=λk hole h=>by
       rw[hRK]
       dsimp only
       rw[GG,Vm h]
      have hRi:DS (acc++[m])=RK acc.length m:=by
       rw[hRK]
       dsimp only
       rw[Cb,Hv]
      have hRf:Hid (∀k,PO acc.length=k->RK k m=DS (AC (j+1))):=λk h=>by
       rw[hPO]at h
       rw[hRK,hs.out]
       dsimp only
       unfold Mat.ins
       rw[h]
      clear hPO hRK hs
      replace hw:=Aa hw
      have hAne:Hid (AC (j+1)≠[]):=λh=>by rw[h]at hil;simp at hil
      repeat' (first|refine QV ?_|(refine eB 18 19 (λA' st'=>∃g cap zs,(RK acc.length m++zs).length=cap*2/\A'.df=[]/\A'.e 0=.sl .shared RS/\A'.e 1=.sl .shared FS/\A'.e 5=.ar g 0 (acc.length+1) cap/\A'.e 6=.i i/\A'.e 9=.sl .shared WS/\A'.e 10=.i j/\A'.e 13=.ptr b 0/\A'.e 14=.i acc.length/\st'.Perm (.box b 52 [.i i,.sl .shared IR]::.box g 52 (RK acc.length m++zs)::st)) ?_ ?_)|((with_reducible refine QW ?_);intro hne;simp only[nes,ne1,and_assoc]at hne;repeat(have hq:=hne.1;replace hne:=hne.2))|refine QY ?_|refine QB ?_;intro b|with_reducible refine QZ ?_<;>(try constructor)<;>intro hb<;>try intro hb1|refine Qc call28 ((hw.out _)) ?_|fail)
      . intro hK
        replace hK:=Aa hK
        clear hPOs hRg hRs hRn hRl2 hRf hC hAi2 hil hAne hw
        rcases hO with⟨rfl,rfl,rfl⟩|⟨hne,g,cap,zs,hz,rfl,rfl⟩
        . have hrm : DS [m] = [[D.i i, D.sl .shared IR]].flatten := by
           unfold DS
           rw[Au,hmc];rfl
          have hRi2:RK 0 m=[[D.i i,D.sl .shared IR]].flatten:=by rw[<-hrm,<-AM [m],hRi];rfl
          clear hRi hrm
          repeat' (first|refine QV ?_|with_reducible refine hK.out _ _ ?_|with_reducible refine Hz ?_|with_reducible refine Kj ?_|((with_reducible apply HH);(focus exact q_n);(focus exact CP rfl);(focus exact q_n);(focus exact q_n);intro g' cap' zs' hc hl')|refine QY ?_|refine QB ?_;intro b|with_reducible refine QZ ?_<;>(try constructor)<;>intro hb<;>try intro hb1|fail)
          refine⟨g',cap',zs',?_,?_,?_,?_,?_,?_,?_,?_,?_,?_,?_⟩
          . show(RK 0 m++zs').length=cap'*2
            rw[hRi2];exact hl'
          rotate_right
          . show List.Perm _ (_::Res.box g' _ (RK 0 m++zs')::_)
            rw[hRi2]
            try(first|exact .refl _|exact .swap _ _ _)
          all_goals exact Qf
        . have hrl:(DS acc).length=acc.length*2:=GG _
          have hra:=Ur acc m
          rw[hmc,hRi]at hra
          clear hRi
          generalize DS acc=RWW at *
          generalize acc.length=n at *
          repeat' (first|refine QV ?_|with_reducible refine hK.out _ _ ?_|with_reducible refine Hy ?_|with_reducible refine Kl ?_|((with_reducible apply(Ii hrl hz));(focus(intro g' cs';repeat(first|exact Hn|apply Hm)));(focus exact CP rfl);(iterate 2 (focus exact q_n));intro g' cap' zs' hc hl')|refine QY ?_|refine QB ?_;intro b|with_reducible refine QZ ?_<;>(try constructor)<;>intro hb<;>try intro hb1|fail)
          refine⟨g',cap',zs',?_,?_,?_,?_,?_,?_,?_,?_,?_,?_,?_⟩
          . rw[hra];exact hl'
          rotate_right
          . rw[hra]
            try(first|exact .refl _|exact .swap _ _ _)
          all_goals exact Qf
      . clear hO hdf e0 e1 e6 e9 e10 e5 hw hRi hrc
        clear d5 A
        rintro A st3 ⟨g,cap,zs,hz,hdf,e0,e1,e5,e6,e9,e10,e13,e14,hp⟩
        refine Bn hp ?_
        clear hp
        generalize hn2:acc.length=n at *
        obtain⟨pf,hpf⟩:∃pf,pf=PO n:=⟨_,rfl⟩
        replace hpf:=Aa hpf
        repeat' (first|refine QX ?_|refine QB ?_;intro b|with_reducible refine QZ ?_<;>(try constructor)<;>intro hb<;>try intro hb1|fail)
        refine Bs (ι:=Nat) (λk A st'=>k<=n/\Hid (pf=PO k)/\A.df=[]/\A.e 0=.sl .shared RS/\A.e 1=.sl .shared FS/\A.e 5=.ar g 0 (n+1) cap/\A.e 6=.i i/\A.e 9=.sl .shared WS/\A.e 10=.i j/\A.e 13=.ptr b 0/\A.e 14=.i k/\∃hole,st'=.box b 52 [.i i,.sl .shared IR]::.box g 52 (RK k hole++zs)::st) (λk=>k) n ⟨Ap _,hpf,Qf,Qf,Qf,Qf,Qf,Qf,Qf,Qf,Qf,m,rfl⟩ ?_
        clear hdf e0 e1 e5 e6 e9 e10 e13 e14
        rintro k A st' ⟨hk,HP,hdf,e0,e1,e5,e6,e9,e10,e13,e14,hole,rfl⟩
        have hzl:(RK n m).length=(n+1)*2:=hRl2.out n m q_o
        have hkz:(RK k hole).length=(n+1)*2:=hRl2.out k hole q_o
        have hzs:(RK k hole++zs).length=cap*2:=by rw[Ad,hkz,<-hzl,<-Ad];exact hz
        have hcap:n+1<=cap:=by rw[Ad,hzl]at hz;omega
        have hcap2:k*2+2<=(RK k hole++zs).length:=by rw[hzs];omega
        have hdl2:2<=(List.drop (k*2) (RK k hole++zs)).length:=by rw[AO,hzs];omega
        have hset:=hRs.out k hole m zs q_o
        rw[hmc]at hset
        have hfin:Hid (PO n=k->RK k m=DS (AC (j+1))):=Aa (hRf.out k)
        have hpl:(RK k m++zs).length=cap*2:=by rw[Ad,hRl2.out k m q_o,<-hkz,<-Ad];exact hzs
        rcases Me k with rfl|hpos
        . have hf:=hfin.out (by rw[<-hpf.out,HP.out];exact hPO0)
          clear hPOs hRg hRs hRn hRl2 hRf hC hfin HP hpf hz hzl hkz
          generalize hR2:RK 0 m++zs=R2 at *
          generalize RK 0 hole++zs=RR at *
          simp only[Fe,Bo,CX,AM,AI]at hset
          simp only[Fe,Bo]at hcap2 hdl2
          repeat' (first|refine QV ?_|((with_reducible refine QW ?_);intro hne;simp only[nes,ne1,and_assoc]at hne;repeat(have hq:=hne.1;replace hne:=hne.2))|refine QY ?_|refine QB ?_;intro b|with_reducible refine QZ ?_<;>(try constructor)<;>intro hb<;>try intro hb1|fail)
          refine⟨j+1,.box g 52 R2::st,q_t,⟨hjl,?_,?_,?_,?_,?_,?_,_,hAi2,rfl,.inr ⟨hAne.out,g,cap,zs,?_,?_,?_⟩⟩,by omega⟩
          all_goals first|(rw[<-hf,hR2];exact hpl)|(rw[<-hf,hR2];done)|(rw[hil];exact Qf)|exact Qf
        . obtain⟨t,ht⟩:∃t,k=t+1:=⟨k - 1,by omega⟩
          obtain⟨c,hc⟩:=gEx (l:=acc) (i:=t) q_o
          have hg2:=hRg.out k t hole c zs q_o q_o hc
          have hCt:=hC.out t c hc
          have hPt:=hPOs.out t c hc
          have hRt:=hRn.out t c hc
          have hset2:=hRs.out k hole c zs q_o
          have hcap3:t*2+2<=(RK k hole++zs).length:=by omega
          have hdl3:2<=(List.drop (t*2) (RK k hole++zs)).length:=by rw[AO];omega
          have hwk:((k:Int) - 1)=t:=by omega
          have htk:t<k:=by omega
          rw[<-ht]at hPt hRt
          rw[<-HP.out]at hPt
          clear hPOs hRg hRs hRn hRl2 hRf hC hz hzl hkz hc HP ht
          rw[show c.cells=[.i c.rule,.sl .shared (c.ids.map Bl)]from rfl]at *
          generalize c.ids.map Bl=IC at *
          generalize c.rule=rc at *
          cases hq:Mat.less m c with
          | true =>
           rw[hq]at hCt hPt
           rw[if_pos rfl]at hPt
           replace hPt:=Aa hPt
           replace hCt:=Aa hCt
           clear hset hpl hfin hpf
           rw[hRt]at hset2
           generalize hR2:RK t c++zs=R2 at *
           generalize RK k hole++zs=RR at *
           repeat' (first|refine QV ?_|((with_reducible refine QW ?_);intro hne;simp only[nes,ne1,and_assoc]at hne;repeat(have hq:=hne.1;replace hne:=hne.2))|refine QY ?_|refine QB ?_;intro b|with_reducible refine QZ ?_<;>(try constructor)<;>intro hb<;>try intro hb1|refine Qc call26 ((hCt.out _)) ?_|fail)
           refine⟨t,.box b 52 [.i i,.sl .shared IR]::.box g 52 R2::st,q_t,⟨by omega,hPt,?_,?_,?_,?_,?_,?_,?_,?_,?_,c,by rw[hR2]⟩,htk⟩
           all_goals exact Qf
          | false =>
           rw[hq]at hCt hPt
           rw[if_neg AJ]at hPt
           replace hCt:=Aa hCt
           have hf:=hfin.out (by rw[<-hpf.out];omega)
           clear hset2 hPt hfin hpf hRt
           generalize hR2:RK k m++zs=R2 at *
           generalize RK k hole++zs=RR at *
           repeat' (first|refine QV ?_|((with_reducible refine QW ?_);intro hne;simp only[nes,ne1,and_assoc]at hne;repeat(have hq:=hne.1;replace hne:=hne.2))|refine QY ?_|refine QB ?_;intro b|with_reducible refine QZ ?_<;>(try constructor)<;>intro hb<;>try intro hb1|refine Qc call26 ((hCt.out _)) ?_|fail)
           refine⟨j+1,.box g 52 R2::st,q_t,⟨hjl,?_,?_,?_,?_,?_,?_,_,hAi2,rfl,.inr ⟨hAne.out,g,cap,zs,?_,?_,?_⟩⟩,by omega⟩
           all_goals first|(rw[<-hf,hR2];exact hpl)|(rw[<-hf,hR2];done)|(rw[hil];exact Qf)|exact Qf
   . have hjL:j=RW.length:=by omega
     subst hjL
     rw[hACL.out]at hO hAi
     clear hEx hokx hACL hACs hACn hWc hLs
     repeat' (first|refine QX ?_|refine QB ?_;intro b|with_reducible refine QZ ?_<;>(try constructor)<;>intro hb<;>try intro hb1|fail)
     refine⟨i+1,st2,q_u,⟨hlt,?_,?_,?_,?_,_,d5,HE,hAi,?_,hO⟩,by omega⟩
     all_goals exact Qf
 . have hil:i=R.length:=by omega
   subst hil
   have HE:=HA.out
   rw[hend.out,AY]at HE
   subst HE
   have hO2:=hO.raw
   clear HA hend hRc hrl2 hstep hRw2 hEn2 hok2 hLs hP4 hO hfil
   replace hO2:=Aa hO2
   repeat' (first|refine QX ?_|refine QB ?_;intro b|with_reducible refine QZ ?_<;>(try constructor)<;>intro hb<;>try intro hb1|fail)
   all_goals exact Bf (by simp) q_y (Aj _) (LE.of_eq q_v) hO2.out
end
section
attribute [local push_cast] Br Bl BV V.cells_mk V.cells_len Nat.mul_one Int.sub_zero List.map_nil beq_self_eq_true List.head?_cons
theorem fq(o o':Own)(a b:List V)(ha:∀v∈a,v.Ok)(hl:a.length<=9223372036854775806)(st:St):TrF prog 19 [.sl o (a.map V.cells),.sl o' (b.map V.cells)] st λd st'=>d=.b (V.cmpL a b == 0)/\st'=st:=by
 have hma:(a.map V.cells).length=a.length:=Ab ..
 have hmb:(b.map V.cells).length=b.length:=Ab ..
 have hca:=hMp V.cells a
 have hcb:=hMp V.cells b
 have ha2:=Aa ha
 have hne:Hid (a≠b->(V.cmpL a b == 0)=false):=λh=>by rw[beq_eq_false_iff_ne];exactλh2=>h (V.cmpL_eq a b h2)
 have heq:Hid (a=b->(V.cmpL a b == 0)=true):=λh=>by rw[h,V.cmpL_self];rfl
 clear ha
 generalize (V.cmpL a b == 0)=B at *
 generalize a.map V.cells=AC at *
 generalize b.map V.cells=BC at *
 by_cases hlen:a.length=b.length
 . have hlen2:b.length=a.length:=hlen.symm
   replace hlen:=Aa hlen
   refine Qin [4] func19 results19 ntmps19 ?_
   repeat' (first|refine QX ?_|(refine QB ?_;intro b)|refine QP ?_;intro o' ho'|(with_reducible refine QZ ?_<;>(try constructor)<;>intro hb<;>try intro hb1)|fail)
   refine DN (ι:=Nat) (λi A st'=>i<=a.length/\Hid (a.take i=b.take i)/\A.df=[]/\A.e 0=.sl o AC/\A.e 1=.sl o' BC/\A.e 5=.i i/\st=st') (λi=>a.length - i) 0 ⟨Ao _,rfl,Qf,Qf,Qf,Qf,rfl⟩ ?_
   rintro i A st' ⟨hi,HT,hdf,e0,e1,e5,rfl⟩
   by_cases hlt:i<a.length
   . obtain⟨x,hx⟩:=gEx hlt
     obtain⟨y,hy⟩:=gEx (l:=b) (i:=i) q_o
     have hcx:=hca.out i x hx
     have hcy:=hcb.out i y hy
     have hS:=bR x y (ha2.out x (Ah hx))
     have hyes:Hid (x=y->a.take (i+1)=b.take (i+1)):=λe=>by
      rw[Bk,Bk,HT.out,hx,hy,e]
     have hno:Hid (x≠y->a≠b):=λe h=>e (by
      rw[h,hy]at hx
      exact(Cl hx).symm)
     cases hq:(x.cmp y == 0)with
     | true =>
      have hxy:=hyes.out (V.cmp_eq x y (by simpa using hq))
      rw[hq]at hS
      clear hyes hno hx hy hq HT
      cases x with
      | mk k n sv lv =>
      cases y with
      | mk k' n' sv' lv' =>
      rw[V.cells_mk]at hcx hcy
      rw[V.cells_mk,V.cells_mk]at hS
      replace hS:=Aa hS
      replace hxy:=Aa hxy
      repeat' (first|refine QV ?_|((with_reducible refine QW ?_);intro hne;simp only[nes,ne1,and_assoc]at hne;repeat(have hq:=hne.1;replace hne:=hne.2))|refine QY ?_|(refine QB ?_;intro b)|refine QP ?_;intro o' ho'|(with_reducible refine QZ ?_<;>(try constructor)<;>intro hb<;>try intro hb1)|fail)
      refine⟨i+1,⟨hlt,hxy,?_,?_,?_,?_,rfl⟩,?_⟩
      all_goals exact Qf
     | false =>
      have hB:=hne.out (hno.out λe=>by rw[e,V.cmp_self]at hq;exact absurd hq (by decide))
      rw[hq]at hS
      clear hyes hno hx hy hq HT
      subst hB
      cases x with
      | mk k n sv lv =>
      cases y with
      | mk k' n' sv' lv' =>
      rw[V.cells_mk]at hcx hcy
      rw[V.cells_mk,V.cells_mk]at hS
      replace hS:=Aa hS
      repeat' (first|refine QV ?_|((with_reducible refine QW ?_);intro hne;simp only[nes,ne1,and_assoc]at hne;repeat(have hq:=hne.1;replace hne:=hne.2))|refine QY ?_|(refine QB ?_;intro b)|refine QP ?_;intro o' ho'|(with_reducible refine QZ ?_<;>(try constructor)<;>intro hb<;>try intro hb1)|fail)
      all_goals exact BZ
   . have h1:=HT.out
     rw[Bj q_o,Bj q_o]at h1
     have hB:=heq.out h1
     subst hB
     clear heq hne HT hca hcb h1
     exact WRa
 . have hB:=hne.out λe=>hlen (by rw[e])
   subst hB
   have hl2:¬(a.length:Int)=(b.length:Int):=by omega
   clear hne heq hlen
   refine Qin [4] func19 results19 ntmps19 ?_
   exact WRa
end
section
attribute [local push_cast] Br Bl BV V.cells_mk V.cells_len Nat.mul_one Int.sub_zero List.map_nil beq_self_eq_true bne_self_eq_false List.head?_cons Bool.not_true Bool.not_false Nat.zero_add
section
set_option maxHeartbeats 16000000
theorem fp(R:List Rl)(F:List Fc)(hR:∀x∈R,XK x/\x.pats.length<=4)(hRl:R.length<=8)(hF:FKs F)(hFl:F.length<=7)(hnd:(F.map Fc.id).Nodup)(st:St):TrF prog 24 [.sl .shared (R.map Rl.cells),.sl .shared (F.map Fc.cells)] st λd st'=>d=.sl .shared ((Mat.sortM (Mat.raws R F)).map Mt.cells)/\st'=st:=by
 have he:=Mat.raws_eq hnd R
 have hl:=Mat.raws_le hRl (λx hx=>(hR x hx).2) hFl
 rw[he]at hl |-
 exact AllRaw.rest (Td R F (λx hx=>(hR x hx).1) q_o (λx hx=>(hR x hx).2) hF hFl hl st)
theorem Uy(b:Nat)(R:List Rl)(F:List Fc)(hR:∀x∈R,XK x/\x.pats.length<=4)(hRl:R.length<=8)(hF:FKs F)(hFl:F.length<=7)(hnd:(F.map Fc.id).Nodup)(st:St):TrF prog 38 [.ptr b 0] (.box b 64 [.sl .shared (R.map Rl.cells),.sl .shared (F.map Fc.cells)]::st) λd st'=>d=.sl .shared ((Mat.sortM (Mat.raws R F)).map Mt.cells)/\st'=.box b 64 [.sl .shared (R.map Rl.cells),.sl .shared (F.map Fc.cells)]::st:=by
 have hA:=Aa (fp R F hR hRl hF hFl hnd)
 clear hR hRl hF hFl hnd
 generalize R.map Rl.cells=RC at *
 generalize F.map Fc.cells=FC at *
 generalize (Mat.sortM (Mat.raws R F)).map Mt.cells=MC at *
 refine Qin [2] func38 results38 ntmps38 ?_
 repeat' (first|refine QV ?_|((with_reducible apply(Da (id:=1) [(b,[.sl .shared RC,.sl .shared FC])]));(iterate 3 (focus kernel_rfl));(focus exact q_k);intro hne;(try simp only[nes,ne1,and_assoc]at hne);repeat(have hq:=hne.1;replace hne:=hne.2))|((with_reducible refine And.intro ?_ ?_);(focus exact q_k))|refine QY ?_|refine QB ?_;intro b|with_reducible refine QZ ?_<;>(try constructor)<;>intro hb<;>try intro hb1|refine Qc call24 ((hA.out _)) ?_|fail)
 all_goals exact BZ
def Lw (F:List Fc)(ps:List Pt):Nat->Nat
|0=>0
|m+1=>Lw F ps m+(Mat.from_ F (ps.take (m+1)) [] Mat.empty).length
def Jo (F:List Fc):List Rl->Nat
|[]=>0
|x::l=>Lw F x.pats x.pats.length+Jo F l
theorem YM{F:List Fc}{R:List Rl}{i:Nat}{x:Rl}(h:R[i]?=some x):Jo F (R.drop i)=Lw F x.pats x.pats.length+Jo F (R.drop (i+1)):=by
 rw[V.drop_cons h,Jo]
theorem XD{F:List Fc}{ps:List Pt}(hF:F.length<=9)(hp:ps.length<=4):∀m,m<=4->Lw F ps m<=m*10000
|0,_=>Ao _
|m+1,h=>by
  have h1:=XD hF hp m q_o
  have h2:=Mat.from_length F (ps.take (m+1)) [] Mat.empty
  have h3:(F.length+1) ^ (ps.take (m+1)).length<=10 ^ 4:=Cp (Nat.pow_le_pow_left q_o _) (DW (by decide) (by rw[AQ];omega))
  have h4:(10:Nat) ^ 4=10000:=by decide
  unfold Lw
  omega
theorem XE{F:List Fc}(hF:F.length<=9):∀R:List Rl,(∀x∈R,x.pats.length<=4)->Jo F R<=R.length*40000
|[],_=>Ao _
|x::l,h=>by
  have h1:=XE hF l λy hy=>h y (Ae _ hy)
  have h0:=h x (Ag ..)
  have h2:=XD hF h0 x.pats.length h0
  unfold Jo
  rw[An]
  omega
end
theorem Tg(st:St):TrF prog 41 [.s (.pointer none)] st λd st'=>d=.i 0/\st'=st:=by
 refine Qin [2] func41 results41 ntmps41 ?_
 repeat' (first|refine QV ?_|((with_reducible apply OQ);(focus kernel_rfl);(focus exact q_v))|refine QY ?_|refine QB ?_;intro b|with_reducible refine QZ ?_<;>(try constructor)<;>intro hb<;>try intro hb1|fail)
 all_goals exact BZ
theorem Zx{S:NC}{k:Nat}{x:Nd}(hS:Nt.Str S [])(hx:S.ns[k]?=some x):∃c:D,List.take 1 (List.drop (k*9+7) (CJ S.ns++S.zs))=[c]/\k*9+8<=(CJ S.ns++S.zs).length/\((c=.sl .tight []/\x.ts.length=0)\/∃g cl,c=.ar g 0 x.ts.length cl):=by
 have hr:=bG hx S.zs
 have hl:=KI hx
 have hd:List.drop (k*9+7) (CJ S.ns++S.zs)=List.drop 1 (x.tm.cells x.ts.length++GQ S.ns k S.zs):=by
  rw[hr,show k*9+7=(k*9+6)+1 by omega,<-CY,<-hl,CN]
 have hlen:k*9+8<=(CJ S.ns++S.zs).length:=by
  rw[hr,Ad,hl,Ad,MemP.cells_len]
  omega
 have hok:=(hS.okx x (Ah hx)).2
 rw[hd]
 cases hm:x.tm with
|no =>
  rw[hm]at hok
  have h0:x.ts.length=0:=by
   have:=congrArg List.length hok.1
   rwa[Ab]at this
  exact⟨_,rfl,hlen,.inl ⟨rfl,h0⟩⟩
|at_ b l c gl cl zl gk ck zk=>exact⟨_,rfl,hlen,.inr ⟨gl,cl,rfl⟩⟩
theorem WA(N:NT)(R:List Rl)(hN:N.Ok R)(hR:R.length<=1000)(hp4:∀x∈R,1<=x.pats.length/\x.pats.length<=4)(hle:Jo N.fs R<=1000000000)(st:St):TrF prog 41 [.ptr N.b 0] (N.st++st) λd st'=>d=.i (Jo N.fs R)/\(N.st++st).Perm st':=by
 have hcl:=hN.cl
 have HN:=Aa hN
 have HP:=Aa hp4
 have hrl:N.row.length=R.length:=by unfold NT.row;rw[Ab,hcl]
 have hrow:Hid (∀(i:Nat) (S:NC),N.cs[i]?=some S->N.row[i]?=some [.ptr S.c 0]):=λi S h=>by unfold NT.row;rw[Aq,h];rfl
 obtain⟨m0,m1,m2,hm⟩:=N.fm.cells3 N.fs.length
 have hcells:N.cells=[.sl .shared N.row,m0,m1,m2]:=by unfold NT.cells;rw[hm]
 obtain⟨W,hW⟩:∃W,W=N.fm.resF N.fs++N.cs.flatMap NC.st++st:=⟨_,rfl⟩
 have hNs:N.st++st=.box N.b 105 [.sl .shared N.row,m0,m1,m2]::W:=by rw[hW,<-hcells];rfl
 have hNs2:Hid ((N.st++st).Perm (.box N.b 105 [.sl .shared N.row,m0,m1,m2]::W)):=by rw[hNs];exact Aa (.refl _)
 obtain⟨T,hT⟩:∃T,Jo N.fs R=T:=⟨_,rfl⟩
 have HT:Hid (0+Jo N.fs (R.drop 0)=T):=by rw[Ch,Bo];exact hT
 rw[hT]at hle |-
 refine TrF.perm hNs2.out ?_
 clear hT hN hp4 hNs hW hcells hm
 obtain⟨ROW,hROW⟩:∃ROW,ROW=N.row:=⟨_,rfl⟩
 rw[<-hROW]at hrl hrow hNs2 |-
 clear hROW
 refine Qin [2] func41 results41 ntmps41 ?_
 repeat' (first|refine QV ?_|((with_reducible apply Kz);(focus kernel_rfl);(focus exact q_v))|refine QY ?_|refine QB ?_;intro b|with_reducible refine QZ ?_<;>(try constructor)<;>intro hb<;>try intro hb1|fail)
 refine Bs (ι:=Nat) (λi A st'=>i<=R.length/\A.df=[]/\A.e 12=.sl .shared ROW/\A.e 13=.i R.length/\A.e 14=.i i/\∃k:Nat,Hid (k+Jo N.fs (R.drop i)=T)/\A.e 3=.i k/\(N.st++st).Perm st') (λi=>R.length - i) 0 ⟨Ao _,Qf,Qf,Qf,Qf,0,HT,Qf,hNs2.out⟩ ?_
 clear HT hNs2
 rintro i A st' ⟨hi,hdf,e12,e13,e14,k,HK,e3,hpm⟩
 by_cases hlt:i<R.length
 . obtain⟨x,hx⟩:=gEx hlt
   obtain⟨S,hS⟩:∃S,N.cs[i]?=some S:=⟨_,Al (by rw[hcl];exact hlt)⟩
   have hC:=HN.out.ch i x S hx hS
   have hrc:=hrow.out i S hS
   obtain⟨hx1,hx4⟩:=HP.out x (Ah hx)
   have hnl:=hC.nl
   have hcap:S.ns.length<=S.cap:=by
    have:=hC.str.row
    rw[Ad,DP]at this
    omega
   have HE:=HK.out
   rw[YM hx]at HE
   have HX:Hid (k+(Lw N.fs x.pats x.pats.length - Lw N.fs x.pats 0)+Jo N.fs (R.drop (i+1))=T):=by
    show k+(Lw N.fs x.pats x.pats.length - 0)+_=T
    rw[LD,FU];exact HE
   have hmono:Hid (∀j,j<=x.pats.length->Lw N.fs x.pats j<=Lw N.fs x.pats x.pats.length):=λj hj=>by
    obtain⟨d,hd⟩:∃d,x.pats.length=j+d:=⟨x.pats.length - j,by omega⟩
    rw[hd]
    clear hd hj
    induction d with
    | zero=>exact Ap _
    | succ d ih=>exact Cp ih (Fj _ _)
   have hnode:Hid (∀j,j<x.pats.length->∃(c:D) (n:Nat),Lw N.fs x.pats (j+1)=Lw N.fs x.pats j+n/\List.take 1 (List.drop ((j+1)*9+7) (CJ S.ns++S.zs))=[c]/\(j+1)*9+8<=(CJ S.ns++S.zs).length/\((c=.sl .tight []/\n=0)\/∃g cl,c=.ar g 0 n cl)):=λj hj=>by
    obtain⟨y,hy⟩:∃y,S.ns[j+1]?=some y:=⟨_,Al (by rw[hnl];omega)⟩
    obtain⟨c,c1,c2,c3⟩:=Zx hC.str hy
    have h1:=(Xy hC HN.out.f0 HN.out.nodup q_o hy).length_eq
    rw[Ab]at h1
    exact⟨c,y.ts.length,by rw[h1];rfl,c1,c2,c3⟩
   obtain⟨X,hX⟩:∃X,(N.st++st).Perm (.box S.c 109 [.ar S.g 0 (x.pats.length+1) S.cap]::.box S.g 115 (CJ S.ns++S.zs)::X):=by
    rw[<-hnl]
    exact⟨_,JD (N:=N) (M:=N.fm) (F:=N.fs) hS st⟩
   refine Bn (hpm.symm.trans hX) ?_
   have hback:=Aa hX
   rw[hnl]at hcap
   clear hpm hX HK HE hC hx hS hnl hrow HN HP
   obtain⟨G,hG⟩:∃G,Jo N.fs (R.drop (i+1))=G:=⟨_,rfl⟩
   rw[hG]at HX
   replace hG:=Aa hG
   obtain⟨tk,htk⟩:∃tk:Nat->Nat,tk=Lw N.fs x.pats:=⟨_,rfl⟩
   simp only[<-htk]at HX hmono hnode
   clear htk
   generalize CJ S.ns++S.zs=RN at *
   generalize x.pats.length=pl at *
   generalize S.c=sc at *
   generalize S.g=sg at *
   generalize S.cap=scap at *
   have hpl1:pl+1 - 1=pl:=by omega
   have hsc:1<scap:=by omega
   have hsi:(1:Int)<=(pl:Int)+1:=by omega
   repeat' (first|refine QX ?_|refine QB ?_;intro b|with_reducible refine QZ ?_<;>(try constructor)<;>intro hb<;>try intro hb1|fail)
   refine Bs (ι:=Nat) (λj A2 st2=>j<=pl/\A2.df=[]/\A2.e 5=.ptr sc 0/\A2.e 12=.sl .shared ROW/\A2.e 13=.i R.length/\A2.e 14=.i i/\A2.e 23=.i pl/\A2.e 24=.i j/\∃k2:Nat,Hid (k2+(tk pl - tk j)+G=T)/\A2.e 3=.i k2/\st2=.box sc 109 [.ar sg 0 (pl+1) scap]::.box sg 115 RN::X) (λj=>pl - j) 0 ⟨Ao _,Qf,Qf,Qf,Qf,Qf,Qf,Qf,k,HX,Qf,rfl⟩ ?_
   clear HX hdf e3 e12 e13 e14
   rintro j A2 st2 ⟨hj,hdf,e5,e12,e13,e14,e23,e24,k2,HK,e3,rfl⟩
   by_cases hjl:j<pl
   . obtain⟨c,n,n1,n2,n3,n4⟩:=hnode.out j hjl
     have htn:((j:Int)+1).toNat=j+1:=by omega
     rw[show(j+1)*9+7=(j+1)*9+6+1 by omega]at n2
     obtain⟨rest,n2⟩:∃rest,List.drop ((j+1)*9+6+1) RN=c::rest:=by
      cases hd:List.drop ((j+1)*9+6+1) RN with
      | nil=>rw[hd]at n2;cases n2
      | cons a l=>rw[hd]at n2;exact⟨l,by rw[(List.cons.inj n2).1]⟩
     clear n3
     have hm:=hmono.out (j+1) hjl
     have HE:Hid (k2+n+(tk pl - tk (j+1))+G=T):=by
      have h1:=HK.out
      show _=T
      omega
     have hb2:k2+n<=T:=by have:=HE.out;omega
     clear HK hmono hnode
     replace n1:=Aa n1
     rcases n4 with⟨rfl,hn0⟩|⟨g,cl,rfl⟩
     . subst hn0
       repeat' (first|refine QX ?_|refine QB ?_;intro b|with_reducible refine QZ ?_<;>(try constructor)<;>intro hb<;>try intro hb1|fail)
       refine⟨j+1,_,Aj _,⟨hjl,?_,?_,?_,?_,?_,?_,?_,k2,HE,?_,rfl⟩,by omega⟩
       all_goals exact Qf
     . repeat' (first|refine QX ?_|refine QB ?_;intro b|with_reducible refine QZ ?_<;>(try constructor)<;>intro hb<;>try intro hb1|fail)
       refine⟨j+1,_,Aj _,⟨hjl,?_,?_,?_,?_,?_,?_,?_,k2+n,HE,?_,rfl⟩,by omega⟩
       all_goals exact Qf
   . have hjn:j=pl:=by omega
     subst hjn
     have HE:Hid (k2+Jo N.fs (R.drop (i+1))=T):=by
      have h1:=HK.out
      rw[Gu,Ed,<-hG.out]at h1
      exact h1
     clear HK hmono hnode
     repeat' (first|refine QX ?_|refine QB ?_;intro b|with_reducible refine QZ ?_<;>(try constructor)<;>intro hb<;>try intro hb1|fail)
     refine⟨i+1,_,Aj _,⟨hlt,?_,?_,?_,?_,k2,HE,?_,hback.out⟩,by omega⟩
     all_goals exact Qf
 . have HE:=HK.out
   rw[Az q_o]at HE
   have HE:k=T:=HE
   clear HK HN HP hrow
   subst HE
   have hpm2:=Aa hpm
   clear hpm
   repeat' (first|refine QX ?_|refine QB ?_;intro b|with_reducible refine QZ ?_<;>(try constructor)<;>intro hb<;>try intro hb1|fail)
   all_goals exact Bf (by simp) q_y (Aj _) (LE.of_eq q_v) ⟨rfl,hpm2.out⟩
end
section
theorem bj{K l L:List Fc}(hnd:(K.map Fc.id).Nodup)(h1:l.Perm K)(h2:dU l)(k1:L.Perm K)(k2:dU L):l=L:=by
 refine lJ (le:=λa b:Fc=>a.id<=b.id) (λa b ha hb e1 e2=>?_) h2 k2 (h1.trans k1.symm)
 have ha:=h1.mem_iff.1 ha
 have hb:=k1.mem_iff.1 hb
 have:=Mat.find_self hnd ha
 have h3:=Mat.find_self hnd hb
 rw[show a.id=b.id by omega,h3]at this
 exact(Cl this).symm
structure NetL (N:NT)(R:List Rl)(L:List Fc):Prop where
 ok:N.Ok R
 p:L.Perm N.fs
 s:dU L
variable {N:NT} {R:List Rl} {L:List Fc}
theorem NetL.len(h:NetL N R L):L.length=N.fs.length:=h.p.length_eq
theorem NetL.nd(h:NetL N R L):(L.map Fc.id).Nodup:=(h.p.map Fc.id).nodup_iff.2 h.ok.nodup
theorem NetL.fk(h:NetL N R L):FKs L:=⟨λf hf=>h.ok.fk.f f (h.p.mem_iff.1 hf),by rw[h.len];exact h.ok.fk.l⟩
theorem NetL.ids(h:NetL N R L)(x:Int):x∈N.fs.map Fc.id↔x∈L.map Fc.id:=((h.p.map Fc.id).mem_iff).symm
theorem NetL.facts(h:NetL N R L)(st:St):TrF prog 40 [.ptr N.b 0] (N.st++st) λd st'=>d=.sl .shared (L.map Fc.cells)/\st'=N.st++st :=
 (ZE N R h.ok st).mono λd st' ⟨l,h1,h2,h3,h4⟩=>⟨by rw[h3,bj h.ok.nodup h1 h2 h.p h.s],h4⟩
theorem NetL.matches_(h:NetL N R L)(hR:R.length<=1000)(hp:∀x∈R,x.pats.length<=4)(hl:(Mat.raws R L).length<=1000000)(st:St):TrF prog 37 [.ptr N.b 0] (N.st++st) λd st'=>d=.sl .shared ((Mat.sortM (Mat.raws R L)).map Mt.cells)/\st'=N.st++st:=by
 have hpm:=Zo h.p R
 have:=UZ N R h.ok hR hp (by rw[<-hpm.length_eq];exact hl) st
 rwa[<-sortM_perm hpm]at this
theorem QO{F G:List Fc}(h:F.Perm G)(ps:List Pt):∀m,Lw F ps m=Lw G ps m
|0=>rfl
|m+1=>by unfold Lw;rw[QO h ps m,(from_perm h _ _ _).length_eq]
theorem QQ{F G:List Fc}(h:F.Perm G):∀R:List Rl,Jo F R=Jo G R
|[]=>rfl
|x::l=>by unfold Jo;rw[QO h,QQ h l]
theorem NetL.tokens(h:NetL N R L)(hR:R.length<=1000)(hp:∀x∈R,1<=x.pats.length/\x.pats.length<=4)(hl:Jo L R<=1000000000)(st:St):TrF prog 41 [.ptr N.b 0] (N.st++st) λd st'=>d=.i (Jo L R)/\st'=N.st++st:=by
 rw[QQ h.p R]at hl |-
 exact TrF.permPost (.refl _) ((WA N R h.ok hR hp hl st).mono λd st' ⟨e1,e2⟩=>⟨_,⟨e1,rfl⟩,e2.symm⟩)
def QD (L:List Fc)(f:Fc):List Fc:=if f.id∈L.map Fc.id then L else Lz f L
def Xh (L:List Fc)(id:Int):List Fc:=L.filter λg=>g.id != id
theorem dL(L:List Fc)(f:Fc):(QD L f).length<=L.length+1:=by
 unfold QD
 split
 . omega
 . rw[(Li f L).length_eq];exact Ap _
theorem dK(L:List Fc)(id:Int):(Xh L id).length<=L.length:=Fw ..
theorem NetL.assert(h:NetL N R L)(f:Fc)(hR:R.length<=1000)(hf:FK f)(h0:f.id≠0)(hl:L.length<1000)(st:St):TrF prog 33 [.ptr N.b 0,.agg f.cells] (N.st++st) λd st'=>∃N':NT,NetL N' R (QD L f)/\N'.b=N.b/\d=.b (!(decide (f.id∈L.map Fc.id)))/\(N'.st++st).Perm st':=by
 refine(WD N R f h.ok hR hf h0 (by rw[<-h.len];exact hl) st).mono λd st' ⟨N',h1,h2,h3,h4⟩=>⟨N',?_,h2,?_,h4⟩
 . unfold QD
   rcases h3 with⟨k1,k2, -⟩|⟨k1,k2, -⟩
   . rw[if_pos ((h.ids _).1 k1)]
     exact⟨h1,by rw[k2];exact h.p,h.s⟩
   . rw[if_neg (λe=>k1 ((h.ids _).2 e))]
     refine⟨h1,?_,Vl f h.s⟩
     rw[k2]
     exact(Li f L).trans ((h.p.cons f).trans (Bm (l₁:=[f])))
 . rcases h3 with⟨k1, -,k3⟩|⟨k1, -,k3⟩
   . rw[k3,decide_eq_true ((h.ids _).1 k1)];rfl
   . rw[k3,decide_eq_false (λe=>k1 ((h.ids _).2 e))];rfl
theorem NetL.retract(h:NetL N R L)(id:Int)(hR:R.length<=1000)(st:St):TrF prog 35 [.ptr N.b 0,.i id] (N.st++st) λd st'=>∃N':NT,NetL N' R (Xh L id)/\N'.b=N.b/\d=.b (decide (id∈L.map Fc.id))/\(N'.st++st).Perm st':=by
 refine(UX N R id h.ok hR st).mono λd st' ⟨N',h1,h2,h3,h4⟩=>⟨N',?_,h2,?_,h4⟩
 . rcases h3 with⟨k1,k2, -⟩|⟨k1,k2, -⟩
   . have e : Xh L id = L := Ls.2 λg hg => by
      have:g.id≠id:=λe=>k1 ((h.ids _).2 (Av.2 ⟨g,hg,e⟩))
      simpa using this
     rw[e]
     exact⟨h1,by rw[k2];exact h.p,h.s⟩
   . exact⟨h1,(h.p.filter _).trans k2.symm,h.s.filter _⟩
 . rcases h3 with⟨k1, -,k3⟩|⟨k1, -,k3⟩
   . rw[k3,decide_eq_false (λe=>k1 ((h.ids _).2 e))]
   . rw[k3,decide_eq_true ((h.ids _).1 k1)]
def NI (R:List Rl)(F:List Fc)(m:Mt):Option (List V):=if 0<=m.rule then(match R[m.rule.toNat]? with|some x=>Mat.envP x F m.ids|none=>none)else none
theorem gb{α β:Type}{l:List (α×β)}(h:(l.map Prod.fst).Nodup){a:α}{b c:β}(h1:(a,b)∈l)(h2:(a,c)∈l):b=c:=by
 induction l with
|nil=>cases h1
|cons p l ih =>
  rw[Au,Bb]at h
  rcases Ax.1 h1 with e1|h1
  . rcases Ax.1 h2 with e2|h2
    . rw[<-e1]at e2;cases e2;rfl
    . exact absurd (Av.2 ⟨(a,c),h2,by rw[<-e1]⟩) h.1
  . rcases Ax.1 h2 with e2|h2
    . exact absurd (Av.2 ⟨(a,b),h1,by rw[<-e2]⟩) h.1
    . exact ih h.2 h1 h2
theorem KT{x:Rl}{F:List Fc}{ids:List Int}{e:List V}(h:Mat.envP x F ids=some e):(ids,e)∈Mat.mats x F:=by
 unfold Mat.envP at h
 obtain⟨y,hy,rfl⟩:=nK.1 h
 have h1:=FE hy
 have h1:=of_decide_eq_true h1
 have:=CI hy
 rw[<-h1];exact this
theorem Tx{x:Rl}{F:List Fc}(hnd:(F.map Fc.id).Nodup){ids:List Int}{e:List V}(h:(ids,e)∈Mat.mats x F):Mat.envP x F ids=some e:=by
 cases hq:Mat.envP x F ids with
|none =>
  unfold Mat.envP at hq
  rw[Qd]at hq
  exact absurd (decide_eq_true rfl) (Dr.1 hq _ h)
|some e2 =>
  rw[gb (by rw[Mat.mats_refs hnd];exact Mat.refs_nodup hnd x) (KT hq) h]
theorem Sc{F G:List Fc}(h:F.Perm G)(hnd:(F.map Fc.id).Nodup)(x:Rl)(ids:List Int):Mat.envP x F ids=Mat.envP x G ids:=by
 have hp:(Mat.mats x F).Perm (Mat.mats x G):=from_perm h _ _ _
 have hnd2:(G.map Fc.id).Nodup:=(h.map Fc.id).nodup_iff.1 hnd
 cases hq:Mat.envP x F ids with
|none =>
  cases hr:Mat.envP x G ids with
  | none=>rfl
  | some e=>rw[Tx hnd (hp.mem_iff.2 (KT hr))]at hq;cases hq
|some e=>exact(Tx hnd2 (hp.mem_iff.1 (KT hq))).symm
theorem fR{x:Rl}{F:List Fc}{y:List Int×List V}(h:y∈Mat.mats x F):y.2.length=8:=Mat.from_env x.pats [] Mat.empty rfl y h
theorem RY{f:Rl->List (List Int)}:∀{R:List Rl} {i:Int} {k:Nat} {x:Rl} {r:List Int},R[k]?=some x->r∈f x->(⟨i+k,r⟩:Mt)∈Mat.flatR f R i
|[],_,_,_,_,h,_=>by cases h
|y::R,i,0,x,r,h,hr=>by
  cases h
  unfold Mat.flatR
  refine Bp _ (Av.2 ⟨r,hr,?_⟩)
  rw[show i+((0:Nat):Int)=i by omega]
|y::R,i,k+1,x,r,h,hr=>by
  unfold Mat.flatR
  refine Bh _ ?_
  have:=RY (i:=i+1) (k:=k) (R:=R) h hr
  rwa[show i+1+(k:Int)=i+((k+1:Nat):Int) by omega]at this
theorem Mat.raws_mem_of{R:List Rl}{F:List Fc}{m:Mt}{x:Rl}{e:List V}(hx:R[m.rule.toNat]?=some x)(hm:0<=m.rule)(h:(m.ids,e)∈Mat.mats x F):m∈Mat.raws R F:=by
 have h1:=RY (f:=λx=>(Mat.mats x F).map Prod.fst) (i:=0) hx (BJ h)
 have e:(⟨0+(m.rule.toNat:Int),m.ids⟩:Mt)=m:=by
  cases m
  rw[show(0:Int)+((Mt.rule ⟨_,_⟩).toNat:Int)=_ from by
   show(0:Int)+_=_
   rw[Ih hm,Int.zero_add]]
 rw[e]at h1
 exact h1
theorem di(h:NetL N R L)(m:Mt):((El N.cs 0).find? λy=>decide (Mat.ord y.1 m=0)).map (λy=>y.2.2)=NI R L m:=by
 cases hq:(El N.cs 0).find? λy=>decide (Mat.ord y.1 m=0)with
|some y =>
  have h0:Mat.ord y.1 m=0:=by have:=FE hq;simpa using this
  have h1:=Mat.ord_eq h0
  obtain⟨k,x,k1,k2,k3⟩:=h.ok.end_ (CI hq)
  unfold NI
  rw[<-h1,k2,if_pos q_o,BR,k1]
  show some y.2.2=Mat.envP x L y.1.ids
  rw[Sc h.p h.nd]
  exact(Tx h.ok.nodup k3).symm
|none =>
  show none=NI R L m
  cases hr:NI R L m with
  | none=>rfl
  | some e =>
   exfalso
   unfold NI at hr
   by_cases hm:0<=m.rule
   . rw[if_pos hm]at hr
     cases hx:R[m.rule.toNat]? with
     | none=>rw[hx]at hr;cases hr
     | some x =>
      rw[hx]at hr
      have hr:Mat.envP x L m.ids=some e:=hr
      rw[Sc h.p h.nd]at hr
      have hmem:=KT hr
      have hin:m∈Mat.raws R N.fs:=Mat.raws_mem_of hx hm hmem
      obtain⟨y,hy,rfl⟩:=Av.1 (h.ok.ends.mem_iff.2 hin)
      have:=Dr.1 hq y hy
      exact this (decide_eq_true (Mat.ord_self _))
   . rw[if_neg hm]at hr;cases hr
theorem NetL.env(h:NetL N R L)(m:Mt)(hR:R.length<=1000)(hp:∀x∈R,x.pats.length<=4)(hm:m.ids.length<=1000000)(st:St):TrF prog 43 [.ptr N.b 0,.agg m.cells] (N.st++st) λd st'=>d=gh (NI R L m)/\st'=N.st++st:=by
 have:=fP N R m h.ok hR (λy hy=>by have:=h.ok.ids_len hp y hy;omega) (λy hy=>by
  obtain⟨k,x, -, -,k3⟩:=h.ok.end_ hy
  have:=fR k3
  have h8:y.2.2.length=8:=this
  exact⟨λe=>(by rw[e]at h8;cases h8),by omega⟩) hm st
 rwa[di h m]at this
end
section
section
variable {P:Program} {N:Nat} {r:Option Nat} {A:AA} {st:St} {Q:Exit->AA->St->Prop}
end
theorem NetL.new{N:NT}{R:List Rl}(h:N.Ok R)(hf:N.fs=[]):NetL N R []:=⟨h,by rw[hf],List.Pairwise.nil⟩
theorem Pe{R:List Rl}{F:List Fc}(hr:R.length<=8)(hp:∀x∈R,x.pats.length<=4)(hf:F.length<=9):(Mat.raws R F).length<=1000000:=by
 have h1:∀(l:List Rl) (i:Int),(∀x∈l,x.pats.length<=4)->(Mat.flatR (λx=>(Mat.mats x F).map Prod.fst) l i).length<=l.length*10000:=by
  intro l
  induction l with
  | nil=>exactλ_ _=>Ao _
  | cons x l ih =>
   intro i hl
   rw[Mat.flatR,Ad,Ab,Ab,An,Cr]
   have a:=ih (i+1) λy hy=>hl y (Ae _ hy)
   have b:(Mat.mats x F).length<=(F.length+1) ^ x.pats.length:=Mat.from_length F x.pats [] Mat.empty
   have c:(F.length+1) ^ x.pats.length<=10 ^ 4:=Cp (Nat.pow_le_pow_left q_o _) (DW (by decide) (hl x (Ag ..)))
   have d:(10:Nat) ^ 4=10000:=by decide
   omega
 have:=h1 R 0 hp
 unfold Mat.raws
 omega
theorem cR{R:List Rl}{F:List Fc}(hp:∀x∈R,x.pats.length<=4):∀m∈Mat.sortM (Mat.raws R F),m.ids.length<=1000000:=λm h=>by
 obtain⟨k,x,e,h1, -, -, -,h2⟩:=Mat.once h
 have:=hp x (Ah h1)
 omega
structure RK9 (R:List Rl):Prop where
 rl:R.length<=8
 rk:∀x∈R,XK x/\1<=x.pats.length/\x.pats.length<=4
theorem RK9.p4{R:List Rl}(h:RK9 R):∀x∈R,x.pats.length<=4:=λx hx=>(h.rk x hx).2.2
theorem RK9.p14{R:List Rl}(h:RK9 R):∀x∈R,1<=x.pats.length/\x.pats.length<=4:=λx hx=>(h.rk x hx).2
theorem RK9.tok{R:List Rl}(h:RK9 R){F:List Fc}(hf:F.length<=9):Jo F R<=1000000000:=by
 have:=XE hf R h.p4
 have:=h.rl
 omega
theorem Mat.May19.rk{R:List Rl}{A:List Ak}(h:Mat.May19 R A):RK9 R:=⟨h.rl,λx hx=>⟨h.xk x hx,h.rn x hx⟩⟩
end
section
attribute [local push_cast] Br Bl BV V.cells_mk V.cells_len Nat.mul_one Int.sub_zero List.map_nil beq_self_eq_true bne_self_eq_false List.head?_cons Bool.not_true Bool.not_false Nat.zero_add
section
set_option maxHeartbeats 16000000
abbrev w0:V:=.mk 0 0 ⟨#[]⟩ []
abbrev wI (n:Int):V:=.mk 2 n ⟨#[]⟩ []
abbrev aR:Rl:=⟨⟨#[114]⟩,0,[⟨0,false,[⟨5,0,0,w0⟩]⟩,⟨0,false,[]⟩],[]⟩
abbrev aF:List Fc:=[⟨1,0,0,0,[wI 5]⟩,⟨2,0,0,0,[wI 6]⟩]
theorem eh(k n:Int)(h:(0<=k/\k<=9)/\0<=n/\n<=9):(V.mk k n ⟨#[]⟩ []).Ok:=.mk q_o q_o (Ao _) (Ao _) (λx h=>by cases h)
end
end
section
attribute [local push_cast] Br Bl BV V.cells_mk V.cells_len Nat.mul_one Int.sub_zero List.map_nil beq_self_eq_true bne_self_eq_false List.head?_cons Bool.not_true Bool.not_false Nat.zero_add
set_option maxHeartbeats 16000000
attribute [-instance] Ds
abbrev nR:Rl:=⟨⟨#[114]⟩,0,[⟨0,false,[⟨5,0,0,w0⟩]⟩,⟨0,true,[⟨9,0,0,w0⟩]⟩],[]⟩
abbrev nF (k:Int):Fc:=⟨k,0,0,0,[wI k]⟩
theorem cE:nR.cells=[.str ⟨#[114]⟩,.i 0,.sl .shared [[.i 0,.b false,.sl .shared [[.i 5,.i 0,.i 0,.i 0,.i 0,.str ⟨#[]⟩,.sl .shared []]]],[.i 0,.b true,.sl .shared [[.i 9,.i 0,.i 0,.i 0,.i 0,.str ⟨#[]⟩,.sl .shared []]]]],.sl .shared []]:=by
 simp only[Rl.cells,Pt.cells,Ac.cells,Au,BH,Ts.cells_mk,Ex.cells_mk]
theorem Pm(k:Int):(nF k).cells=[.i k,.i 0,.i 0,.i 0,.sl .shared [[.i 2,.i k,.str ⟨#[]⟩,.sl .shared []]]]:=by
 simp only[Fc.cells,Au,BH,V.cells_mk]
theorem nR_rk:RK9 [nR]:=⟨by decide,λx hx=>by
 rw[AB.1 hx]
 refine⟨⟨λp hp=>?_,by decide⟩,by decide,by decide⟩
 simp only[Ax,AP,or_false]at hp
 rcases hp with rfl|rfl
 . exact⟨λt ht=>by rw[AB.1 ht];exact(eh 0 0 (by decide)).bg,by decide⟩
 . exact⟨λt ht=>by rw[AB.1 ht];exact(eh 0 0 (by decide)).bg,by decide⟩⟩
theorem cF(k:Int)(h:1<=k/\k<=9):FK (nF k):=⟨λx hx=>by
 rw[AB.1 hx]
 exact⟨eh 2 k q_o,BD rfl⟩,BD rfl⟩
theorem Yz(k:Int)(hk:1<=k/\k<=9)(st:St):TrF prog 62 [.i k] st λd st'=>d=.agg (nF k).cells/\st'=st:=by
 have hI:=fo k
 rw[Pm]
 simp only[V.cells_mk,BH]at hI
 replace hI:=Aa hI
 refine gW 2 43 func62 ntmps62 ?_
 repeat' (first|refine QX ?_|refine QB ?_;intro b|with_reducible refine QZ ?_<;>(try constructor)<;>intro hb<;>try intro hb1|refine Qc call44 ((hI.out _)) ?_|(with_reducible refine Du ?_)|fail)
 all_goals exact VP
theorem a1:QD [] (nF 1)=[nF 1]:=by kernel_rfl
theorem a2:QD [nF 1] (nF 2)=[nF 1,nF 2]:=by kernel_rfl
theorem a3:QD [nF 1,nF 2] (nF 2)=[nF 1,nF 2]:=by kernel_rfl
theorem a4:Xh [nF 1,nF 2] 2=[nF 1]:=by kernel_rfl
theorem m2:(Mat.sortM (Mat.raws [nR] [nF 1,nF 2])).map Mt.cells=[[.i 0,.sl .shared [[.i 2]]]]:=by kernel_rfl
theorem m1:(Mat.sortM (Mat.raws [nR] [nF 1])).map Mt.cells=[[.i 0,.sl .shared [[.i 1]]]]:=by kernel_rfl
theorem t2:Jo [nF 1,nF 2] [nR]=3:=by kernel_rfl
theorem e1:NI [nR] [nF 1] ⟨0,[1]⟩=some [wI 1,w0,w0,w0,w0,w0,w0,w0]:=by kernel_rfl
theorem dJ(st:St):TrF prog 30 [] st λd st'=>d=.b true/\st'=st:=by
 have hR1:[nR].length<=1000:=by decide
 have hNew:Hid (∀(o:Own) (st:St),TrF prog 32 [.sl o [[.str ⟨#[114]⟩,.i 0,.sl .shared [[.i 0,.b false,.sl .shared [[.i 5,.i 0,.i 0,.i 0,.i 0,.str ⟨#[]⟩,.sl .shared []]]],[.i 0,.b true,.sl .shared [[.i 9,.i 0,.i 0,.i 0,.i 0,.str ⟨#[]⟩,.sl .shared []]]]],.sl .shared []]]] st λd st'=>∃N:NT,NetL N [nR] []/\d=.ptr N.b 0/\(N.st++st).Perm st'):=λo st=>by
  have h:=Yb [nR] nR_rk.rk hR1 st
  rw[Au,BH,cE]at h
  exact(TrF.le h (LEL.cons (LE.sl o _) LEL.nil)).mono λd st' ⟨N,h1,h2,h3,h4⟩=>⟨N,.new h1 h2,h3,h4⟩
 have hO1:=Aa (Yz 1 (by decide))
 have hO2:=Aa (Yz 2 (by decide))
 have hA1:Hid (∀(nb:Nat) (N:NT),N.b=nb->NetL N [nR] []->∀st,TrF prog 33 [.ptr nb 0,.agg (nF 1).cells] (N.st++st) λd st'=>∃N':NT,NetL N' [nR] [nF 1]/\N'.b=nb/\d=.b true/\(N'.st++st).Perm st'):=λnb N e h st=>by
  have:=h.assert (nF 1) hR1 (cF 1 (by decide)) (by decide) (by decide) st
  rw[a1,e]at this
  exact this
 have hA2:Hid (∀(nb:Nat) (N:NT),N.b=nb->NetL N [nR] [nF 1]->∀st,TrF prog 33 [.ptr nb 0,.agg (nF 2).cells] (N.st++st) λd st'=>∃N':NT,NetL N' [nR] [nF 1,nF 2]/\N'.b=nb/\d=.b true/\(N'.st++st).Perm st'):=λnb N e h st=>by
  have:=h.assert (nF 2) hR1 (cF 2 (by decide)) (by decide) (by decide) st
  rw[a2,e]at this
  exact this
 have hA3:Hid (∀(nb:Nat) (N:NT),N.b=nb->NetL N [nR] [nF 1,nF 2]->∀st,TrF prog 33 [.ptr nb 0,.agg (nF 2).cells] (N.st++st) λd st'=>∃N':NT,NetL N' [nR] [nF 1,nF 2]/\N'.b=nb/\d=.b false/\(N'.st++st).Perm st'):=λnb N e h st=>by
  have:=h.assert (nF 2) hR1 (cF 2 (by decide)) (by decide) (by decide) st
  rw[a3,e]at this
  exact this
 have hRe:Hid (∀(nb:Nat) (N:NT),N.b=nb->NetL N [nR] [nF 1,nF 2]->∀st,TrF prog 35 [.ptr nb 0,.i 2] (N.st++st) λd st'=>∃N':NT,NetL N' [nR] [nF 1]/\N'.b=nb/\d=.b true/\(N'.st++st).Perm st'):=λnb N e h st=>by
  have:=h.retract 2 hR1 st
  rw[a4,e]at this
  exact this
 have hM2:Hid (∀(nb:Nat) (N:NT),N.b=nb->NetL N [nR] [nF 1,nF 2]->∀st,TrF prog 37 [.ptr nb 0] (N.st++st) λd st'=>d=.sl .shared [[.i 0,.sl .shared [[.i 2]]]]/\st'=N.st++st):=λnb N e h st=>by
  have:=h.matches_ hR1 nR_rk.p4 (Pe nR_rk.rl nR_rk.p4 (by decide)) st
  rw[m2,e]at this
  exact this
 have hM1:Hid (∀(nb:Nat) (N:NT),N.b=nb->NetL N [nR] [nF 1]->∀st,TrF prog 37 [.ptr nb 0] (N.st++st) λd st'=>d=.sl .shared [[.i 0,.sl .shared [[.i 1]]]]/\st'=N.st++st):=λnb N e h st=>by
  have:=h.matches_ hR1 nR_rk.p4 (Pe nR_rk.rl nR_rk.p4 (by decide)) st
  rw[m1,e]at this
  exact this
 have hT:Hid (∀(nb:Nat) (N:NT),N.b=nb->NetL N [nR] [nF 1,nF 2]->∀st,TrF prog 41 [.ptr nb 0] (N.st++st) λd st'=>d=.i 3/\st'=N.st++st):=λnb N e h st=>by
  have:=h.tokens hR1 nR_rk.p14 (nR_rk.tok (by decide)) st
  rw[t2,e]at this
  exact this
 have hE:Hid (∀(nb:Nat) (N:NT),N.b=nb->NetL N [nR] [nF 1]->∀st,TrF prog 43 [.ptr nb 0,.agg [.i 0,.sl .shared [[.i 1]]]] (N.st++st) λd st'=>d=.tup [.sl .shared [[.i 2,.i 1,.str ⟨#[]⟩,.sl .shared []],[.i 0,.i 0,.str ⟨#[]⟩,.sl .shared []],[.i 0,.i 0,.str ⟨#[]⟩,.sl .shared []],[.i 0,.i 0,.str ⟨#[]⟩,.sl .shared []],[.i 0,.i 0,.str ⟨#[]⟩,.sl .shared []],[.i 0,.i 0,.str ⟨#[]⟩,.sl .shared []],[.i 0,.i 0,.str ⟨#[]⟩,.sl .shared []],[.i 0,.i 0,.str ⟨#[]⟩,.sl .shared []]],.b true]/\st'=N.st++st):=λnb N e h st=>by
  have:=h.env ⟨0,[1]⟩ hR1 nR_rk.p4 (by decide) st
  rw[e1,e]at this
  simp only[gh,Au,BH,V.cells_mk,Mt.cells,Bl]at this
  exact this
 have hF:Hid (∀(nb:Nat) (N:NT),N.b=nb->NetL N [nR] [nF 1]->∀st,TrF prog 40 [.ptr nb 0] (N.st++st) λd st'=>d=.sl .shared [[.i 1,.i 0,.i 0,.i 0,.sl .shared [[.i 2,.i 1,.str ⟨#[]⟩,.sl .shared []]]]]/\st'=N.st++st):=λnb N e h st=>by
  have:=h.facts st
  rw[e,Au,BH,Pm]at this
  exact this
 rw[Pm]at hA1 hA2 hA3 hO1 hO2
 refine Qin [0] func30 results30 ntmps30 ?_
 repeat' (first|refine QV ?_|with_reducible refine DR ?_|((with_reducible apply(BG (f:=32) (henter:=call32) (hp:=Ar _) (h:=(hNew.out _ _))));(focus exact q_v);(focus exact q_l);(rintro d0 st0 ⟨N0,hL0,rfl,hp0⟩))|((with_reducible apply(BG (f:=62) (henter:=call62) (hp:=Ar _) (h:=(hO1.out _))));(focus exact q_v);(focus exact q_l);(rintro d0 st0 ⟨rfl,rfl⟩))|((with_reducible apply(BG (f:=62) (henter:=call62) (hp:=Ar _) (h:=(hO2.out _))));(focus exact q_v);(focus exact q_l);(rintro d0 st0 ⟨rfl,rfl⟩))|((with_reducible apply(BG (f:=33) (henter:=call33) (hp:=hp0.symm) (h:=(hA1.out _ _ rfl hL0 _))));(focus exact q_v);(focus exact q_l);(rintro d0 st0 ⟨N1,hL1,hb1,rfl,hp1⟩))|((with_reducible apply(BG (f:=33) (henter:=call33) (hp:=hp1.symm) (h:=(hA2.out _ _ hb1 hL1 _))));(focus exact q_v);(focus exact q_l);(rintro d0 st0 ⟨N2,hL2,hb2,rfl,hp2⟩))|((with_reducible apply(BG (f:=33) (henter:=call33) (hp:=hp2.symm) (h:=(hA3.out _ _ hb2 hL2 _))));(focus exact q_v);(focus exact q_l);(rintro d0 st0 ⟨N3,hL3,hb3,rfl,hp3⟩))|((with_reducible apply(BG (f:=37) (henter:=call37) (hp:=hp3.symm) (h:=(hM2.out _ _ hb3 hL3 _))));(focus exact q_v);(focus exact q_l);(rintro d0 st0 ⟨rfl,rfl⟩))|((with_reducible apply(BG (f:=41) (henter:=call41) (hp:=Ar _) (h:=(hT.out _ _ hb3 hL3 _))));(focus exact q_v);(focus exact q_l);(rintro d0 st0 ⟨rfl,rfl⟩))|((with_reducible apply(BG (f:=35) (henter:=call35) (hp:=Ar _) (h:=(hRe.out _ _ hb3 hL3 _))));(focus exact q_v);(focus exact q_l);(rintro d0 st0 ⟨N4,hL4,hb4,rfl,hp4⟩))|((with_reducible apply(BG (f:=37) (henter:=call37) (hp:=hp4.symm) (h:=(hM1.out _ _ hb4 hL4 _))));(focus exact q_v);(focus exact q_l);(rintro d0 st0 ⟨rfl,rfl⟩))|((with_reducible apply(BG (f:=43) (henter:=call43) (hp:=Ar _) (h:=(hE.out _ _ hb4 hL4 _))));(focus exact q_v);(focus exact q_l);(rintro d0 st0 ⟨rfl,rfl⟩))|((with_reducible apply(BG (f:=40) (henter:=call40) (hp:=Ar _) (h:=(hF.out _ _ hb4 hL4 _))));(focus exact q_v);(focus exact q_l);(rintro d0 st0 ⟨rfl,rfl⟩))|refine QY ?_|(refine QB ?_;intro b)|refine QP ?_;intro o' ho'|(with_reducible refine QZ ?_<;>(try constructor)<;>intro hb<;>try intro hb1)|fail)
 all_goals exact Bf (by simp) q_y ((AK ..).trans (Hw ..)) (LE.of_eq q_v) ⟨rfl,rfl⟩
end
section
attribute [local push_cast] Br Bl BV V.cells_mk V.cells_len Nat.mul_one Int.sub_zero List.map_nil beq_self_eq_true bne_self_eq_false List.head?_cons Bool.not_true Bool.not_false Nat.zero_add
section
set_option maxHeartbeats 16000000
theorem dH(e:List V)(h:∀v∈e,v.Ok)(hl:e.length<=1000000)(o o':Own)(st:St):TrF prog 19 [.sl o (e.map V.cells),.sl o' (e.map V.cells)] st λd st'=>d=.b true/\st'=st:=by
 have:=fq o o' e e h q_o st
 rwa[V.cmpL_self,show((0:Int) == 0)=true from rfl]at this
theorem dt:∀v∈Mat.empty,v.Ok:=fun v hv=>by
 rw[List.eq_of_mem_replicate hv]
 exact eh 0 0 (by decide)
theorem Mat.envR_mem{Q:V->Prop}{F:List Fc}(hF:∀f∈F,∀x∈f.s,Q x):∀(ps:List Pt) (ids:List Int) (env e:List V),Mat.envR F ps ids env=some e->(∀x∈env,Q x)/\env.length=8->(∀x∈e,Q x)/\e.length=8
|[],ids,env,e,h,he=>by
  unfold Mat.envR at h
  split at h
  . cases h;exact he
  . cases h
|p::ps,ids,env,e,h,he=>by
  rw[Mat.envR.eq_def]at h
  dsimp only at h
  split at h
  . split at h
    . exact Mat.envR_mem hF ps ids env e h he
    . cases h
  . split at h
    . cases h
    . split at h
      . cases h
      . rename_i f hf
        split at h
        . cases h
        . rename_i e' hp
          exact Mat.envR_mem hF ps _ e' e h ⟨Mat.pass_mem hp (hF f (Mat.find_mem hf)) he.1,Mat.pass_len hp⟩
end
end
section
attribute [local push_cast] Br Bl BV V.cells_mk V.cells_len Nat.mul_one Int.sub_zero List.map_nil beq_self_eq_true bne_self_eq_false List.head?_cons Bool.not_true Bool.not_false Nat.zero_add
set_option maxHeartbeats 16000000
attribute [-instance] Ds
theorem TrF.det{P:Program}{f:FuncId}{args:List D}{X:D}{S S':St}(hp:S.Perm S')(h:TrF P f args S' λd st'=>d=X/\st'=S'):TrF P f args S λd st'=>d=X/\st'=S :=
 TrF.permPost hp (h.mono λd st' ⟨e1,e2⟩=>⟨_,⟨e1,rfl⟩,by rw[e2];exact hp.symm⟩)
end
end Go.Proofs.YtoeidpmjifjplaaGreat
