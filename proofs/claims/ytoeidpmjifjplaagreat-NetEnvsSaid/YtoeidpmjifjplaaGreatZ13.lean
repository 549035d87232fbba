/- Texts put together. No statement is proved here. -/
import Derived.Test.YtoeidpmjifjplaaGreatZ12
set_option linter.all false
set_option maxRecDepth 10000
set_option maxHeartbeats 8000000
namespace Go.Proofs.YtoeidpmjifjplaaGreat
open Go.RowKit Tryz
section
attribute [local push_cast] Br Bl BV V.cells_mk V.cells_len Nat.mul_one Int.sub_zero List.map_nil beq_self_eq_true bne_self_eq_false List.head?_cons Bool.not_true Bool.not_false Nat.zero_add
attribute [-instance] Ck Cu BO Ds
def nL (ns:List Nd)(d:D)(X:St):Prop:=(ns=[]/\d=.sl .tight []/\X=[])\/∃g cap zs,(CJ ns++zs).length=cap*9/\d=.ar g 0 ns.length cap/\X=[.box g 115 (CJ ns++zs)]
def OV (cs:List NC):List D:=cs.map λS=>D.ptr S.c 0
def ChO (cs:List NC)(d:D)(X:St):Prop:=(cs=[]/\d=.sl .tight []/\X=[])\/∃g cap zs,(OV cs++zs).length=cap*1/\d=.ar g 0 cs.length cap/\X=[.box g 106 (OV cs++zs)]
theorem Uq(ns:List Nd)(x:Nd):CJ (ns++[x])=CJ ns++[x.cells].flatten:=by
 unfold CJ
 rw[Bi,CW]
 rfl
theorem WV(c g cap kb:Nat)(zs:List D)(ps:List Pt)(hrow:(CJ (DT ps)++zs).length=cap*9)(hl:ps.length<=4)(hp:∀p∈ps,PK p)(st:St):TrF prog 63 [.ptr c 0,.ptr kb 0] (.box kb 119 [.s (.pointer none),.i 0,.i 0,.sl .shared (Mat.empty.map V.cells),.s (.map none),.sl .tight [],.sl .tight [],.i 0]::.box c 109 [.ar g 0 (ps.length+1) cap]::.box g 115 (CJ (DT ps)++zs)::st) λd st'=>∃S',ChainOk S' ps []/\S'.c=c/\d=.tup []/\(S'.st++st).Perm st':=by
 have h:=jl 0 (Mc c g cap zs ps kb) (XN kb) [] (ZZ hrow hl hp) aa (Ag ..) rfl rfl rfl st
 rw[cY]at h
 refine(TrF.perm ?_ h).mono λd st' ⟨S',h1,h2,h3,h4,h5⟩=>⟨S',cZ h1 h2 h3.toKept,h3.c,h4,h5⟩
 exact(AD (l₁:=[_,_])).symm
theorem Yg:∀(A:List D) {l l':List D},LEL l l'->LEL (A++l) (A++l')
|[],_,_,h=>h
|a::A,_,_,h=>⟨LE.refl a,Yg A h⟩
theorem TrF.boxIn{P:Program}{f:FuncId}{args:List D}{b:Nat}{ty:TypeId}{cs cs':List D}{s:St}{R:D->St->Prop}(hle:LEL cs cs')(hl:(∀d∈cs,d.leaf=true)->∀d∈cs',d.leaf=true)(h:TrF P f args (.box b ty cs'::s) R):TrF P f args (.box b ty cs::s) R:=by
 intro vs w h1 h2
 obtain⟨q1,q2⟩:=h2.boxLE hle (hl (h2.2 (.box b ty cs) (Ag ..)).2)
 refine(h vs w (by rw[<-q2];exact h1) q1).mono λ_ w' ⟨v,ev,d,s',k1,k2,k3,k4⟩=>?_
 exact⟨v,ev,d,s',k1,k2,by rw[q2];exact k3,k4⟩
theorem ZC{ns:List Nd}(h:∀x∈ns,∃p,x=GP p):∀d∈CJ ns,d.leaf=true:=λd hd=>by
 obtain⟨e,he,hd⟩:=Ht.1 hd
 obtain⟨x,hx,rfl⟩:=Av.1 he
 obtain⟨p,rfl⟩:=h x hx
 have hd:d∈[D.i p.tmpl,.b p.neg,.sl .shared (p.tests.map Ts.cells),.s (.map none),.sl .tight [],.sl .tight [],.s (.map none),.sl .tight [],.sl .tight []]:=hd
 simp only[Ax,AP,or_false]at hd
 rcases hd with rfl|rfl|rfl|rfl|rfl|rfl|rfl|rfl|rfl<;>rfl
theorem Od(ps:List Pt):CJ (DT ps)=CJ (ps.map GP)++[D.i 0,.b false,.sl .shared [],.s (.map none),.sl .tight [],.sl .tight [],.s (.map none),.sl .tight [],.sl .tight []]:=by
 unfold DT
 rw[Uq]
 rfl
theorem VA(c g cap kb:Nat)(zs:List D)(ps:List Pt)(hrow:(CJ (ps.map GP)++[D.i 0,.b false,.sl .tight [],.s (.map none),.sl .tight [],.sl .tight [],.s (.map none),.sl .tight [],.sl .tight []]++zs).length=cap*9)(hl:ps.length<=4)(hp:∀p∈ps,PK p)(st:St):TrF prog 63 [.ptr c 0,.ptr kb 0] (.box g 115 (CJ (ps.map GP)++[D.i 0,.b false,.sl .tight [],.s (.map none),.sl .tight [],.sl .tight [],.s (.map none),.sl .tight [],.sl .tight []]++zs)::.box kb 119 [.s (.pointer none),.i 0,.i 0,.sl .shared (Mat.empty.map V.cells),.s (.map none),.sl .tight [],.sl .tight [],.i 0]::.box c 109 [.ar g 0 (ps.length+1) cap]::st) λd st'=>∃S',ChainOk S' ps []/\S'.c=c/\d=.tup []/\(S'.st++st).Perm st':=by
 have hrow2:(CJ (DT ps)++zs).length=cap*9:=by
  rw[<-hrow,Od]
  simp only[Ad,An,Cd]
 refine TrF.boxIn (cs':=CJ (DT ps)++zs) ?_ ?_ ?_
 . rw[Od,Ai,Ai]
   exact Yg _ ⟨LE.refl _,LE.refl _,LE.sl _ _,LEL.refl _⟩
 . intro hlf d hd
   rcases Bc.1 hd with hd|hd
   . exact ZC (λx hx=>by obtain⟨p, -,h⟩:=KS hx;exact⟨p,h⟩) d hd
   . exact hlf d (Bh _ hd)
 . exact TrF.perm ((List.Perm.swap _ _ _).trans ((List.Perm.swap _ _ _).cons _)) (WV c g cap kb zs ps hrow2 hl hp st)
theorem Yb(R:List Rl)(hR:∀x∈R,XK x/\1<=x.pats.length/\x.pats.length<=4)(hRl:R.length<=1000)(st:St):TrF prog 32 [.sl .shared (R.map Rl.cells)] st λd st'=>∃N:NT,N.Ok R/\N.fs=[]/\d=.ptr N.b 0/\(N.st++st).Perm st':=by
 have hEm:=Aa Rz
 have hRm:(R.map Rl.cells).length=R.length:=Ab ..
 have hRc:=hMp Rl.cells R
 have HR:Hid _:=hR
 clear hR
 generalize R.map Rl.cells=RC at *
 refine Qin [2] func32 results32 ntmps32 ?_
 repeat' (first|with_reducible refine DR ?_|refine QX ?_|refine QB ?_;intro b|with_reducible refine QZ ?_<;>(try constructor)<;>intro hb<;>try intro hb1|fail)
 revert b
 intro nb
 refine Bs (ι:=Nat) (λi A st'=>i<=R.length/\A.df=[]/\A.e 3=.ptr nb 0/\A.e 11=.sl .shared RC/\A.e 12=.i R.length/\A.e 13=.i i/\∃(cs:List NC) (dc:D) (X:St),cs.length=i/\Hid (∀(j:Nat) (x:Rl) (S:NC),R[j]?=some x->cs[j]?=some S->ChainOk S x.pats [])/\ChO cs dc X/\st'.Perm (.box nb 105 [dc,.s (.map none),.sl .tight [],.sl .tight []]::(X++(cs.flatMap NC.st++st)))) (λi=>R.length - i) 0 ⟨Ao _,Qf,Qf,Qf,Qf,Qf,[],_,[],rfl,Aa (λj x S _ h=>by cases h),.inl ⟨rfl,rfl,rfl⟩,.refl _⟩ ?_
 rintro i A st' ⟨hi,hdf,e3,e11,e12,e13,cs,dc,X,hcl,HC,hO,hp⟩
 by_cases hlt:i<R.length
 . obtain⟨x,hx⟩:=gEx hlt
   have hxc:=hRc.out i x hx
   obtain⟨hxk,hx1,hx4⟩:=HR.out x (Ah hx)
   have hPm:(x.pats.map Pt.cells).length=x.pats.length:=Ab ..
   have hPc:Hid (∀(k:Nat) (p:Pt),x.pats[k]?=some p->(x.pats.map Pt.cells)[k]?=some [.i p.tmpl,.b p.neg,.sl .shared (p.tests.map Ts.cells)]):=λk p h=>by rw[Aq,h];rfl
   have hen:Hid (∀(c g cap kb:Nat) (zs:List D),(CJ (x.pats.map GP)++[[D.i 0,D.b false,D.sl .tight [],D.s (.map none),D.sl .tight [],D.sl .tight [],D.s (.map none),D.sl .tight [],D.sl .tight []]].flatten++zs).length=cap*9->∀st:St,TrF prog 63 [.ptr c 0,.ptr kb 0] (.box g 115 (CJ (x.pats.map GP)++[[D.i 0,D.b false,D.sl .tight [],D.s (.map none),D.sl .tight [],D.sl .tight [],D.s (.map none),D.sl .tight [],D.sl .tight []]].flatten++zs)::.box kb 119 [.s (.pointer none),.i 0,.i 0,.sl .shared (Mat.empty.map V.cells),.s (.map none),.sl .tight [],.sl .tight [],.i 0]::.box c 109 [.ar g 0 (x.pats.length+1) cap]::st) λd st'=>∃S',ChainOk S' x.pats []/\S'.c=c/\d=.tup []/\(S'.st++st).Perm st'):=λc g cap kb zs h st=>VA c g cap kb zs x.pats h hx4 hxk.p st
   rw[show x.cells=[.str x.name,.i x.sal,.sl .shared (x.pats.map Pt.cells),.sl .shared (x.acts.map Ac.cells)]from rfl]at hxc
   obtain⟨WW,hWW⟩:∃WW,WW=X++(cs.flatMap NC.st++st):=⟨_,rfl⟩
   rw[<-hWW]at hp
   refine Bn hp ?_
   clear hp hRc HR hxk
   generalize x.pats.map Pt.cells=PS at *
   generalize x.acts.map Ac.cells=AS at *
   generalize x.name=nm at *
   generalize x.sal=sal at *
   repeat' (first|with_reducible refine DR ?_|refine QX ?_|refine QB ?_;intro b|with_reducible refine QZ ?_<;>(try constructor)<;>intro hb<;>try intro hb1|fail)
   rename_i xb
   revert b
   intro cb
   have ht1:Hid (∀(k:Nat) (p:Pt),x.pats[k]?=some p->(x.pats.take (k+1)).map GP=(x.pats.take k).map GP++[GP p]):=λk p h=>by rw[Bk,h,Bw,Bi];rfl
   have htl:Hid (∀k,k<=x.pats.length->((x.pats.take k).map GP).length=k):=λk h=>by
    show _=_
    rw[Ab,AQ];omega
   refine Bs (ι:=Nat) (λk A2 st2=>k<=x.pats.length/\A2.df=[]/\A2.e 3=.ptr nb 0/\A2.e 6=.ptr cb 0/\A2.e 11=.sl .shared RC/\A2.e 12=.i R.length/\A2.e 13=.i i/\A2.e 20=.sl .shared PS/\A2.e 21=.i x.pats.length/\A2.e 22=.i k/\∃(dn:D) (Y:St),nL ((x.pats.take k).map GP) dn Y/\st2.Perm (.box cb 109 [dn]::(Y++(.box nb 105 [dc,.s (.map none),.sl .tight [],.sl .tight []]::(.box xb 34 [.str nm,.i sal,.sl .shared PS,.sl .shared AS]::WW))))) (λk=>x.pats.length - k) 0 ⟨Ao _,Qf,Qf,Qf,Qf,Qf,Qf,Qf,Qf,Qf,_,[],.inl ⟨rfl,rfl,rfl⟩,(List.Perm.swap _ _ _).cons _⟩ ?_
   clear hdf e3 e11 e12 e13
   rintro k A2 st2 ⟨hk,hdf,e3,e6,e11,e12,e13,e20,e21,e22,dn,Y,hN,hp⟩
   by_cases hkl:k<x.pats.length
   . obtain⟨p,hpk⟩:=gEx hkl
     have hpc:=hPc.out k p hpk
     have hs:=ht1.out k p hpk
     have hl:=htl.out k q_o
     have hnc:(GP p).cells=[.i p.tmpl,.b p.neg,.sl .shared (p.tests.map Ts.cells),.s (.map none),.sl .tight [],.sl .tight [],.s (.map none),.sl .tight [],.sl .tight []]:=rfl
     clear hPc ht1 htl hen hpk hWW HC hO hxc hx
     generalize p.tests.map Ts.cells=TS at *
     generalize (x.pats.take k).map GP=ns at *
     refine Bn hp ?_
     clear hp
     rcases hN with⟨hnil,rfl,rfl⟩|⟨g,cap,zs,hz,rfl,rfl⟩
     . subst hnil
       rw[AM]
       repeat' (first|refine QV ?_|((with_reducible apply(GE (id:=9) [(b,[.i p.tmpl,.b p.neg,.sl .shared TS]),(cb,[.sl .tight []])] [1,2,3,4,5,6,7] 8 [0,9,10,11]));(iterate 3 (focus kernel_rfl));(iterate 2 (focus(simp only[Gy,AI,AM,BB,Bq];exact rfl)));(focus exact q_k);intro hne;(try simp only[nes,ne1,and_assoc]at hne);repeat(have hq:=hne.1;replace hne:=hne.2))|((with_reducible refine Exists.intro [] ?_);(with_reducible refine And.intro ?_ ?_);(focus exact q_k))|((with_reducible refine And.intro ?_ ?_);(focus exact q_k))|with_reducible refine Hz ?_|with_reducible refine Kj ?_|((with_reducible apply HH);(focus exact q_n);(focus exact CP rfl);(focus exact q_n);(focus exact q_n);intro g' cap' zs' hc hl')|refine QY ?_|refine QB ?_;intro b|with_reducible refine QZ ?_<;>(try constructor)<;>intro hb<;>try intro hb1|fail)
       refine⟨k+1,.box g' 115 ([[D.i p.tmpl,D.b p.neg,D.sl .shared TS,D.s (.map none),D.sl .tight [],D.sl .tight [],D.s (.map none),D.sl .tight [],D.sl .tight []]].flatten++zs')::.box cb 109 [.ar g' 0 1 cap']::.box nb 105 [dc,.s (.map none),.sl .tight [],.sl .tight []]::.box xb 34 [.str nm,.i sal,.sl .shared PS,.sl .shared AS]::WW,((Aj _).cons _).cons_cons _,⟨hkl,?_,?_,?_,?_,?_,?_,?_,?_,?_,.ar g' 0 1 cap',[.box g' 115 ([[D.i p.tmpl,D.b p.neg,D.sl .shared TS,D.s (.map none),D.sl .tight [],D.sl .tight [],D.s (.map none),D.sl .tight [],D.sl .tight []]].flatten++zs')],.inr ⟨g',cap',zs',?_,?_,?_⟩,List.Perm.swap _ _ _⟩,by omega⟩
       . exact Qf
       . exact Qf
       . exact Qf
       . exact Qf
       . exact Qf
       . exact Qf
       . exact Qf
       . exact Qf
       . exact Qf
       . rw[hs,AM,show CJ [GP p]=[(GP p).cells].flatten from rfl,hnc];exact hl'
       . rw[hs];rfl
       . rw[hs,AM,show CJ [GP p]=[(GP p).cells].flatten from rfl,hnc]
     . have hrl:(CJ ns).length=ns.length*9:=DP _
       have hra:=Uq ns (GP p)
       rw[hnc]at hra
       rw[show∀(a:Res) (c:St),[a]++c=a::c fromλ_ _=>rfl]
       generalize hRN:CJ ns=RW at *
       rw[hl]at hrl |-
       repeat' (first|refine QV ?_|((with_reducible apply(GE (id:=9) [(b,[.i p.tmpl,.b p.neg,.sl .shared TS]),(cb,[.ar g 0 k cap])] [1,2,3,4,5,6,7] 8 [0,9,10,11]));(iterate 3 (focus kernel_rfl));(iterate 2 (focus(simp only[Gy,AI,AM,BB,Bq];exact rfl)));(focus exact q_k);intro hne;(try simp only[nes,ne1,and_assoc]at hne);repeat(have hq:=hne.1;replace hne:=hne.2))|((with_reducible refine Exists.intro [] ?_);(with_reducible refine And.intro ?_ ?_);(focus exact q_k))|((with_reducible refine And.intro ?_ ?_);(focus exact q_k))|with_reducible refine Hy ?_|with_reducible refine Kl ?_|((with_reducible apply(Ii hrl hz));(focus(intro g' cs';repeat(first|exact Hn|apply Hm)));(focus exact CP rfl);(iterate 2 (focus exact q_n));intro g1 c1 z1 hc1 hl1)|refine QY ?_|refine QB ?_;intro b|with_reducible refine QZ ?_<;>(try constructor)<;>intro hb<;>try intro hb1|fail)
       refine⟨k+1,.box cb 109 [.ar g1 0 (k+1) c1]::.box g1 115 (RW++[[D.i p.tmpl,D.b p.neg,D.sl .shared TS,D.s (.map none),D.sl .tight [],D.sl .tight [],D.s (.map none),D.sl .tight [],D.sl .tight []]].flatten++z1)::.box nb 105 [dc,.s (.map none),.sl .tight [],.sl .tight []]::.box xb 34 [.str nm,.i sal,.sl .shared PS,.sl .shared AS]::WW,AK ..,⟨hkl,?_,?_,?_,?_,?_,?_,?_,?_,?_,.ar g1 0 (k+1) c1,[.box g1 115 (RW++[[D.i p.tmpl,D.b p.neg,D.sl .shared TS,D.s (.map none),D.sl .tight [],D.sl .tight [],D.s (.map none),D.sl .tight [],D.sl .tight []]].flatten++z1)],.inr ⟨g1,c1,z1,?_,?_,?_⟩,.refl _⟩,by omega⟩
       . exact Qf
       . exact Qf
       . exact Qf
       . exact Qf
       . exact Qf
       . exact Qf
       . exact Qf
       . exact Qf
       . exact Qf
       . rw[hs,hra];exact hl1
       . rw[hs,Ad,hl];rfl
       . rw[hs,hra]
   . have hkx:k=x.pats.length:=by omega
     subst hkx
     rw[Cb]at hN
     rcases hN with⟨hnil, -, -⟩|⟨g,cap,zs,hz,rfl,rfl⟩
     . exfalso
       have:=congrArg List.length hnil
       rw[Ab]at this
       simp only[Cd]at this
       omega
     have hrl:(CJ (x.pats.map GP)).length=x.pats.length*9:=by rw[DP,Ab]
     have hx0:Hid (R[i]?=some x):=hx
     refine Bn hp ?_
     have hnl:(x.pats.map GP).length=x.pats.length:=Ab ..
     rw[hnl,show∀(a:Res) (c:St),[a]++c=a::c fromλ_ _=>rfl]
     clear hp ht1 htl hPc hxc hk hkl hnl hx
     obtain⟨RW,hRW⟩:∃RW,RW=CJ (x.pats.map GP):=⟨_,rfl⟩
     rw[<-hRW]at hz hrl hen |-
     clear hRW
     obtain⟨EC,hEC⟩:∃EC,EC=Mat.empty.map V.cells:=⟨_,rfl⟩
     rw[<-hEC]at hen hEm
     clear hEC
     have hEm2:=hEm
     repeat' (first|refine QV ?_|(refine Lb 12 (λA3 st3=>A3.df=[]/\A3.e 3=.ptr nb 0/\A3.e 6=.ptr cb 0/\A3.e 11=.sl .shared RC/\A3.e 12=.i R.length/\A3.e 13=.i i/\∃S2:NC,Hid (ChainOk S2 x.pats [])/\S2.c=cb/\st3.Perm (.box nb 105 [dc,.s (.map none),.sl .tight [],.sl .tight []]::(S2.st++(.box xb 34 [.str nm,.i sal,.sl .shared PS,.sl .shared AS]::WW)))) ?_ ?_)|with_reducible refine DR ?_|with_reducible refine Hy ?_|with_reducible refine Kl ?_|((with_reducible apply(Ii hrl hz));(focus(intro g' cs';repeat(first|exact Hn|apply Hm)));(focus exact CP rfl);(iterate 2 (focus exact q_n));intro g1 c1 z1 hc1 hl1)|((with_reducible apply(BG (f:=20) (henter:=call20) (hp:=Ar _) (h:=(hEm2.out _))));(focus exact q_v);(focus exact q_l);(rintro d0 st0 ⟨rfl,rfl⟩))|((with_reducible apply(BG (f:=63) (henter:=call63) (hp:=(CV (CV DA))) (h:=(hen.out _ _ _ _ _ hl1 _))));(focus exact q_v);(focus exact q_l);(rintro d0 st0 ⟨S2,hok2,hSc2,rfl,hp4⟩))|refine QY ?_|refine QB ?_;intro b|with_reducible refine QZ ?_<;>(try constructor)<;>intro hb<;>try intro hb1|fail)
     . exact⟨Qf,Qf,Qf,Qf,Qf,Qf,S2,Aa hok2,hSc2,hp4.symm.trans AD⟩
     clear hEm2 hen hz hrl hdf e3 e6 e11 e12 e13 e20 e21 e22
     rintro A3 st3 ⟨hdf,e3,e6,e11,e12,e13,S2,hok2,hSc2,hp⟩
     have HCn:=Aa (λ(j:Nat) (y:Rl) (T:NC) (h1:R[j]?=some y) (h2:(cs++[S2])[j]?=some T)=>show ChainOk T y.pats []from by
      by_cases e:j<cs.length
      . rw[Ba e]at h2
        exact HC.out j y T h1 h2
      . have hj : j = i := by
         have:=(Af.1 h2).1
         rw[Ad,BE]at this
         omega
        subst hj
        rw[BP q_o,hcl,Gu]at h2
        cases h2
        rw[hx0.out]at h1
        cases h1
        exact hok2.out)
     have hcn:(cs++[S2]).length=i+1:=by rw[Ad,hcl];rfl
     have hrkn:OV (cs++[S2])=OV cs++[[D.ptr cb 0]].flatten:=by unfold OV;rw[Bi,<-hSc2];rfl
     have hfm:(cs++[S2]).flatMap NC.st=cs.flatMap NC.st++S2.st:=by rw[Lr,Ca,List.flatMap_nil,AY]
     clear hok2 HC hx0
     rcases hO with⟨rfl,rfl,rfl⟩|⟨gc,capc,zsc,hzc,rfl,rfl⟩
     . have hWW2:WW=st:=hWW
       subst hWW2
       clear hWW
       refine Bn hp ?_
       clear hp
       generalize S2.st=SS at *
       repeat' (first|refine QV ?_|with_reducible refine Hz ?_|with_reducible refine Kj ?_|((with_reducible apply HH);(focus exact q_n);(focus exact CP rfl);(focus exact q_n);(focus exact q_n);intro g2 c2 z2 hc2 hl2)|refine QY ?_|refine QB ?_;intro b|with_reducible refine QZ ?_<;>(try constructor)<;>intro hb<;>try intro hb1|fail)
       refine⟨i+1,.box g2 106 ([[D.ptr cb 0]].flatten++z2)::.box nb 105 [.ar g2 0 1 c2,.s (.map none),.sl .tight [],.sl .tight []]::(SS++WW),(((AK ..).append_left SS).cons_cons _).cons_cons _,⟨hlt,?_,?_,?_,?_,?_,[]++[S2],.ar g2 0 1 c2,[.box g2 106 ([[D.ptr cb 0]].flatten++z2)],hcn,Aa HCn,.inr ⟨g2,c2,z2,?_,?_,?_⟩,?_⟩,by omega⟩
       . exact Qf
       . exact Qf
       . exact Qf
       . exact Qf
       . exact Qf
       . rw[hrkn];exact hl2
       . rfl
       . rw[hrkn];rfl
       . rw[hfm];exact List.Perm.swap _ _ _
     . have hrlc:(OV cs).length=cs.length*1:=by unfold OV;rw[Ab,CG]
       obtain⟨W2,hW2⟩:∃W2,W2=cs.flatMap NC.st++st:=⟨_,rfl⟩
       have hWW2:WW=.box gc 106 (OV cs++zsc)::W2:=by rw[hWW,hW2];rfl
       subst hWW2
       refine Bn (hp.trans ((((List.Perm.swap _ _ _).append_left _).trans AD).cons _)) ?_
       clear hp hWW
       rw[hcl]at hrlc |-
       generalize hSS:S2.st=SS at *
       obtain⟨RK,hRK⟩:∃RK,RK=OV cs:=⟨_,rfl⟩
       rw[<-hRK]at hrlc hzc hrkn |-
       repeat' (first|refine QV ?_|with_reducible refine Hy ?_|with_reducible refine Kl ?_|((with_reducible apply(Ii hrlc hzc));(focus(intro g' cs';repeat(first|exact Hn|apply Hm)));(focus exact CP rfl);(iterate 2 (focus exact q_n));intro g2 c2 z2 hc2 hl2)|refine QY ?_|refine QB ?_;intro b|with_reducible refine QZ ?_<;>(try constructor)<;>intro hb<;>try intro hb1|fail)
       refine⟨i+1,.box nb 105 [.ar g2 0 (i+1) c2,.s (.map none),.sl .tight [],.sl .tight []]::.box g2 106 (RK++[[D.ptr cb 0]].flatten++z2)::(SS++W2),(((AK ..).append_left SS).cons_cons _).cons_cons _,⟨hlt,?_,?_,?_,?_,?_,cs++[S2],.ar g2 0 (i+1) c2,[.box g2 106 (RK++[[D.ptr cb 0]].flatten++z2)],hcn,Aa HCn,.inr ⟨g2,c2,z2,?_,?_,?_⟩,?_⟩,by omega⟩
       . exact Qf
       . exact Qf
       . exact Qf
       . exact Qf
       . exact Qf
       . rw[hrkn];exact hl2
       . rw[hcn]
       . rw[hrkn]
       . rw[hfm,hW2]
         refine(List.Perm.cons _ ?_).cons _
         rw[<-Ai]
         exact Bm.append_right _
 . have hil:i=R.length:=by omega
   subst hil
   have hfin:Hid (∃N:NT,N.Ok R/\N.fs=[]/\D.ptr nb 0=.ptr N.b 0/\(N.st++st).Perm (.box nb 105 [.sl .shared (cs.map λS=>[D.ptr S.c 0]),.s (.map none),.sl .tight [],.sl .tight []]::(cs.flatMap NC.st++st))):=⟨⟨nb,cs,.no,[]⟩,⟨⟨rfl,rfl⟩,Ya,Ao _,(λf h=>by cases h),hcl,λj x S h1 h2=>HC.out j x S h1 h2⟩,rfl,rfl,.refl _⟩
   have hfl:(cs.map λS=>[D.ptr S.c 0]).flatten=OV cs:=by
    unfold OV
    clear hcl HC hO hp hfin
    induction cs with
    | nil=>rfl
    | cons S l ih=>rw[Au,AL,ih];rfl
   have hlf:∀d∈[D.sl .shared (cs.map λS=>[D.ptr S.c 0]),D.s (.map none),D.sl .tight [],D.sl .tight []],d.leaf=true:=λd hd=>by
    simp only[Ax,AP,or_false]at hd
    rcases hd with rfl|rfl|rfl|rfl<;>rfl
   rcases hO with⟨rfl,rfl,rfl⟩|⟨gc,capc,zsc,hzc,rfl,rfl⟩
   . refine Ua hp (cs':=[.sl .shared [],.s (.map none),.sl .tight [],.sl .tight []]) ⟨LE.sl _ _,LEL.refl _⟩ hlf ?_
     clear hp HC hRc HR
     repeat' (first|refine QX ?_|refine QB ?_;intro b|with_reducible refine QZ ?_<;>(try constructor)<;>intro hb<;>try intro hb1|fail)
     exact Bf (by simp) q_y (Aj _) (LE.of_eq q_v) hfin.out
   . refine ey (sz := 1) (es := cs.map λS => [D.ptr S.c 0]) (cs' := [.sl .shared (cs.map λS => [D.ptr S.c 0]), .s (.map none), .sl .tight [], .sl .tight []]) (hp.trans (by rw [hfl]; exact List.Perm.swap _ _ _)) (by decide) (λe he => by
      obtain⟨S, -,rfl⟩:=Av.1 he
      rfl) (Ab ..) (.cons _ _ _ _ .ar (.cons _ _ _ _ (.same _) (.cons _ _ _ _ (.same _) (.cons _ _ _ _ (.same _) .nil)))) hlf ?_
     clear hp HC hRc HR hfl hlf hzc
     generalize (cs.map λS=>[D.ptr S.c 0])=RWS at *
     repeat' (first|refine QX ?_|refine QB ?_;intro b|with_reducible refine QZ ?_<;>(try constructor)<;>intro hb<;>try intro hb1|fail)
     exact Bf (by simp) q_y (Aj _) (LE.of_eq q_v) hfin.out
end
section
attribute [local push_cast] Br Bl BV V.cells_mk V.cells_len Nat.mul_one Int.sub_zero List.map_nil beq_self_eq_true bne_self_eq_false List.head?_cons
open Go.RowKit B
set_option maxHeartbeats 16000000
theorem UA(R:List Rl)(hw:∀x∈R,x.Wf)(hl:R.length<=maxLen)(st:St):TrF prog 46 [.sl .shared (R.map Rl.cells)] st λd st'=>d=.b (Rul.great R)/\st'=st:=by
 unfold maxLen at hl
 have hm:(R.map Rl.cells).length=R.length:=Ab ..
 have hc:=hMp Rl.cells R
 replace hw:=Aa hw
 unfold Rul.great
 generalize R.map Rl.cells=LS at *
 by_cases h12:12<R.length
 . rw[decide_eq_true h12,BQ]
   refine Qin [2] func46 results46 ntmps46 ?_
   exact WR
 rw[decide_eq_false h12,Bu]
 obtain⟨F,hF⟩:∃F,R.any Rul.gR=F:=⟨_,rfl⟩
 rw[hF]
 have HF:Hid ((R.drop 0).any Rul.gR=F):=hF
 clear hF
 refine Qin [2] func46 results46 ntmps46 ?_
 repeat' (first|refine QX ?_|refine QB ?_;intro b|with_reducible refine QZ ?_<;>(try constructor)<;>intro hb<;>try intro hb1|fail)
 refine Bs (ι:=Nat) (λi A st'=>i<=R.length/\Hid ((R.drop i).any Rul.gR=F)/\A.df=[]/\A.e 0=.sl .shared LS/\A.e 3=.i i/\st=st') (λi=>R.length - i) 0 ⟨Ao _,HF,Qf,Qf,Qf,rfl⟩ ?_
 rintro i A st' ⟨hi,HT,hdf,e0,e3,rfl⟩
 clear HF
 by_cases hlt:¬i<R.length
 . have HE:=HT.out
   rw[Az q_o]at HE
   subst HE
   clear HT
   exact WR
 rw[Classical.not_not]at hlt
 obtain⟨x,hx⟩:=gEx hlt
 have h1:=hc.out i x hx
 have HE:=HT.out
 rw[GM hx]at HE
 have hxw:=hw.out x (Ah hx)
 clear HT hx
 obtain⟨G,hGG⟩:∃G,(R.drop (i+1)).any Rul.gR=G:=⟨_,rfl⟩
 rw[hGG]at HE
 replace hGG:=Aa hGG
 cases x with
|mk nm sal ps ac =>
 unfold Rl.cells at h1
 unfold Rul.gR at HE
 obtain⟨-,hps,hpl,hac,hal⟩:=hxw
 dsimp only at h1 HE hps hpl hac hal
 replace hps:=Aa hps
 replace hac:=Aa hac
 unfold maxLen at hpl hal
 have hmp:(ps.map Pt.cells).length=ps.length:=Ab ..
 have hcp:=hMp Pt.cells ps
 have hma:(ac.map Ac.cells).length=ac.length:=Ab ..
 have hca:=hMp Ac.cells ac
 generalize ps.map Pt.cells=PS at *
 generalize ac.map Ac.cells=AS at *
 by_cases hz:300<nm.size
 . rw[decide_eq_true hz]at HE
   simp only[BQ,Dk]at HE
   subst HE
   exact WR
 rw[decide_eq_false hz,Bu]at HE
 by_cases hy:8<ps.length
 . rw[decide_eq_true hy]at HE
   simp only[BQ,Dk]at HE
   subst HE
   exact WR
 rw[decide_eq_false hy,Bu]at HE
 by_cases hv:8<ac.length
 . rw[decide_eq_true hv]at HE
   simp only[BQ,Dk]at HE
   subst HE
   exact WR
 rw[decide_eq_false hv,Bu]at HE
 rw[Ks]at HE
 replace HE:=Aa HE
 repeat' (first|refine QX ?_|refine QB ?_;intro b|with_reducible refine QZ ?_<;>(try constructor)<;>intro hb<;>try intro hb1|fail)
 refine Bs (ι:=Nat) (λj A st'=>j<=ps.length/\Hid (((ps.drop j).any Rul.gP || (ac.any Rul.gA || G))=F)/\A.df=[]/\A.e 0=.sl .shared LS/\A.e 3=.i i/\A.e 5=.i j/\(∃b:Nat,A.e 4=.ptr b 0/\st'=.box b 34 [.str nm,.i sal,.sl .shared PS,.sl .shared AS]::st)) (λj=>ps.length - j) 0 ⟨Ao _,HE,Qf,Qf,Qf,Qf,_,Qf,rfl⟩ ?_
 clear hdf e0 e3
 rintro j A st' ⟨hj,HT,hdf,e0,e3,e5,b,e4,rfl⟩
 clear HE
 by_cases hlj:j<ps.length
 . obtain⟨p,hp⟩:=gEx hlj
   have k1:=hcp.out j p hp
   have HE:=HT.out
   rw[GM hp,Ks]at HE
   have hpw:=hps.out p (Ah hp)
   clear HT hp
   obtain⟨G2,hG2⟩:∃G2,((ps.drop (j+1)).any Rul.gP || (ac.any Rul.gA || G))=G2:=⟨_,rfl⟩
   rw[hG2]at HE
   replace hG2:=Aa hG2
   cases p with
   | mk tm ng ts =>
   unfold Pt.cells at k1
   unfold Rul.gP at HE
   obtain⟨hts,htl⟩:=hpw
   dsimp only at k1 HE hts htl
   replace hts:=Aa hts
   unfold maxLen at htl
   have hmt:(ts.map Ts.cells).length=ts.length:=Ab ..
   have hct:=hMp Ts.cells ts
   generalize ts.map Ts.cells=TL at *
   by_cases hz:10<ts.length
   . rw[decide_eq_true hz]at HE
     simp only[BQ,Dk]at HE
     subst HE
     exact WR
   rw[decide_eq_false hz,Bu]at HE
   have HU:Hid (((ts.drop 0).any Rul.gT || G2)=F):=HE
   clear HE
   repeat' (first|refine QX ?_|refine QB ?_;intro b|with_reducible refine QZ ?_<;>(try constructor)<;>intro hb<;>try intro hb1|fail)
   refine Bs (ι:=Nat) (λk A st'=>k<=ts.length/\Hid (((ts.drop k).any Rul.gT || G2)=F)/\A.df=[]/\A.e 0=.sl .shared LS/\A.e 3=.i i/\A.e 5=.i j/\A.e 6=.i k/\(∃b:Nat,A.e 4=.ptr b 0/\st'=.box b 34 [.str nm,.i sal,.sl .shared PS,.sl .shared AS]::st)) (λk=>ts.length - k) 0 ⟨Ao _,HU,Qf,Qf,Qf,Qf,Qf,_,Qf,rfl⟩ ?_
   clear hdf e0 e3 e4 e5
   rintro k A st' ⟨hk,HT,hdf,e0,e3,e5,e6,b,e4,rfl⟩
   clear HU
   by_cases hlk:k<ts.length
   . obtain⟨t,ht⟩:=gEx hlk
     have k2:=hct.out k t ht
     have HE:=HT.out
     rw[GM ht,Ks]at HE
     have hG:=JC t.val (hts.out t (Ah ht))
     clear HT ht
     unfold Rul.gT at HE
     cases t with
     | mk kd sl vr v =>
     dsimp only at HE hG
     generalize V.great v=g at *
     cases v with
     | mk vk vn vs vl =>
     rw[Ts.cells_mk]at k2
     rw[V.cells_mk]at hG
     replace hG:=Aa hG
     cases g with
     | true =>
      rw[BQ]at HE
      subst HE
      exact WR
     | false =>
      rw[Bu]at HE
      replace HE:=Aa HE
      repeat' (first|refine QX ?_|refine QB ?_;intro b|with_reducible refine QZ ?_<;>(try constructor)<;>intro hb<;>try intro hb1|fail)
      refine⟨k+1,.box b 34 [.str nm,.i sal,.sl .shared PS,.sl .shared AS]::st,q_u,⟨hlk,HE,?_,?_,?_,?_,?_,b,?_,rfl⟩,by omega⟩
      all_goals exact Qf
   . have HE:=HT.out
     rw[Az q_o,Gv,Bu]at HE
     replace HE:=Aa (hG2.out.trans HE)
     clear HT hG2
     repeat' (first|refine QX ?_|refine QB ?_;intro b|with_reducible refine QZ ?_<;>(try constructor)<;>intro hb<;>try intro hb1|fail)
     refine⟨j+1,.box b 34 [.str nm,.i sal,.sl .shared PS,.sl .shared AS]::st,q_u,⟨hlj,HE,?_,?_,?_,?_,b,?_,rfl⟩,by omega⟩
     all_goals exact Qf
 have HE:=HT.out
 rw[Az q_o,Gv,Bu]at HE
 replace HE:=Aa HE
 clear HT
 repeat' (first|refine QX ?_|refine QB ?_;intro b|with_reducible refine QZ ?_<;>(try constructor)<;>intro hb<;>try intro hb1|fail)
 refine Bs (ι:=Nat) (λj A st'=>j<=ac.length/\Hid (((ac.drop j).any Rul.gA || G)=F)/\A.df=[]/\A.e 0=.sl .shared LS/\A.e 3=.i i/\A.e 7=.i j/\(∃b:Nat,A.e 4=.ptr b 0/\st'=.box b 34 [.str nm,.i sal,.sl .shared PS,.sl .shared AS]::st)) (λj=>ac.length - j) 0 ⟨Ao _,HE,Qf,Qf,Qf,Qf,_,Qf,rfl⟩ ?_
 clear hdf e0 e3 e4 e5
 rintro j A st' ⟨hj,HT,hdf,e0,e3,e5,b,e4,rfl⟩
 clear HE
 by_cases hlj:j<ac.length
 . obtain⟨p,hp⟩:=gEx hlj
   have k1:=hca.out j p hp
   have HE:=HT.out
   rw[GM hp,Ks]at HE
   have hpw:=hac.out p (Ah hp)
   clear HT hp
   obtain⟨G2,hG2⟩:∃G2,((ac.drop (j+1)).any Rul.gA || G)=G2:=⟨_,rfl⟩
   rw[hG2]at HE
   replace hG2:=Aa hG2
   cases p with
   | mk kd pt tm sl ts =>
   unfold Ac.cells at k1
   unfold Rul.gA at HE
   obtain⟨hts,htl⟩:=hpw
   dsimp only at k1 HE hts htl
   replace hts:=Aa hts
   unfold maxLen at htl
   have hmt:(ts.map Ex.cells).length=ts.length:=Ab ..
   have hct:=hMp Ex.cells ts
   generalize ts.map Ex.cells=TL at *
   by_cases hz:20<ts.length
   . rw[decide_eq_true hz]at HE
     simp only[BQ,Dk]at HE
     subst HE
     exact WR
   rw[decide_eq_false hz,Bu]at HE
   have HU:Hid (((ts.drop 0).any Rul.gE || G2)=F):=HE
   clear HE
   repeat' (first|refine QX ?_|refine QB ?_;intro b|with_reducible refine QZ ?_<;>(try constructor)<;>intro hb<;>try intro hb1|fail)
   refine Bs (ι:=Nat) (λk A st'=>k<=ts.length/\Hid (((ts.drop k).any Rul.gE || G2)=F)/\A.df=[]/\A.e 0=.sl .shared LS/\A.e 3=.i i/\A.e 7=.i j/\A.e 8=.i k/\(∃b:Nat,A.e 4=.ptr b 0/\st'=.box b 34 [.str nm,.i sal,.sl .shared PS,.sl .shared AS]::st)) (λk=>ts.length - k) 0 ⟨Ao _,HU,Qf,Qf,Qf,Qf,Qf,_,Qf,rfl⟩ ?_
   clear hdf e0 e3 e4 e5
   rintro k A st' ⟨hk,HT,hdf,e0,e3,e5,e6,b,e4,rfl⟩
   clear HU
   by_cases hlk:k<ts.length
   . obtain⟨t,ht⟩:=gEx hlk
     have k2:=hct.out k t ht
     have HE:=HT.out
     rw[GM ht,Ks]at HE
     have hG:=JC t.val (hts.out t (Ah ht))
     clear HT ht
     unfold Rul.gE at HE
     cases t with
     | mk iv vr v =>
     dsimp only at HE hG
     generalize V.great v=g at *
     cases v with
     | mk vk vn vs vl =>
     rw[Ex.cells_mk]at k2
     rw[V.cells_mk]at hG
     replace hG:=Aa hG
     cases g with
     | true =>
      rw[BQ]at HE
      subst HE
      exact WR
     | false =>
      rw[Bu]at HE
      replace HE:=Aa HE
      repeat' (first|refine QX ?_|refine QB ?_;intro b|with_reducible refine QZ ?_<;>(try constructor)<;>intro hb<;>try intro hb1|fail)
      refine⟨k+1,.box b 34 [.str nm,.i sal,.sl .shared PS,.sl .shared AS]::st,q_u,⟨hlk,HE,?_,?_,?_,?_,?_,b,?_,rfl⟩,by omega⟩
      all_goals exact Qf
   . have HE:=HT.out
     rw[Az q_o,Gv,Bu]at HE
     replace HE:=Aa (hG2.out.trans HE)
     clear HT hG2
     repeat' (first|refine QX ?_|refine QB ?_;intro b|with_reducible refine QZ ?_<;>(try constructor)<;>intro hb<;>try intro hb1|fail)
     refine⟨j+1,.box b 34 [.str nm,.i sal,.sl .shared PS,.sl .shared AS]::st,q_u,⟨hlj,HE,?_,?_,?_,?_,b,?_,rfl⟩,by omega⟩
     all_goals exact Qf
 have HE:=HT.out
 rw[Az q_o,Gv,Bu]at HE
 replace HE:=Aa (hGG.out.trans HE)
 clear HT hGG
 repeat' (first|refine QX ?_|refine QB ?_;intro b|with_reducible refine QZ ?_<;>(try constructor)<;>intro hb<;>try intro hb1|fail)
 refine⟨i+1,st,q_u,⟨hlt,HE,?_,?_,?_,rfl⟩,by omega⟩
 all_goals exact Qf
end
section
attribute [local push_cast] Br Bl BV V.cells_mk V.cells_len Nat.mul_one Int.sub_zero List.map_nil beq_self_eq_true bne_self_eq_false List.head?_cons Bool.not_true Bool.not_false Nat.zero_add
set_option maxHeartbeats 16000000
end
section
attribute [local push_cast] Br Bl BV V.cells_mk V.cells_len Nat.mul_one Int.sub_zero List.map_nil beq_self_eq_true bne_self_eq_false List.head?_cons Bool.not_true Bool.not_false Nat.zero_add
section
set_option maxHeartbeats 16000000
structure Ak where
 kind:Int
 id:Int
 f:Fc
def Ak.cells (a:Ak):List D:=[.i a.kind,.i a.id]++a.f.cells
structure Ak.Wf (a:Ak):Prop where
 i : -9223372036854775808<=a.id/\a.id<=9223372036854775807
 f:a.f.Wf
theorem fD:Fm prog 66 Ak.cells Ak.Wf:=by
 intro n H enc W fuel cs x hf h
 obtain⟨xs,m,rfl, -,hl,hn,hx⟩:=Cy Tryz.underlying66 h
 have hl2:cs.length=7:=hl.trans (by kernel_rfl)
 obtain⟨a,a1,a2⟩:=AZ (i:=0) (n:=m) (f:=λa:Int=>[D.i a]) hx hn rfl (k:=1) (by kernel_rfl) (Cw (k:=.i64) Tryz.underlying3 _) (Ap _)
 obtain⟨b,b1,b2⟩:=AZ (i:=1) (n:=m) (f:=λa:Int=>[D.i a]) hx hn rfl (k:=1) (by kernel_rfl) (Cw (k:=.i64) Tryz.underlying3 _) (Ap _)
 obtain⟨c,c1,c2⟩:=AZ (i:=2) (n:=m) (f:=Fc.cells) hx hn rfl (k:=5) (by kernel_rfl) (fB _) (Ap _)
 refine⟨⟨a,b,c⟩,?_,EM b2,c2⟩
 have:=RepL.glue a1 (RepL.glue b1 (RepL.glue c1 (RepL.glue_end hl2)))
 rw[AY]at this
 exact this
theorem bZ:Fm prog 58 (λl:List Ak=>[D.sl .shared (l.map Ak.cells)]) λl=>(∀x∈l,x.Wf)/\l.length<=maxLen :=
 Dp (sz:=7) Tryz.underlying58 (by kernel_rfl) q_o fD (λ_=>rfl) λt d hd=>by
  unfold Ak.cells Fc.cells at hd
  simp only[AI,AM,Ax,AP,or_false]at hd
  rcases hd with rfl|rfl|rfl|rfl|rfl|rfl|rfl<;>rfl
namespace Mat
def actB (S:List Int)(a:Ak):Bool:=!(decide (a.kind=0)) || right S [a.f]
def actsB (S:List Int):List Ak->Bool
|[]=>true
|a::l=>!(a.f.s.any V.great) && (actB S a && actsB S l)
def may19 (L:List Tm)(R:List Rl)(A:List Ak):Bool:=!(Reg.great L || Rul.great R) && (Rul.right L R && (decide (A.length<=40) && actsB (slotN L) A))
theorem NK{S:List Int}:∀{A:List Ak},actsB S A=true->∀a∈A,(a.f.s.any V.great)=false/\actB S a=true
|[],_,a,h=>by cases h
|b::l,h,a,ha=>by
  unfold actsB at h
  simp only[AF,Cs]at h
  rcases Ax.1 ha with rfl|ha
  . exact⟨h.1,h.2.1⟩
  . exact NK h.2.2 a ha
structure May19 (R:List Rl)(A:List Ak):Prop where
 rl:R.length<=8
 rn:∀x∈R,1<=x.pats.length/\x.pats.length<=4
 xk:∀x∈R,XK x
 al:A.length<=40
 fk:∀a∈A,a.kind=0->FK a.f/\a.f.id≠0/\1<=a.f.id
 fr:∀a∈A,a.kind=0->FcR a.f
 bd:∀a∈A,(-9223372036854775808<=a.id/\a.id<=9223372036854775807) /\ -9223372036854775808<=a.f.id/\a.f.id<=9223372036854775807
theorem may19_iff{L:List Tm}{R:List Rl}{A:List Ak}(hw:∀x∈R,x.Wf)(hf:∀a∈A,a.Wf)(h:may19 L R A=true):May19 R A:=by
 unfold may19 at h
 simp only[AF,Cs,BU,decide_eq_true_eq]at h
 obtain⟨⟨h1,h2⟩,h3,h4,h5⟩:=h
 obtain⟨-,hk⟩:=Rul.not_great hw h2
 obtain⟨r1,r2,r3, -⟩:=Rul.right_iff.1 h3
 have hh:∀x∈R,1<=x.pats.length/\x.pats.length<=4:=λx hx=>by
  have:=r3 x hx
  unfold Rul.oneB Rul.headB at this
  simp only[AF,decide_eq_true_eq]at this
  exact this.1.2.2.1
 have hv:∀a∈A,∀x∈a.f.s,x.Ok/\x.nodes<=1000/\x.deep<=10:=λa h x hx=>by
  have:=(NK h5 a h).1
  have:=DG.1 this x hx
  rw[Gj]at this
  exact⟨(hf a h).f.v x hx,V.not_great this⟩
 have hd:∀a∈A,a.kind=0->headB (slotN L) a.f=true:=λa ha hk0=>by
  have:=(NK h5 a ha).2
  unfold actB at this
  rw[decide_eq_true hk0,Fi,Bu]at this
  exact(Ze this).2 a.f (Ag ..)
 have hs:∀a∈A,a.kind=0->a.f.s.length<=1000000:=λa ha hk0=>by
  obtain⟨-,h1,h2,h3⟩:=headB_iff.1 (hd a ha hk0)
  rw[slotN_len]at h2
  have e0:a.f.tmpl.toNat<L.length:=by omega
  have e:(slotN L)[a.f.tmpl.toNat]?=some ((Rul.slots L a.f.tmpl.toNat).length:Int):=by
   unfold slotN
   rw[Aq,VR e0]
   rfl
  rw[AW,e,Hs]at h3
  have:=Rul.slots_le L a.f.tmpl.toNat
  omega
 refine⟨r2,hh,λx hx=>⟨λp hp=>⟨λt ht=>V.Ok.bg ((hk x hx).vt p hp t ht).ok,by have:=(hk x hx).nt p hp;omega⟩,by have:=(hh x hx).2;omega⟩,h4,λa ha hk0=>?_,λa ha hk0=>⟨λx hx=>⟨(hv a ha x hx).1,(hv a ha x hx).2.1,by have:=(hv a ha x hx).2.2;omega⟩,(hf a ha).f.l⟩,λa ha=>⟨(hf a ha).i,(hf a ha).f.id⟩⟩
 have h1:=(headB_iff.1 (hd a ha hk0)).1
 exact⟨⟨λx hx=>⟨(hv a ha x hx).1,(hv a ha x hx).2.1⟩,hs a ha hk0⟩,by omega,h1⟩
theorem actsB_drop{S:List Int}{A:List Ak}{i:Nat}{a:Ak}(h:A[i]?=some a):actsB S (A.drop i)=(!(a.f.s.any V.great) && (actB S a && actsB S (A.drop (i+1)))):=by
 rw[V.drop_cons h,actsB]
end Mat
theorem i7(L:List Tm)(R:List Rl)(F:List Ak)(hwL:∀t∈L,t.Wf)(hlL:L.length<=maxLen)(hwR:∀x∈R,x.Wf)(hlR:R.length<=maxLen)(hwF:∀f∈F,f.Wf)(hlF:F.length<=maxLen)(st:St):TrF prog 31 [.sl .shared (L.map Tm.cells),.sl .shared (R.map Rl.cells),.sl .shared (F.map Ak.cells)] st λd st'=>d=.b (Mat.may19 L R F)/\st'=st:=by
 have hG1:=UB L hwL hlL
 have hG2:=UA R hwR hlR
 unfold Mat.may19
 have hFm:(F.map Ak.cells).length=F.length:=Ab ..
 have hlF2:=hlF
 unfold maxLen at hlF2
 cases h1:Reg.great L with
|true =>
  rw[h1]at hG1
  rw[BQ,Fi,Aw]
  clear hwL hwR hwF h1 hG2 hlL hlR hlF
  generalize L.map Tm.cells=LS at *
  generalize R.map Rl.cells=RS at *
  generalize F.map Ak.cells=FS at *
  replace hG1:=Aa hG1
  refine Qin [6] func31 results31 ntmps31 ?_
  repeat' (first|refine QX ?_|(refine QB ?_;intro b)|refine QP ?_;intro o' ho'|(with_reducible refine QZ ?_<;>(try constructor)<;>intro hb<;>try intro hb1)|refine Qc call45 ((hG1.out _)) ?_|fail)
  all_goals exact BZ
|false =>
 rw[Bu]
 obtain⟨hl12,hkn⟩:=Reg.not_great hwL h1
 rw[h1]at hG1
 clear h1 hwL
 cases h2:Rul.great R with
|true =>
  rw[h2]at hG2
  rw[Fi,Aw]
  clear hwR hwF h2 hlL hlR hlF hkn
  generalize L.map Tm.cells=LS at *
  generalize R.map Rl.cells=RS at *
  generalize F.map Ak.cells=FS at *
  replace hG1:=Aa hG1
  replace hG2:=Aa hG2
  refine Qin [6] func31 results31 ntmps31 ?_
  repeat' (first|refine QX ?_|(refine QB ?_;intro b)|refine QP ?_;intro o' ho'|(with_reducible refine QZ ?_<;>(try constructor)<;>intro hb<;>try intro hb1)|refine Qc call45 ((hG1.out _)) ?_|refine Qc call46 ((hG2.out _)) ?_|fail)
  all_goals exact BZ
|false =>
 rw[Hk,AH]
 obtain⟨hr12,hrk⟩:=Rul.not_great hwR h2
 rw[h2]at hG2
 clear h2 hwR
 have hok:∀t∈L,TOk t:=λt h=>(hkn t h).ok
 have hRt:=Wl L hok q_o R hrk q_o
 cases h3:Rul.right L R with
|false =>
  rw[h3]at hRt
  rw[Aw]
  clear hwF h3 hlL hlR hlF hkn hrk hok
  generalize L.map Tm.cells=LS at *
  generalize R.map Rl.cells=RS at *
  generalize F.map Ak.cells=FS at *
  replace hG1:=Aa hG1
  replace hG2:=Aa hG2
  replace hRt:=Aa hRt
  refine Qin [6] func31 results31 ntmps31 ?_
  repeat' (first|refine QX ?_|(refine QB ?_;intro b)|refine QP ?_;intro o' ho'|(with_reducible refine QZ ?_<;>(try constructor)<;>intro hb<;>try intro hb1)|refine Qc call45 ((hG1.out _)) ?_|refine Qc call46 ((hG2.out _)) ?_|refine Qc call47 ((hRt.out _)) ?_|fail)
  all_goals exact BZ
|true =>
 rw[h3]at hRt
 rw[AH]
 clear h3 hrk
 by_cases h7:40<F.length
 . rw[decide_eq_false q_o,Aw]
   clear hwF hlL hlR hlF hkn hok
   generalize L.map Tm.cells=LS at *
   generalize R.map Rl.cells=RS at *
   generalize F.map Ak.cells=FS at *
   replace hG1:=Aa hG1
   replace hG2:=Aa hG2
   replace hRt:=Aa hRt
   refine Qin [6] func31 results31 ntmps31 ?_
   repeat' (first|refine QX ?_|(refine QB ?_;intro b)|refine QP ?_;intro o' ho'|(with_reducible refine QZ ?_<;>(try constructor)<;>intro hb<;>try intro hb1)|refine Qc call45 ((hG1.out _)) ?_|refine Qc call46 ((hG2.out _)) ?_|refine Qc call47 ((hRt.out _)) ?_|fail)
   all_goals exact BZ
 rw[decide_eq_true q_o,AH]
 have hSl:=Aa λ(i:Nat)=>JV L hok q_o i
 have hSm:=Aa λ(i:Nat)=>Rul.slots_le L i
 have hLm:(L.map Tm.cells).length=L.length:=Ab ..
 have hRg:Hid (∀a∈F,(a.f.s.any V.great)=false->∀(o1 o:Own) (st:St),TrF prog 49 [.sl o1 [a.f.cells],.sl o ((Mat.slotN L).map Bl)] st λd st'=>d=.b (Mat.right (Mat.slotN L) [a.f])/\st'=st):=λa ha hg o1 o st=>by
  have h1:=Uw [a.f] (Mat.slotN L) (λ_ f hf=>by
   rw[AB]at hf
   subst hf
   exact⟨λx hx=>by
    have h2:=DG.1 hg x hx
    rw[Gj]at h2
    have h3:=V.not_great h2
    exact⟨(hwF a ha).f.v x hx,h3.1,by omega⟩,(hwF a ha).f.l⟩) (by unfold maxLen;simp) (by rw[Mat.slotN_len];omega) o st
  exact TrF.le h1 ⟨LE.sl _ _,LEL.refl _⟩
 obtain⟨og,hog⟩:∃og:Nat->List (List D),og=λi=>((Mat.slotN L).take i).map Bl:=⟨_,rfl⟩
 have h0:og 0=[]:=by rw[hog];rfl
 have hst:Hid (∀i,i<L.length->og (i+1)=og i++[[.i (Rul.slots L i).length]]):=λi h=>by
  have e:(Mat.slotN L)[i]?=some ((Rul.slots L i).length:Int):=by
   unfold Mat.slotN
   rw[Aq,VR h]
   rfl
  rw[hog]
  dsimp only
  rw[Bk,e,Bw,Bi]
  rfl
 have hend:Hid (og L.length=(Mat.slotN L).map Bl):=by
  rw[hog]
  dsimp only
  rw[Bj (nN (Mat.slotN_len L))]
  exact Aa rfl
 have hol:Hid (∀i,(og i).length<=12):=λi=>by
  rw[hog]
  dsimp only
  rw[Ab,AQ,Mat.slotN_len]
  omega
 have ho1:Hid (∀i,∀a∈og i,a.length=1):=λi a ha=>by
  rw[hog]at ha
  obtain⟨x, -,rfl⟩:=Av.1 ha
  rfl
 have hFc:=hMp Ak.cells F
 replace hwF:=Aa hwF
 rw[<-hend.out]at hRg
 clear hog hend hok hkn hlL hlR hlF
 obtain⟨SN,hSN⟩:∃SN,Mat.slotN L=SN:=⟨_,rfl⟩
 rw[hSN]at hRg |-
 clear hSN
 obtain⟨T,hT⟩:∃T,Mat.actsB SN F=T:=⟨_,rfl⟩
 rw[hT]
 have HT:Hid (Mat.actsB SN (F.drop 0)=T):=hT
 clear hT
 generalize L.map Tm.cells=LS at *
 generalize R.map Rl.cells=RS at *
 generalize F.map Ak.cells=FS at *
 replace hG1:=Aa hG1
 replace hG2:=Aa hG2
 replace hRt:=Aa hRt
 refine Qin [6] func31 results31 ntmps31 ?_
 refine GF 3 1 (og 0).length ?_
 rw[h0]
 repeat' (first|refine QX ?_|(refine QB ?_;intro b)|refine QP ?_;intro o' ho'|(with_reducible refine QZ ?_<;>(try constructor)<;>intro hb<;>try intro hb1)|refine Qc call45 ((hG1.out _)) ?_|refine Qc call46 ((hG2.out _)) ?_|refine Qc call47 ((hRt.out _)) ?_|fail)
 refine Bs (ι:=Nat) (λi A st'=>i<=L.length/\A.df=[]/\A.e 0=.sl .shared LS/\A.e 2=.sl .shared FS/\A.e 8=.i i/\∃o2,o2≠.shared/\A.e 7=.sl o2 (og i)/\st'=.room o2 3 1 (og i).length::st) (λi=>L.length - i) 0 ⟨Ao _,Qf,Qf,Qf,Qf,.tight,IJ,by rw[h0];exact Qf,by rw[h0]⟩ ?_
 clear h0 hG1 hG2 hRt
 rintro i A st' ⟨hi,hdf,e0,e2,e8,o2,ho2,e7,rfl⟩
 by_cases hlt:i<L.length
 . have hC:=Aa (hSl.out i)
   have hs:=Aa (hst.out i hlt)
   have hl1:=hol.out i
   have hl3:=ho1.out i
   have hn:=hSm.out i
   have hCm:((Rul.slots L i).map Sl.cells).length=(Rul.slots L i).length:=Ab ..
   clear hSl hst hol ho1 hSm hFc hwF hRg HT
   generalize (Rul.slots L i).map Sl.cells=SC at *
   generalize (Rul.slots L i).length=n at *
   obtain⟨OG,hOG⟩:∃OG,OG=og i:=⟨_,rfl⟩
   rw[<-hOG]at hl1 hl3 e7 hs |-
   clear hOG
   repeat' (first|refine QV ?_|((with_reducible refine FL [] ?_ ?_ ?_ ?_ ?_);(iterate 3 (focus kernel_rfl));(focus((repeat(first|exact BI|refine BX q_m ?_));done)))|((with_reducible refine And.intro ?_ ?_);(focus exact q_k))|refine QY ?_|(refine QB ?_;intro b)|refine QP ?_;intro o' ho'|(with_reducible refine QZ ?_<;>(try constructor)<;>intro hb<;>try intro hb1)|refine Qc call48 ((hC.out _)) ?_|fail)
   refine⟨i+1,.room o' 3 1 (OG++[[D.i n]]).length::st,q_t,⟨hlt,?_,?_,?_,?_,o',ho',?_,by rw[hs.out]⟩,by omega⟩
   all_goals first|(rw[hs.out];exact Qf)|exact Qf
 have hil:i=L.length:=by omega
 subst hil
 clear hSl hst hol ho1 hSm
 repeat' (first|refine QX ?_|(refine QB ?_;intro b)|refine QP ?_;intro o' ho'|(with_reducible refine QZ ?_<;>(try constructor)<;>intro hb<;>try intro hb1)|fail)
 refine Bs (ι:=Nat) (λi A st'=>i<=F.length/\Hid (Mat.actsB SN (F.drop i)=T)/\A.df=[]/\A.e 2=.sl .shared FS/\A.e 9=.i i/\A.e 7=.sl o2 (og L.length)/\st'=.room o2 3 1 (og L.length).length::st) (λi=>F.length - i) 0 ⟨Ao _,HT,Qf,Qf,Qf,Qf,rfl⟩ ?_
 clear HT hdf e0 e2 e7 e8
 rintro i A st' ⟨hi,HT,hdf,e2,e9,e7,rfl⟩
 by_cases hlt:i<F.length
 . obtain⟨a,hf⟩:=gEx hlt
   have hfc:=hFc.out i a hf
   have ham:=Ah hf
   have hfw:=(hwF.out a ham).f
   have HE:=HT.out
   rw[Mat.actsB_drop hf]at HE
   have hRa:=hRg.out a ham
   have hVm:(a.f.s.map V.cells).length=a.f.s.length:=Ab ..
   have hVc:=hMp V.cells a.f.s
   have hVg:Hid (∀x∈a.f.s,∀st,TrF prog 16 [.agg x.cells] st λd st'=>d=.b x.great/\st'=st):=λx hx st=>JC x (hfw.v x hx) st
   have hfl:=hfw.l
   unfold maxLen at hfl
   unfold Mat.actB at HE
   rw[show a.cells=[.i a.kind,.i a.id,.i a.f.id,.i a.f.time,.i a.f.tmpl,.i a.f.ver,.sl .shared (a.f.s.map V.cells)]from rfl]at hfc
   rw[show a.f.cells=[.i a.f.id,.i a.f.time,.i a.f.tmpl,.i a.f.ver,.sl .shared (a.f.s.map V.cells)]from rfl]at hRa
   clear HT hFc hwF hf hfw hRg ham
   obtain⟨G,hGG⟩:∃G,Mat.actsB SN (F.drop (i+1))=G:=⟨_,rfl⟩
   rw[hGG]at HE
   replace hGG:=Aa hGG
   obtain⟨Q,hQ⟩:∃Q,Mat.right SN [a.f]=Q:=⟨_,rfl⟩
   rw[hQ]at HE hRa
   clear hQ
   generalize a.f.s=vs at *
   generalize a.kind=kd at *
   generalize a.id=ai at *
   generalize a.f.id=f0 at *
   generalize a.f.time=f1 at *
   generalize a.f.tmpl=f2 at *
   generalize a.f.ver=f3 at *
   generalize vs.map V.cells=VS at *
   generalize og L.length=OG at *
   have HV:Hid ((!((vs.drop 0).any V.great) && ((!(decide (kd=0)) || Q) && G))=T):=HE
   replace hRa:Hid (((vs.drop 0).any V.great)=false->_):=hRa
   clear HE
   repeat' (first|refine QX ?_|(refine QB ?_;intro b)|refine QP ?_;intro o' ho'|(with_reducible refine QZ ?_<;>(try constructor)<;>intro hb<;>try intro hb1)|fail)
   refine Bs (ι:=Nat) (λk A2 st2=>k<=vs.length/\Hid ((!((vs.drop k).any V.great) && ((!(decide (kd=0)) || Q) && G))=T)/\Hid (((vs.drop 0).any V.great)=((vs.drop k).any V.great))/\A2.df=[]/\A2.e 2=.sl .shared FS/\A2.e 9=.i i/\A2.e 7=.sl o2 OG/\A2.e 10=.ptr b 0/\A2.e 11=.i k/\st2=.box b 43 [.i f0,.i f1,.i f2,.i f3,.sl .shared VS]::.room o2 3 1 OG.length::st) (λk=>vs.length - k) 0 ⟨Ao _,HV,Aa rfl,Qf,Qf,Qf,Qf,Qf,Qf,rfl⟩ ?_
   clear HV hdf e2 e9 e7
   rintro k A2 st2 ⟨hk,HK,HZ,hdf,e2,e9,e7,e10,e11,rfl⟩
   by_cases hkl:k<vs.length
   . obtain⟨x,hx⟩:=gEx hkl
     have hxc:=hVc.out k x hx
     have hxr:=hVg.out x (Ah hx)
     have HE:=HK.out
     have HZ2:=HZ.out
     rw[GM hx]at HE HZ2
     clear HK hVc hVg hx HZ hRa
     cases x with
     | mk k1 n1 s1 l1 =>
     rw[V.cells_mk]at hxc hxr
     generalize l1.map V.cells=L1 at *
     cases hq:V.great (V.mk k1 n1 s1 l1)with
     | true =>
      rw[hq,BQ,Fi,Aw]at HE
      rw[hq]at hxr
      subst HE
      clear hq HZ2
      replace hxr:=Aa hxr
      repeat' (first|refine QX ?_|(refine QB ?_;intro b)|refine QP ?_;intro o' ho'|(with_reducible refine QZ ?_<;>(try constructor)<;>intro hb<;>try intro hb1)|refine Qc call16 ((hxr.out _)) ?_|fail)
      all_goals exact BZ
     | false =>
      rw[hq,Bu]at HE HZ2
      rw[hq]at hxr
      clear hq
      replace hxr:=Aa hxr
      replace HE:=Aa HE
      replace HZ2:=Aa HZ2
      repeat' (first|refine QX ?_|(refine QB ?_;intro b)|refine QP ?_;intro o' ho'|(with_reducible refine QZ ?_<;>(try constructor)<;>intro hb<;>try intro hb1)|refine Qc call16 ((hxr.out _)) ?_|fail)
      refine⟨k+1,.box b 43 [.i f0,.i f1,.i f2,.i f3,.sl .shared VS]::.room o2 3 1 OG.length::st,q_u,⟨hkl,HE,HZ2,?_,?_,?_,?_,?_,?_,rfl⟩,by omega⟩
      all_goals exact Qf
   . have HE:=HK.out
     have HZ2:=HZ.out
     have hdk:vs.drop k=[]:=Az q_o
     rw[hdk,Gv]at HE HZ2
     rw[Hk,AH]at HE
     have hR:=Aa (hRa.out HZ2)
     clear HK hVc hVg HZ HZ2 hRa
     by_cases hk0:kd=0
     . rw[decide_eq_true hk0,Fi,Bu]at HE
       subst hk0
       cases Q with
       | false =>
        rw[Aw]at HE
        subst HE
        clear hGG
        repeat' (first|refine QX ?_|(refine QB ?_;intro b)|refine QP ?_;intro o' ho'|(with_reducible refine QZ ?_<;>(try constructor)<;>intro hb<;>try intro hb1)|refine Qc call49 ((hR.out _ _ _)) ?_|fail)
        all_goals exact BZ
       | true =>
        rw[AH]at HE
        replace HE:=Aa (hGG.out.trans HE)
        clear hGG
        repeat' (first|refine QX ?_|(refine QB ?_;intro b)|refine QP ?_;intro o' ho'|(with_reducible refine QZ ?_<;>(try constructor)<;>intro hb<;>try intro hb1)|refine Qc call49 ((hR.out _ _ _)) ?_|fail)
        refine⟨i+1,.room o2 3 1 OG.length::st,q_t,⟨hlt,HE,?_,?_,?_,?_,rfl⟩,by omega⟩
        all_goals exact Qf
     . rw[decide_eq_false hk0,Hk,BQ,AH]at HE
       replace HE:=Aa (hGG.out.trans HE)
       clear hGG hR
       repeat' (first|refine QX ?_|(refine QB ?_;intro b)|refine QP ?_;intro o' ho'|(with_reducible refine QZ ?_<;>(try constructor)<;>intro hb<;>try intro hb1)|fail)
       refine⟨i+1,.room o2 3 1 OG.length::st,q_t,⟨hlt,HE,?_,?_,?_,?_,rfl⟩,by omega⟩
       all_goals exact Qf
 . have HE:=HT.out
   rw[Az q_o]at HE
   have HE:true=T:=HE
   subst HE
   clear HT hFc hwF hRg
   generalize og L.length=OG at *
   exact WRa
end
end
section
section
variable {P:Program} {r:Option Nat} {A:AA} {st:St} {k:D->St->Prop} {dst:Option Tmp} {ty:TypeId} {pos:String} {aft:Array Edge} {gd:Option (Nat×Bool)} {t t':TypeId} {x:Operand}
theorem Jz{b off:Nat}(ht:UH P t=true)(hx:ev A.e x=some (.ptr b off))(hk:k (.b false) st):S P r none ⟨dst,.binOp .eql t x (.const (.pointer none)) t',ty,pos,aft,gd⟩ A st k:=XI (a:=some ⟨b,off,none⟩) ht hx rfl hk
theorem Mx(ht:UH P t=true)(hx:ev A.e x=some (.s (.pointer none)))(hk:k (.b true) st):S P r none ⟨dst,.binOp .eql t x (.const (.pointer none)) t',ty,pos,aft,gd⟩ A st k:=XI (a:=none) ht hx rfl hk
end
theorem MemP.cells3(M:MemP)(n:Nat):∃a b c,M.cells n=[a,b,c]:=by cases M<;>exact⟨_,_,_,rfl⟩
def Ga (N:NT)(M:MemP)(F:List Fc)(cs:List NC):St:=.box N.b 105 (.sl .shared N.row::M.cells F.length)::(M.resF F++cs.flatMap NC.st)
theorem JX(N:NT):Ga N N.fm N.fs N.cs=N.st:=rfl
theorem Iy(N:NT)(M:MemP)(F:List Fc)(cs:List NC)(s:St):Ga N M F cs++s=.box N.b 105 ([.sl .shared N.row]++(M.cells F.length++[]))::(M.resF F++(cs.flatMap NC.st++s)):=by
 unfold Ga
 rw[AY,AI,Ai]
 rfl
theorem Tj(N:NT)(R:List Rl)(id:Int)(h:N.Ok R)(st:St):TrF prog 64 [.ptr N.b 1,.i id] (N.st++st) λd st'=>d=GL (Mat.find N.fs id)/\st'=N.st++st:=by
 have h1:=Yl N.b 105 [.sl .shared N.row] [] N.fm N.fs id h.fok (by have:=h.fl;omega) (N.cs.flatMap NC.st++st)
 rw[<-JX,Iy]
 exact h1
theorem fO(N:NT)(R:List Rl)(f:Fc)(h:N.Ok R)(hid:f.id∉N.fs.map Fc.id)(st:St):TrF prog 65 [.ptr N.b 1,.i f.id,.agg f.cells] (N.st++st) λd st'=>∃M':MemP,M'.okF (N.fs++[f])/\d=.tup []/\(Ga N M' (N.fs++[f]) N.cs++st).Perm st':=by
 have h1:=Yj N.b 105 [.sl .shared N.row] [] N.fm N.fs f h.fok hid (by have:=h.fl;omega) (N.cs.flatMap NC.st++st)
 rw[<-JX,Iy]
 refine h1.mono λd st' ⟨M',a1,a2,a3⟩=>⟨M',a1,a2,?_⟩
 rw[Iy,Ad,BE]
 exact a3
theorem cz(N:NT)(R:List Rl)(f z:Fc)(i n:Nat)(h:N.Ok R)(hn:N.fs.length=n+1)(hi:N.fs[i]?=some f)(hz:N.fs[n]?=some z)(st:St):TrF prog 68 [.ptr N.b 1,.i f.id] (N.st++st) λd st'=>∃M':MemP,M'.okF (Cz N.fs i z)/\d=.tup []/\(Ga N M' (Cz N.fs i z) N.cs++st).Perm st':=by
 have h1:=Vy N.b 105 [.sl .shared N.row] [] N.fm N.fs f z i n h.fok hn hi hz (by have:=h.fl;omega) (N.cs.flatMap NC.st++st)
 rw[<-JX,Iy]
 refine h1.mono λd st' ⟨M',a1,a2,a3⟩=>⟨M',a1,a2,?_⟩
 rw[Iy,Jw hn]
 exact a3
theorem JD{N:NT}{M:MemP}{F:List Fc}{cs:List NC}{i:Nat}{S:NC}(h:cs[i]?=some S)(s:St):(Ga N M F cs++s).Perm (S.st++(.box N.b 105 (.sl .shared N.row::M.cells F.length)::(M.resF F++(((cs.take i).flatMap NC.st++(cs.drop (i+1)).flatMap NC.st)++s)))):=by
 have h1:=(ax h).append_right s
 rw[Ai]at h1
 unfold Ga
 rw[AI,Ai]
 refine((h1.append_left _).cons _).trans ?_
 generalize (cs.take i).flatMap NC.st++(cs.drop (i+1)).flatMap NC.st++s=X
 refine(List.Perm.cons _ ?_).trans AD.symm
 rw[<-Ai,<-Ai]
 exact Bm.append_right _
theorem Ru{N:NT}{M:MemP}{F:List Fc}{cs:List NC}{i:Nat}{S S':NC}(h:cs[i]?=some S)(s:St):(Ga N M F (cs.set i S')++s).Perm (S'.st++(.box N.b 105 (.sl .shared N.row::M.cells F.length)::(M.resF F++(((cs.take i).flatMap NC.st++(cs.drop (i+1)).flatMap NC.st)++s)))):=by
 have hil:=(Af.1 h).1
 have h1:=JD (N:=N) (M:=M) (F:=F) (cs:=cs.set i S') (i:=i) (S:=S') (BA hil) s
 rwa[EH,EN]at h1
end
section
attribute [local push_cast] Br Bl BV V.cells_mk V.cells_len Nat.mul_one Int.sub_zero List.map_nil beq_self_eq_true bne_self_eq_false List.head?_cons Bool.not_true Bool.not_false Nat.zero_add
attribute [-instance] Ck Cu BO Ds
theorem Th(f:Fc)(st:St):TrF prog 33 [.s (.pointer none),.agg f.cells] st λd st'=>d=.b false/\st'=st:=by
 unfold Fc.cells
 generalize f.s.map V.cells=VS at *
 refine Qin [4] func33 results33 ntmps33 ?_
 repeat' (first|refine QV ?_|((with_reducible apply Mx);(focus kernel_rfl);(focus exact q_v))|refine QY ?_|refine QB ?_;intro b|with_reducible refine QZ ?_<;>(try constructor)<;>intro hb<;>try intro hb1|fail)
 all_goals exact BZ
theorem WD(N:NT)(R:List Rl)(f:Fc)(h:N.Ok R)(hR:R.length<=1000)(hf:FK f)(h0:f.id≠0)(hl:N.fs.length<1000)(st:St):TrF prog 33 [.ptr N.b 0,.agg f.cells] (N.st++st) λd st'=>∃N':NT,N'.Ok R/\N'.b=N.b/\((f.id∈N.fs.map Fc.id/\N'.fs=N.fs/\d=.b false)\/(f.id∉N.fs.map Fc.id/\N'.fs=N.fs++[f]/\d=.b true))/\(N'.st++st).Perm st':=by
 have hget:=Tj N R f.id h st
 have hgetB:∀fb:Res,TrF prog 64 [.ptr N.b 1,.i f.id] (fb::(N.st++st)) λd st'=>d=GL (Mat.find N.fs f.id)/\st'=fb::(N.st++st):=λfb =>
  TrF.permPost AD.symm ((Tj N R f.id h (fb::st)).mono λd st' ⟨e1,e2⟩=>⟨_,⟨e1,rfl⟩,by rw[e2];exact AD⟩)
 cases ha:Mat.find N.fs f.id with
|some g =>
  have hin:f.id∈N.fs.map Fc.id:=Av.2 ⟨g,CI ha,by have:=FE ha;simpa using this⟩
  have hfin:Hid (∃N':NT,N'.Ok R/\N'.b=N.b/\((f.id∈N.fs.map Fc.id/\N'.fs=N.fs/\D.b false=.b false)\/(f.id∉N.fs.map Fc.id/\N'.fs=N.fs++[f]/\D.b false=.b true))/\(N'.st++st).Perm (N.st++st)):=⟨N,h,rfl,.inl ⟨hin,rfl,rfl⟩,.refl _⟩
  rw[ha]at hget hgetB
  dsimp only[GL]at hget hgetB
  replace hget:=Aa hget
  replace hgetB:=Aa hgetB
  clear ha hin h hf h0 hl hR
  unfold Fc.cells at *
  generalize f.s.map V.cells=VS at *
  generalize g.s.map V.cells=VG at *
  refine Qin [4] func33 results33 ntmps33 ?_
  generalize N.st++st=RS at *
  repeat' (first|refine QV ?_|((with_reducible apply Jz);(focus kernel_rfl);(focus exact q_v))|((with_reducible apply(Ot (id:=3) [] 9 5));(iterate 3 (focus kernel_rfl));(focus(repeat(first|exact BI|refine BX q_m ?_)));(focus exact rfl);(focus(simp only[DY,Gh];rfl)))|((with_reducible refine And.intro ?_ ?_);(focus exact q_k))|((with_reducible apply(DL call64));(focus exact Ar _);(focus exact hget.out);(focus exact LEL.refl _);(focus exact⟨_,_,rfl,rfl⟩);(rintro d2 st2 ⟨rfl,rfl⟩;refine⟨by((repeat(first|exact BI|refine BX q_m ?_));done),?_⟩))|((with_reducible apply(DL call64));(focus exact Ar _);(focus exact hgetB.out _);(focus exact LEL.refl _);(focus exact⟨_,_,rfl,rfl⟩);(rintro d2 st2 ⟨rfl,rfl⟩;refine⟨by((repeat(first|exact BI|refine BX q_m ?_));done),?_⟩))|(with_reducible refine Du ?_)|refine QY ?_|refine QB ?_;intro b|with_reducible refine QZ ?_<;>(try constructor)<;>intro hb<;>try intro hb1|fail)
  all_goals exact Bf (by simp) q_y (AK ..) (LE.of_eq q_v) hfin.out
|none =>
  have hnew:f.id∉N.fs.map Fc.id:=λhm=>by
   obtain⟨g,hg,e⟩:=Av.1 hm
   have:=Dr.1 ha g hg
   simp[e]at this
  rw[ha]at hget hgetB
  dsimp only[GL]at hget hgetB
  obtain⟨W,hW⟩:∃W:MemP->St,W=λM=>M.resF (N.fs++[f])++N.cs.flatMap NC.st++st:=⟨_,rfl⟩
  have hWe:Hid (∀M,.box N.b 105 (.sl .shared N.row::M.cells (N.fs++[f]).length)::W M=Ga N M (N.fs++[f]) N.cs++st):=λM=>by rw[hW];rfl
  have hput:∀fb:Res,TrF prog 65 [.ptr N.b 1,.i f.id,.agg f.cells] (fb::(N.st++st)) λd st'=>∃M':MemP,M'.okF (N.fs++[f])/\d=.tup []/\(fb::.box N.b 105 (.sl .shared N.row::M'.cells (N.fs++[f]).length)::W M').Perm st':=λfb =>
   (TrF.perm AD.symm (fO N R f h hnew (fb::st))).mono λd st' ⟨M',a1,a2,a3⟩=>⟨M',a1,a2,by rw[hWe.out];exact AD.symm.trans a3⟩
  have hE:Hid (∀fb:Res,∃(d:D) (st':St) (M':MemP),M'.okF (N.fs++[f])/\d=.tup []/\(fb::.box N.b 105 (.sl .shared N.row::M'.cells (N.fs++[f]).length)::W M').Perm st'):=λfb=>by
   obtain⟨M0,hM0⟩:=XY h.fok hnew
   exact⟨_,_,M0,hM0,rfl,.refl _⟩
  clear hW
  replace hget:=Aa hget
  replace hgetB:=Aa hgetB
  have HN:=Aa h
  have hf2:=Aa hf
  have h02:=Aa h0
  have hcl:=h.cl
  have hfc:f.cells=[.i f.id,.i f.time,.i f.tmpl,.i f.ver,.sl .shared (f.s.map V.cells)]:=rfl
  clear ha h hf h0
  rw[hfc]at hput |-
  generalize hVS:f.s.map V.cells=VS at *
  obtain⟨RS,hRS⟩:∃RS,RS=N.st++st:=⟨_,rfl⟩
  rw[<-hRS]at hget hgetB |-
  rw[<-hRS]at hput
  have hrl:N.row.length=R.length:=by unfold NT.row;rw[Ab,hcl]
  have hrow:Hid (∀(i:Nat) (S:NC),N.cs[i]?=some S->N.row[i]?=some [.ptr S.c 0]):=λi S h=>by unfold NT.row;rw[Aq,h];rfl
  obtain⟨cl,hcl2⟩:∃cl:MemP->List D,cl=λM=>M.cells (N.fs++[f]).length:=⟨_,rfl⟩
  have hcle:∀M:MemP,M.cells (N.fs++[f]).length=cl M:=λM=>by rw[hcl2]
  simp only[hcle]at hput hE hWe
  clear hcle hcl2 hRS
  obtain⟨ROW,hROW⟩:∃ROW,ROW=N.row:=⟨_,rfl⟩
  rw[<-hROW]at hput hE hWe hrl hrow
  replace hROW:=Aa hROW
  replace hput:=Aa hput
  refine Qin [4] func33 results33 ntmps33 ?_
  repeat' (first|refine QV ?_|((with_reducible apply Jz);(focus kernel_rfl);(focus exact q_v))|((with_reducible apply(Ot (id:=3) [] 9 5));(iterate 3 (focus kernel_rfl));(focus(repeat(first|exact BI|refine BX q_m ?_)));(focus exact rfl);(focus(simp only[DY,Gh];rfl)))|((with_reducible refine And.intro ?_ ?_);(focus exact q_k))|((with_reducible apply(DL call64));(focus exact Ar _);(focus exact hget.out);(focus exact LEL.refl _);(focus exact⟨_,_,rfl,rfl⟩);(rintro d2 st2 ⟨rfl,rfl⟩;refine⟨by((repeat(first|exact BI|refine BX q_m ?_));done),?_⟩))|((with_reducible apply(DL call64));(focus exact Ar _);(focus exact hgetB.out _);(focus exact LEL.refl _);(focus exact⟨_,_,rfl,rfl⟩);(rintro d2 st2 ⟨rfl,rfl⟩;refine⟨by((repeat(first|exact BI|refine BX q_m ?_));done),?_⟩))|((with_reducible apply(DL call65));(focus exact Ar _);(focus exact hput.out _);(focus exact LEL.refl _);(focus exact hE.out _);(rintro d2 st2 ⟨M2,hok2,rfl,hp2⟩;refine⟨by((repeat(first|exact BI|refine BX q_m ?_));done),?_⟩))|((with_reducible refine Bn hp2.symm ?_);clear hp2)|(with_reducible refine Du ?_)|refine QY ?_|refine QB ?_;intro b|with_reducible refine QZ ?_<;>(try constructor)<;>intro hb<;>try intro hb1|fail)
  all_goals clear hget hgetB hput hE
  all_goals
   have hW2:Hid (∀B:Res,(B::.box N.b 105 (.sl .shared ROW::cl M2)::W M2).Perm (B::(Ga N M2 (N.fs++[f]) N.cs++st))):=λB=>by rw[hWe.out]
   refine Bs (ι:=Nat) (λi A st'=>i<=R.length/\A.df=[]/\A.e 3=.ip [.i f.id,.i f.time,.i f.tmpl,.i f.ver,.sl .shared VS]/\A.e 31=.sl .shared ROW/\A.e 32=.i R.length/\A.e 33=.i i/\∃(B:Res) (cs':List NC),Hid (StepC N.cs R N.fs (N.fs++[f]) i cs')/\st'.Perm (B::(Ga N M2 (N.fs++[f]) cs'++st))) (λi=>R.length - i) 0 ⟨Ao _,Qf,Qf,Qf,Qf,Qf,_,N.cs,StepC.zero ..,hW2.out _⟩ ?_
   clear hW2 hWe
   rintro i A st' ⟨hi,hdf,e3,e31,e32,e33,B,cs',HS,hp⟩
   by_cases hlt:i<R.length
   . obtain⟨x,hx⟩:=gEx hlt
     obtain⟨S,hS⟩:∃S,N.cs[i]?=some S:=⟨_,Al (by rw[hcl];exact hlt)⟩
     have hS2:=(HS.out.todo i (Ap _)).trans hS
     have hC:=HN.out.ch i x S hx hS
     have hrc:=hrow.out i S hS
     obtain⟨RR,hRR⟩:∃RR,RR=Res.box N.b 105 (.sl .shared N.row::M2.cells (N.fs++[f]).length)::(M2.resF (N.fs++[f])++(((cs'.take i).flatMap NC.st++(cs'.drop (i+1)).flatMap NC.st)++st)):=⟨_,rfl⟩
     have hcome:Hid (TrF prog 66 [.ptr S.c 0,.agg [.i f.id,.i f.time,.i f.tmpl,.i f.ver,.sl .shared VS]] (S.st++(B::RR)) λd st0=>∃cs2:List NC,Hid (StepC N.cs R N.fs (N.fs++[f]) (i+1) cs2)/\d=.tup []/\st0.Perm (B::(Ga N M2 (N.fs++[f]) cs2++st))):=by
      have h1:=lf S f hC.str hC.loc hf2.out (by rw[hC.nl];omega) (hC.new hnew) (hC.few hl) (B::RR)
      rw[hfc]at h1
      refine h1.mono λd st0 ⟨S',a1,a2,a3⟩=>⟨cs'.set i S',HS.out.next hx hS a1.c (hC.come a1),a2,?_⟩
      refine a3.symm.trans (AD.trans (List.Perm.cons _ ?_))
      rw[hRR]
      exact(Ru hS2 st).symm
     have hp2:st'.Perm (S.st++(B::RR)):=by
      refine hp.trans (List.Perm.trans (List.Perm.cons _ ?_) AD.symm)
      rw[hRR]
      exact JD hS2 st
     refine Bn hp2 ?_
     clear hp hp2 hRR HS hC hS hS2 hx hnew hl hrow
     generalize S.st++(B::RR)=ST at *
     generalize S.c=sc at *
     repeat' (first|refine QV ?_|((with_reducible apply(BG (f:=66) (henter:=call66) (hp:=Ar _) (h:=hcome.out)));(focus exact q_v);(focus exact q_l);(rintro d0 st0 ⟨cs2,hS2,rfl,hp4⟩))|refine QY ?_|refine QB ?_;intro b|with_reducible refine QZ ?_<;>(try constructor)<;>intro hb<;>try intro hb1|fail)
     refine⟨i+1,_,Aj _,⟨hlt,?_,?_,?_,?_,?_,B,cs2,hS2,hp4⟩,by omega⟩
     all_goals exact Qf
   . have hil:i=R.length:=by omega
     subst hil
     have hfin:Hid (∃N':NT,N'.Ok R/\N'.b=N.b/\((f.id∈N.fs.map Fc.id/\N'.fs=N.fs/\D.b true=.b false)\/(f.id∉N.fs.map Fc.id/\N'.fs=N.fs++[f]/\D.b true=.b true))/\(N'.st++st).Perm (Ga N M2 (N.fs++[f]) cs'++st)):=by
      refine⟨⟨N.b,cs',M2,N.fs++[f]⟩,⟨hok2,⟨λz hz=>?_,?_⟩,?_,λz hz=>?_,?_,λj x S h1 h2=>HS.out.done j x S (Af.1 h1).1 h1 h2⟩,rfl,.inr ⟨hnew,rfl,rfl⟩,?_⟩
      . rcases Bc.1 hz with hz|hz
        . exact HN.out.fk.f z hz
        . rw[AB.1 hz];exact hf2.out
      . show(N.fs++[f]).length<=1000000
        rw[Ad,BE];omega
      . show(N.fs++[f]).length<=1000
        rw[Ad,BE];omega
      . rcases Bc.1 hz with hz|hz
        . exact HN.out.f0 z hz
        . rw[AB.1 hz];exact h02.out
      . exact HS.out.len.trans hcl
      . have h1:(⟨N.b,cs',M2,N.fs++[f]⟩:NT).row=N.row:=HS.out.row_eq
        unfold NT.st NT.cells Ga
        rw[h1]
     refine Bn hp ?_
     clear hp HS HN hf2 h02 hnew hl hrow hok2
     generalize Ga N M2 (N.fs++[f]) cs'++st=ST at *
     repeat' (first|refine QX ?_|refine QB ?_;intro b|with_reducible refine QZ ?_<;>(try constructor)<;>intro hb<;>try intro hb1|fail)
     exact Bf (by simp) q_y (AK ..) (LE.of_eq q_v) hfin.out
end
section
attribute [local push_cast] Br Bl BV V.cells_mk V.cells_len Nat.mul_one Int.sub_zero List.map_nil beq_self_eq_true bne_self_eq_false List.head?_cons Bool.not_true Bool.not_false Nat.zero_add
section
open Go.RowKit Go.Sort
theorem Rv(a b:Mt)(ha:a.ids.length<=1000000)(hb0:b.ids.length<=1000000)(st:St):TrF prog 71 [.agg a.cells,.agg b.cells] st λd st'=>d=.i (Mat.ord a b)/\st'=st:=by
 have hS:=Wh .shared .shared a.ids b.ids ha hb0
 have hC:=Sq a.rule b.rule
 have hO:=λo=>orF o [V.sgn a.rule b.rule,Mat.cmpI a.ids b.ids] (by simp)
 rw[Mat.ord_ors]
 unfold Mt.cells
 generalize V.ors [V.sgn a.rule b.rule,Mat.cmpI a.ids b.ids]=R at *
 rw[Au,Au,BH]at hO
 unfold Bl at hO
 generalize V.sgn a.rule b.rule=c1 at *
 generalize Mat.cmpI a.ids b.ids=c2 at *
 generalize a.ids.map Bl=AC at *
 generalize b.ids.map Bl=BC at *
 generalize a.rule=r1 at *
 generalize b.rule=r2 at *
 clear ha hb0
 replace hS:=Aa hS
 replace hC:=Aa hC
 replace hO:=Aa hO
 refine Qin [4] func71 results71 ntmps71 ?_
 repeat' (first|refine QV ?_|((with_reducible refine QW ?_);intro hne;simp only[nes,ne1,and_assoc]at hne;repeat(have hq:=hne.1;replace hne:=hne.2))|refine QY ?_|refine QB ?_;intro b|with_reducible refine QZ ?_<;>(try constructor)<;>intro hb<;>try intro hb1|refine Qc call95 ((hS.out _)) ?_|refine Qc call75 ((hC.out _)) ?_|refine Qc call94 ((hO.out _ _)) ?_|fail)
 all_goals exact BZ
theorem ao{g : Nat}{ty:TypeId}{cs:List D}{st:St}{w:World}{us:Array Value}[Inhabited (Cell (OwnS (.box g ty cs::st)) w)](hb:w.heap[g]?=some (.cells us ty (0,0)))(n:Nat) :
 CmpLays prog 71 #[] Cell.enc 2 (λx y:Cell (OwnS (.box g ty cs::st)) w=>Mat.ord x.m y.m) g 0 n w:=by
 intro m os dk _ x y
 have he:Ext (OwnS (.box g ty cs::st)) w (OwnS []) (sortWorldK Cell.enc 2 w g 0 m dk os):=by
  unfold sortWorldK putRowK
  exact Uc hb m _ os
 generalize sortWorldK Cell.enc 2 w g 0 m dk os=W at he |-
 have hx:∀c:Cell (OwnS (.box g ty cs::st)) w,Rep (OwnS []) W (.agg c.enc.toArray) (.agg c.m.cells):=λc=>by
  have h2:=c.h2.ext he
  have h1:Rep (OwnS []) W c.v1 (.i c.m.rule):=by rw[c.h1];exact .s _ rfl
  have hr:RepL (OwnS []) W c.enc c.m.cells:=RepL.cons h1 (RepL.cons h2 RepL.nil)
  exact .agg _ _ hr.1 hr.2
 have hv:RepL (OwnS []) W (#[Value.agg x.enc.toArray,Value.agg y.enc.toArray]++(#[]:Array Value)).toList [.agg x.m.cells,.agg y.m.cells]:=by
  rw[Array.append_empty]
  exact RepL.cons (hx x) (RepL.cons (hx y) RepL.nil)
 have hcall:=Rv x.m y.m x.hl y.hl [] _ W hv (NF W)
 refine hcall.mono ?_
 rintro e w' ⟨v,rfl,d,st',h1, -,h3,rfl,rfl⟩
 have hv1:=DI h1
 subst hv1
 exact⟨rfl,MN h3⟩
theorem cy(g cap:Nat)(l:List Mt)(zs:List D)(hl0:l≠[])(hm:∀m∈l,m.ids.length<=1000000)(hll:l.length<=1000000)(st:St):TrF prog 57 [.ar g 0 l.length cap,.fn (.func 71) [] []] (.box g 52 (DS l++zs)::st) λd st'=>∃l',l'.Perm l/\Mat.Srt l'/\d=.tup []/\st'=.box g 52 (DS l'++zs)::st:=by
 intro vs w hv hh
 obtain⟨lv⟩:=vs
 obtain⟨v0,t0,e0,h1,hv⟩:=hv.inv_cons
 obtain⟨v1,t1,e1,h2,hv⟩:=hv.inv_cons
 have e2:=hv.inv_nil
 dsimp only at e0
 subst e2 e1 e0
 cases h1 with
|ar _ _ _ _ c1 c2 =>
 cases h2 with
|fn _ us1 us2 _ _ q1 q2 q3 q4 =>
 obtain rfl:us1=[]:=Ay q1
 obtain rfl:us2=[]:=Ay q2
 obtain⟨⟨us,hb,hr⟩,hlc⟩:=hh.2 _ (Ag ..)
 have hrt:=hr.take (l.length*2)
 rw[CH (by rw[GG];exact Ap _),Bj (l:=DS l) (by rw[GG];exact Ap _)]at hrt
 obtain⟨cs,hcm,hcu⟩:=VH hrt hm
 have hcl:cs.length=l.length:=by
  have:=congrArg List.length hcm
  rwa[Ab]at this
 obtain⟨c0,hc0⟩:∃c0,c0∈cs:=by
  cases cs with
  | nil=>exact absurd hcm.symm hl0
  | cons c cs=>exact⟨c,Ag ..⟩
 haveI:Inhabited (Cell (OwnS (.box g 52 (DS l++zs)::st)) w):=⟨c0⟩
 have hul:us.size=l.length*2+zs.length:=by
  have:=hr.1
  rw[Ad,GG,AR]at this
  exact this
 have hfl:(flatK Cell.enc 2 cs.toArray).toList=us.toList.take (l.length*2):=by rw[PF,hcu]
 have hH:HoldsK Cell.enc 2 w g 0 cs.toArray:=λj hj=>by
  have hj2:j<l.length*2:=by rw[size_flatK]at hj;simpa [hcl]using hj
  refine⟨?_,?_⟩
  . rw[Bo]
    have h3:(flatK Cell.enc 2 cs.toArray).toList[j]?=us.toList[j]?:=by rw[hfl,Dq,if_pos hj2]
    rw[BF,BF,Be hj,Be q_o]at h3
    rw[getElem!_pos _ j hj]
    show _=some (id _)
    rw[id,Cl h3]
    have:=cell_of_row w g j us 52 (0,0) hb
    rw[this,Be q_o]
  . unfold World.frozen?
    dsimp only
    rw[hb];simp
 have hc:=AnyQ.slices_SortFunc Tryz.sortMatch 2 Tryz.isAgg52 Tryz.sizeOf52 Cell.enc (λ_=>rfl) (λx v hv=>by
  rcases Ax.1 hv with rfl|hv
  . rw[x.h1];rfl
  . rw[AB]at hv
    subst hv
    exact x.h2.leafOne rfl) (λx y:Cell (OwnS (.box g 52 (DS l++zs)::st)) w=>Mat.ord x.m y.m) (m7 _ _) 71 #[] g 0 cap cs.toArray w call71 (ao hb _) hH (AE.1 hb).1 (by simp;omega)
 rw[show cs.toArray.size=l.length by simpa using hcl]at hc
 refine hc.mono ?_
 rintro e w' ⟨rfl,d',n,os,⟨hps, -,hpp⟩,hsrt,rfl⟩
 have hds:d'.size=l.length:=by rw[hps];simpa using hcl
 have hext:∀a:Array (Cell (OwnS (.box g 52 (DS l++zs)::st)) w),a.size=l.length->(a.extract 0 l.length).toList=a.toList:=λa ha=>by
  rw[oV]
  simp only[Hx,LD,Ch]
  exact Bj (by rw[AR,ha];exact Ap _)
 rw[hext d' hds,hext cs.toArray (by simpa using hcl)]at hpp
 have hperm:(d'.toList.map Cell.m).Perm l:=(hpp.map Cell.m).trans (IE hcm)
 have hsort:Mat.Srt (d'.toList.map Cell.m):=by
  refine FA.2 λi j hi hj hij=>?_
  rw[Ab,AR]at hi hj
  have h3:=hsrt i j (Ao _) hij q_o
  rw[ltM,getElem!_pos _ i hi,getElem!_pos _ j hj]at h3
  rw[Dy,Dy,Kv,Kv]
  exact Mat.not_less.1 h3
 obtain⟨F,hF⟩:∃F,flatK Cell.enc 2 d'=F:=⟨_,rfl⟩
 have hFl:F.toList=(d'.toList.map Cell.enc).flatten:=by
  have:=PF d'.toList
  rw[oW,hF]at this
  exact this
 have hFs:F.size=l.length*2:=by rw[<-hF,size_flatK,hds]
 have hFll:F.toList.length=l.length*2:=by rw[<-hFs];exact AR
 have hus:(Sort.putCells id 0 F us).toList=(d'.toList.map Cell.enc).flatten++us.toList.drop (l.length*2):=by
  rw[<-hFl]
  apply Cx
  intro k
  unfold Sort.putCells
  rw[BF,QG]
  by_cases hk:k<l.length*2
  . have hk2:k<us.size:=by omega
    rw[Ba q_o,Be hk2,BF,Be (by omega:k<F.size),CK,if_pos ⟨Ao _,by omega⟩,LD,getElem!_pos _ k q_o]
    rfl
  . have e:l.length*2+(k - F.toList.length)=k:=by omega
    rw[BP q_o,Fv,e,BF]
    cases us[k]? with
    | none=>rfl
    | some u=>rw[CK,if_neg q_o]
 have hrep:RepL (OwnS (.box g 52 (DS l++zs)::st)) w (Sort.putCells id 0 F us).toList (DS (d'.toList.map Cell.m)++zs):=by
  rw[hus]
  refine RepL.append (Sv _) ?_
  have:=hr.drop (l.length*2)
  rwa[Kd,Az (l:=DS l) (by rw[GG];omega),AM,show l.length*2 - (DS l).length=0 by rw[GG];omega,Ch]at this
 have hlt:=(AE.1 hb).1
 have hs:=SP (w':=Sort.putRow id (Sort.ahead w n) g 0 F) hh hb (by simp[Sort.putCells]) (Fj _ _) rfl rfl rfl (by simp[Sort.putRow,Sort.mapBlock,Sort.ahead]) (by
  simp only[Sort.putRow,Sort.mapBlock,Sort.ahead]
  rw[Di]
  simp[hb,Sort.onCells]) (λk hk=>by
  simp only[Sort.putRow,Sort.mapBlock,Sort.ahead]
  rw[Di,if_neg (LA hk)]) hrep (λd hd=>by
   rw[Bc]at hd
   exact hd.elim (Zd _ d) λh=>hlc d (Bh _ h))
 have hw:sortWorldK Cell.enc 2 w g 0 n d' os=grow (Sort.putRow id (Sort.ahead w n) g 0 F) os:=by rw[<-hF];rfl
 rw[hw]
 have hg:=Pv hs.1 os
 exact⟨_,rfl,.tup [],_,.tup [] [] rfl (λi h=>absurd h (BL _)),hg,hs.2.trans (Pw _ _ os),d'.toList.map Cell.m,hperm,hsort,rfl,rfl⟩
theorem Oc(st:St):TrF prog 57 [.sl .tight [],.fn (.func 71) [] []] st λd st'=>d=.tup []/\st'=st:=by
 intro vs w hv hh
 obtain⟨lv⟩:=vs
 obtain⟨v0,t0,e0,h1,hv⟩:=hv.inv_cons
 obtain⟨v1,t1,e1,h2,hv⟩:=hv.inv_cons
 have e2:=hv.inv_nil
 dsimp only at e0
 subst e2 e1 e0
 obtain⟨a,cap,us,sz,rfl, -⟩:=Ep h1
 have hc:Calls prog 57 #[.slice a 0 cap,v1] w λe w'=>e=.returned (.tuple #[])/\w'=w:=AnyF.slices_SortFunc_none Tryz.sortMatch a cap v1 w
 refine hc.mono ?_
 rintro e w' ⟨rfl,rfl⟩
 exact⟨_,rfl,.tup [],st,.tup [] [] rfl (λi h=>absurd h (BL _)),hh,Ext.refl _ _,rfl,rfl⟩
end
end
section
open Classical in
noncomputable def tkB (S:NC)(b:Nat):List Int×List V:=if h:∃w∈S.H,w.b=b then tkR S (Classical.choose h)else([],[])
theorem Wb{S:NC}(hS:Nt.Str S []){w:Tok}(hw:w∈S.H):tkB S w.b=tkR S w:=by
 have h:∃v∈S.H,v.b=w.b:=⟨w,hw,rfl⟩
 unfold tkB
 rw[dif_pos h]
 have h1:=QF h
 rw[hS.same h1.1 hw h1.2]
def KM (S:NC):List Nat:=match S.ns[S.ns.length - 1]? with
|some x=>x.ts
|none=>[]
theorem Ny{S:NC}{x:Nd}(h:S.ns[S.ns.length - 1]?=some x):KM S=x.ts:=by unfold KM;rw[h]
theorem Xy{S:NC}{ps:List Pt}{F:List Fc}(h:ChainOk S ps F)(hid:∀f∈F,f.id≠0)(hnd:(F.map Fc.id).Nodup){k:Nat}{x:Nd}(hk:k<=ps.length)(hx:S.ns[k]?=some x):(x.ts.map (tkB S)).Perm (Mat.from_ F (ps.take k) [] Mat.empty):=by
 refine((i8 h.str hx).map _).trans (List.Perm.trans ?_ (Ve h hid hnd k hk))
 rw[Ey]
 exact IE (List.map_congr_left λu hu=>Wb h.str (FW.1 hu).1)
theorem RF{S:NC}{ps:List Pt}{F:List Fc}(h:ChainOk S ps F)(hid:∀f∈F,f.id≠0)(hnd:(F.map Fc.id).Nodup):((KM S).map (tkB S)).Perm (Mat.from_ F ps [] Mat.empty):=by
 obtain⟨x,hx, -⟩:=h.last
 have e:KM S=x.ts:=Ny (by rw[h.nl];exact hx)
 rw[e]
 have:=Xy h hid hnd (Ap _) hx
 rwa[Cb]at this
abbrev En:=Mt×Nat×List V
noncomputable def Og (S:NC)(i:Int):List En:=(KM S).map λb=>(⟨i,(tkB S b).1⟩,b,(tkB S b).2)
noncomputable def El:List NC->Int->List En
|[],_=>[]
|S::l,i=>Og S i++El l (i+1)
theorem WX{cs:List NC}{i:Nat}{S:NC}(h:cs[i]?=some S):El (cs.drop i) i=Og S i++El (cs.drop (i+1)) (i+1:Nat):=by
 rw[V.drop_cons h,El];rfl
theorem Sd:∀(cs:List NC) (R:List Rl) (F:List Fc) (i:Int),(∀f∈F,f.id≠0)->(F.map Fc.id).Nodup->cs.length=R.length->(∀(j:Nat) (x:Rl) (S:NC),R[j]?=some x->cs[j]?=some S->ChainOk S x.pats F)->((El cs i).map Prod.fst).Perm (Mat.flatR (λx=>(Mat.mats x F).map Prod.fst) R i)
|[],[],_,_,_,_,_,_=>.refl _
|[],_::_,_,_,_,_,h,_=>by cases h
|_::_,[],_,_,_,_,h,_=>by cases h
|S::cs,x::R,F,i,hid,hnd,hl,h=>by
  unfold El Mat.flatR
  rw[Bi]
  refine List.Perm.append ?_ (Sd cs R F (i+1) hid hnd (by simpa using hl) λj y T h1 h2=>h (j+1) y T h1 h2)
  have h1:=RF (h 0 x S rfl rfl) hid hnd
  have h2:=(h1.map Prod.fst).map (Mt.mk i)
  refine List.Perm.trans (IE ?_) h2
  unfold Og
  rw[Ey,Ey,Ey]
  rfl
theorem PL:∀(cs:List NC) (i:Int) (y:En),y∈El cs i->∃(k:Nat) (S:NC),cs[k]?=some S/\y.1.rule=i+k/\y.2.1∈KM S/\tkB S y.2.1=(y.1.ids,y.2.2)
|[],_,_,h=>by cases h
|S::cs,i,y,h=>by
  unfold El at h
  rcases Bc.1 h with h|h
  . obtain⟨b,hb,rfl⟩:=Av.1 h
    exact⟨0,S,rfl,by show i=i+((0:Nat):Int);omega,hb,rfl⟩
  . obtain⟨k,T,h1,h2,h3,h4⟩:=PL cs (i+1) y h
    exact⟨k+1,T,h1,by rw[h2];omega,h3,h4⟩
theorem NT.Ok.end_{N:NT}{R:List Rl}(h:N.Ok R){y:En}(hy:y∈El N.cs 0):∃(k:Nat) (x:Rl),R[k]?=some x/\y.1.rule=k/\(y.1.ids,y.2.2)∈Mat.mats x N.fs:=by
 obtain⟨k,S,h1,h2,h3,h4⟩:=PL N.cs 0 y hy
 have hk:k<R.length:=by rw[<-h.cl];exact(Af.1 h1).1
 refine⟨k,R[k],Al hk,by rw[h2];omega,?_⟩
 have hC:=h.ch k R[k] S (Al hk) h1
 have:=(RF hC h.f0 h.nodup).mem_iff.1 (BJ h3)
 rw[h4]at this
 exact this
theorem NT.Ok.ends{N:NT}{R:List Rl}(h:N.Ok R):((El N.cs 0).map Prod.fst).Perm (Mat.raws R N.fs):=Sd N.cs R N.fs 0 h.f0 h.nodup h.cl h.ch
theorem flatR_perm{f g:Rl->List (List Int)}(h:∀x,(f x).Perm (g x)):∀(l:List Rl) (i:Int),(Mat.flatR f l i).Perm (Mat.flatR g l i)
|[],_=>.refl _
|x::l,i=>by
  unfold Mat.flatR
  exact((h x).map _).append (flatR_perm h l (i+1))
theorem Zo{F G:List Fc}(h:F.Perm G)(R:List Rl):(Mat.raws R F).Perm (Mat.raws R G):=flatR_perm (λx=>(from_perm h x.pats [] Mat.empty).map _) R 0
theorem sortM_perm{l m:List Mt}(h:l.Perm m):Mat.sortM l=Mat.sortM m:=Mat.sortM_eq ((Mat.sortM_srt l).2.trans h) (Mat.sortM_srt l).1
end
section
attribute [local push_cast] Br Bl BV V.cells_mk V.cells_len Nat.mul_one Int.sub_zero List.map_nil beq_self_eq_true bne_self_eq_false List.head?_cons Bool.not_true Bool.not_false Nat.zero_add
attribute [-instance] Ck Cu BO Ds
theorem RoundC.inhab{P:Program}{l:Nat}{args:List D}{st:St}{R:D->St->Prop}{w:World}(h:RoundC P l args st R){us:List Value}(hr:RepL (OwnS st) w us args)(hh:Holds st w):∃d st',R d st':=by
 obtain⟨fn,t,a,b, -, -,h2⟩:=h us.toArray w (by simpa using hr) hh
 obtain⟨e,w',⟨v, -,d,s, -, -, -,k⟩, -⟩:=h2 (Frame.round l fn t a b .normal) [] (by first|trivial|simp[FR,Fence.room])
 exact⟨d,s,k⟩
theorem TrF.inhabV{P:Program}{f:FuncId}{ds:List D}{st:St}{w:World}{R:D->St->Prop}(h:TrF P f ds st R){us:List Value}(hr:RepL (OwnS st) w us ds)(hh:Holds st w):∃w' v d st',Rep (OwnS st') w' v d/\Holds st' w'/\R d st':=by
 obtain⟨e,w',fr,⟨v, -,d,st',h1,h2, -,h4⟩, -⟩:=h us.toArray w (by simpa using hr) hh []
 exact⟨w',v,d,st',h1,h2,h4⟩
section
variable {P:Program} {r:Option Nat} {A:AA} {m:Option Ro} {k:D->St->Prop} {dst:Option Tmp} {ty:TypeId} {pos:String} {aft:Array Edge} {gd:Option (Nat×Bool)}
theorem bp{l:Nat}{X:Type}{args:X->List D}{L:List X}{J Jx:Nat->St->Prop}{f:St->St}{K C:St}{i:Nat}{x:X}{g:Operand}{oas:Array Operand}{tys:Array TypeId}{ds:List D}
 (hY:Jn P l args L J Jx)(hJ:J i C)(hx:L[i]?=some x)(hin:∃C',J (i+1) C'\/Jx (i+1) C')(hg:ev A.e g=some (.fn (.yield l) [] []))(ha:evL A.e oas.toList=some ds)(hle:LEL ds (args x))(hf:∀C,f C=K++C)
 (hk1:∀C',J (i+1) C'->CZ m (f C')/\k (.s (.bool true)) (f C'))(hk0:∀C',Jx (i+1) C'->CZ m (f C')/\k (.s (.bool false)) (f C')):S P r m ⟨dst,.call ⟨.value g,oas,tys⟩,ty,pos,aft,gd⟩ A (f C) k:=by
 refine Ek (R:=λd st'=>∃C',st'=f C'/\((d=.s (.bool true)/\J (i+1) C')\/(d=.s (.bool false)/\Jx (i+1) C'))) rfl (Nw rfl rfl hg ha ?_) ?_ ?_
 . refine(RoundC.perm (by rw[hf];exact Bm) (hY i x C K hx hJ) ?_).le hle
   rintro d s ⟨C',rfl,hc⟩
   exact⟨f C',by rw[hf];exact Bm,C',rfl,hc⟩
 . rcases hin with⟨C',h|h⟩
   . exact⟨_,_,C',rfl,.inl ⟨rfl,h⟩⟩
   . exact⟨_,_,C',rfl,.inr ⟨rfl,h⟩⟩
 . rintro d st' ⟨C',rfl,⟨rfl,h⟩|⟨rfl,h⟩⟩
   . exact hk1 C' h
   . exact hk0 C' h
end
theorem cr(S:NC)(k:Nat)(x:Nd)(hx:S.ns[k]?=some x)(hS:Nt.Str S [])(st:St):TrF prog 104 [.ptr S.g (k*9+6)] (S.st++st) λd st'=>d=.fn (.func 141) [] [.ip [.sl .shared (Gm x.ts)]]/\st'=S.st++st:=by
 have h6:=(NC.at_T hx).append_right st
 simp only[AI,Ai]at h6
 have h8:=Ov S.g 115 (JW S.ns k x) (GQ S.ns k S.zs) x.tm x.ts (hS.okx x (Ah hx)).2 (Nt.ts_len hS hx) (x.fm.resF x.fs++(S.off k++st))
 rw[KI hx]at h8
 exact TrF.permPost h6 (h8.mono λd st' ⟨e1,e2⟩=>⟨_,⟨e1,rfl⟩,by rw[e2];exact h6.symm⟩)
theorem MG(n:D)(hn:n=.s (.pointer none)\/∃b,n=.ptr b 0)(st:St):TrF prog 70 [n] st λd st'=>d=.fn (.func 106) [] [.ip [n]]/\st'=st:=by
 rcases hn with rfl|⟨b,rfl⟩
 . refine Qin [2] func70 results70 ntmps70 ?_
   exact WR
 . refine Qin [2] func70 results70 ntmps70 ?_
   exact WR
def HasN (N:NT)(C:St):Prop:=∃C',C.Perm (N.st++C')
theorem HasN.app{N:NT}(C B:St)(h:HasN N C):HasN N (C++B):=by
 obtain⟨C',h⟩:=h
 exact⟨C'++B,by rw[<-Ai];exact h.append_right B⟩
def dq (y:En):List D:=[.agg y.1.cells,.ptr y.2.1 0]
theorem Of:YD prog 106 [.ip [.s (.pointer none)]] dq [] [] (λR=>R=[]) (λ_ R=>R=[]) (λ_=>True):=by
 intro l C J Jx hY hPr hJ
 have HJ:=Aa hJ
 clear hY hPr hJ
 refine Qin [] func106 results106 ntmps106 ?_
 repeat' (first|refine QV ?_|((with_reducible apply Mx);(focus kernel_rfl);(focus exact q_v))|refine QY ?_|refine QB ?_;intro b|with_reducible refine QZ ?_<;>(try constructor)<;>intro hb<;>try intro hb1|fail)
 exact Bf q_x q_y q_u (LE.refl _) ⟨[],C,rfl,.inl ⟨rfl,HJ.out⟩⟩
theorem VC(N:NT)(R:List Rl)(hN:N.Ok R)(hR:R.length<=1000):YD prog 106 [.ip [.ptr N.b 0]] dq (El N.cs 0) [] (λR=>R=[]) (λ_ R=>R=[]) (HasN N):=by
 intro l C J Jx hY hPr hJ
 obtain⟨J',hJ'⟩:∃J':Nat->St->Prop,J'=λi C0=>∃C',J i C'/\C0.Perm C':=⟨_,rfl⟩
 have HY:Hid (Jn prog l dq (El N.cs 0) J' Jx):=by
  subst hJ'
  rintro i x C0 K hx ⟨C',h1,h2⟩
  refine RoundC.perm (h2.append_right K) (hY i x C' K hx h1) ?_
  rintro d s ⟨C1,rfl,⟨e,h⟩|⟨e,h⟩⟩
  . exact⟨_,.refl _,C1,rfl,.inl ⟨e,C1,h,.refl _⟩⟩
  . exact⟨_,.refl _,C1,rfl,.inr ⟨e,h⟩⟩
 have HP:Hid (∀i C0,J' i C0->∃C',C0.Perm (N.st++C')/\J' i (N.st++C')):=by
  subst hJ'
  rintro i C0 ⟨C1,h1,h2⟩
  obtain⟨C',h3⟩:=hPr i C1 h1
  exact⟨C',h2.trans h3,C1,h1,h3.symm⟩
 have HE:Hid (∀C0,J' (El N.cs 0).length C0->∃C1,J (El N.cs 0).length C1/\C0.Perm C1):=by
  subst hJ'
  rintro C0 ⟨C1,h1,h2⟩
  exact⟨C1,h1,h2⟩
 have H0:Hid (J' 0 C):=by
  subst hJ'
  exact⟨C,hJ,.refl _⟩
 obtain⟨E,hE⟩:∃E,E=El N.cs 0:=⟨_,rfl⟩
 rw[<-hE]at HY HE
 have E0:Hid (E.drop 0=El (N.cs.drop 0) ((0:Nat):Int)):=by rw[Ch,Ch];exact hE
 have HN:=Aa hN
 have hcl:N.cs.length<=1000:=by have:=hN.cl;omega
 rw[<-hE]
 clear hY hJ hPr hJ' hN hR hE
 refine Qin [] func106 results106 ntmps106 ?_
 obtain⟨C',hC',H1⟩:=HP.out 0 C H0.out
 obtain⟨W,hW⟩:∃W,W=N.fm.resF N.fs++N.cs.flatMap NC.st++C':=⟨_,rfl⟩
 have hNs:∀C',N.st++C'=.box N.b 105 N.cells::(N.fm.resF N.fs++N.cs.flatMap NC.st++C'):=λC'=>rfl
 refine Bn (st':=.box N.b 105 N.cells::W) (by rw[hW,<-hNs];exact hC') ?_
 rw[hNs,<-hW]at H1
 clear H0 hC' hW
 have hrl:N.row.length=N.cs.length:=by unfold NT.row;rw[Ab]
 obtain⟨m0,m1,m2,hm⟩:=N.fm.cells3 N.fs.length
 have hcells:N.cells=[.sl .shared N.row,m0,m1,m2]:=by unfold NT.cells;rw[hm]
 rw[hcells]at hNs H1 |-
 have hrow:Hid (∀(i:Nat) (S:NC),N.cs[i]?=some S->N.row[i]?=some [.ptr S.c 0]):=λi S h=>by unfold NT.row;rw[Aq,h];rfl
 obtain⟨ROW,hROW⟩:∃ROW,ROW=N.row:=⟨_,rfl⟩
 rw[<-hROW]at hNs hrl hrow H1 |-
 replace hROW:=Aa hROW
 obtain⟨n,hn⟩:∃n,n=N.cs.length:=⟨_,rfl⟩
 rw[<-hn]at hcl hrl
 obtain⟨nb,hnb⟩:∃nb,nb=N.b:=⟨_,rfl⟩
 rw[<-hnb]
 replace hn:=Aa hn
 replace hnb:=Aa hnb
 replace hNs:=Aa hNs
 replace H1:=Aa H1
 clear hcells hm
 repeat' (first|refine QV ?_|((with_reducible apply Jz);(focus kernel_rfl);(focus exact q_v))|refine QY ?_|refine QB ?_;intro b|with_reducible refine QZ ?_<;>(try constructor)<;>intro hb<;>try intro hb1|fail)
 refine Bs (ι:=Nat) (λi A st'=>∃(C':St) (off:Nat) (rs:List Nat),i<=n/\Hid (J' off C')/\Hid (E.drop off=El (N.cs.drop i) i)/\off<=E.length/\A.df=rs.map Fx/\A.e 2=.ip [.fn (.yield l) [] []]/\A.e 11=.sl .shared ROW/\A.e 12=.i n/\A.e 13=.i i/\st'=rs.map BK++C') (λi=>n - i) 0 ⟨_,0,[],Ao _,H1,E0,Ao _,Qf,Qf,Qf,Qf,Qf,by rw[hnb.out];rfl⟩ ?_
 clear H1 E0
 rintro i A st' ⟨C1,off,rs,hi,HJ,HO,hol,hdf,e2,e11,e12,e13,rfl⟩
 by_cases hlt:i<n
 . obtain⟨S,hS⟩:∃S,N.cs[i]?=some S:=⟨_,Al (by rw[<-hn.out];exact hlt)⟩
   obtain⟨x,hx⟩:∃x,R[i]?=some x:=⟨_,Al (by rw[<-HN.out.cl,<-hn.out];exact hlt)⟩
   have hC:=HN.out.ch i x S hx hS
   have hrc:=hrow.out i S hS
   obtain⟨y,hy, -⟩:=hC.last
   have hlast:KM S=y.ts:=Ny (by rw[hC.nl];exact hy)
   have hOd:=HO.out
   rw[WX hS]at hOd
   have hEc:∀(j b:Nat),y.ts[j]?=some b->E[off+j]?=some (⟨i,(tkB S b).1⟩,b,(tkB S b).2):=λj b hb=>by
    have h1:(E.drop off)[j]?=(Og S i)[j]?:=by
     rw[hOd,Ba]
     unfold Og
     rw[hlast,Ab]
     exact(Af.1 hb).1
    rw[Fv]at h1
    rw[h1]
    unfold Og
    rw[hlast,Aq,hb]
    rfl
   have hcel:(Og S i).length=y.ts.length:=by unfold Og;rw[Ab,hlast]
   have hO2:Hid (E.drop (off+y.ts.length)=El (N.cs.drop (i+1)) (i+1:Nat)):=by
    rw[<-CY,hOd,<-hcel,CN]
    exact Aa rfl
   have hol2:Hid (off+y.ts.length<=E.length):=by
    have h1:=congrArg List.length hOd
    rw[AO,Ad,hcel]at h1
    show _<=_
    omega
   have hw:Hid (∀(j b:Nat),y.ts[j]?=some b->∃w∈S.H,w.b=b/\(tkB S b).1=Jj S w):=λj b hb=>by
    obtain⟨w,w1,w2, -⟩:=(hC.str.tm _ y hy b).1 (Ah hb)
    refine⟨w,w1,w2,?_⟩
    rw[<-w2,Wb hC.str w1]
    rfl
   have htl:=Nt.ts_len hC.str hy
   obtain⟨C2,hC2,hJ2⟩:=HP.out off C1 HJ.out
   obtain⟨RR,hRR⟩:∃RR,RR=Res.box N.b 105 (.sl .shared N.row::N.fm.cells N.fs.length)::(N.fm.resF N.fs++(((N.cs.take i).flatMap NC.st++(N.cs.drop (i+1)).flatMap NC.st)++C2)):=⟨_,rfl⟩
   have hat:Hid (∀s,∃RR,(N.st++s).Perm (S.st++RR)):=λs=>⟨_,JD (N:=N) (M:=N.fm) (F:=N.fs) hS s⟩
   obtain⟨RR,hRR⟩:=hat.out C2
   obtain⟨X,hX⟩:∃X,X=Res.box S.g 115 (CJ S.ns++S.zs)::((S.ns.flatMap Nd.res++S.H.flatMap Tok.res)++(RR++rs.map BK)):=⟨_,rfl⟩
   have hSX:S.st++(RR++rs.map BK)=.box S.c 109 [.ar S.g 0 S.ns.length S.cap]::X:=by rw[hX];rfl
   have hp1:(rs.map BK++C1).Perm (.box S.c 109 [.ar S.g 0 S.ns.length S.cap]::X):=by
    rw[<-hSX,<-Ai]
    exact(Bm (l₁:=rs.map BK)).trans ((hC2.trans hRR).append_right _)
   have hall:Hid (∀B:Res,TrF prog 104 [.ptr S.g (x.pats.length*9+6)] (B::.box S.c 109 [.ar S.g 0 S.ns.length S.cap]::X) λd st'=>d=.fn (.func 141) [] [.ip [.sl .shared (Gm y.ts)]]/\st'=B::.box S.c 109 [.ar S.g 0 S.ns.length S.cap]::X):=λB=>by
    rw[<-hSX]
    exact TrF.permPost AD.symm ((cr S _ y hy hC.str (B::(RR++rs.map BK))).mono λd st' ⟨e1,e2⟩=>⟨_,⟨e1,rfl⟩,by rw[e2];exact AD⟩)
   have hids:Hid (∀(j b:Nat),y.ts[j]?=some b->∀(B:Res) (M:St) (s:St),TrF prog 107 [.ptr b 0] (B::(M++(N.st++s))) λd st'=>d=.sl .shared ((tkB S b).1.map Bl)/\st'=B::(M++(N.st++s))):=λj b hb B M s=>by
    obtain⟨w,w1,w2,w3⟩:=hw.out j b hb
    obtain⟨R2,hR2⟩:=hat.out s
    have hp:(B::(M++(N.st++s))).Perm (S.st++(R2++(B::M))):=by
     show List.Perm ((B::M)++(N.st++s)) _
     rw[<-Ai S.st]
     exact Bm.trans (hR2.append_right _)
    rw[w3,<-w2]
    exact TrF.permPost hp ((nA S w hC.str w1 _).mono λd st' ⟨e1,e2⟩=>⟨_,⟨e1,rfl⟩,by rw[e2];exact hp.symm⟩)
   have hpj:Hid (∀j,j<=0->J' (off+j) C1):=λj hj=>by
    have:off+j=off:=by omega
    rw[this];exact HJ.out
   have hnl:=hC.nl
   have hp4:x.pats.length<=4:=by have:=hC.str.nl;omega
   have hcap:S.ns.length<=S.cap:=by
    have:=hC.str.row
    rw[Ad,DP]at this
    omega
   rw[hnl]at hp1 hall hcap
   replace hEc:=Aa hEc
   have hIt:=Aa (Ou y.ts htl)
   refine Bn hp1 ?_
   have hp1s:Hid ((Res.box S.c 109 [.ar S.g 0 (x.pats.length+1) S.cap]::X).Perm (rs.map BK++C1)):=hp1.symm
   clear hp1 hSX hX hRR hC2 hJ2 hat hw htl hcel hOd hlast hy hC hx hS hnl hrow
   generalize Gm y.ts=LP at *
   generalize x.pats.length=pl at *
   generalize S.c=sc at *
   generalize S.g=sg at *
   generalize S.cap=scap at *
   have hpl1:(pl:Int)+1 - 1=pl:=by omega
   repeat' (first|refine QV ?_|((with_reducible apply(Da (id:=5) [(sc,[.ar sg 0 (pl+1) scap])]));(iterate 3 (focus kernel_rfl));(focus exact q_k);intro hne;(try simp only[nes,ne1,and_assoc]at hne);repeat(have hq:=hne.1;replace hne:=hne.2))|((with_reducible refine And.intro ?_ ?_);(focus exact q_k))|((with_reducible apply(DL call104));(focus exact Ar _);(focus exact hall.out _);(focus exact LEL.refl _);(focus exact⟨_,_,rfl,rfl⟩);(rintro d2 st2 ⟨rfl,rfl⟩;refine⟨by((repeat(first|exact BI|refine BX q_m ?_));done),?_⟩))|(with_reducible refine Du ?_)|refine QY ?_|refine QB ?_;intro b|with_reducible refine QZ ?_<;>(try constructor)<;>intro hb<;>try intro hb1|fail)
   obtain⟨ib,rfl⟩:∃q,q=b:=⟨_,rfl⟩
   refine Bn (st':=[]++(.box ib 3 [.i i]::(rs.map BK++C1))) (hp1s.out.cons _) ?_
   refine Iu hIt.out call141 q_v (λ_=>rfl) rfl (λj Cc=>∃C3,Cc=.box ib 3 [.i i]::(rs.map BK++C3)/\J' (off+j) C3) (λc j Cc=>c=Code.ret/\∃C3 i',Cc=.box ib 3 [.i i]::(rs.map BK++C3)/\Jx i' C3) ⟨C1,rfl,HJ.out⟩ ?_ ?_ ?_
   . rintro l2 j tb Cc K hb ⟨C3,rfl,hJ3⟩
     have hx:=hEc.out j tb hb
     have hid:=hids.out j tb hb
     obtain⟨C4,hp4,hJ4⟩:=HP.out _ _ hJ3
     clear hEc hids hall hIt HP HE hO2 hol2 HO hpj hb
     generalize (tkB S tb).2=tenv at *
     generalize (tkB S tb).1=tids at *
     refine(?_:Tr _ _ _ _ (AA.put ⟨_,[]⟩ (some 31) (.ptr tb 0)) (.box ib 3 [.i i]::((rs.map BK++C3)++K)) _)
     repeat' (first|refine QX ?_|refine QB ?_;intro b|with_reducible refine QZ ?_<;>(try constructor)<;>intro hb<;>try intro hb1|fail)
     refine⟨.box ib 3 [.i i]::(rs.map BK++C3),Aj _,λK'=>?_⟩
     clear K
     obtain⟨YC,hYC⟩:∃YC,YC=N.st++C4:=⟨_,rfl⟩
     obtain⟨M,hM⟩:∃M,M=rs.map BK++K':=⟨_,rfl⟩
     have hid2:=Aa (hid (.box ib 3 [.i i]) M C4)
     rw[<-hYC]at hid2 hJ4 hp4
     have hpm:((.box ib 3 [.i i]::(rs.map BK++C3))++K').Perm (.box ib 3 [.i i]::(M++YC)):=by
      rw[hM,AI,Ai,Ai]
      exact((Bm.trans (hp4.append_left K')).append_left _).cons _
     have hback:Hid (∀C5,(Res.box ib 3 [.i i]::(M++C5)).Perm ((.box ib 3 [.i i]::(rs.map BK++C5))++K')):=λC5=>by
      rw[hM,AI,Ai,Ai]
      exact(Bm.append_left _).cons _
     have hinh:Hid ((∃w,Holds (.box ib 3 [.i i]::(M++YC)) w)->∃C',J' (off+j+1) C'\/Jx (off+j+1) C'):=λ⟨w,hw⟩=>by
      obtain⟨w',v,d,st2,k1,k2,rfl,rfl⟩:=hid2.out.inhabV (us:=[.pointer (some ⟨tb,0,none⟩)]) (RepL.cons (.ptr _ _) .nil) hw
      have hpp:(Res.box ib 3 [.i i]::(M++YC)).Perm (YC++(.box ib 3 [.i i]::M)):=(Bm (l₁:=Res.box ib 3 [.i i]::M) (l₂:=YC))
      rw[OwnS.perm hpp]at k1
      have hagg:Rep (OwnS (YC++(.box ib 3 [.i i]::M))) w' (.agg #[.int .i64 i,v]) (.agg [.i i,.sl .shared (tids.map Bl)]):=by
       have h3:RepL (OwnS (YC++(.box ib 3 [.i i]::M))) w' [.int .i64 i,v] [.i i,.sl .shared (tids.map Bl)]:=RepL.cons (.s _ rfl) (RepL.cons k1 .nil)
       exact .agg [_,_] _ h3.1 h3.2
      obtain⟨d2,st3,C', -,h5⟩:=(HY.out _ _ YC (.box ib 3 [.i i]::M) hx hJ4).inhab (us:=[.agg #[.int .i64 i,v],.pointer (some ⟨tb,0,none⟩)]) (RepL.cons hagg (RepL.cons (.ptr _ _) .nil)) (k2.perm hpp)
      rcases h5 with⟨-,h⟩|⟨-,h⟩
      . exact⟨C',.inl h⟩
      . exact⟨C',.inr h⟩
     refine Hl ?_
     refine Bn hpm ?_
     have hye:dq (⟨(i:Int),tids⟩,tb,tenv)=[.agg [.i i,.sl .shared (tids.map Bl)],.ptr tb 0]:=rfl
     generalize tids.map Bl=IC at *
     replace hJ4:=Aa hJ4
     clear hpm hM hp4 hJ3 hid hYC
     repeat' (first|refine QV ?_|((with_reducible apply(La (id:=7) [(ib,[.i i])]));(iterate 3 (focus kernel_rfl));(focus exact q_k);intro hne;(try simp only[nes,ne1,and_assoc]at hne);(repeat(have hq:=hne.1;replace hne:=hne.2));intro hw)|((with_reducible refine And.intro ?_ ?_);(focus exact q_k))|((with_reducible apply(bp (f:=λx=>.box ib 3 [.i i]::(M++x)) (K:=.box ib 3 [.i i]::M) HY.out hJ4.out hx (hinh.out hw)));(focus exact q_v);(focus exact q_v);(focus(rw[hye];exact LEL.refl _));(focus exactλ_=>rfl);all_goals(intro C' hC';refine⟨by((repeat(first|exact BI|refine BX q_m ?_));done),?_⟩))|((with_reducible apply(DL call107));(focus exact Ar _);(focus exact hid2.out);(focus exact LEL.refl _);(focus exact⟨_,_,rfl,rfl⟩);(rintro d2 st2 ⟨rfl,rfl⟩;refine⟨by((repeat(first|exact BI|refine BX q_m ?_));done),?_⟩))|(with_reducible refine Du ?_)|refine QY ?_|refine QB ?_;intro b|with_reducible refine QZ ?_<;>(try constructor)<;>intro hb<;>try intro hb1|fail)
     . exact⟨(.box ib 3 [.i i]::(rs.map BK++C'))++K',hback.out C',_,Aj _,C',rfl,hC'⟩
     . exact⟨(.box ib 3 [.i i]::(rs.map BK++C'))++K',hback.out C',_,Aj _,rfl,C',_,rfl,hC'⟩
   . rintro d K1 C' rfl ⟨C3,rfl,hJ3⟩
     clear hEc hids hall hIt HP HE hpj HO hol
     change Tr _ _ _ _ _ _ _
     refine Bn (st':=.box ib 3 [.i i]::(BK d::(rs.map BK++C3))) (List.Perm.swap _ _ _) ?_
     repeat' (first|refine QX ?_|refine QB ?_;intro b|with_reducible refine QZ ?_<;>(try constructor)<;>intro hb<;>try intro hb1|fail)
     refine⟨i+1,BK d::(rs.map BK++C3),(Aj _).cons _,⟨C3,off+y.ts.length,d::rs,hlt,Aa hJ3,hO2,hol2.out,?_,?_,?_,?_,?_,rfl⟩,by omega⟩
     all_goals first|exact congrArg (List.cons (Fx d)) hdf|exact Qf
   . rintro c d j K1 C' rfl ⟨rfl,C3,i',rfl,hJ3⟩
     clear hEc hids hall hIt HP HE hpj HO hol hO2 hol2
     change Tr _ _ _ _ _ _ _
     refine Bn (st':=.box ib 3 [.i i]::(BK d::(rs.map BK++C3))) (List.Perm.swap _ _ _) ?_
     repeat' (first|refine QX ?_|refine QB ?_;intro b|with_reducible refine QZ ?_<;>(try constructor)<;>intro hb<;>try intro hb1|fail)
     exact Ha (rs:=d::rs) q_x (congrArg (List.cons (Fx d)) hdf) (s2:=.box ib 3 [.i i]::C3) ((AD (l₁:=BK d::rs.map BK)).symm) (AK ..) (LE.refl _) ⟨[],C3,rfl,.inr ⟨_,rfl,hJ3⟩⟩
 . have hil:i=n:=by omega
   subst hil
   have hO3:E.drop off=[]:=by
    rw[HO.out,Az (l:=N.cs) (by rw[<-hn.out];exact Ap _)]
    rfl
   have hoff:off=E.length:=by
    have:=List.drop_eq_nil_iff.1 hO3
    omega
   subst hoff
   obtain⟨C2,h1,h2⟩:=HE.out _ HJ.out
   clear HO hO3 HE HP HY HJ
   repeat' (first|refine QX ?_|refine QB ?_;intro b|with_reducible refine QZ ?_<;>(try constructor)<;>intro hb<;>try intro hb1|fail)
   exact Ha q_x hdf (h2.append_left _) (Aj _) (LE.refl _) ⟨[],C2,rfl,.inl ⟨rfl,h1⟩⟩
end
section
attribute [local push_cast] Br Bl BV V.cells_mk V.cells_len Nat.mul_one Int.sub_zero List.map_nil beq_self_eq_true bne_self_eq_false List.head?_cons Bool.not_true Bool.not_false Nat.zero_add
theorem OutS.hasN{N:NT}{b:Nat}{acc:List Mt}{st C core:St}(hp:C.Perm core)(h:OutS b acc (N.st++st) core):HasN N C:=by
 rcases h with⟨-,rfl⟩|⟨-,g,cap,zs, -,rfl⟩
 . exact⟨_,hp.trans AD.symm⟩
 . exact⟨_,hp.trans ((AD.symm.cons _).trans AD.symm)⟩
theorem Pl(N:NT)(R:List Rl)(hN:N.Ok R)(hR:R.length<=1000)(hl:(El N.cs 0).length<=1000000)(hid:∀y∈El N.cs 0,y.1.ids.length<=1000000)(st:St):TrF prog 37 [.ptr N.b 0] (N.st++st) (AllRaw ((El N.cs 0).map Prod.fst) (N.st++st)):=by
 have hIt:=Aa (VC N R hN hR)
 have hEn:=Aa λ(st:St)=>MG (.ptr N.b 0) (.inr ⟨_,rfl⟩) st
 have HasO:=Aa λ(b:Nat) (acc:List Mt) (C core:St) (hp:C.Perm core) (h:OutS b acc (N.st++st) core)=>h.hasN hp
 have happ:=Aa λ(C B:St) (h:HasN N C)=>h.app C B
 generalize El N.cs 0=E at *
 generalize N.st++st=RS at *
 generalize HasN N=PN at *
 generalize N.b=nb at *
 clear hN hR
 refine Qin [2] func37 results37 ntmps37 ?_
 repeat' (first|refine QX ?_|refine QB ?_;intro b|with_reducible refine QZ ?_<;>(try constructor)<;>intro hb<;>try intro hb1|refine Qc call70 ((hEn.out _)) ?_|fail)
 revert b
 intro b3
 refine Bn (st':=[]++(.box b3 48 [.sl .tight []]::RS)) (.refl _) ?_
 refine It hIt.out call106 q_v (λ_=>rfl) rfl (λj C=>∃core,C.Perm core/\OutS b3 ((E.take j).map Prod.fst) RS core) (λ_ _ _=>False) happ.out (λi C ⟨core,hp,h⟩=>HasO.out _ _ _ _ hp h) ⟨_,.refl _,.inl ⟨rfl,rfl⟩⟩ ?_ ?_ (λ_ _ _ _ _ _ h=>h.elim)
 . rintro l j y C K hy ⟨core,hp,hO⟩
   have hs:(E.take (j+1)).map Prod.fst=(E.take j).map Prod.fst++[y.1]:=by rw[Bk,hy,Bw,Bi];rfl
   have hl1:((E.take j).map Prod.fst).length<=1000000:=by rw[Ab,AQ];omega
   have hyc:dq y=[.agg [.i y.1.rule,.sl .shared (y.1.ids.map Bl)],.ptr y.2.1 0]:=rfl
   have hmc:Mt.cells y.1=[.i y.1.rule,.sl .shared (y.1.ids.map Bl)]:=rfl
   clear hIt hEn hl hid HasO happ hy
   generalize (E.take j).map Prod.fst=acc at *
   obtain⟨me,yb,ye⟩:=y
   dsimp only at *
   generalize hY1:me.ids.map Bl=Y1 at *
   generalize hri:me.rule=ri at *
   refine Bn (hp.append_right K) ?_
   refine(?_:Tr _ _ _ _ (AA.put (AA.put ⟨_,[]⟩ (some 7) (.agg [.i me.rule,.sl .shared (me.ids.map Bl)])) (some 8) (.ptr yb 0)) (core++K) _)
   rw[hY1,hri]
   clear hp
   repeat' (first|refine QX ?_|refine QB ?_;intro b|with_reducible refine QZ ?_<;>(try constructor)<;>intro hb<;>try intro hb1|fail)
   revert b
   intro b4
   refine⟨.box b4 52 [.i ri,.sl .shared Y1]::core,Aj _,λK'=>?_⟩
   clear K
   rcases hO with⟨hnil,rfl⟩|⟨hne,g,cap,zs,hz,rfl⟩
   . subst hnil
     have hrm:DS [me]=[[D.i ri,D.sl .shared Y1]].flatten:=by
      unfold DS
      rw[Au,hmc];rfl
     refine(?_:Tr _ _ _ _ _ (.box b4 52 [.i ri,.sl .shared Y1]::.box b3 48 [.sl .tight []]::(RS++K')) _)
     repeat' (first|refine QV ?_|with_reducible refine Hz ?_|with_reducible refine Kj ?_|((with_reducible apply HH);(focus exact q_n);(focus exact CP rfl);(focus exact q_n);(focus exact q_n);intro g' cap' zs' hc hl')|refine QY ?_|refine QB ?_;intro b|with_reducible refine QZ ?_<;>(try constructor)<;>intro hb<;>try intro hb1|fail)
     refine⟨.box g' 52 (_++zs')::.box b3 48 [.ar g' 0 1 cap']::RS,((Aj _).cons _).cons_cons _,.box b3 48 [.ar g' 0 1 cap']::.box g' 52 ([[D.i ri,D.sl .shared Y1]].flatten++zs')::RS,List.Perm.swap _ _ _,.inr ⟨?_,g',cap',zs',?_,?_⟩⟩
     . rw[hs];exact Gi _ _
     . rw[hs,AM,hrm];exact hl'
     . rw[hs,AM,hrm];rfl
   . have hrl:(DS acc).length=acc.length*2:=GG _
     refine(?_:Tr _ _ _ _ _ (.box b4 52 [.i ri,.sl .shared Y1]::.box b3 48 [.ar g 0 acc.length cap]::.box g 52 (DS acc++zs)::(RS++K')) _)
     have hra:=Ur acc me
     rw[hmc]at hra
     have hle:(acc++[me]).length=acc.length+1:=Ad
     generalize DS acc=RW at *
     generalize acc.length=n at *
     repeat' (first|refine QV ?_|with_reducible refine Hy ?_|with_reducible refine Kl ?_|((with_reducible apply(Ii hrl hz));(focus(intro g' cs';repeat(first|exact Hn|apply Hm)));(focus exact CP rfl);(iterate 2 (focus exact q_n));intro g' cap' zs' hc hl')|refine QY ?_|refine QB ?_;intro b|with_reducible refine QZ ?_<;>(try constructor)<;>intro hb<;>try intro hb1|fail)
     refine⟨.box b3 48 [.ar g' 0 (n+1) cap']::.box g' 52 (RW++[[D.i ri,D.sl .shared Y1]].flatten++zs')::RS,(Aj _).cons _,_,.refl _,.inr ⟨?_,g',cap',zs',?_,?_⟩⟩
     . rw[hs];exact Xt _ (Gi _ _)
     . rw[hs,hra];exact hl'
     . rw[hs,hra,hle]
 . rintro d K1 C' rfl ⟨core,hp,hO⟩
   rw[Cb]at hO
   have hAi:∀m∈E.map Prod.fst,m.ids.length<=1000000:=λm hm=>by
    obtain⟨y,hy,rfl⟩:=Av.1 hm
    exact hid y hy
   have hM:(E.map Prod.fst).length<=1000000:=by rw[Ab];exact hl
   clear hIt hEn hl hid HasO happ
   generalize E.map Prod.fst=acc at *
   change Tr _ _ _ _ _ _ _
   rcases hO with⟨rfl,rfl⟩|⟨hne,g,cap,zs,hz,rfl⟩
   . have hSn:=Aa Oc
     refine Bn (st':=.box b3 48 [.sl .tight []]::BK d::RS) ((hp.cons _).trans (List.Perm.swap _ _ _)) ?_
     clear hp
     repeat' (first|refine QX ?_|refine QB ?_;intro b|with_reducible refine QZ ?_<;>(try constructor)<;>intro hb<;>try intro hb1|refine Qc call57 ((hSn.out _)) ?_|fail)
     exact Ha (rs:=[d]) q_x q_y (s2:=.box b3 48 [.sl .tight []]::RS) (List.Perm.swap _ _ _) (AK ..) (LE.of_eq q_v) (.inl ⟨rfl,rfl,rfl⟩)
   . have hS:=Aa (cy g cap acc zs hne hAi hM)
     have hEx:Hid (∀st:St,∃(d:D) (st':St) (l':List Mt),l'.Perm acc/\Mat.Srt l'/\d=.tup []/\st'=.box g 52 (DS l'++zs)::st):=λst=>⟨_,_,Mat.sortM acc,(Mat.sortM_srt acc).2,(Mat.sortM_srt acc).1,rfl,rfl⟩
     refine Bn (st':=.box b3 48 [.ar g 0 acc.length cap]::.box g 52 (DS acc++zs)::BK d::RS) ((hp.cons _).trans ((List.Perm.swap _ _ _).trans ((List.Perm.swap _ _ _).cons _))) ?_
     clear hp
     repeat' (first|refine QX ?_|refine QB ?_;intro b|with_reducible refine QZ ?_<;>(try constructor)<;>intro hb<;>try intro hb1|((with_reducible apply(DL call57));(focus exact List.Perm.swap _ _ _);(focus exact hS.out _);(focus exact LEL.refl _);(focus exact hEx.out _);(rintro d st' ⟨l',hp',hs',rfl,rfl⟩))|fail)
     have hl':=Mat.sortM_eq hp' hs'
     exact Ha (rs:=[d]) q_x q_y (s2:=.box g 52 (DS l'++zs)::.box b3 48 [.ar g 0 acc.length cap]::RS) (CV (CV DA)) ((AK ..).cons_cons _) (LE.of_eq q_v) (.inr ⟨hne,g,cap,zs,rfl,by rw[hl']⟩)
theorem NT.Ok.ids_len{N:NT}{R:List Rl}(h:N.Ok R)(hp:∀x∈R,x.pats.length<=4):∀y∈El N.cs 0,y.1.ids.length<=4:=λy hy=>by
 obtain⟨k,x,h1,h2,h3⟩:=h.end_ hy
 have:=Mat.mats_len h3
 have h4:=hp x (Ah h1)
 exact Cp this h4
theorem UZ(N:NT)(R:List Rl)(hN:N.Ok R)(hR:R.length<=1000)(hp:∀x∈R,x.pats.length<=4)(hl:(Mat.raws R N.fs).length<=1000000)(st:St):TrF prog 37 [.ptr N.b 0] (N.st++st) λd st'=>d=.sl .shared ((Mat.sortM (Mat.raws R N.fs)).map Mt.cells)/\st'=N.st++st:=by
 have hp2:=hN.ends
 have h:=AllRaw.rest (Pl N R hN hR (by have:=hp2.length_eq;rw[Ab]at this;omega) (λy hy=>by have:=hN.ids_len hp y hy;omega) st)
 rw[sortM_perm hp2]at h
 exact h
theorem Qz(st:St):TrF prog 37 [.s (.pointer none)] st λd st'=>d=.sl .tight []/\st'=st:=by
 have hEn:=Aa λ(st:St)=>MG (.s (.pointer none)) (.inl rfl) st
 have hSn:=Aa Oc
 have hIt:=Aa Of
 refine Qin [2] func37 results37 ntmps37 ?_
 repeat' (first|refine QX ?_|refine QB ?_;intro b|with_reducible refine QZ ?_<;>(try constructor)<;>intro hb<;>try intro hb1|refine Qc call70 ((hEn.out _)) ?_|fail)
 revert b
 intro b3
 refine Bn (st':=[]++(.box b3 48 [.sl .tight []]::st)) (.refl _) ?_
 refine It hIt.out call106 q_v (λ_=>rfl) rfl (λj C=>C=.box b3 48 [.sl .tight []]::st) (λ_ _ _=>False) (λ_ _ _=>trivial) (λ_ _ _=>trivial) rfl ?_ ?_ (λ_ _ _ _ _ _ h=>h.elim)
 . intro l j y C K hy
   rw[List.getElem?_nil]at hy
   cases hy
 . rintro d K1 C' rfl rfl
   change Tr _ _ _ _ _ _ _
   refine Bn (st':=.box b3 48 [.sl .tight []]::BK d::st) (List.Perm.swap _ _ _) ?_
   repeat' (first|refine QX ?_|refine QB ?_;intro b|with_reducible refine QZ ?_<;>(try constructor)<;>intro hb<;>try intro hb1|refine Qc call57 ((hSn.out _)) ?_|fail)
   exact Ha (rs:=[d]) q_x q_y (s2:=.box b3 48 [.sl .tight []]::st) (List.Perm.swap _ _ _) (AK ..) (LE.of_eq q_v) ⟨rfl,rfl⟩
theorem NT.Ok.tok_at{N:NT}{R:List Rl}(h:N.Ok R){y:En}(hy:y∈El N.cs 0)(s:St):∃(fd lv id:D) (UC:List D) (RJ:St),(N.st++s).Perm (.box y.2.1 119 (fd::lv::id::.sl .shared (y.2.2.map V.cells)::UC)::RJ):=by
 obtain⟨k,S,h1,h2,h3,h4⟩:=PL N.cs 0 y hy
 have hk:k<R.length:=by rw[<-h.cl];exact(Af.1 h1).1
 have hC:=h.ch k R[k] S (Al hk) h1
 obtain⟨x,hx, -⟩:=hC.last
 have e:KM S=x.ts:=Ny (by rw[hC.nl];exact hx)
 rw[e]at h3
 obtain⟨w,w1,w2, -⟩:=(hC.str.tm _ x hx y.2.1).1 h3
 have he:w.env=y.2.2:=by
  rw[<-w2,Wb hC.str w1]at h4
  exact congrArg Prod.snd h4
 have hp:=JD (N:=N) (M:=N.fm) (F:=N.fs) h1 s
 obtain⟨UC,RJ,hq⟩:=NC.layW w1 (.box N.b 105 (.sl .shared N.row::N.fm.cells N.fs.length)::(N.fm.resF N.fs++(((N.cs.take k).flatMap NC.st++(N.cs.drop (k+1)).flatMap NC.st)++s)))
 rw[w2,he]at hq
 exact⟨_,_,_,UC,RJ,hp.trans hq⟩
theorem aw(e:List V)(h0:e≠[])(hl:e.length<=1000000)(st:St):TrF prog 52 [.sl .shared (e.map V.cells)] st λd st'=>d=.sl .shared (e.map V.cells)/\st'=st :=
 ((Ys .shared e h0 hl st).mono λd st' ⟨g,cap,zs,_,h1,h2⟩=>⟨g,cap,zs,h1,h2⟩).freeze (sz:=4) (by decide) (JB e) (Ab ..)
theorem fP(N:NT)(R:List Rl)(m:Mt)(hN:N.Ok R)(hR:R.length<=1000)(hid:∀y∈El N.cs 0,y.1.ids.length<=1000000)(hv:∀y∈El N.cs 0,y.2.2≠[]/\y.2.2.length<=1000000)(hm:m.ids.length<=1000000)(st:St):TrF prog 43 [.ptr N.b 0,.agg m.cells] (N.st++st) λd st'=>d=gh (((El N.cs 0).find? λy=>decide (Mat.ord y.1 m=0)).map λy=>y.2.2)/\st'=N.st++st:=by
 have hIt:=Aa (VC N R hN hR)
 have hEn:=Aa λ(st:St)=>MG (.ptr N.b 0) (.inr ⟨_,rfl⟩) st
 have hOr:Hid (∀y∈El N.cs 0,∀st,TrF prog 71 [.agg [.i y.1.rule,.sl .shared (y.1.ids.map Bl)],.agg m.cells] st λd st'=>d=.i (Mat.ord y.1 m)/\st'=st):=λy hy st=>Rv y.1 m (hid y hy) hm st
 have hTk:=Aa λ(y:En) (hy:y∈El N.cs 0) (s:St)=>hN.tok_at hy s
 have hHas:Hid (∀A B:Res,HasN N (A::B::(N.st++st))):=λA B=>⟨A::B::st,(AD.symm.cons _).trans AD.symm⟩
 have happ:=Aa λ(C B:St) (h:HasN N C)=>h.app C B
 have HV:=Aa hv
 clear hv hid
 generalize El N.cs 0=E at *
 obtain⟨q,hq⟩:∃q:En->Bool,q=λy=>decide (Mat.ord y.1 m=0):=⟨_,rfl⟩
 have hqe:Hid (∀y:En,decide (Mat.ord y.1 m=0)=q y):=λy=>by rw[hq]
 rw[<-hq]
 generalize N.b=nb at *
 clear hN hR hq
 have hmc:m.cells=[.i m.rule,.sl .shared (m.ids.map Bl)]:=rfl
 rw[hmc]at hOr |-
 generalize m.ids.map Bl=MI at *
 generalize m.rule=mr at *
 clear hmc
 refine FN (G:=SI prog (.cell 4 25) (.cell 5 4)) func43 rfl (by rw[ntmps43];exact BD rfl) (λh1 h2 h3=>Jd rfl h1 h2 h3) ?_
 simp only[ntmps43]
 repeat' (first|refine QX ?_|refine QB ?_;intro b|with_reducible refine QZ ?_<;>(try constructor)<;>intro hb<;>try intro hb1|refine Qc call70 ((hEn.out _)) ?_|fail)
 rename_i b6
 obtain⟨bb,rfl⟩:∃q,q=b:=⟨_,rfl⟩
 refine Bn (st':=[]++(.box bb 4 [.b false]::.box b6 25 [.sl .tight []]::(N.st++st))) (.refl _) ?_
 refine It hIt.out call106 q_v (λ_=>rfl) rfl (λi C=>Hid (∀y∈E.take i,q y=false)/\C=.box bb 4 [.b false]::.box b6 25 [.sl .tight []]::(N.st++st)) (λc i C=>c=Code.ret/\∃y,E.find? q=some y/\C=.box bb 4 [.b true]::.box b6 25 [.sl .shared (y.2.2.map V.cells)]::(N.st++st)) happ.out (λi C ⟨_,e⟩=>by rw[e];exact hHas.out _ _) ⟨Aa (λy hy=>by cases hy),rfl⟩ ?_ ?_ ?_
 . rintro l i y C K hy ⟨hT,rfl⟩
   have hym:=Ah hy
   have hO:=hOr.out y hym
   obtain⟨hv0,hv1⟩:=HV.out y hym
   have hCl:=Aa (aw y.2.2 hv0 hv1)
   have htk:=Aa (hTk.out y hym)
   have hf:q y=true->E.find? q=some y:=λh=>af hy hT.out h
   have hn:q y=false->Hid (∀z∈E.take (i+1),q z=false):=λhq z hz=>by
    rw[Bk,hy,Bw,Bc,AB]at hz
    rcases hz with hz|rfl
    . exact hT.out z hz
    . exact hq
   have hq1:q y=true->Mat.ord y.1 m=0:=λh=>by rw[<-hqe.out y]at h;exact of_decide_eq_true h
   have hq0:q y=false->¬Mat.ord y.1 m=0:=λh=>by rw[<-hqe.out y]at h;exact of_decide_eq_false h
   clear hIt hEn hOr hTk hHas happ HV hT hy hym hqe hm hv0 hv1
   refine(?_:Tr _ _ _ _ (AA.put (AA.put ⟨_,[]⟩ (some 10) (.agg [.i y.1.rule,.sl .shared (y.1.ids.map Bl)])) (some 11) (.ptr y.2.1 0)) (.box bb 4 [.b false]::.box b6 25 [.sl .tight []]::((N.st++st)++K)) _)
   generalize y.1.ids.map Bl=Y1 at *
   generalize y.1.rule=yr at *
   repeat' (first|refine QX ?_|refine QB ?_;intro b|with_reducible refine QZ ?_<;>(try constructor)<;>intro hb<;>try intro hb1|fail)
   obtain⟨mb,rfl⟩:∃q,q=b:=⟨_,rfl⟩
   refine⟨.box mb 52 [.i yr,.sl .shared Y1]::.box bb 4 [.b false]::.box b6 25 [.sl .tight []]::(N.st++st),Aj _,λK'=>?_⟩
   clear K
   refine Hl ?_
   cases hqy:q y with
   | true =>
    have h0:=hq1 hqy
    have hfo:=Aa (hf hqy)
    rw[h0]at hO
    obtain⟨fd,lv,id,UC,RJ,hp⟩:=htk.out (st++K')
    clear hf hn hq1 hq0 hqy htk h0
    refine Bn (st':=.box mb 52 [.i yr,.sl .shared Y1]::.box bb 4 [.b false]::.box b6 25 [.sl .tight []]::.box y.2.1 119 (fd::lv::id::.sl .shared (y.2.2.map V.cells)::UC)::RJ) ((((show(N.st++st++K').Perm _ by rw[Ai];exact hp).cons _).cons _).cons _) ?_
    have hpb:Hid ((Res.box y.2.1 119 (fd::lv::id::.sl .shared (y.2.2.map V.cells)::UC)::RJ).Perm (N.st++st++K')):=by rw[Ai];exact hp.symm
    clear hp
    obtain⟨ye,hye⟩:∃ye,ye=y.2.2.map V.cells:=⟨_,rfl⟩
    rw[<-hye]at hCl hpb |-
    obtain⟨tb,htb⟩:∃tb,tb=y.2.1:=⟨_,rfl⟩
    rw[<-htb]at hpb |-
    replace hye:=Aa hye
    replace htb:=Aa htb
    replace hO:=Aa hO
    repeat' (first|refine QX ?_|refine QB ?_;intro b|with_reducible refine QZ ?_<;>(try constructor)<;>intro hb<;>try intro hb1|refine Qc call71 ((hO.out _)) ?_|refine Qc call52 ((hCl.out _)) ?_|fail)
    exact⟨_::(_::_::(N.st++st++K')),((hpb.out.cons _).cons _).cons _,.box bb 4 [.b true]::.box b6 25 [.sl .shared ye]::(N.st++st),AK ..,rfl,y,hfo.out,by rw[hye.out]⟩
   | false =>
    have h0:=hq0 hqy
    have hno:=hn hqy
    clear hf hn hq1 hq0 hqy htk hCl
    replace hO:=Aa hO
    repeat' (first|refine QX ?_|refine QB ?_;intro b|with_reducible refine QZ ?_<;>(try constructor)<;>intro hb<;>try intro hb1|refine Qc call71 ((hO.out _)) ?_|fail)
    exact⟨_,.refl _,.box bb 4 [.b false]::.box b6 25 [.sl .tight []]::(N.st++st),AK ..,hno,rfl⟩
 . rintro d K1 C' rfl ⟨hT,rfl⟩
   have hn:=hT.out
   rw[Cb]at hn
   have hL:E.find? q=none:=Dr.2 λx hx=>by rw[hn x hx];exact AJ
   rw[hL]
   clear hIt hEn hOr hTk hHas happ HV hT hn hL hqe
   generalize N.st++st=RS at *
   change Tr _ _ _ _ _ _ _
   refine Bn (st':=BK d::.box bb 4 [.b false]::.box b6 25 [.sl .tight []]::RS) (.refl _) ?_
   repeat' (first|refine QX ?_|refine QB ?_;intro b|with_reducible refine QZ ?_<;>(try constructor)<;>intro hb<;>try intro hb1|fail)
   all_goals exact Fq (rs:=[d]) (by simp) q_y (by repeat(first|exact DA|apply CV)) ⟨_,_,rfl,DU q_v q_m q_v q_v,DU q_v q_m q_v q_v⟩ (((Aj _).cons _).cons _) (LE.refl _) ⟨rfl,rfl⟩
 . rintro c d i K1 C' rfl ⟨rfl,y,hL,rfl⟩
   rw[hL]
   clear hIt hEn hOr hTk hHas happ HV hL hqe
   unfold gh
   dsimp only[Option.map_some]
   generalize y.2.2.map V.cells=Y2 at *
   generalize N.st++st=RS at *
   change Tr _ _ _ _ _ _ _
   refine Bn (st':=BK d::.box bb 4 [.b true]::.box b6 25 [.sl .shared Y2]::RS) (.refl _) ?_
   repeat' (first|refine QX ?_|refine QB ?_;intro b|with_reducible refine QZ ?_<;>(try constructor)<;>intro hb<;>try intro hb1|fail)
   all_goals exact Fq (rs:=[d]) (by simp) q_y (by repeat(first|exact DA|apply CV)) ⟨_,_,rfl,DU q_v q_m q_v q_v,DU q_v q_m q_v q_v⟩ (((Aj _).cons _).cons _) (LE.refl _) ⟨rfl,rfl⟩
theorem ZD(m:Mt)(st:St):TrF prog 43 [.s (.pointer none),.agg m.cells] st λd st'=>d=.tup [.sl .tight [],.b false]/\st'=st:=by
 have hEn:=Aa λ(st:St)=>MG (.s (.pointer none)) (.inl rfl) st
 have hIt:=Aa Of
 have hmc:m.cells=[.i m.rule,.sl .shared (m.ids.map Bl)]:=rfl
 rw[hmc]
 generalize m.ids.map Bl=MI at *
 generalize m.rule=mr at *
 refine FN (G:=SI prog (.cell 4 25) (.cell 5 4)) func43 rfl (by rw[ntmps43];exact BD rfl) (λh1 h2 h3=>Jd rfl h1 h2 h3) ?_
 simp only[ntmps43]
 repeat' (first|refine QX ?_|refine QB ?_;intro b|with_reducible refine QZ ?_<;>(try constructor)<;>intro hb<;>try intro hb1|refine Qc call70 ((hEn.out _)) ?_|fail)
 rename_i b6
 obtain⟨bb,rfl⟩:∃q,q=b:=⟨_,rfl⟩
 refine Bn (st':=[]++(.box bb 4 [.b false]::.box b6 25 [.sl .tight []]::st)) (.refl _) ?_
 refine It hIt.out call106 q_v (λ_=>rfl) rfl (λi C=>C=.box bb 4 [.b false]::.box b6 25 [.sl .tight []]::st) (λc i C=>False) (λ_ _ _=>trivial) (λ_ _ _=>trivial) rfl ?_ ?_ (λ_ _ _ _ _ _ h=>h.elim)
 . intro l j y C K hy
   rw[List.getElem?_nil]at hy
   cases hy
 . rintro d K1 C' rfl rfl
   change Tr _ _ _ _ _ _ _
   refine Bn (st':=BK d::.box bb 4 [.b false]::.box b6 25 [.sl .tight []]::st) (.refl _) ?_
   repeat' (first|refine QX ?_|refine QB ?_;intro b|with_reducible refine QZ ?_<;>(try constructor)<;>intro hb<;>try intro hb1|fail)
   all_goals exact Fq (rs:=[d]) (by simp) q_y (by repeat(first|exact DA|apply CV)) ⟨_,_,rfl,DU q_v q_m q_v q_v,DU q_v q_m q_v q_v⟩ (((Aj _).cons _).cons _) (LE.refl _) ⟨rfl,rfl⟩
end
end Go.Proofs.YtoeidpmjifjplaaGreat
