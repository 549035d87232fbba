/- Texts put together. No statement is proved here. -/
import Derived.Test.YtoeidpmjifjplaaGreatZ13
set_option linter.all false
set_option maxRecDepth 10000
set_option maxHeartbeats 8000000
namespace Go.Proofs.YtoeidpmjifjplaaGreat
open Go.RowKit Tryz
section
attribute [local push_cast] Bs Bn BV V.cells_mk V.cells_len Nat.mul_one Int.sub_zero List.map_nil beq_self_eq_true bne_self_eq_false List.head?_cons Bool.not_true Bool.not_false Nat.zero_add
attribute [-instance] Ch Cr BL Dl
def mR (b5:Nat)(acc:List Fc)(rest st':St):Prop:=(acc=[]/\st'=.box b5 24 [.sl .tight []]::rest)\/(acc≠[]/\∃g cap zs,(CM acc++zs).length=cap*5/\st'=.box b5 24 [.ar g 0 acc.length cap]::.box g 43 (CM acc++zs)::rest)
def Tq (K:List Fc)(st:St)(d:D)(st':St):Prop:=(K=[]/\d=.sl .tight []/\st'=st)\/(K≠[]/\∃g cap zs,(CM K++zs).length=cap*5/\d=.ar g 0 K.length cap/\st'=.box g 43 (CM K++zs)::st)
theorem WK(K:List Fc)(hK:K.length<=1000)(st:St):TrF prog 144 [.sl .tight [],.fn (.func 111) [] [.ip [.sl .shared (FF K)]]] st (Tq K st):=by
 have hIt:=Aa (XM K q_o)
 generalize FF K=LF at *
 refine Qin [4] func144 results144 ntmps144 ?_
 repeat' (first|with_reducible refine FV ?_|refine QX ?_|refine QB ?_;intro b|with_reducible refine QZ ?_<;>(try constructor)<;>intro hb<;>try intro hb1|fail)
 revert b
 intro b2
 refine Bq (st':=[]++(.box b2 24 [.sl .tight []]::st)) (.refl _) ?_
 refine Ia hIt.out call111 q_v (λ_=>rfl) rfl (λj C=>∃core,C.Perm core/\mR b2 (K.take j) st core) (λ_ _ _=>False) ⟨_,.refl _,.inl ⟨rfl,rfl⟩⟩ ?_ ?_ (λ_ _ _ _ _ _ h=>h.elim)
 . rintro l j f C K1 hf ⟨core,hp,hO⟩
   have hs:K.take (j+1)=K.take j++[f]:=by rw[Br,hf];rfl
   have hl:(K.take j).length<=1000:=by rw[Bb];omega
   have hfc:f.cells=[.i f.id,.i f.time,.i f.tmpl,.i f.ver,.sl .shared (f.s.map V.cells)]:=rfl
   clear hIt hf hK
   generalize K.take j=acc at *
   generalize hVS:f.s.map V.cells=VS at *
   refine Bq (hp.append_right K1) ?_
   refine(?_:Tr _ _ _ _ (AA.put ⟨_,[]⟩ (some 7) (.agg f.cells)) (core++K1) _)
   rw[hfc]
   clear hp
   repeat' (first|refine QX ?_|refine QB ?_;intro b|with_reducible refine QZ ?_<;>(try constructor)<;>intro hb<;>try intro hb1|fail)
   revert b
   intro b5
   refine⟨.box b5 43 [.i f.id,.i f.time,.i f.tmpl,.i f.ver,.sl .shared VS]::core,Al _,λK'=>?_⟩
   clear K1
   rcases hO with⟨hnil,rfl⟩|⟨hne,g,cap,zs,hz,rfl⟩
   . subst hnil
     have hrm:CM [f]=[[D.i f.id,D.i f.time,D.i f.tmpl,D.i f.ver,D.sl .shared VS]].flatten:=by
      unfold CM
      rw[Aw,hfc];rfl
     refine(?_:Tr _ _ _ _ _ (.box b5 43 [.i f.id,.i f.time,.i f.tmpl,.i f.ver,.sl .shared VS]::.box b2 24 [.sl .tight []]::(st++K')) _)
     repeat' (first|refine QV ?_|with_reducible refine IX ?_|with_reducible refine Lr ?_|((with_reducible apply IZ);(focus exact q_n);(focus exact CS rfl);(focus exact q_n);(focus exact q_n);intro g' cap' zs' hc hl')|refine QY ?_|refine QB ?_;intro b|with_reducible refine QZ ?_<;>(try constructor)<;>intro hb<;>try intro hb1|fail)
     refine⟨.box g' 43 (_++zs')::.box b2 24 [.ar g' 0 1 cap']::st,((Al _).cons _).cons_cons _,.box b2 24 [.ar g' 0 1 cap']::.box g' 43 ([[D.i f.id,D.i f.time,D.i f.tmpl,D.i f.ver,D.sl .shared VS]].flatten++zs')::st,List.Perm.swap _ _ _,.inr ⟨?_,g',cap',zs',?_,?_⟩⟩
     . rw[hs];exact Gb _ _
     . rw[hs,AO,hrm];exact hl'
     . rw[hs,AO,hrm];rfl
   . have hrl:(CM acc).length=acc.length*5:=Dw _
     refine(?_:Tr _ _ _ _ _ (.box b5 43 [.i f.id,.i f.time,.i f.tmpl,.i f.ver,.sl .shared VS]::.box b2 24 [.ar g 0 acc.length cap]::.box g 43 (CM acc++zs)::(st++K')) _)
     have hra:=OH acc f
     rw[hfc]at hra
     have hle:(acc++[f]).length=acc.length+1:=Ae
     generalize CM acc=RW at *
     generalize acc.length=n at *
     repeat' (first|refine QV ?_|with_reducible refine Io ?_|with_reducible refine Kv ?_|((with_reducible apply(It hrl hz));(focus(intro g' cs';repeat(first|exact Hn|apply Hm)));(focus exact CS rfl);(iterate 2 (focus exact q_n));intro g' cap' zs' hc hl')|refine QY ?_|refine QB ?_;intro b|with_reducible refine QZ ?_<;>(try constructor)<;>intro hb<;>try intro hb1|fail)
     refine⟨.box b2 24 [.ar g' 0 (n+1) cap']::.box g' 43 (RW++[[D.i f.id,D.i f.time,D.i f.tmpl,D.i f.ver,D.sl .shared VS]].flatten++zs')::st,(Al _).cons _,_,.refl _,.inr ⟨?_,g',cap',zs',?_,?_⟩⟩
     . rw[hs];exact Xb _ (Gb _ _)
     . rw[hs,hra];exact hl'
     . rw[hs,hra,hle]
 . rintro d K2 C' rfl ⟨core,hp,hO⟩
   rw[Db]at hO
   change Tr _ _ _ _ _ _ _
   rcases hO with⟨hnil,rfl⟩|⟨hne,g,cap,zs,hz,rfl⟩
   . refine Bq (st':=.box b2 24 [.sl .tight []]::BJ d::st) ((hp.cons _).trans (List.Perm.swap _ _ _)) ?_
     clear hp
     repeat' (first|refine QX ?_|refine QB ?_;intro b|with_reducible refine QZ ?_<;>(try constructor)<;>intro hb<;>try intro hb1|fail)
     exact Em q_x q_y (List.Perm.swap _ _ _) (AL ..) (LE.of_eq q_v) (.inl ⟨hnil,rfl,rfl⟩)
   . refine Bq (st':=.box b2 24 [.ar g 0 K.length cap]::.box g 43 (CM K++zs)::BJ d::st) ((hp.cons _).trans (by repeat(first|exact .refl _|exact(List.Perm.swap _ _ _).trans ((List.Perm.swap _ _ _).cons _)))) ?_
     clear hp
     obtain⟨RW,hRW⟩:∃RW,RW=CM K++zs:=⟨_,rfl⟩
     rw[<-hRW]
     repeat' (first|refine QX ?_|refine QB ?_;intro b|with_reducible refine QZ ?_<;>(try constructor)<;>intro hb<;>try intro hb1|fail)
     exact Em q_x q_y ((List.Perm.swap _ _ _).trans ((List.Perm.swap _ _ _).cons _)).symm (AL ..) (LE.of_eq q_v) (.inr ⟨hne,g,cap,zs,hz,rfl,by rw[hRW]⟩)
theorem cD(K:List Fc)(hK:K.length<=1000)(st:St):TrF prog 108 [.fn (.func 111) [] [.ip [.sl .shared (FF K)]]] st (Tq K st):=by
 have hA:=Aa (WK K hK)
 generalize FF K=LF at *
 refine Qin [2] func108 results108 ntmps108 ?_
 repeat' (first|refine QV ?_|((with_reducible apply(Bj (f:=144) (henter:=call144) (hp:=Ao _) (h:=(hA.out _))));(focus exact q_v);(focus exact q_l);(rintro d0 st0 hF))|refine QY ?_|refine QB ?_;intro b|with_reducible refine QZ ?_<;>(try constructor)<;>intro hb<;>try intro hb1|fail)
 exact Bl (by simp) q_y (Al _) (LE.of_eq q_v) hF
def FacSrt (K:List Fc)(st:St)(d:D)(st':St):Prop:=(K=[]/\d=.sl .tight []/\st'=st)\/(K≠[]/\∃g cap zs l,l.Perm K/\cT l/\d=.ar g 0 l.length cap/\st'=.box g 43 (CM l++zs)::st)
theorem Wz{K:List Fc}(hK:K.length<=1000){st:St}{d0:D}{st0:St}(h:Tq K st d0 st0):TrF prog 109 [d0,.fn (.func 74) [] []] st0 λd st'=>d=.tup []/\FacSrt K st d0 st':=by
 rcases h with⟨hnil,rfl,rfl⟩|⟨hne,g,cap,zs,hz,rfl,rfl⟩
 . exact(Vc st0).mono λd st' ⟨e1,e2⟩=>⟨e1,.inl ⟨hnil,rfl,e2⟩⟩
 . exact(cu g cap K zs hne q_o st).mono λd st' ⟨l,h1,h2,e1,e2⟩=>⟨e1,.inr ⟨hne,g,cap,zs,l,h1,h2,by rw[h1.length_eq],e2⟩⟩
theorem dK(K:List Fc)(hK:K.length<=1000)(st:St):TrF prog 72 [.fn (.func 111) [] [.ip [.sl .shared (FF K)]],.fn (.func 74) [] []] st (FacSrt K st):=by
 have hC:=Aa (cD K hK)
 have hS:=Aa λ(d0:D) (st0:St) (h:Tq K st d0 st0)=>Wz hK h
 generalize FF K=LF at *
 refine Qin [4] func72 results72 ntmps72 ?_
 repeat' (first|refine QV ?_|((with_reducible apply(Bj (f:=108) (henter:=call108) (hp:=Ao _) (h:=(hC.out _))));(focus exact q_v);(focus exact q_l);(rintro d0 st0 hF))|((with_reducible apply(Bj (f:=109) (henter:=call109) (hp:=Ao _) (h:=(hS.out _ _ hF))));(focus exact q_v);(focus exact q_l);(rintro d0 st0 ⟨rfl,hG⟩))|refine QY ?_|refine QB ?_;intro b|with_reducible refine QZ ?_<;>(try constructor)<;>intro hb<;>try intro hb1|fail)
 exact Bl (by simp) q_y (Al _) (LE.of_eq q_v) hG
theorem FacSrt.rest{f:FuncId}{args:List D}{K:List Fc}{st s0:St}(h:TrF prog f args st (FacSrt K s0)):TrF prog f args st λd st'=>∃l,l.Perm K/\cT l/\d=.sl .shared (l.map Fc.cells)/\st'=s0:=by
 intro vs w h1 h2
 refine(h vs w h1 h2).mono λ_ w' ⟨v,ev,d,s,k1,k2,k3,hA⟩=>?_
 rcases hA with⟨rfl,rfl,rfl⟩|⟨hne,g,cap,zs,l,hp,hs,rfl,rfl⟩
 . exact⟨v,ev,_,s,LE.sl _ _ _ _ _ k1,k2,k3,[],.refl _,List.Pairwise.nil,rfl,rfl⟩
 . have he:=Ext.drop (st:=.box g 43 (CM l++zs)::s0) (st':=s0) (λ_ h=>Ad _ h) w'
   exact⟨v,ev,_,s0,Kt k2 (sz:=5) (by decide) (λe he=>by
    obtain⟨x, -,rfl⟩:=Ax.1 he
    rfl) (Ab ..) v k1,k2.sub (AL _ _),k3.trans he,l,hp,hs,rfl,rfl⟩
theorem SU(N:NT)(R:List Rl)(hN:N.Ok R)(st:St):TrF prog 40 [.ptr N.b 0] (N.st++st) (FacSrt N.fs (N.st++st)):=by
 have hAll:Hid (TrF prog 73 [.ptr N.b 1] (N.st++st) λd st'=>d=.fn (.func 111) [] [.ip [.sl .shared (FF N.fs)]]/\st'=N.st++st):=by
  have h1:=XO N.b 105 [.sl .shared N.row] [] N.fm N.fs hN.fok (by have:=hN.fl;omega) (N.cs.flatMap NC.st++st)
  rw[<-JN,Id]
  exact h1
 have hS:=Aa (dK N.fs hN.fl (N.st++st))
 generalize FF N.fs=LF at *
 generalize N.st++st=RS at *
 generalize N.b=nb at *
 generalize N.fs=K at *
 refine Qin [2] func40 results40 ntmps40 ?_
 repeat' (first|refine QV ?_|((with_reducible apply Jj);(focus kernel_rfl);(focus exact q_v))|((with_reducible apply(Bj (f:=73) (henter:=call73) (hp:=Ao _) (h:=hAll.out)));(focus exact q_v);(focus exact q_l);(rintro d0 st0 ⟨rfl,rfl⟩))|((with_reducible apply(Bj (f:=72) (henter:=call72) (hp:=Ao _) (h:=hS.out)));(focus exact q_v);(focus exact q_l);(rintro d0 st0 hG))|refine QY ?_|refine QB ?_;intro b|with_reducible refine QZ ?_<;>(try constructor)<;>intro hb<;>try intro hb1|fail)
 exact Bl (by simp) q_y (Al _) (LE.of_eq q_v) hG
theorem Zd(N:NT)(R:List Rl)(hN:N.Ok R)(st:St):TrF prog 40 [.ptr N.b 0] (N.st++st) λd st'=>∃l,l.Perm N.fs/\cT l/\d=.sl .shared (l.map Fc.cells)/\st'=N.st++st:=FacSrt.rest (SU N R hN st)
end
namespace Mat
theorem OE{F:List Fc}(hu:(F.map Fc.id).Nodup):∀n,(rows F n []).Nodup
|0=>Ba.2 ⟨AU,Cw⟩
|n+1=>by
  have ih:=OE hu n
  rw[rows]
  have key:∀G:List Fc,(G.map Fc.id).Nodup->(G.flatMap λf=>rows F n ([]++[f.id])).Nodup:=by
   intro G
   induction G with
   | nil=>exactλ_=>Cw
   | cons f G ih2 =>
    intro hg
    rw[Aw,Ba]at hg
    rw[Ce,Fy]
    refine⟨?_,ih2 hg.2,?_⟩
    . rw[Jk]
      exact List.Pairwise.map _ (λa b hab h=>hab (List.append_cancel_left h)) ih
    . rintro a ha b hb rfl
      rw[Jk]at ha
      obtain⟨r, -,rfl⟩:=Ax.1 ha
      obtain⟨g,hgm,hb2⟩:=Et.1 hb
      rw[Jk]at hb2
      obtain⟨r2, -,e⟩:=Ax.1 hb2
      simp only[AO,AJ,f8]at e
      exact hg.1 (e.1▸BH hgm)
  exact key F hu
theorem refs_nodup{F:List Fc}(hu:(F.map Fc.id).Nodup)(x:Rl):(ed x F).Nodup:=(OE hu _).filter _
theorem Ri{f:Rl->List (List Int)}{m:Mt}:∀{l:List Rl} {i:Nat},m∈flatR f l i->∃(k:Nat) (x:Rl),l[k]?=some x/\m.rule=(i+k:Nat)/\m.ids∈f x
|[],_,h=>by cases h
|x::l,i,h=>by
  rw[flatR,Bh]at h
  rcases h with h|h
  . obtain⟨r,hr,rfl⟩:=Ax.1 h
    exact⟨0,x,rfl,rfl,hr⟩
  . obtain⟨k,y,h1,h2,h3⟩:=Ri (i:=i+1) h
    exact⟨k+1,y,h1,by rw[h2];congr 1;omega,h3⟩
theorem sortM_mem{l:List Mt}{m:Mt}:m∈sortM l↔m∈l:=(sortM_srt l).2.mem_iff
theorem from_env{F:List Fc}:∀(ps:List Pt) (ids:List Int) (env:List V),env.length=8->∀y∈from_ F ps ids env,y.2.length=8
|[],ids,env,he,y,hy=>by
  rw[from_,Ay]at hy
  rw[hy];exact he
|p::ps,ids,env,he,y,hy=>by
  rw[from_]at hy
  split at hy
  . split at hy
    . exact from_env ps ids env he y hy
    . cases hy
  . obtain⟨q,hq,h⟩:=Et.1 hy
    obtain⟨f, -,hf⟩:=LR.1 hq
    refine from_env ps _ _ ?_ y h
    cases hp:pass p f env with
    | none=>rw[hp]at hf;cases hf
    | some e =>
     rw[hp]at hf
     rw[<-Ci hf]
     exact pass_len hp
theorem once{R:List Rl}{F:List Fc}{m:Mt}(h:m∈sortM (raws R F)):∃(k:Nat) (x:Rl) (e:List V),R[k]?=some x/\m.rule=k/\envP x F m.ids=some e/\e.length=8/\m.ids.length<=x.pats.length:=by
 obtain⟨k,x,h1,h2,h3⟩:=Ri (i:=0) (sortM_mem.1 h)
 obtain⟨y,hy,e⟩:=Ax.1 h3
 cases hq:envP x F m.ids with
|none =>
  unfold envP at hq
  rw[PP,Dr]at hq
  exact absurd (decide_eq_true e) (hq y hy)
|some v =>
  refine⟨k,x,v,h1,by rw[h2,Bt],hq,?_,e▸mats_len hy⟩
  unfold envP at hq
  obtain⟨z,hz,rfl⟩:=mS.1 hq
  exact from_env _ _ _ (Qk ..) z (CY hz)
theorem passL_perm{F G:List Fc}(h:F.Perm G)(p:Pt)(env:List V):(passL p F env).Perm (passL p G env):=h.filterMap _
theorem from_perm{F G:List Fc}(h:F.Perm G):∀(ps:List Pt) (ids:List Int) (env:List V),(from_ F ps ids env).Perm (from_ G ps ids env)
|[],ids,env=>.refl _
|p::ps,ids,env=>by
  have hp:=passL_perm h p env
  rw[from_,from_]
  by_cases hn:p.neg=true
  . rw[if_pos hn,if_pos hn]
    have e:passL p F env=[]↔passL p G env=[]:=⟨λe=>(e▸hp).symm.eq_nil,λe=>(e▸hp).eq_nil⟩
    by_cases h0:passL p F env=[]
    . rw[if_pos h0,if_pos (e.1 h0)]
      exact from_perm h ps ids env
    . rw[if_neg h0,if_neg λk=>h0 (e.2 k)]
  . rw[if_neg hn,if_neg hn]
    have h1:∀l:List (Int×List V),(l.flatMap λx=>from_ F ps (ids++[x.1]) x.2).Perm (l.flatMap λx=>from_ G ps (ids++[x.1]) x.2):=λl=>by
     induction l with
     | nil=>exact .refl _
     | cons x l ih =>
      rw[Ce,Ce]
      exact(from_perm h ps _ _).append ih
    exact(h1 _).trans (hp.flatMap_right _)
theorem flatR_perm{f g:Rl->List (List Int)}:∀(l:List Rl) (i:Int),(∀x∈l,(f x).Perm (g x))->(flatR f l i).Perm (flatR g l i)
|[],_,_=>.refl _
|x::l,i,h=>by
  rw[flatR,flatR]
  exact((h x (Ag ..)).map _).append (flatR_perm l (i+1) λy hy=>h y (Ad _ hy))
theorem sortM_perm{l m:List Mt}(h:l.Perm m):sortM l=sortM m:=sortM_eq ((sortM_srt l).2.trans h) (sortM_srt l).1
theorem lP{F G:List Fc}(h:F.Perm G)(R:List Rl):sortM (raws R F)=sortM (raws R G):=sortM_perm (flatR_perm R 0 λx _=>(from_perm h _ _ _).map _)
def ny (f:Rl->List (List Int))(x:Rl):List (List Int):=(sortM ((f x).map (Mt.mk 0))).map Mt.ids
def ahead (g:Rl->List (List Int))(R:List Rl)(i:Nat):Nat:=(flatR g (R.take i) 0).length
theorem Up{F:List Fc}(g:Int)(p:Pt)(env:List V):passL p (F.filter λf=>f.id≠g) env=(passL p F env).filter λy=>y.1≠g:=by
 unfold passL
 rw[List.filter_filterMap,List.filterMap_filter]
 congr 1
 funext f
 cases pass p f env with
|none=>simp
|some e=>by_cases h:f.id=g<;>simp[h,Option.filter]
theorem Pi{F:List Fc}{g:Int}:∀(ps:List Pt) (ids:List Int) (env:List V),g∈ids->∀y∈from_ F ps ids env,g∈y.1
|[],ids,env,h,y,hy=>by
  rw[from_,Ay]at hy
  rw[hy];exact h
|p::ps,ids,env,h,y,hy=>by
  rw[from_]at hy
  split at hy
  . split at hy
    . exact Pi ps ids env h y hy
    . cases hy
  . obtain⟨q, -,h2⟩:=Et.1 hy
    exact Pi ps _ _ (Bm _ h) y h2
theorem Pj{F:List Fc}(g:Int):∀(ps:List Pt) (ids:List Int) (env:List V),(∀p∈ps,p.neg=false)->g∉ids->from_ (F.filter λf=>f.id≠g) ps ids env=(from_ F ps ids env).filter λy=>g∉y.1
|[],ids,env,_,h=>by
  rw[from_,from_,Dn (by simpa using h)];rfl
|p::ps,ids,env,hn,h=>by
  have hp:=hn p (Ag ..)
  rw[from_,from_,if_neg (by rw[hp];exact AM),if_neg (by rw[hp];exact AM),Up]
  have key:∀l:List (Int×List V),((l.filter λy=>y.1≠g).flatMap λx=>from_ (F.filter λf=>f.id≠g) ps (ids++[x.1]) x.2)=(l.flatMap λx=>from_ F ps (ids++[x.1]) x.2).filter λy=>g∉y.1:=λl=>by
   induction l with
   | nil=>rfl
   | cons x l ih =>
    rw[Ce,IE]
    by_cases e:x.1=g
    . have h0 : ((from_ F ps (ids ++ [x.1]) x.2).filter λy => g ∉ y.1) = [] := List.filter_eq_nil_iff.2 λy hy => by
       have:=Pi ps _ _ (show g∈ids++[x.1] by rw[e];exact Bc _ (Ay.2 rfl)) y hy
       simpa using this
      rw[Dp (by simpa using e),ih,h0,AO]
    . rw[Dn (by simpa using e),Ce,ih]
      rw[Pj g ps _ _ (λq hq=>hn q (Ad _ hq)) (by
       intro hm
       rcases Bh.1 hm with hm|hm
       . exact h hm
       . exact e (Ay.1 hm).symm)]
  exact key _
theorem MA{f f2:Rl->List (List Int)}(q:List Int->Bool):∀(l:List Rl) (i:Int),(∀x∈l,f2 x=(f x).filter q)->flatR f2 l i=(flatR f l i).filter λm=>q m.ids
|[],_,_=>rfl
|x::l,i,h=>by
  rw[flatR,flatR,IE,h x (Ag ..),MA q l (i+1) λy hy=>h y (Ad _ hy),List.filter_map]
  rfl
theorem nr{R:List Rl}{F:List Fc}(g:Int)(h:∀x∈R,∀p∈x.pats,p.neg=false):sortM (raws R (F.filter λf=>f.id≠g))=(sortM (raws R F)).filter λm=>g∉m.ids:=by
 symm
 refine sortM_eq ?_ ((sortM_srt _).1.filter _)
 have e:raws R (F.filter λf=>f.id≠g)=(raws R F).filter λm=>decide (g∉m.ids):=MA (λl=>decide (g∉l)) R 0 λx hx=>by
  unfold mats
  rw[Pj g x.pats [] empty (h x hx) AU,List.filter_map]
  rfl
 rw[e]
 exact(sortM_srt _).2.filter _
end Mat
section
attribute [local push_cast] Bs Bn BV V.cells_mk V.cells_len Nat.mul_one Int.sub_zero List.map_nil beq_self_eq_true bne_self_eq_false List.head?_cons Bool.not_true Bool.not_false Nat.zero_add
section
set_option maxHeartbeats 16000000
def nS (l:List Int):List D:=[.sl .shared (l.map Bn)]
namespace Mat
end Mat
end
end
section
attribute [local push_cast] Bs Bn BV V.cells_mk V.cells_len Nat.mul_one Int.sub_zero List.map_nil beq_self_eq_true bne_self_eq_false List.head?_cons Bool.not_true Bool.not_false Nat.zero_add
set_option maxHeartbeats 16000000
section
variable {P:Program} {N:Nat} {r:Option Nat} {A:AA} {st:St} {Q:Exit->AA->St->Prop}
end
namespace Mat
theorem sortM_len(l:List Mt):(sortM l).length=l.length:=(sortM_srt l).2.length_eq
end Mat
def OutB (acc:List Mt)(st:St)(d:D)(st':St):Prop:=(acc=[]/\d=.sl .tight []/\st'=st)\/(acc≠[]/\∃g cap zs,(Ej acc++zs).length=cap*2/\d=.ar g 0 acc.length cap/\st'=.box g 52 (Ej acc++zs)::st)
theorem OutB.raw{M:List Mt}{st st':St}{d:D}(h:OutB (Mat.sortM M) st d st'):AllRaw M st d st':=by
 have hl:=Mat.sortM_len M
 rcases h with⟨h1,rfl,rfl⟩|⟨h1,g,cap,zs, -,rfl,rfl⟩
 . rw[h1]at hl
   exact .inl ⟨Au hl.symm,rfl,rfl⟩
 . refine .inr ⟨λh=>h1 ?_,g,cap,zs,by rw[hl],rfl⟩
   rw[h];rfl
end
section
attribute [local push_cast] Bs Bn BV V.cells_mk V.cells_len Nat.mul_one Int.sub_zero List.map_nil beq_self_eq_true List.head?_cons
theorem eh(o o':Own)(a b:List V)(ha:∀v∈a,v.Ok)(hl:a.length<=9223372036854775806)(st:St):TrF prog 19 [.sl o (a.map V.cells),.sl o' (b.map V.cells)] st λd st'=>d=.b (V.cmpL a b == 0)/\st'=st:=by
 have hma:(a.map V.cells).length=a.length:=Ab ..
 have hmb:(b.map V.cells).length=b.length:=Ab ..
 have hca:=hMp V.cells a
 have hcb:=hMp V.cells b
 have ha2:=Aa ha
 have hne:Hid (a≠b->(V.cmpL a b == 0)=false):=λh=>by rw[beq_eq_false_iff_ne];exactλh2=>h (V.cmpL_eq a b h2)
 have heq:Hid (a=b->(V.cmpL a b == 0)=true):=λh=>by rw[h,V.cmpL_self];rfl
 clear ha
 generalize (V.cmpL a b == 0)=B at *
 generalize a.map V.cells=AC at *
 generalize b.map V.cells=BC at *
 by_cases hlen:a.length=b.length
 . have hlen2:b.length=a.length:=hlen.symm
   replace hlen:=Aa hlen
   refine Qin [4] func19 results19 ntmps19 ?_
   repeat' (first|refine QX ?_|(refine QB ?_;intro b)|refine QP ?_;intro o' ho'|(with_reducible refine QZ ?_<;>(try constructor)<;>intro hb<;>try intro hb1)|fail)
   refine DJ (ι:=Nat) (λi A st'=>i<=a.length/\Hid (a.take i=b.take i)/\A.df=[]/\A.e 0=.sl o AC/\A.e 1=.sl o' BC/\A.e 5=.i i/\st=st') (λi=>a.length - i) 0 ⟨Aq _,rfl,Qf,Qf,Qf,Qf,rfl⟩ ?_
   rintro i A st' ⟨hi,HT,hdf,e0,e1,e5,rfl⟩
   by_cases hlt:i<a.length
   . obtain⟨x,hx⟩:=gEx hlt
     obtain⟨y,hy⟩:=gEx (l:=b) (i:=i) q_o
     have hcx:=hca.out i x hx
     have hcy:=hcb.out i y hy
     have hS:=bf x y (ha2.out x (Ah hx))
     have hyes:Hid (x=y->a.take (i+1)=b.take (i+1)):=λe=>by
      rw[Br,Br,HT.out,hx,hy,e]
     have hno:Hid (x≠y->a≠b):=λe h=>e (by
      rw[h,hy]at hx
      exact(Ci hx).symm)
     cases hq:(x.cmp y == 0)with
     | true =>
      have hxy:=hyes.out (V.cmp_eq x y (by simpa using hq))
      rw[hq]at hS
      clear hyes hno hx hy hq HT
      cases x with
      | mk k n sv lv =>
      cases y with
      | mk k' n' sv' lv' =>
      rw[V.cells_mk]at hcx hcy
      rw[V.cells_mk,V.cells_mk]at hS
      replace hS:=Aa hS
      replace hxy:=Aa hxy
      repeat' (first|refine QV ?_|((with_reducible refine QW ?_);intro hne;simp only[nes,ne1,and_assoc]at hne;repeat(have hq:=hne.1;replace hne:=hne.2))|refine QY ?_|(refine QB ?_;intro b)|refine QP ?_;intro o' ho'|(with_reducible refine QZ ?_<;>(try constructor)<;>intro hb<;>try intro hb1)|fail)
      refine⟨i+1,⟨hlt,hxy,?_,?_,?_,?_,rfl⟩,?_⟩
      all_goals exact Qf
     | false =>
      have hB:=hne.out (hno.out λe=>by rw[e,V.cmp_self]at hq;exact absurd hq (by decide))
      rw[hq]at hS
      clear hyes hno hx hy hq HT
      subst hB
      cases x with
      | mk k n sv lv =>
      cases y with
      | mk k' n' sv' lv' =>
      rw[V.cells_mk]at hcx hcy
      rw[V.cells_mk,V.cells_mk]at hS
      replace hS:=Aa hS
      repeat' (first|refine QV ?_|((with_reducible refine QW ?_);intro hne;simp only[nes,ne1,and_assoc]at hne;repeat(have hq:=hne.1;replace hne:=hne.2))|refine QY ?_|(refine QB ?_;intro b)|refine QP ?_;intro o' ho'|(with_reducible refine QZ ?_<;>(try constructor)<;>intro hb<;>try intro hb1)|fail)
      all_goals exact Cf
   . have h1:=HT.out
     rw[Bf q_o,Bf q_o]at h1
     have hB:=heq.out h1
     subst hB
     clear heq hne HT hca hcb h1
     exact WRa
 . have hB:=hne.out λe=>hlen (by rw[e])
   subst hB
   have hl2:¬(a.length:Int)=(b.length:Int):=by omega
   clear hne heq hlen
   refine Qin [4] func19 results19 ntmps19 ?_
   exact WRa
end
section
attribute [local push_cast] Bs Bn BV V.cells_mk V.cells_len Nat.mul_one Int.sub_zero List.map_nil beq_self_eq_true bne_self_eq_false List.head?_cons Bool.not_true Bool.not_false Nat.zero_add
section
set_option maxHeartbeats 16000000
def Kp (F:List Fc)(ps:List Pt):Nat->Nat
|0=>0
|m+1=>Kp F ps m+(Mat.from_ F (ps.take (m+1)) [] Mat.empty).length
def Fq (F:List Fc):List Rl->Nat
|[]=>0
|x::l=>Kp F x.pats x.pats.length+Fq F l
theorem Qy{F:List Fc}{R:List Rl}{i:Nat}{x:Rl}(h:R[i]?=some x):Fq F (R.drop i)=Kp F x.pats x.pats.length+Fq F (R.drop (i+1)):=by
 rw[V.drop_cons h,Fq]
theorem Xk{F:List Fc}{ps:List Pt}(hF:F.length<=9)(hp:ps.length<=4):∀m,m<=4->Kp F ps m<=m*10000
|0,_=>Aq _
|m+1,h=>by
  have h1:=Xk hF hp m q_o
  have h2:=Mat.from_length F (ps.take (m+1)) [] Mat.empty
  have h3:(F.length+1) ^ (ps.take (m+1)).length<=10 ^ 4:=CP (Nat.pow_le_pow_left q_o _) (GV (by decide) (by rw[Bb];omega))
  have h4:(10:Nat) ^ 4=10000:=by decide
  unfold Kp
  omega
theorem Xl{F:List Fc}(hF:F.length<=9):∀R:List Rl,(∀x∈R,x.pats.length<=4)->Fq F R<=R.length*40000
|[],_=>Aq _
|x::l,h=>by
  have h1:=Xl hF l λy hy=>h y (Ad _ hy)
  have h0:=h x (Ag ..)
  have h2:=Xk hF h0 x.pats.length h0
  unfold Fq
  rw[An]
  omega
theorem Yt(l:List Fc)(h:∀f∈l,(∀v∈f.s,v.Ok)/\f.s.length<=1000000)(hl:l.length<=1000)(st:St):TrF prog 39 [.sl .shared (l.map Fc.cells),.sl .shared (l.map Fc.cells)] st λd st'=>d=.b true/\st'=st:=by
 have hLm:(l.map Fc.cells).length=l.length:=Ab ..
 have hLc:Hid (∀(i:Nat) (f:Fc),l[i]?=some f->(l.map Fc.cells)[i]?=some [.i f.id,.i f.time,.i f.tmpl,.i f.ver,.sl .shared (f.s.map V.cells)]):=λi t h=>by rw[Ar,h];rfl
 have hA:Hid (∀f∈l,∀(o o':Own) (st:St),TrF prog 19 [.sl o (f.s.map V.cells),.sl o' (f.s.map V.cells)] st λd st'=>d=.b true/\st'=st):=λf hf o o' st=>by
  have:=eh o o' f.s f.s (h f hf).1 (by have:=(h f hf).2;omega) st
  rwa[V.cmpL_self,show((0:Int) == 0)=true from rfl]at this
 clear h
 generalize l.map Fc.cells=LC at *
 refine Qin [4] func39 results39 ntmps39 ?_
 repeat' (first|refine QX ?_|(refine QB ?_;intro b)|refine QP ?_;intro o' ho'|(with_reducible refine QZ ?_<;>(try constructor)<;>intro hb<;>try intro hb1)|fail)
 refine Bw (ι:=Nat) (λi A st'=>i<=l.length/\A.df=[]/\A.e 0=.sl .shared LC/\A.e 1=.sl .shared LC/\A.e 5=.i i/\st'=st) (λi=>l.length - i) 0 ⟨Aq _,Qf,Qf,Qf,Qf,rfl⟩ ?_
 rintro i A st' ⟨hi,hdf,e0,e1,e5,rfl⟩
 by_cases hlt:i<l.length
 . obtain⟨f,hf⟩:=gEx hlt
   have hfc:=hLc.out i f hf
   have hAf:=Aa (hA.out f (Ah hf))
   clear hLc hA hf
   generalize f.s.map V.cells=VS at *
   repeat' (first|refine QV ?_|((with_reducible refine QW ?_);intro hne;simp only[nes,ne1,and_assoc]at hne;repeat(have hq:=hne.1;replace hne:=hne.2))|refine QY ?_|(refine QB ?_;intro b)|refine QP ?_;intro o' ho'|(with_reducible refine QZ ?_<;>(try constructor)<;>intro hb<;>try intro hb1)|refine Qc call19 ((hAf.out _ _ _)) ?_|fail)
   refine⟨i+1,_,Al _,⟨hlt,?_,?_,?_,?_,rfl⟩,by omega⟩
   all_goals exact Qf
 . clear hLc hA
   exact WRa
end
theorem YX{S:NC}{k:Nat}{x:Nd}(hS:Nt.Str S [])(hx:S.ns[k]?=some x):∃c:D,List.take 1 (List.drop (k*9+7) (Cz S.ns++S.zs))=[c]/\k*9+8<=(Cz S.ns++S.zs).length/\((c=.sl .tight []/\x.ts.length=0)\/∃g cl,c=.ar g 0 x.ts.length cl):=by
 have hr:=aQ hx S.zs
 have hl:=Kx hx
 have hd:List.drop (k*9+7) (Cz S.ns++S.zs)=List.drop 1 (x.tm.cells x.ts.length++GF S.ns k S.zs):=by
  rw[hr,show k*9+7=(k*9+6)+1 by omega,<-CJ,<-hl,CH]
 have hlen:k*9+8<=(Cz S.ns++S.zs).length:=by
  rw[hr,Ae,hl,Ae,MemP.cells_len]
  omega
 have hok:=(hS.okx x (Ah hx)).2
 rw[hd]
 cases hm:x.tm with
|no =>
  rw[hm]at hok
  have h0:x.ts.length=0:=by
   have:=congrArg List.length hok.1
   rwa[Ab]at this
  exact⟨_,rfl,hlen,.inl ⟨rfl,h0⟩⟩
|at_ b l c gl cl zl gk ck zk=>exact⟨_,rfl,hlen,.inr ⟨gl,cl,rfl⟩⟩
theorem Wi(N:NT)(R:List Rl)(hN:N.Ok R)(hR:R.length<=1000)(hp4:∀x∈R,1<=x.pats.length/\x.pats.length<=4)(hle:Fq N.fs R<=1000000000)(st:St):TrF prog 41 [.ptr N.b 0] (N.st++st) λd st'=>d=.i (Fq N.fs R)/\(N.st++st).Perm st':=by
 have hcl:=hN.cl
 have HN:=Aa hN
 have HP:=Aa hp4
 have hrl:N.row.length=R.length:=by unfold NT.row;rw[Ab,hcl]
 have hrow:Hid (∀(i:Nat) (S:NC),N.cs[i]?=some S->N.row[i]?=some [.ptr S.c 0]):=λi S h=>by unfold NT.row;rw[Ar,h];rfl
 obtain⟨m0,m1,m2,hm⟩:=N.fm.cells3 N.fs.length
 have hcells:N.cells=[.sl .shared N.row,m0,m1,m2]:=by unfold NT.cells;rw[hm]
 obtain⟨W,hW⟩:∃W,W=N.fm.resF N.fs++N.cs.flatMap NC.st++st:=⟨_,rfl⟩
 have hNs:N.st++st=.box N.b 105 [.sl .shared N.row,m0,m1,m2]::W:=by rw[hW,<-hcells];rfl
 have hNs2:Hid ((N.st++st).Perm (.box N.b 105 [.sl .shared N.row,m0,m1,m2]::W)):=by rw[hNs];exact Aa (.refl _)
 obtain⟨T,hT⟩:∃T,Fq N.fs R=T:=⟨_,rfl⟩
 have HT:Hid (0+Fq N.fs (R.drop 0)=T):=by rw[Ca,Bt];exact hT
 rw[hT]at hle |-
 refine TrF.perm hNs2.out ?_
 clear hT hN hp4 hNs hW hcells hm
 obtain⟨ROW,hROW⟩:∃ROW,ROW=N.row:=⟨_,rfl⟩
 rw[<-hROW]at hrl hrow hNs2 |-
 clear hROW
 refine Qin [2] func41 results41 ntmps41 ?_
 repeat' (first|refine QV ?_|((with_reducible apply Kr);(focus kernel_rfl);(focus exact q_v))|refine QY ?_|refine QB ?_;intro b|with_reducible refine QZ ?_<;>(try constructor)<;>intro hb<;>try intro hb1|fail)
 refine Bw (ι:=Nat) (λi A st'=>i<=R.length/\A.df=[]/\A.e 12=.sl .shared ROW/\A.e 13=.i R.length/\A.e 14=.i i/\∃k:Nat,Hid (k+Fq N.fs (R.drop i)=T)/\A.e 3=.i k/\(N.st++st).Perm st') (λi=>R.length - i) 0 ⟨Aq _,Qf,Qf,Qf,Qf,0,HT,Qf,hNs2.out⟩ ?_
 clear HT hNs2
 rintro i A st' ⟨hi,hdf,e12,e13,e14,k,HK,e3,hpm⟩
 by_cases hlt:i<R.length
 . obtain⟨x,hx⟩:=gEx hlt
   obtain⟨S,hS⟩:∃S,N.cs[i]?=some S:=⟨_,Aj (by rw[hcl];exact hlt)⟩
   have hC:=HN.out.ch i x S hx hS
   have hrc:=hrow.out i S hS
   obtain⟨hx1,hx4⟩:=HP.out x (Ah hx)
   have hnl:=hC.nl
   have hcap:S.ns.length<=S.cap:=by
    have:=hC.str.row
    rw[Ae,DK]at this
    omega
   have HE:=HK.out
   rw[Qy hx]at HE
   have HX:Hid (k+(Kp N.fs x.pats x.pats.length - Kp N.fs x.pats 0)+Fq N.fs (R.drop (i+1))=T):=by
    show k+(Kp N.fs x.pats x.pats.length - 0)+_=T
    rw[Lp,FI];exact HE
   have hmono:Hid (∀j,j<=x.pats.length->Kp N.fs x.pats j<=Kp N.fs x.pats x.pats.length):=λj hj=>by
    obtain⟨d,hd⟩:∃d,x.pats.length=j+d:=⟨x.pats.length - j,by omega⟩
    rw[hd]
    clear hd hj
    induction d with
    | zero=>exact Ap _
    | succ d ih=>exact CP ih (Fh _ _)
   have hnode:Hid (∀j,j<x.pats.length->∃(c:D) (n:Nat),Kp N.fs x.pats (j+1)=Kp N.fs x.pats j+n/\List.take 1 (List.drop ((j+1)*9+7) (Cz S.ns++S.zs))=[c]/\(j+1)*9+8<=(Cz S.ns++S.zs).length/\((c=.sl .tight []/\n=0)\/∃g cl,c=.ar g 0 n cl)):=λj hj=>by
    obtain⟨y,hy⟩:∃y,S.ns[j+1]?=some y:=⟨_,Aj (by rw[hnl];omega)⟩
    obtain⟨c,c1,c2,c3⟩:=YX hC.str hy
    have h1:=(Xg hC HN.out.f0 HN.out.nodup q_o hy).length_eq
    rw[Ab]at h1
    exact⟨c,y.ts.length,by rw[h1];rfl,c1,c2,c3⟩
   obtain⟨X,hX⟩:∃X,(N.st++st).Perm (.box S.c 109 [.ar S.g 0 (x.pats.length+1) S.cap]::.box S.g 115 (Cz S.ns++S.zs)::X):=by
    rw[<-hnl]
    exact⟨_,Jo (N:=N) (M:=N.fm) (F:=N.fs) hS st⟩
   refine Bq (hpm.symm.trans hX) ?_
   have hback:=Aa hX
   rw[hnl]at hcap
   clear hpm hX HK HE hC hx hS hnl hrow HN HP
   obtain⟨G,hG⟩:∃G,Fq N.fs (R.drop (i+1))=G:=⟨_,rfl⟩
   rw[hG]at HX
   replace hG:=Aa hG
   obtain⟨tk,htk⟩:∃tk:Nat->Nat,tk=Kp N.fs x.pats:=⟨_,rfl⟩
   simp only[<-htk]at HX hmono hnode
   clear htk
   generalize Cz S.ns++S.zs=RN at *
   generalize x.pats.length=pl at *
   generalize S.c=sc at *
   generalize S.g=sg at *
   generalize S.cap=scap at *
   have hpl1:pl+1 - 1=pl:=by omega
   have hsc:1<scap:=by omega
   have hsi:(1:Int)<=(pl:Int)+1:=by omega
   repeat' (first|refine QX ?_|refine QB ?_;intro b|with_reducible refine QZ ?_<;>(try constructor)<;>intro hb<;>try intro hb1|fail)
   refine Bw (ι:=Nat) (λj A2 st2=>j<=pl/\A2.df=[]/\A2.e 5=.ptr sc 0/\A2.e 12=.sl .shared ROW/\A2.e 13=.i R.length/\A2.e 14=.i i/\A2.e 23=.i pl/\A2.e 24=.i j/\∃k2:Nat,Hid (k2+(tk pl - tk j)+G=T)/\A2.e 3=.i k2/\st2=.box sc 109 [.ar sg 0 (pl+1) scap]::.box sg 115 RN::X) (λj=>pl - j) 0 ⟨Aq _,Qf,Qf,Qf,Qf,Qf,Qf,Qf,k,HX,Qf,rfl⟩ ?_
   clear HX hdf e3 e12 e13 e14
   rintro j A2 st2 ⟨hj,hdf,e5,e12,e13,e14,e23,e24,k2,HK,e3,rfl⟩
   by_cases hjl:j<pl
   . obtain⟨c,n,n1,n2,n3,n4⟩:=hnode.out j hjl
     have htn:((j:Int)+1).toNat=j+1:=by omega
     rw[show(j+1)*9+7=(j+1)*9+6+1 by omega]at n2
     obtain⟨rest,n2⟩:∃rest,List.drop ((j+1)*9+6+1) RN=c::rest:=by
      cases hd:List.drop ((j+1)*9+6+1) RN with
      | nil=>rw[hd]at n2;cases n2
      | cons a l=>rw[hd]at n2;exact⟨l,by rw[(List.cons.inj n2).1]⟩
     clear n3
     have hm:=hmono.out (j+1) hjl
     have HE:Hid (k2+n+(tk pl - tk (j+1))+G=T):=by
      have h1:=HK.out
      show _=T
      omega
     have hb2:k2+n<=T:=by have:=HE.out;omega
     clear HK hmono hnode
     replace n1:=Aa n1
     rcases n4 with⟨rfl,hn0⟩|⟨g,cl,rfl⟩
     . subst hn0
       repeat' (first|refine QX ?_|refine QB ?_;intro b|with_reducible refine QZ ?_<;>(try constructor)<;>intro hb<;>try intro hb1|fail)
       refine⟨j+1,_,Al _,⟨hjl,?_,?_,?_,?_,?_,?_,?_,k2,HE,?_,rfl⟩,by omega⟩
       all_goals exact Qf
     . repeat' (first|refine QX ?_|refine QB ?_;intro b|with_reducible refine QZ ?_<;>(try constructor)<;>intro hb<;>try intro hb1|fail)
       refine⟨j+1,_,Al _,⟨hjl,?_,?_,?_,?_,?_,?_,?_,k2+n,HE,?_,rfl⟩,by omega⟩
       all_goals exact Qf
   . have hjn:j=pl:=by omega
     subst hjn
     have HE:Hid (k2+Fq N.fs (R.drop (i+1))=T):=by
      have h1:=HK.out
      rw[He,Ea,<-hG.out]at h1
      exact h1
     clear HK hmono hnode
     repeat' (first|refine QX ?_|refine QB ?_;intro b|with_reducible refine QZ ?_<;>(try constructor)<;>intro hb<;>try intro hb1|fail)
     refine⟨i+1,_,Al _,⟨hlt,?_,?_,?_,?_,k2,HE,?_,hback.out⟩,by omega⟩
     all_goals exact Qf
 . have HE:=HK.out
   rw[AB q_o]at HE
   have HE:k=T:=HE
   clear HK HN HP hrow
   subst HE
   have hpm2:=Aa hpm
   clear hpm
   repeat' (first|refine QX ?_|refine QB ?_;intro b|with_reducible refine QZ ?_<;>(try constructor)<;>intro hb<;>try intro hb1|fail)
   all_goals exact Bl (by simp) q_y (Al _) (LE.of_eq q_v) ⟨rfl,hpm2.out⟩
end
section
theorem TF{K l L:List Fc}(hnd:(K.map Fc.id).Nodup)(h1:l.Perm K)(h2:WU l)(k1:L.Perm K)(k2:WU L):l=L:=by
 refine kW (le:=λa b:Fc=>a.id<=b.id) (λa b ha hb e1 e2=>?_) h2 k2 (h1.trans k1.symm)
 have ha:=h1.mem_iff.1 ha
 have hb:=k1.mem_iff.1 hb
 have:=Mat.find_self hnd ha
 have h3:=Mat.find_self hnd hb
 rw[show a.id=b.id by omega,h3]at this
 exact(Ci this).symm
structure NetL (N:NT)(R:List Rl)(L:List Fc):Prop where
 ok:N.Ok R
 p:L.Perm N.fs
 s:WU L
variable {N:NT} {R:List Rl} {L:List Fc}
theorem NetL.len(h:NetL N R L):L.length=N.fs.length:=h.p.length_eq
theorem NetL.nd(h:NetL N R L):(L.map Fc.id).Nodup:=(h.p.map Fc.id).nodup_iff.2 h.ok.nodup
theorem NetL.fk(h:NetL N R L):FKs L:=⟨λf hf=>h.ok.fk.f f (h.p.mem_iff.1 hf),by rw[h.len];exact h.ok.fk.l⟩
theorem NetL.ids(h:NetL N R L)(x:Int):x∈N.fs.map Fc.id↔x∈L.map Fc.id:=((h.p.map Fc.id).mem_iff).symm
theorem NetL.facts(h:NetL N R L)(st:St):TrF prog 40 [.ptr N.b 0] (N.st++st) λd st'=>d=.sl .shared (L.map Fc.cells)/\st'=N.st++st :=
 (Zd N R h.ok st).mono λd st' ⟨l,h1,h2,h3,h4⟩=>⟨by rw[h3,TF h.ok.nodup h1 h2 h.p h.s],h4⟩
theorem NetL.matches_(h:NetL N R L)(hR:R.length<=1000)(hp:∀x∈R,x.pats.length<=4)(hl:(Mat.raws R L).length<=1000000)(st:St):TrF prog 37 [.ptr N.b 0] (N.st++st) λd st'=>d=.sl .shared ((Mat.sortM (Mat.raws R L)).map Mt.cells)/\st'=N.st++st:=by
 have hpm:=QT h.p R
 have:=UG N R h.ok hR hp (by rw[<-hpm.length_eq];exact hl) st
 rwa[<-sortM_perm hpm]at this
theorem Qx{F G:List Fc}(h:F.Perm G)(ps:List Pt):∀m,Kp F ps m=Kp G ps m
|0=>rfl
|m+1=>by unfold Kp;rw[Qx h ps m,(from_perm h _ _ _).length_eq]
theorem Qz{F G:List Fc}(h:F.Perm G):∀R:List Rl,Fq F R=Fq G R
|[]=>rfl
|x::l=>by unfold Fq;rw[Qx h,Qz h l]
theorem NetL.tokens(h:NetL N R L)(hR:R.length<=1000)(hp:∀x∈R,1<=x.pats.length/\x.pats.length<=4)(hl:Fq L R<=1000000000)(st:St):TrF prog 41 [.ptr N.b 0] (N.st++st) λd st'=>d=.i (Fq L R)/\st'=N.st++st:=by
 rw[Qz h.p R]at hl |-
 exact TrF.permPost (.refl _) ((Wi N R h.ok hR hp hl st).mono λd st' ⟨e1,e2⟩=>⟨_,⟨e1,rfl⟩,e2.symm⟩)
def MJ (L:List Fc)(f:Fc):List Fc:=if f.id∈L.map Fc.id then L else Ws f L
def PL (L:List Fc)(id:Int):List Fc:=L.filter λg=>g.id != id
theorem PM(L:List Fc)(f:Fc):(MJ L f).length<=L.length+1:=by
 unfold MJ
 split
 . omega
 . rw[(Jr f L).length_eq];exact Ap _
theorem PJ(L:List Fc)(id:Int):(PL L id).length<=L.length:=Jy ..
theorem NetL.assert(h:NetL N R L)(f:Fc)(hR:R.length<=1000)(hf:FK f)(h0:f.id≠0)(hl:L.length<1000)(st:St):TrF prog 33 [.ptr N.b 0,.agg f.cells] (N.st++st) λd st'=>∃N':NT,NetL N' R (MJ L f)/\N'.b=N.b/\d=.b (!(decide (f.id∈L.map Fc.id)))/\(N'.st++st).Perm st':=by
 refine(Wj N R f h.ok hR hf h0 (by rw[<-h.len];exact hl) st).mono λd st' ⟨N',h1,h2,h3,h4⟩=>⟨N',?_,h2,?_,h4⟩
 . unfold MJ
   rcases h3 with⟨k1,k2, -⟩|⟨k1,k2, -⟩
   . rw[if_pos ((h.ids _).1 k1)]
     exact⟨h1,by rw[k2];exact h.p,h.s⟩
   . rw[if_neg (λe=>k1 ((h.ids _).2 e))]
     refine⟨h1,?_,Pd f h.s⟩
     rw[k2]
     exact(Jr f L).trans ((h.p.cons f).trans (Bk (l₁:=[f])))
 . rcases h3 with⟨k1, -,k3⟩|⟨k1, -,k3⟩
   . rw[k3,decide_eq_true ((h.ids _).1 k1)];rfl
   . rw[k3,decide_eq_false (λe=>k1 ((h.ids _).2 e))];rfl
theorem NetL.retract(h:NetL N R L)(id:Int)(hR:R.length<=1000)(st:St):TrF prog 35 [.ptr N.b 0,.i id] (N.st++st) λd st'=>∃N':NT,NetL N' R (PL L id)/\N'.b=N.b/\d=.b (decide (id∈L.map Fc.id))/\(N'.st++st).Perm st':=by
 refine(UD N R id h.ok hR st).mono λd st' ⟨N',h1,h2,h3,h4⟩=>⟨N',?_,h2,?_,h4⟩
 . rcases h3 with⟨k1,k2, -⟩|⟨k1,k2, -⟩
   . have e : PL L id = L := Li.2 λg hg => by
      have:g.id≠id:=λe=>k1 ((h.ids _).2 (Ax.2 ⟨g,hg,e⟩))
      simpa using this
     rw[e]
     exact⟨h1,by rw[k2];exact h.p,h.s⟩
   . exact⟨h1,(h.p.filter _).trans k2.symm,h.s.filter _⟩
 . rcases h3 with⟨k1, -,k3⟩|⟨k1, -,k3⟩
   . rw[k3,decide_eq_false (λe=>k1 ((h.ids _).2 e))]
   . rw[k3,decide_eq_true ((h.ids _).1 k1)]
def WA (R:List Rl)(F:List Fc)(m:Mt):Option (List V):=if 0<=m.rule then(match R[m.rule.toNat]? with|some x=>Mat.envP x F m.ids|none=>none)else none
theorem fj{α β:Type}{l:List (α×β)}(h:(l.map Prod.fst).Nodup){a:α}{b c:β}(h1:(a,b)∈l)(h2:(a,c)∈l):b=c:=by
 induction l with
|nil=>cases h1
|cons p l ih =>
  rw[Aw,Ba]at h
  rcases Az.1 h1 with e1|h1
  . rcases Az.1 h2 with e2|h2
    . rw[<-e1]at e2;cases e2;rfl
    . exact absurd (Ax.2 ⟨(a,c),h2,by rw[<-e1]⟩) h.1
  . rcases Az.1 h2 with e2|h2
    . exact absurd (Ax.2 ⟨(a,b),h1,by rw[<-e2]⟩) h.1
    . exact ih h.2 h1 h2
theorem MD{x:Rl}{F:List Fc}{ids:List Int}{e:List V}(h:Mat.envP x F ids=some e):(ids,e)∈Mat.mats x F:=by
 unfold Mat.envP at h
 obtain⟨y,hy,rfl⟩:=mS.1 h
 have h1:=Gs hy
 have h1:=of_decide_eq_true h1
 have:=CY hy
 rw[<-h1];exact this
theorem Tc{x:Rl}{F:List Fc}(hnd:(F.map Fc.id).Nodup){ids:List Int}{e:List V}(h:(ids,e)∈Mat.mats x F):Mat.envP x F ids=some e:=by
 cases hq:Mat.envP x F ids with
|none =>
  unfold Mat.envP at hq
  rw[PP]at hq
  exact absurd (decide_eq_true rfl) (Dr.1 hq _ h)
|some e2 =>
  rw[fj (by rw[Mat.mats_refs hnd];exact Mat.refs_nodup hnd x) (MD hq) h]
theorem RG{F G:List Fc}(h:F.Perm G)(hnd:(F.map Fc.id).Nodup)(x:Rl)(ids:List Int):Mat.envP x F ids=Mat.envP x G ids:=by
 have hp:(Mat.mats x F).Perm (Mat.mats x G):=from_perm h _ _ _
 have hnd2:(G.map Fc.id).Nodup:=(h.map Fc.id).nodup_iff.1 hnd
 cases hq:Mat.envP x F ids with
|none =>
  cases hr:Mat.envP x G ids with
  | none=>rfl
  | some e=>rw[Tc hnd (hp.mem_iff.2 (MD hr))]at hq;cases hq
|some e=>exact(Tc hnd2 (hp.mem_iff.1 (MD hq))).symm
theorem eS{x:Rl}{F:List Fc}{y:List Int×List V}(h:y∈Mat.mats x F):y.2.length=8:=Mat.from_env x.pats [] Mat.empty rfl y h
theorem Rz{f:Rl->List (List Int)}:∀{R:List Rl} {i:Int} {k:Nat} {x:Rl} {r:List Int},R[k]?=some x->r∈f x->(⟨i+k,r⟩:Mt)∈Mat.flatR f R i
|[],_,_,_,_,h,_=>by cases h
|y::R,i,0,x,r,h,hr=>by
  cases h
  unfold Mat.flatR
  refine Bm _ (Ax.2 ⟨r,hr,?_⟩)
  rw[show i+((0:Nat):Int)=i by omega]
|y::R,i,k+1,x,r,h,hr=>by
  unfold Mat.flatR
  refine Bc _ ?_
  have:=Rz (i:=i+1) (k:=k) (R:=R) h hr
  rwa[show i+1+(k:Int)=i+((k+1:Nat):Int) by omega]at this
theorem Mat.raws_mem_of{R:List Rl}{F:List Fc}{m:Mt}{x:Rl}{e:List V}(hx:R[m.rule.toNat]?=some x)(hm:0<=m.rule)(h:(m.ids,e)∈Mat.mats x F):m∈Mat.raws R F:=by
 have h1:=Rz (f:=λx=>(Mat.mats x F).map Prod.fst) (i:=0) hx (BH h)
 have e:(⟨0+(m.rule.toNat:Int),m.ids⟩:Mt)=m:=by
  cases m
  rw[show(0:Int)+((Mt.rule ⟨_,_⟩).toNat:Int)=_ from by
   show(0:Int)+_=_
   rw[Ht hm,Int.zero_add]]
 rw[e]at h1
 exact h1
theorem cr(h:NetL N R L)(m:Mt):((DX N.cs 0).find? λy=>decide (Mat.ord y.1 m=0)).map (λy=>y.2.2)=WA R L m:=by
 cases hq:(DX N.cs 0).find? λy=>decide (Mat.ord y.1 m=0)with
|some y =>
  have h0:Mat.ord y.1 m=0:=by have:=Gs hq;simpa using this
  have h1:=Mat.ord_eq h0
  obtain⟨k,x,k1,k2,k3⟩:=h.ok.end_ (CY hq)
  unfold WA
  rw[<-h1,k2,if_pos q_o,BR,k1]
  show some y.2.2=Mat.envP x L y.1.ids
  rw[RG h.p h.nd]
  exact(Tc h.ok.nodup k3).symm
|none =>
  show none=WA R L m
  cases hr:WA R L m with
  | none=>rfl
  | some e =>
   exfalso
   unfold WA at hr
   by_cases hm:0<=m.rule
   . rw[if_pos hm]at hr
     cases hx:R[m.rule.toNat]? with
     | none=>rw[hx]at hr;cases hr
     | some x =>
      rw[hx]at hr
      have hr:Mat.envP x L m.ids=some e:=hr
      rw[RG h.p h.nd]at hr
      have hmem:=MD hr
      have hin:m∈Mat.raws R N.fs:=Mat.raws_mem_of hx hm hmem
      obtain⟨y,hy,rfl⟩:=Ax.1 (h.ok.ends.mem_iff.2 hin)
      have:=Dr.1 hq y hy
      exact this (decide_eq_true (Mat.ord_self _))
   . rw[if_neg hm]at hr;cases hr
theorem NetL.env(h:NetL N R L)(m:Mt)(hR:R.length<=1000)(hp:∀x∈R,x.pats.length<=4)(hm:m.ids.length<=1000000)(st:St):TrF prog 43 [.ptr N.b 0,.agg m.cells] (N.st++st) λd st'=>d=fq (WA R L m)/\st'=N.st++st:=by
 have:=eP N R m h.ok hR (λy hy=>by have:=h.ok.ids_len hp y hy;omega) (λy hy=>by
  obtain⟨k,x, -, -,k3⟩:=h.ok.end_ hy
  have:=eS k3
  have h8:y.2.2.length=8:=this
  exact⟨λe=>(by rw[e]at h8;cases h8),by omega⟩) hm st
 rwa[cr h m]at this
end
section
section
variable {P:Program} {N:Nat} {r:Option Nat} {A:AA} {st:St} {Q:Exit->AA->St->Prop}
end
theorem NetL.new{N:NT}{R:List Rl}(h:N.Ok R)(hf:N.fs=[]):NetL N R []:=⟨h,by rw[hf],List.Pairwise.nil⟩
theorem Gw{R:List Rl}{F:List Fc}(hr:R.length<=8)(hp:∀x∈R,x.pats.length<=4)(hf:F.length<=9):(Mat.raws R F).length<=1000000:=by
 have h1:∀(l:List Rl) (i:Int),(∀x∈l,x.pats.length<=4)->(Mat.flatR (λx=>(Mat.mats x F).map Prod.fst) l i).length<=l.length*10000:=by
  intro l
  induction l with
  | nil=>exactλ_ _=>Aq _
  | cons x l ih =>
   intro i hl
   rw[Mat.flatR,Ae,Ab,Ab,An,Cs]
   have a:=ih (i+1) λy hy=>hl y (Ad _ hy)
   have b:(Mat.mats x F).length<=(F.length+1) ^ x.pats.length:=Mat.from_length F x.pats [] Mat.empty
   have c:(F.length+1) ^ x.pats.length<=10 ^ 4:=CP (Nat.pow_le_pow_left q_o _) (GV (by decide) (hl x (Ag ..)))
   have d:(10:Nat) ^ 4=10000:=by decide
   omega
 have:=h1 R 0 hp
 unfold Mat.raws
 omega
theorem Wt{R:List Rl}{F:List Fc}(hp:∀x∈R,x.pats.length<=4):∀m∈Mat.sortM (Mat.raws R F),m.ids.length<=1000000:=λm h=>by
 obtain⟨k,x,e,h1, -, -, -,h2⟩:=Mat.once h
 have:=hp x (Ah h1)
 omega
theorem OA{R:List Rl}{F:List Fc}(hr:R.length<=8)(hp:∀x∈R,x.pats.length<=4)(hf:F.length<=9)(st:St):TrF prog 22 [.sl .shared ((Mat.sortM (Mat.raws R F)).map Mt.cells),.sl .shared ((Mat.sortM (Mat.raws R F)).map Mt.cells)] st λd st'=>d=.b true/\st'=st:=by
 have:=OM (Mat.sortM (Mat.raws R F)) (Mat.sortM (Mat.raws R F)) (Wt hp) (Wt hp) (by rw[(Mat.sortM_srt (Mat.raws R F)).2.length_eq];exact Gw hr hp hf) st
 rwa[Mat.same_self]at this
structure RK9 (R:List Rl):Prop where
 rl:R.length<=8
 rk:∀x∈R,XK x/\1<=x.pats.length/\x.pats.length<=4
theorem RK9.p4{R:List Rl}(h:RK9 R):∀x∈R,x.pats.length<=4:=λx hx=>(h.rk x hx).2.2
theorem RK9.p14{R:List Rl}(h:RK9 R):∀x∈R,1<=x.pats.length/\x.pats.length<=4:=λx hx=>(h.rk x hx).2
theorem RK9.tok{R:List Rl}(h:RK9 R){F:List Fc}(hf:F.length<=9):Fq F R<=1000000000:=by
 have:=Xl hf R h.p4
 have:=h.rl
 omega
theorem Mat.May19.rk{R:List Rl}{A:List Ak}(h:Mat.May19 R A):RK9 R:=⟨h.rl,λx hx=>⟨h.xk x hx,h.rn x hx⟩⟩
end
section
attribute [local push_cast] Bs Bn BV V.cells_mk V.cells_len Nat.mul_one Int.sub_zero List.map_nil beq_self_eq_true bne_self_eq_false List.head?_cons Bool.not_true Bool.not_false Nat.zero_add
section
set_option maxHeartbeats 16000000
abbrev w0:V:=.mk 0 0 ⟨#[]⟩ []
abbrev wI (n:Int):V:=.mk 2 n ⟨#[]⟩ []
abbrev aR:Rl:=⟨⟨#[114]⟩,0,[⟨0,false,[⟨5,0,0,w0⟩]⟩,⟨0,false,[]⟩],[]⟩
abbrev aF:List Fc:=[⟨1,0,0,0,[wI 5]⟩,⟨2,0,0,0,[wI 6]⟩]
theorem gH(k n:Int)(h:(0<=k/\k<=9)/\0<=n/\n<=9):(V.mk k n ⟨#[]⟩ []).Ok:=.mk q_o q_o (Aq _) (Aq _) (λx h=>by cases h)
end
end
section
attribute [local push_cast] Bs Bn BV V.cells_mk V.cells_len Nat.mul_one Int.sub_zero List.map_nil beq_self_eq_true bne_self_eq_false List.head?_cons Bool.not_true Bool.not_false Nat.zero_add
set_option maxHeartbeats 16000000
attribute [-instance] Dl
abbrev nR:Rl:=⟨⟨#[114]⟩,0,[⟨0,false,[⟨5,0,0,w0⟩]⟩,⟨0,true,[⟨9,0,0,w0⟩]⟩],[]⟩
abbrev nF (k:Int):Fc:=⟨k,0,0,0,[wI k]⟩
theorem bN:nR.cells=[.str ⟨#[114]⟩,.i 0,.sl .shared [[.i 0,.b false,.sl .shared [[.i 5,.i 0,.i 0,.i 0,.i 0,.str ⟨#[]⟩,.sl .shared []]]],[.i 0,.b true,.sl .shared [[.i 9,.i 0,.i 0,.i 0,.i 0,.str ⟨#[]⟩,.sl .shared []]]]],.sl .shared []]:=by
 simp only[Rl.cells,Pt.cells,Ac.cells,Aw,BF,Ts.cells_mk,Ex.cells_mk]
theorem OW(k:Int):(nF k).cells=[.i k,.i 0,.i 0,.i 0,.sl .shared [[.i 2,.i k,.str ⟨#[]⟩,.sl .shared []]]]:=by
 simp only[Fc.cells,Aw,BF,V.cells_mk]
theorem nR_rk:RK9 [nR]:=⟨by decide,λx hx=>by
 rw[Ay.1 hx]
 refine⟨⟨λp hp=>?_,by decide⟩,by decide,by decide⟩
 simp only[Az,AU,or_false]at hp
 rcases hp with rfl|rfl
 . exact⟨λt ht=>by rw[Ay.1 ht];exact(gH 0 0 (by decide)).bg,by decide⟩
 . exact⟨λt ht=>by rw[Ay.1 ht];exact(gH 0 0 (by decide)).bg,by decide⟩⟩
theorem bO(k:Int)(h:1<=k/\k<=9):FK (nF k):=⟨λx hx=>by
 rw[Ay.1 hx]
 exact⟨gH 2 k q_o,BX rfl⟩,BX rfl⟩
theorem Yb(k:Int)(hk:1<=k/\k<=9)(st:St):TrF prog 62 [.i k] st λd st'=>d=.agg (nF k).cells/\st'=st:=by
 have hI:=eg k
 rw[OW]
 simp only[V.cells_mk,BF]at hI
 replace hI:=Aa hI
 refine fY 2 43 func62 ntmps62 ?_
 repeat' (first|refine QX ?_|refine QB ?_;intro b|with_reducible refine QZ ?_<;>(try constructor)<;>intro hb<;>try intro hb1|refine Qc call44 ((hI.out _)) ?_|(with_reducible refine DM ?_)|fail)
 all_goals exact Vq
theorem a1:MJ [] (nF 1)=[nF 1]:=by kernel_rfl
theorem a2:MJ [nF 1] (nF 2)=[nF 1,nF 2]:=by kernel_rfl
theorem a3:MJ [nF 1,nF 2] (nF 2)=[nF 1,nF 2]:=by kernel_rfl
theorem a4:PL [nF 1,nF 2] 2=[nF 1]:=by kernel_rfl
theorem m2:(Mat.sortM (Mat.raws [nR] [nF 1,nF 2])).map Mt.cells=[[.i 0,.sl .shared [[.i 2]]]]:=by kernel_rfl
theorem m1:(Mat.sortM (Mat.raws [nR] [nF 1])).map Mt.cells=[[.i 0,.sl .shared [[.i 1]]]]:=by kernel_rfl
theorem t2:Fq [nF 1,nF 2] [nR]=3:=by kernel_rfl
theorem e1:WA [nR] [nF 1] ⟨0,[1]⟩=some [wI 1,w0,w0,w0,w0,w0,w0,w0]:=by kernel_rfl
theorem Vo(st:St):TrF prog 30 [] st λd st'=>d=.b true/\st'=st:=by
 have hR1:[nR].length<=1000:=by decide
 have hNew:Hid (∀(o:Own) (st:St),TrF prog 32 [.sl o [[.str ⟨#[114]⟩,.i 0,.sl .shared [[.i 0,.b false,.sl .shared [[.i 5,.i 0,.i 0,.i 0,.i 0,.str ⟨#[]⟩,.sl .shared []]]],[.i 0,.b true,.sl .shared [[.i 9,.i 0,.i 0,.i 0,.i 0,.str ⟨#[]⟩,.sl .shared []]]]],.sl .shared []]]] st λd st'=>∃N:NT,NetL N [nR] []/\d=.ptr N.b 0/\(N.st++st).Perm st'):=λo st=>by
  have h:=Oc [nR] nR_rk.rk hR1 st
  rw[Aw,BF,bN]at h
  exact(TrF.le h (LEL.cons (LE.sl o _) LEL.nil)).mono λd st' ⟨N,h1,h2,h3,h4⟩=>⟨N,.new h1 h2,h3,h4⟩
 have hO1:=Aa (Yb 1 (by decide))
 have hO2:=Aa (Yb 2 (by decide))
 have hA1:Hid (∀(nb:Nat) (N:NT),N.b=nb->NetL N [nR] []->∀st,TrF prog 33 [.ptr nb 0,.agg (nF 1).cells] (N.st++st) λd st'=>∃N':NT,NetL N' [nR] [nF 1]/\N'.b=nb/\d=.b true/\(N'.st++st).Perm st'):=λnb N e h st=>by
  have:=h.assert (nF 1) hR1 (bO 1 (by decide)) (by decide) (by decide) st
  rw[a1,e]at this
  exact this
 have hA2:Hid (∀(nb:Nat) (N:NT),N.b=nb->NetL N [nR] [nF 1]->∀st,TrF prog 33 [.ptr nb 0,.agg (nF 2).cells] (N.st++st) λd st'=>∃N':NT,NetL N' [nR] [nF 1,nF 2]/\N'.b=nb/\d=.b true/\(N'.st++st).Perm st'):=λnb N e h st=>by
  have:=h.assert (nF 2) hR1 (bO 2 (by decide)) (by decide) (by decide) st
  rw[a2,e]at this
  exact this
 have hA3:Hid (∀(nb:Nat) (N:NT),N.b=nb->NetL N [nR] [nF 1,nF 2]->∀st,TrF prog 33 [.ptr nb 0,.agg (nF 2).cells] (N.st++st) λd st'=>∃N':NT,NetL N' [nR] [nF 1,nF 2]/\N'.b=nb/\d=.b false/\(N'.st++st).Perm st'):=λnb N e h st=>by
  have:=h.assert (nF 2) hR1 (bO 2 (by decide)) (by decide) (by decide) st
  rw[a3,e]at this
  exact this
 have hRe:Hid (∀(nb:Nat) (N:NT),N.b=nb->NetL N [nR] [nF 1,nF 2]->∀st,TrF prog 35 [.ptr nb 0,.i 2] (N.st++st) λd st'=>∃N':NT,NetL N' [nR] [nF 1]/\N'.b=nb/\d=.b true/\(N'.st++st).Perm st'):=λnb N e h st=>by
  have:=h.retract 2 hR1 st
  rw[a4,e]at this
  exact this
 have hM2:Hid (∀(nb:Nat) (N:NT),N.b=nb->NetL N [nR] [nF 1,nF 2]->∀st,TrF prog 37 [.ptr nb 0] (N.st++st) λd st'=>d=.sl .shared [[.i 0,.sl .shared [[.i 2]]]]/\st'=N.st++st):=λnb N e h st=>by
  have:=h.matches_ hR1 nR_rk.p4 (Gw nR_rk.rl nR_rk.p4 (by decide)) st
  rw[m2,e]at this
  exact this
 have hM1:Hid (∀(nb:Nat) (N:NT),N.b=nb->NetL N [nR] [nF 1]->∀st,TrF prog 37 [.ptr nb 0] (N.st++st) λd st'=>d=.sl .shared [[.i 0,.sl .shared [[.i 1]]]]/\st'=N.st++st):=λnb N e h st=>by
  have:=h.matches_ hR1 nR_rk.p4 (Gw nR_rk.rl nR_rk.p4 (by decide)) st
  rw[m1,e]at this
  exact this
 have hT:Hid (∀(nb:Nat) (N:NT),N.b=nb->NetL N [nR] [nF 1,nF 2]->∀st,TrF prog 41 [.ptr nb 0] (N.st++st) λd st'=>d=.i 3/\st'=N.st++st):=λnb N e h st=>by
  have:=h.tokens hR1 nR_rk.p14 (nR_rk.tok (by decide)) st
  rw[t2,e]at this
  exact this
 have hE:Hid (∀(nb:Nat) (N:NT),N.b=nb->NetL N [nR] [nF 1]->∀st,TrF prog 43 [.ptr nb 0,.agg [.i 0,.sl .shared [[.i 1]]]] (N.st++st) λd st'=>d=.tup [.sl .shared [[.i 2,.i 1,.str ⟨#[]⟩,.sl .shared []],[.i 0,.i 0,.str ⟨#[]⟩,.sl .shared []],[.i 0,.i 0,.str ⟨#[]⟩,.sl .shared []],[.i 0,.i 0,.str ⟨#[]⟩,.sl .shared []],[.i 0,.i 0,.str ⟨#[]⟩,.sl .shared []],[.i 0,.i 0,.str ⟨#[]⟩,.sl .shared []],[.i 0,.i 0,.str ⟨#[]⟩,.sl .shared []],[.i 0,.i 0,.str ⟨#[]⟩,.sl .shared []]],.b true]/\st'=N.st++st):=λnb N e h st=>by
  have:=h.env ⟨0,[1]⟩ hR1 nR_rk.p4 (by decide) st
  rw[e1,e]at this
  simp only[fq,Aw,BF,V.cells_mk,Mt.cells,Bn]at this
  exact this
 have hF:Hid (∀(nb:Nat) (N:NT),N.b=nb->NetL N [nR] [nF 1]->∀st,TrF prog 40 [.ptr nb 0] (N.st++st) λd st'=>d=.sl .shared [[.i 1,.i 0,.i 0,.i 0,.sl .shared [[.i 2,.i 1,.str ⟨#[]⟩,.sl .shared []]]]]/\st'=N.st++st):=λnb N e h st=>by
  have:=h.facts st
  rw[e,Aw,BF,OW]at this
  exact this
 rw[OW]at hA1 hA2 hA3 hO1 hO2
 refine Qin [0] func30 results30 ntmps30 ?_
 repeat' (first|refine QV ?_|with_reducible refine FV ?_|((with_reducible apply(Bj (f:=32) (henter:=call32) (hp:=Ao _) (h:=(hNew.out _ _))));(focus exact q_v);(focus exact q_l);(rintro d0 st0 ⟨N0,hL0,rfl,hp0⟩))|((with_reducible apply(Bj (f:=62) (henter:=call62) (hp:=Ao _) (h:=(hO1.out _))));(focus exact q_v);(focus exact q_l);(rintro d0 st0 ⟨rfl,rfl⟩))|((with_reducible apply(Bj (f:=62) (henter:=call62) (hp:=Ao _) (h:=(hO2.out _))));(focus exact q_v);(focus exact q_l);(rintro d0 st0 ⟨rfl,rfl⟩))|((with_reducible apply(Bj (f:=33) (henter:=call33) (hp:=hp0.symm) (h:=(hA1.out _ _ rfl hL0 _))));(focus exact q_v);(focus exact q_l);(rintro d0 st0 ⟨N1,hL1,hb1,rfl,hp1⟩))|((with_reducible apply(Bj (f:=33) (henter:=call33) (hp:=hp1.symm) (h:=(hA2.out _ _ hb1 hL1 _))));(focus exact q_v);(focus exact q_l);(rintro d0 st0 ⟨N2,hL2,hb2,rfl,hp2⟩))|((with_reducible apply(Bj (f:=33) (henter:=call33) (hp:=hp2.symm) (h:=(hA3.out _ _ hb2 hL2 _))));(focus exact q_v);(focus exact q_l);(rintro d0 st0 ⟨N3,hL3,hb3,rfl,hp3⟩))|((with_reducible apply(Bj (f:=37) (henter:=call37) (hp:=hp3.symm) (h:=(hM2.out _ _ hb3 hL3 _))));(focus exact q_v);(focus exact q_l);(rintro d0 st0 ⟨rfl,rfl⟩))|((with_reducible apply(Bj (f:=41) (henter:=call41) (hp:=Ao _) (h:=(hT.out _ _ hb3 hL3 _))));(focus exact q_v);(focus exact q_l);(rintro d0 st0 ⟨rfl,rfl⟩))|((with_reducible apply(Bj (f:=35) (henter:=call35) (hp:=Ao _) (h:=(hRe.out _ _ hb3 hL3 _))));(focus exact q_v);(focus exact q_l);(rintro d0 st0 ⟨N4,hL4,hb4,rfl,hp4⟩))|((with_reducible apply(Bj (f:=37) (henter:=call37) (hp:=hp4.symm) (h:=(hM1.out _ _ hb4 hL4 _))));(focus exact q_v);(focus exact q_l);(rintro d0 st0 ⟨rfl,rfl⟩))|((with_reducible apply(Bj (f:=43) (henter:=call43) (hp:=Ao _) (h:=(hE.out _ _ hb4 hL4 _))));(focus exact q_v);(focus exact q_l);(rintro d0 st0 ⟨rfl,rfl⟩))|((with_reducible apply(Bj (f:=40) (henter:=call40) (hp:=Ao _) (h:=(hF.out _ _ hb4 hL4 _))));(focus exact q_v);(focus exact q_l);(rintro d0 st0 ⟨rfl,rfl⟩))|refine QY ?_|(refine QB ?_;intro b)|refine QP ?_;intro o' ho'|(with_reducible refine QZ ?_<;>(try constructor)<;>intro hb<;>try intro hb1)|fail)
 all_goals exact Bl (by simp) q_y ((AL ..).trans (CX ..)) (LE.of_eq q_v) ⟨rfl,rfl⟩
end
section
attribute [local push_cast] Bs Bn BV V.cells_mk V.cells_len Nat.mul_one Int.sub_zero List.map_nil beq_self_eq_true bne_self_eq_false List.head?_cons Bool.not_true Bool.not_false Nat.zero_add
set_option maxHeartbeats 16000000
attribute [-instance] Dl
end
end Go.Proofs.YtoeidpmjifjplaaGreat
