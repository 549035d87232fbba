/- Texts put together. No statement is proved here. -/
import Derived.Test.YtoeidpmjifjplaaGreatZ10
set_option linter.all false
set_option maxRecDepth 10000
set_option maxHeartbeats 8000000
namespace Go.Proofs.YtoeidpmjifjplaaGreat
open Go.RowKit Tryz
section
theorem Lf{M:MemP}{K:List Fc}(h:M.okF K):(K.map Fc.id).Nodup:=by
 cases M with
|no =>
  obtain⟨h1, -⟩:=h
  obtain rfl:K=[]:=Eh.1 h1
  exact CA
|at_ b l c gl cl zl gk ck zk =>
  have h2:=h.1.nodup
  have h3:K.map Pq=(K.map Fc.id).map MK.i:=by rw[Ey];rfl
  rw[h3]at h2
  exact List.Pairwise.of_map MK.i (λa b hab e=>hab (by rw[e])) h2
theorem Nv{p:Pt}{F:List Fc}{env:List V}{y:Int×List V}(h:y∈Mat.passL p F env):y.1∈F.map Fc.id:=by
 unfold Mat.passL at h
 obtain⟨f,hf,h2⟩:=Mg.1 h
 cases hq:Mat.pass p f env with
|none=>rw[hq] at h2;cases h2
|some e=>rw[hq] at h2;cases h2;exact BJ hf
theorem Zq{p:Pt}{F:List Fc}{env:List V}{j:Nat}{f:Fc}(hn:(F.map Fc.id).Nodup)(hf:F[j]?=some f):f.id∉(Mat.passL p (F.take j) env).map Prod.fst:=λh=>by
 obtain⟨y,hy,e⟩:=Av.1 h
 have h1:=Nv hy
 rw[e]at h1
 rw[<-Bv j F,V.drop_cons hf,Bi,Au,FG]at hn
 exact hn.2.2 _ h1 _ (Ag ..) rfl
theorem UL(p:Pt)(F:List Fc)(env:List V)(j:Nat):(Mat.passL p (F.take j) env).length<=j:=by
 have:=Mat.passL_len p (F.take j) env
 rw[AQ]at this
 omega
section
variable {P:Program} {N:Nat} {r:Option Nat} {A:AA} {st:St} {Q:Exit->AA->St->Prop}
theorem Hl{c:Code}(h:Tr P N r c A st (λex A' st'=>∃s2,st'.Perm s2/\Q ex A' s2)):Tr P N r c A st Q:=by
 intro a w h1 h2
 refine wpIn_mono (h a w h1 h2) ?_
 rintro e a' w' ⟨A',st',k1,k2,k3,s2,k4,k5⟩
 have e1:=OwnS.perm k4
 exact⟨A',s2,by rw[<-e1];exact k1,k2.perm k4,by rw[<-e1];exact k3,k5⟩
end
namespace Nt
variable {S S':NC} {E X:List Nat} {t u v:Tok} {H0:List Tok}
theorem Loc.setCount(h:Loc S X)(hS:Str S E)(hp:S.H.Perm (t::H0))(htX:t.b∈X){c:Int}(hc:0<=c/\c<=1000):Loc (Nt.setCount S H0 t c) X:=by
 intro u hu huX
 have hS2:=hS.setCount hp hc
 have hn:=JQ (c:=c) hp
 have ho:=JP (c:=c) hp
 have hu0:u∈S.H:=by
  rcases Ax.1 hu with rfl|hu
  . exact absurd htX huX
  . exact(memH hp).2 (.inr hu)
 have hk:=h u hu0 huX
 unfold LocOk at hk |-
 show if u.anc.length=S.ns.length then _ else _
 split
 . rename_i e;rw[if_pos e]at hk;exact hk
 . rename_i e
   rw[if_neg e]at hk
   intro x hx
   obtain⟨h1,h2,h3,h4⟩:=hk x hx
   refine⟨h1,λw hw e=>?_,λy hy=>?_,λw hw w' hw' e e' e2=>?_⟩
   . obtain⟨w0,k1,k2,k3,k4, -⟩:=hn w hw
     rw[k3,k4]
     exact h2 w0 k1 (by rw[<-k2];exact e)
   . obtain⟨w,k1,k2,k3⟩:=h3 y hy
     obtain⟨w',q1,q2, -,q3,q4, -⟩:=ho w k1
     exact⟨w',q1,by rw[q2];exact k2,by rw[q3,q4];exact k3⟩
   . obtain⟨w0,k1,k2,k3, -⟩:=hn w hw
     obtain⟨v0,q1,q2,q3, -⟩:=hn w' hw'
     have:=h4 w0 k1 v0 q1 (by rw[<-k2];exact e) (by rw[<-q2];exact e') (by rw[<-k3,<-q3];exact e2)
     subst this
     exact hS2.anc_b hw hw' (k2.trans q2.symm)
theorem Grew.setCount(hp:S.H.Perm (t::H0)){c:Int}:Grew S (Nt.setCount S H0 t c) t:=by
 refine⟨⟨rfl,rfl,rfl,rfl,rfl,λ_ x h=>⟨x,h,rfl,rfl⟩⟩,λu hu=>?_,withCount t c,Ag ..,rfl,rfl,rfl⟩
 show u∈S.H↔u∈withCount t c::H0
 rw[memH hp,Ax]
 constructor
 . rintro(rfl|h)
   . exact absurd (Es _) hu
   . exact .inr h
 . rintro(rfl|h)
   . exact absurd (Es _) hu
   . exact .inr h
theorem Part.setCount{L:List (Int×List V)}{c0 c:Int}(h:Part S t L c0)(hS:Str S E)(hp:S.H.Perm (t::H0))(hc:0<=c/\c<=1000):Part (Nt.setCount S H0 t c) (withCount t c) L c:=by
 have hS2:=hS.setCount hp hc
 have hn:=JQ (c:=c) hp
 have ho:=JP (c:=c) hp
 refine⟨rfl,λw hw e=>?_,λy hy=>?_,λw hw w' hw' e e' e2=>?_⟩
 . obtain⟨w0,k1,k2,k3,k4, -⟩:=hn w hw
   rw[k3,k4]
   exact h.sub w0 k1 (by rw[<-k2];exact e)
 . obtain⟨w,k1,k2,k3⟩:=h.all y hy
   obtain⟨w',q1,q2, -,q3,q4, -⟩:=ho w k1
   exact⟨w',q1,by rw[q2];exact k2,by rw[q3,q4];exact k3⟩
 . obtain⟨w0,k1,k2,k3, -⟩:=hn w hw
   obtain⟨v0,q1,q2,q3, -⟩:=hn w' hw'
   have:=h.one w0 k1 v0 q1 (by rw[<-k2];exact e) (by rw[<-q2];exact e') (by rw[<-k3,<-q3];exact e2)
   subst this
   exact hS2.anc_b hw hw' (k2.trans q2.symm)
theorem Part.nil(hS:Str S E)(ht:t∈S.H)(hk:t.kids=[]):Part S t [] t.count:=by
 have hno:∀u∈S.H,u.anc.tail≠t.anc:=λu hu e=>by
  have:=(hS.km t ht u.b).2 ⟨u,hu,rfl,e⟩
  rw[hk]at this
  cases this
 exact⟨rfl,λu hu e=>absurd e (hno u hu),λy hy=>(by cases hy),λu hu v hv e=>absurd e (hno u hu)⟩
end Nt
end
section
namespace Nt
variable {S S2 S' Sj:NC} {E X:List Nat} {t u v t':Tok} {H0:List Tok} {p:Pt} {fs:List Fc} {j:Nat} {f:Fc} {e:List V}
structure EnterJ (S2:NC)(t:Tok)(X:List Nat)(p:Pt)(fs:List Fc)(j:Nat)(Sj:NC):Prop where
 str:Str Sj []
 loc:Loc Sj (t.b::X)
 grew:Grew S2 Sj t
 part:∃t'∈Sj.H,t'.anc=t.anc/\t'.id=t.id/\t'.env=t.env/\Part Sj t' (if p.neg=true then[]else Mat.passL p (fs.take j) t.env) (cnt p (fs.take j) t.env)
theorem EnterJ.none(h:EnterJ S2 t X p fs j Sj)(hf:fs[j]?=some f)(hp:Mat.pass p f t.env=none):EnterJ S2 t X p fs (j+1) Sj:=by
 have e1:Mat.passL p (fs.take (j+1)) t.env=Mat.passL p (fs.take j) t.env:=by
  rw[Mat.passL_take hf,hp,AY]
 refine⟨h.str,h.loc,h.grew,?_⟩
 unfold cnt
 rw[e1]
 exact h.part
theorem EnterJ.neg(h:EnterJ S2 t X p fs j Sj)(hf:fs[j]?=some f)(hp:Mat.pass p f t.env=some e)(hn:p.neg=true)(hl:fs.length<=1000)(ht:t'∈Sj.H)(ha:t'.anc=t.anc)(hpm:Sj.H.Perm (t'::H0)):EnterJ S2 t X p fs (j+1) (setCount Sj H0 t' (t'.count+1))/\t'.count+1<=1000/\0<=t'.count:=by
 obtain⟨w,w1,w2,w3,w4,w5⟩:=h.part
 have:=h.str.anc_b ht w1 (ha.trans w2.symm)
 subst this
 have hj:=(Af.1 hf).1
 have hc:=w5.ct
 unfold cnt at hc
 rw[if_pos hn]at hc
 have hle:=UL p fs t.env j
 have hb:0<=t'.count+1/\t'.count+1<=1000:=by omega
 have htX:t'.b∈t.b::X:=by rw[b_of ha];exact Ag ..
 refine⟨⟨h.str.setCount hpm hb,h.loc.setCount h.str hpm htX hb,h.grew.trans ha w3 w4 (Grew.setCount hpm),withCount t' (t'.count+1),Ag ..,ha,w3,w4,?_⟩,hb.2,by omega⟩
 have h1:=w5.setCount (c:=t'.count+1) h.str hpm hb
 rw[if_pos hn]at h1 |-
 have h2:cnt p (fs.take (j+1)) t.env=t'.count+1:=by
  unfold cnt
  rw[if_pos hn,Mat.passL_take hf,hp,Ad,hc]
  rfl
 rw[h2]
 exact h1
theorem EnterJ.pos(h:EnterJ S2 t X p fs j Sj)(hf:fs[j]?=some f)(hp:Mat.pass p f t.env=some e)(hn:p.neg=false)(hnd:(fs.map Fc.id).Nodup)(ht:t'∈Sj.H)(ha:t'.anc=t.anc)(h1:Str S' [])(h2:Loc S' (t.b::X))(h3:ExtR Sj S' t' f.id e):EnterJ S2 t X p fs (j+1) S':=by
 obtain⟨w,w1,w2,w3,w4,w5⟩:=h.part
 have:=h.str.anc_b ht w1 (ha.trans w2.symm)
 subst this
 rw[if_neg (by rw[hn];exact AJ)]at w5
 obtain⟨t2,k1,k2,k3,k4,k5⟩:=w5.ext h1 ht (Zq hnd hf) h3
 refine⟨h1,h2,h.grew.trans ha w3 w4 h3.grew,t2,k1,k2.trans ha,k3.trans w3,k4.trans w4,?_⟩
 rw[if_neg (by rw[hn];exact AJ),Mat.passL_take hf,hp]
 have h4:cnt p (fs.take (j+1)) t.env=cnt p (fs.take j) t.env:=by
  unfold cnt
  rw[if_neg (by rw[hn];exact AJ),if_neg (by rw[hn];exact AJ)]
 rw[h4]
 exact k5
theorem EnterJ.kids(h:EnterJ S2 t X p fs j Sj)(hl:fs.length<=1000)(hj:j<fs.length)(ht:t'∈Sj.H)(ha:t'.anc=t.anc):t'.kids.length<1000:=by
 obtain⟨w,w1,w2,w3,w4,w5⟩:=h.part
 have:=h.str.anc_b ht w1 (ha.trans w2.symm)
 subst this
 have h1:=w5.kids h.str ht
 have h2:=UL p fs t.env j
 split at h1
 . have:t'.kids.length<=0:=h1
   omega
 . omega
theorem Vf{x:Nd}(hS:Str S' [])(hL:Loc S' (t.b::X))(ht:t'∈S'.H)(ha:t'.anc=t.anc)(hN:t.anc.length≠S'.ns.length)(hx:S'.ns[t.anc.length - 1]?=some x)(hP:Part S' t' (exps x.p x.fs t'.env) (cnt x.p x.fs t'.env)):Loc S' X:=λu hu huX=>by
 by_cases e:u.b=t.b
 . have:=hS.same hu ht (e.trans (b_of ha).symm)
   subst this
   exact hP.loc (by rw[ha];exact hN) (by rw[ha];exact hx)
 . exact hL u hu (by rw[Ax,not_or];exact⟨e,huX⟩)
theorem EnterJ.done{x:Nd}{k:Nat}(h:EnterJ S2 t X x.p x.fs x.fs.length S')(hk:t.anc.length=k+1)(hN:k+1≠S'.ns.length)(hx:∃y,S'.ns[k]?=some y/\y.p=x.p/\y.fs=x.fs)(hc:x.p.neg=true->Mat.passL x.p x.fs t.env≠[]):Loc S' X:=by
 obtain⟨y,y1,y2,y3⟩:=hx
 obtain⟨w,w1,w2,w3,w4,w5⟩:=h.part
 refine Vf (x:=y) h.str h.loc w1 w2 (by rw[hk];exact hN) (by rw[hk];exact y1) ?_
 rw[y2,y3,w4]
 rw[Cb]at w5
 have e1:exps x.p x.fs t.env=if x.p.neg=true then[]else Mat.passL x.p x.fs t.env:=by
  unfold exps
  by_cases hn:x.p.neg=true
  . rw[if_pos hn,if_pos hn,if_neg (hc hn)]
  . rw[if_neg hn,if_neg hn]
 rw[e1]
 exact w5
theorem EnterJ.done0{x:Nd}{k:Nat}(h:EnterJ S2 t X x.p x.fs x.fs.length Sj)(hk:t.anc.length=k+1)(hN:k+1≠S'.ns.length)(hx:∃y,S'.ns[k]?=some y/\y.p=x.p/\y.fs=x.fs)(hn:x.p.neg=true)(h0:Mat.passL x.p x.fs t.env=[])(ht:t'∈Sj.H)(ha:t'.anc=t.anc)(h1:Str S' [])(h2:Loc S' (t.b::X))(h3:ExtR Sj S' t' 0 t.env):Loc S' X/\Grew S2 S' t:=by
 obtain⟨y,y1,y2,y3⟩:=hx
 obtain⟨w,w1,w2,w3,w4,w5⟩:=h.part
 have:=h.str.anc_b ht w1 (ha.trans w2.symm)
 subst this
 refine⟨?_,h.grew.trans ha w3 w4 h3.grew⟩
 rw[if_pos hn]at w5
 obtain⟨t2,k1,k2,k3,k4,k5⟩:=w5.ext h1 ht AP h3
 refine Vf (x:=y) h1 h2 k1 (k2.trans ha) (by rw[hk];exact hN) (by rw[hk];exact y1) ?_
 rw[y2,y3,k4,w4]
 have e1:exps x.p x.fs t.env=[(0,t.env)]:=by
  unfold exps
  rw[if_pos hn,if_pos h0]
 rw[e1]
 rw[Cb]at k5
 exact k5
end Nt
end
section
attribute [local push_cast] Br Bl BV V.cells_mk V.cells_len Nat.mul_one Int.sub_zero List.map_nil beq_self_eq_true bne_self_eq_false List.head?_cons Bool.not_true Bool.not_false Nat.zero_add Kf Kg
attribute [-instance] Ck Cu BO Ds
theorem Nq{FB NB:Res}{Sx:NC}{K st V:St}(h:V.Perm (Sx.st++(st++K))):∃s2,(FB::NB::V).Perm s2/\((NB::(Sx.st++st))++K).Sublist s2 :=
 ⟨FB::((NB::(Sx.st++st))++K),by rw[AI,Ai];exact(h.cons _).cons _,(Aj _).cons _⟩
theorem dp(k:Nat)(hE:∀S:NC,k+1<S.ns.length->Nc k):Xu k:=by
 intro S t X hS hL ht hk hkids hcnt st
 have hkn:=hS.lv t ht
 obtain⟨x,hx⟩:=gEx (l:=S.ns) (i:=k) q_o
 obtain⟨H0,hp⟩:=Nt.tok_split ht
 have hlv:t.lv=k:=by unfold Tok.lv;omega
 have hput:=aj S t k x hS ht hk hx
 have hv:=NC.view hp st
 have hput2:Hid (∀(nb:Nat),TrF prog 96 [.ptr S.g (k*9+6),.ptr t.b 0,.ptr t.b 0] (.box nb 164 [.ptr S.g (k*9)]::S.cbox::S.gbox::.box t.b 119 t.cells::S.rest H0 t st) λd st'=>∃M':MemP,M'.okT (x.ts++[t.b])/\d=.tup []/\(.box nb 164 [.ptr S.g (k*9)]::(Nt.putT S k x t.b M').cbox::(Nt.putT S k x t.b M').gbox::.box t.b 119 t.cells::(Nt.putT S k x t.b M').rest H0 t st).Perm st'):=λnb =>
  (TrF.perm (hv.symm.cons _) (hput (.box nb 164 [.ptr S.g (k*9)]) st)).mono λd st' ⟨M',h1,h2,h3⟩=>⟨M',h1,h2,((NC.view (S:=Nt.putT S k x t.b M') hp st).symm.cons _).trans h3⟩
 refine TrF.perm hv ?_
 clear hput hv
 have hS2:Hid (∀M':MemP,M'.okT (x.ts++[t.b])->Nt.Str (Nt.putT S k x t.b M') []/\Nt.Loc (Nt.putT S k x t.b M') (t.b::X)):=λM' h=>⟨hS.putT ht hk hx h,hL.putT hx⟩
 have hcb:S.cbox=.box S.c 109 [.ar S.g 0 S.ns.length S.cap]:=rfl
 have hgb:S.gbox=.box S.g 115 (CJ S.ns++S.zs):=rfl
 obtain⟨ROW,hROW⟩:∃ROW:MemP->List D,ROW=λM'=>CJ (Nt.putT S k x t.b M').ns++S.zs:=⟨_,rfl⟩
 obtain⟨RST,hRST⟩:∃RST:MemP->St,RST=λM'=>(Nt.putT S k x t.b M').rest H0 t st:=⟨_,rfl⟩
 have hcb2:∀M',(Nt.putT S k x t.b M').cbox=.box S.c 109 [.ar S.g 0 S.ns.length S.cap]:=λM'=>by
  unfold NC.cbox
  show Res.box S.c _ [.ar S.g 0 (S.ns.set k _).length S.cap]=_
  rw[AV]
 have hgb2:∀M',(Nt.putT S k x t.b M').gbox=.box S.g 115 (ROW M'):=λM'=>by rw[hROW];rfl
 have hrst2:∀M',(Nt.putT S k x t.b M').rest H0 t st=RST M':=λM'=>by rw[hRST]
 have htc:t.cells=[t.fromD,.i k,.i t.id,.sl .shared (t.env.map V.cells)]++(t.km.cells t.kids.length++[.i t.count]):=by unfold Tok.cells Tok.pre;rw[hlv]
 have hview:Hid (∀M':MemP,((Nt.putT S k x t.b M').st++st).Perm (.box S.c 109 [.ar S.g 0 S.ns.length S.cap]::.box S.g 115 (ROW M')::.box t.b 119 ([t.fromD,.i k,.i t.id,.sl .shared (t.env.map V.cells)]++(t.km.cells t.kids.length++[.i t.count]))::RST M')):=λM'=>by
  have:=NC.view (S:=Nt.putT S k x t.b M') hp st
  rwa[hcb2,hgb2,htc,hrst2]at this
 simp only[hcb,hgb,hcb2,hgb2,htc,hrst2]at hput2 |-
 have hn5:=hS.nl
 have hinh:Hid (∀nb,(∃w,Holds (.box nb 164 [.ptr S.g (k*9)]::.box S.c 109 [.ar S.g 0 S.ns.length S.cap]::.box S.g 115 (CJ S.ns++S.zs)::.box t.b 119 ([t.fromD,.i k,.i t.id,.sl .shared (t.env.map V.cells)]++(t.km.cells t.kids.length++[.i t.count]))::S.rest H0 t st) w)->∃d st',∃M':MemP,M'.okT (x.ts++[t.b])/\d=D.tup []/\(Res.box nb 164 [.ptr S.g (k*9)]::.box S.c 109 [.ar S.g 0 S.ns.length S.cap]::.box S.g 115 (ROW M')::.box t.b 119 ([t.fromD,.i k,.i t.id,.sl .shared (t.env.map V.cells)]++(t.km.cells t.kids.length++[.i t.count]))::RST M').Perm st'):=λnb ⟨w,hw⟩=>(hput2.out nb).inhab (us:=[.pointer (some ⟨S.g,k*9+6,none⟩),.pointer (some ⟨t.b,0,none⟩),.pointer (some ⟨t.b,0,none⟩)]) (RepL.cons (.ptr _ _) (RepL.cons (.ptr _ _) (RepL.cons (.ptr _ _) .nil))) hw
 have hcap:S.ns.length<=S.cap:=by
  have:=hS.row
  rw[Ad,DP]at this
  omega
 by_cases hN:k+1=S.ns.length
 . have hfin : Hid (∀ M' : MemP, M'.okT (x.ts ++ [t.b]) -> Nt.Str (Nt.putT S k x t.b M') [] /\ Nt.Loc (Nt.putT S k x t.b M') X /\ Nt.Grew S (Nt.putT S k x t.b M') t) := λM' h => by
    obtain⟨h1,h2⟩:=hS2.out M' h
    refine⟨h1,λu hu huX=>?_,⟨Nt.kept_putT hx,λu _=>Nl,t,ht,rfl,rfl,rfl⟩⟩
    by_cases e:u.b=t.b
    . have:=hS.same hu ht e
      subst this
      unfold Nt.LocOk
      rw[if_pos (by show _=(S.ns.set k _).length;rw[AV,hk,hN])]
      exact⟨hcnt,hkids⟩
    . exact h2 u hu (by rw[Ax,not_or];exact⟨e,huX⟩)
   clear hE hS hL ht hkids hcnt hS2 hp hx
   generalize hNe:S.ns.length=N at *
   subst hN
   generalize CJ S.ns++S.zs=ROW0 at *
   generalize S.rest H0 t st=RST0 at *
   generalize hKC:t.km.cells t.kids.length=KC at *
   generalize t.fromD=fd at *
   generalize t.env.map V.cells=TE at *
   clear hcb hgb hcb2 hgb2 hrst2 htc hROW hRST hkn hk hlv hKC
   have hw1:((k:Int)+1 - 1)=k:=by omega
   refine Qin [] func63 results63 ntmps63 ?_
   repeat' (first|refine QV ?_|((with_reducible apply(Da (id:=1) [(S.c,[.ar S.g 0 (k+1) S.cap]),(t.b,[fd,.i k,.i t.id,.sl .shared TE]++(KC++[.i t.count]))]));(iterate 3 (focus kernel_rfl));(focus exact q_k);intro hne;(try simp only[nes,ne1,and_assoc]at hne);repeat(have hq:=hne.1;replace hne:=hne.2))|((with_reducible refine And.intro ?_ ?_);(focus exact q_k))|((with_reducible apply(La (id:=2) [(b,[.ptr S.g (k*9)])]));(iterate 3 (focus kernel_rfl));(focus exact q_k);intro hne;(try simp only[nes,ne1,and_assoc]at hne);(repeat(have hq:=hne.1;replace hne:=hne.2));intro hw)|((with_reducible refine And.intro ?_ ?_);(focus exact q_k))|((with_reducible apply(DL call96));(focus exact Ar _);(focus exact hput2.out b);(focus exact LEL.refl _);(focus exact hinh.out b hw);(rintro d st2 ⟨M2,hok2,rfl,hp2⟩;refine⟨BI,?_⟩))|((with_reducible refine Bn hp2.symm ?_))|((with_reducible apply(Da (id:=3) [(S.c,[.ar S.g 0 (k+1) S.cap]),(t.b,[fd,.i k,.i t.id,.sl .shared TE]++(KC++[.i t.count]))]));(iterate 3 (focus kernel_rfl));(focus exact q_k);intro hne;(try simp only[nes,ne1,and_assoc]at hne);repeat(have hq:=hne.1;replace hne:=hne.2))|((with_reducible refine And.intro ?_ ?_);(focus exact q_k))|(with_reducible refine Du ?_)|refine QY ?_|refine QB ?_;intro b|with_reducible refine QZ ?_<;>(try constructor)<;>intro hb<;>try intro hb1|fail)
   obtain⟨h1,h2,h3⟩:=hfin.out M2 hok2
   exact Bf (by simp) q_y ((Aj _).cons _) (LE.refl _) ⟨_,h1,h2,h3,rfl,hview.out M2⟩
 . have hkl:k+1<S.ns.length:=by omega
   have hxm:=Ah hx
   obtain⟨hpk,hfk,hfl⟩:=hS.pk x hxm
   have hfnd:=Lf (hS.okx x hxm).1
   have hek:=hS.ek t ht
   have hIt:=Aa (Yk x.fs q_o)
   have hPs:Hid (∀f∈x.fs,∀st,TrF prog 17 [.agg x.p.cells,.agg f.cells,.sl .shared (t.env.map V.cells)] st λd st'=>d=Gl (Mat.pass x.p f t.env)/\st'=st):=λf hf st=>Po x.p f t.env hpk.v hpk.l (hfk.f f hf) hek.v hek.l .shared st
   have hall:Hid (∀(M':MemP) (nb:Nat),TrF prog 73 [.ptr S.g (k*9+3)] (.box nb 164 [.ptr S.g (k*9)]::.box S.c 109 [.ar S.g 0 S.ns.length S.cap]::.box S.g 115 (ROW M')::.box t.b 119 ([t.fromD,.i k,.i t.id,.sl .shared (t.env.map V.cells)]++(t.km.cells t.kids.length++[.i t.count]))::RST M') λd st'=>d=.fn (.func 111) [] [.ip [.sl .shared (FQ x.fs)]]/\(Res.box nb 164 [.ptr S.g (k*9)]::((Nt.putT S k x t.b M').st++st)).Perm st'):=λM' nb=>by
    have hx2:(Nt.putT S k x t.b M').ns[k]?=some {x with ts:=x.ts++[t.b],tm:=M'}:=BA (Af.1 hx).1
    have h6:=(((NC.at_F hx2).append_right st).cons (Res.box nb 164 [.ptr S.g (k*9)]))
    simp only[AI,Ai]at h6
    have h7:=h6.trans (EV _ _ _ _)
    have h8:=Ym S.g 115 (MD (Nt.putT S k x t.b M').ns k {x with ts:=x.ts++[t.b],tm:=M'}) (Km (Nt.putT S k x t.b M').ns k {x with ts:=x.ts++[t.b],tm:=M'} (Nt.putT S k x t.b M').zs) x.fm x.fs (hS.okx x hxm).1 q_o (.box nb 164 [.ptr S.g (k*9)]::(MemP.resT (x.ts++[t.b]) M'++((Nt.putT S k x t.b M').off k++st)))
    rw[MB hx2]at h8
    exact(TrF.perm (((hview.out M').symm.cons _).trans h7) h8).mono λd st' ⟨e1,e2⟩=>⟨e1,by rw[e2];exact h7⟩
   have hJ0:Hid (∀M':MemP,M'.okT (x.ts++[t.b])->Nt.EnterJ (Nt.putT S k x t.b M') t X x.p x.fs 0 (Nt.putT S k x t.b M')):=λM' h=>by
    obtain⟨h1,h2⟩:=hS2.out M' h
    refine⟨h1,h2,⟨Nt.Kept.refl _,λu _=>Nl,t,ht,rfl,rfl,rfl⟩,t,ht,rfl,rfl,rfl,?_⟩
    have h3:=Nt.Part.nil h1 (t:=t) ht hkids
    rw[hcnt]at h3
    have e1:Mat.passL x.p (x.fs.take 0) t.env=[]:=by rw[CX];rfl
    have e2:Nt.cnt x.p (x.fs.take 0) t.env=0:=by
     unfold Nt.cnt
     rw[e1]
     split<;>rfl
    rw[e1,e2,ite_self]
    exact h3
   have hkept:∀M',Nt.Kept S (Nt.putT S k x t.b M'):=λM'=>Nt.kept_putT hx
   have hEx:=hE S hkl
   clear hE
   have hw1:¬((k:Int)=(S.ns.length:Int) - 1):=by omega
   have hkc:=hk
   have hfb:Hid (∀(j:Nat) (f:Fc),x.fs[j]?=some f->f∈x.fs):=λj f h=>Ah h
   have hvj:Hid (∀(Sj:NC) (w:Tok) (Hj:List Tok) (s:St),Nt.Kept S Sj->Nt.Str Sj []->w.anc=t.anc->w.env=t.env->Sj.H.Perm (w::Hj)->∃(ROWj:List D) (KC:List D) (RJ:St) (TL:List D),(Sj.st++s).Perm (.box S.c 109 [.ar S.g 0 S.ns.length S.cap]::.box S.g 115 ROWj::.box t.b 119 ([t.fromD,.i k,.i w.id,.sl .shared (t.env.map V.cells)]++(KC++[.i w.count]))::RJ)/\List.take 3 (List.drop (k*9) ROWj)=x.p.cells/\List.drop (k*9+1) ROWj=.b x.p.neg::TL/\k*9+9<=ROWj.length/\KC.length=3/\∀c,(({Sj with H:=Nt.withCount w c::Hj}:NC).st++s).Perm (.box S.c 109 [.ar S.g 0 S.ns.length S.cap]::.box S.g 115 ROWj::.box t.b 119 ([t.fromD,.i k,.i w.id,.sl .shared (t.env.map V.cells)]++(KC++[.i c]))::RJ)):=λSj w Hj s hK hSt ha he hpj=>by
    obtain⟨y,y1,y2,y3⟩:=hK.ns k x hx
    have e1:Sj.cbox=.box S.c 109 [.ar S.g 0 S.ns.length S.cap]:=by unfold NC.cbox;rw[hK.c,hK.g,hK.cap,hK.nl]
    have e2:Sj.gbox=.box S.g 115 (CJ Sj.ns++Sj.zs):=by unfold NC.gbox;rw[hK.g]
    have e3:w.cells=[t.fromD,.i k,.i w.id,.sl .shared (t.env.map V.cells)]++(w.km.cells w.kids.length++[.i w.count]):=by
     unfold Tok.cells Tok.pre
     have h1:w.fromD=t.fromD:=by unfold Tok.fromD;rw[ha]
     have h2:w.lv=k:=by unfold Tok.lv;rw[ha];exact hlv
     rw[h1,h2,he]
    have e4:w.b=t.b:=Nt.b_of ha
    have hs:CJ Sj.ns++Sj.zs=CJ (Sj.ns.take k)++(x.p.cells++((y.fm.cells y.fs.length++y.tm.cells y.ts.length)++(CJ (Sj.ns.drop (k+1))++Sj.zs))):=by
     rw[GZ y1]
     unfold Nd.cells
     rw[y2]
     simp only[Ai]
    have hl:=Iw y1
    have hpc:x.p.cells=[.i x.p.tmpl,.b x.p.neg,.sl .shared (x.p.tests.map Ts.cells)]:=rfl
    refine⟨CJ Sj.ns++Sj.zs,w.km.cells w.kids.length,Sj.rest Hj w s,[.sl .shared (x.p.tests.map Ts.cells)]++((y.fm.cells y.fs.length++y.tm.cells y.ts.length)++(CJ (Sj.ns.drop (k+1))++Sj.zs)),?_,?_,?_,?_,MemP.cells_len ..,λc=>?_⟩
    . have:=NC.view hpj s
      rwa[e1,e2,e3,e4]at this
    . rw[hs,<-hl,CN,hpc];rfl
    . rw[hs,<-hl,<-CY,CN,hpc];rfl
    . rw[Ad,DP]
      have:=(Af.1 y1).1
      omega
    . have:=NC.view (S:={Sj with H:=Nt.withCount w c::Hj}) (t:=Nt.withCount w c) (H0:=Hj) (.refl _) s
      have e5:(Nt.withCount w c).cells=[t.fromD,.i k,.i w.id,.sl .shared (t.env.map V.cells)]++(w.km.cells w.kids.length++[.i c]):=by
       unfold Tok.cells Tok.pre
       have h1:(Nt.withCount w c).fromD=t.fromD:=(show(Nt.withCount w c).fromD=w.fromD from rfl).trans (by unfold Tok.fromD;rw[ha])
       have h2:(Nt.withCount w c).lv=k:=by unfold Tok.lv;show w.anc.length - 1=k;rw[ha];exact hlv
       rw[h1,h2]
       show[_,_,_,D.sl .shared (w.env.map V.cells)]++_=_
       rw[he]
       rfl
      have e6:(Nt.withCount w c).b=t.b:=Nt.b_of ha
      have e7:({Sj with H:=Nt.withCount w c::Hj}:NC).cbox=Sj.cbox:=rfl
      have e8:({Sj with H:=Nt.withCount w c::Hj}:NC).gbox=Sj.gbox:=rfl
      rw[e7,e8,e1,e2,e5,e6]at this
      exact this
   refine Qin [] func63 results63 ntmps63 ?_
   repeat' (first|refine QV ?_|((with_reducible apply(Da (id:=1) [(S.c,[.ar S.g 0 S.ns.length S.cap]),(t.b,[t.fromD,.i k,.i t.id,.sl .shared (t.env.map V.cells)]++(t.km.cells t.kids.length++[.i t.count]))]));(iterate 3 (focus kernel_rfl));(focus exact q_k);intro hne;(try simp only[nes,ne1,and_assoc]at hne);repeat(have hq:=hne.1;replace hne:=hne.2))|((with_reducible refine And.intro ?_ ?_);(focus exact q_k))|((with_reducible apply(La (id:=2) [(b,[.ptr S.g (k*9)])]));(iterate 3 (focus kernel_rfl));(focus exact q_k);intro hne;(try simp only[nes,ne1,and_assoc]at hne);(repeat(have hq:=hne.1;replace hne:=hne.2));intro hw)|((with_reducible refine And.intro ?_ ?_);(focus exact q_k))|((with_reducible apply(DL call96));(focus exact Ar _);(focus exact hput2.out b);(focus exact LEL.refl _);(focus exact hinh.out b hw);(rintro d st2 ⟨M2,hok2,rfl,hp2⟩;refine⟨BI,?_⟩))|((with_reducible refine Bn hp2.symm ?_))|((with_reducible apply(Da (id:=3) [(S.c,[.ar S.g 0 S.ns.length S.cap]),(t.b,[t.fromD,.i k,.i t.id,.sl .shared (t.env.map V.cells)]++(t.km.cells t.kids.length++[.i t.count]))]));(iterate 3 (focus kernel_rfl));(focus exact q_k);intro hne;(try simp only[nes,ne1,and_assoc]at hne);repeat(have hq:=hne.1;replace hne:=hne.2))|((with_reducible refine And.intro ?_ ?_);(focus exact q_k))|((with_reducible apply(BG (f:=73) (henter:=call73) (hp:=Ar _) (h:=hall.out _ _)));(focus exact q_v);(focus exact q_l);(rintro d0 st0 ⟨rfl,hp3⟩))|(with_reducible refine Du ?_)|refine QY ?_|refine QB ?_;intro b|with_reducible refine QZ ?_<;>(try constructor)<;>intro hb<;>try intro hb1|fail)
   obtain⟨nb,rfl⟩:∃q,q=b:=⟨_,rfl⟩
   have hJ:=hJ0.out M2 hok2
   have hK2:=hkept M2
   have hG2:Nt.Grew S (Nt.putT S k x t.b M2) t:=⟨hK2,λu _=>Nl,t,ht,rfl,rfl,rfl⟩
   obtain⟨S2,hS2e⟩:∃S2,S2=Nt.putT S k x t.b M2:=⟨_,rfl⟩
   rw[<-hS2e]at hJ hK2 hp3 hG2
   replace hG2:=Aa hG2
   clear hS2e hp2 hall hput2 hinh hview hJ0 hS2 hkept hS hL hROW hRST hcb hgb hcb2 hgb2 hrst2 hok2
   refine Bn (st':=[]++(.box nb 164 [.ptr S.g (k*9)]::(S2.st++st))) hp3.symm ?_
   clear hp3
   refine Iu hIt.out call111 q_v (λ_=>rfl) rfl (λj C=>∃Sj,Nt.EnterJ S2 t X x.p x.fs j Sj/\C=.box nb 164 [.ptr S.g (k*9)]::(Sj.st++st)) (λ_ _ _=>False) ⟨S2,hJ,rfl⟩ ?_ ?_ (λ_ _ _ _ _ _ h=>h.elim)
   . rintro l j f C K hf ⟨Sj,hJ,rfl⟩
     have hPf:=hPs.out f (hfb.out j f hf)
     have hjl:=(Af.1 hf).1
     obtain⟨w,w1,w2,w3,w4, -⟩:=hJ.part
     obtain⟨Hj,hpj⟩:=Nt.tok_split w1
     have hKj:=hK2.trans hJ.grew.toKept
     have hwb:w.b=t.b:=Nt.b_of w2
     have hkid:=hJ.kids hfl hjl w1 w2
     clear hIt hPs hfb hK2
     refine(?_:Tr _ _ _ _ (AA.put ⟨_,[]⟩ (some 38) (.agg f.cells)) (.box nb 164 [.ptr S.g (k*9)]::((Sj.st++st)++K)) _)
     rw[show f.cells=[.i f.id,.i f.time,.i f.tmpl,.i f.ver,.sl .shared (f.s.map V.cells)]from rfl]at *
     repeat' (first|refine QX ?_|refine QB ?_;intro b|with_reducible refine QZ ?_<;>(try constructor)<;>intro hb<;>try intro hb1|fail)
     refine⟨.box b 43 [.i f.id,.i f.time,.i f.tmpl,.i f.ver,.sl .shared (f.s.map V.cells)]::.box nb 164 [.ptr S.g (k*9)]::(Sj.st++st),Aj _,λK'=>?_⟩
     clear K
     obtain⟨ROWj,KC,RJ,TL,v1,v2,v3,v4,v5,v6⟩:=hvj.out Sj w Hj (st++K') hKj hJ.str w2 w4 hpj
     refine Hl ?_
     refine Bn (st':=.box b 43 [.i f.id,.i f.time,.i f.tmpl,.i f.ver,.sl .shared (f.s.map V.cells)]::.box nb 164 [.ptr S.g (k*9)]::.box S.c 109 [.ar S.g 0 S.ns.length S.cap]::.box S.g 115 ROWj::.box t.b 119 ([t.fromD,.i k,.i w.id,.sl .shared (t.env.map V.cells)]++(KC++[.i w.count]))::RJ) (by
      show List.Perm (_::_::((Sj.st++st)++K')) _
      rw[Ai]
      exact(v1.cons _).cons _) ?_
     cases hq:Mat.pass x.p f t.env with
     | none =>
      have hJn:=hJ.none hf hq
      rw[hq]at hPf
      dsimp only[Gl]at hPf
      replace hJn:=Aa hJn
      replace v1:=Aa v1
      clear hq hJ hKj hpj w1 w2 w3 w4 hf v6 hvj
      generalize f.s.map V.cells=VS at *
      generalize t.env.map V.cells=TE at *
      generalize t.fromD=fd at *
      have hpc:x.p.cells=[.i x.p.tmpl,.b x.p.neg,.sl .shared (x.p.tests.map Ts.cells)]:=rfl
      rw[hpc]at *
      generalize x.p.tests.map Ts.cells=TS at *
      have v7:3<=(List.drop (k*9) ROWj).length:=by rw[AO];omega
      replace hPf:=Aa hPf
      repeat' (first|refine QV ?_|((with_reducible apply(Da (id:=6) [(b,[.i f.id,.i f.time,.i f.tmpl,.i f.ver,.sl .shared VS]),(nb,[.ptr S.g (k*9)]),(S.g,ROWj),(t.b,[fd,.i k,.i w.id,.sl .shared TE]++(KC++[.i w.count]))]));(iterate 3 (focus kernel_rfl));(focus exact q_k);intro hne;(try simp only[nes,ne1,and_assoc]at hne);repeat(have hq:=hne.1;replace hne:=hne.2))|((with_reducible refine And.intro ?_ ?_);(focus exact q_k))|(with_reducible refine Du ?_)|refine QY ?_|refine QB ?_;intro b|with_reducible refine QZ ?_<;>(try constructor)<;>intro hb<;>try intro hb1|refine Qc call17 ((hPf.out _)) ?_|fail)
      obtain⟨s2,q1,q2⟩:=Nq v1.out.symm
      exact⟨s2,q1,_,q2,Sj,hJn.out,rfl⟩
     | some e =>
      have hee:EK e:=⟨Mat.pass_mem hq (λy hy=>((hfk.f f (Ah hf)).v y hy).1.bg) hek.v,by rw[Mat.pass_len hq];decide⟩
      rw[hq]at hPf
      dsimp only[Gl]at hPf
      cases hn:x.p.neg with
      | true =>
       obtain⟨hJn,hb1,hb2⟩:=hJ.neg hf hq hn hfl w1 w2 hpj
       have v8:=v6 (w.count+1)
       have v9:=Aa v8
       replace hJn:=Aa hJn
       clear hq hJ hKj hpj w1 w2 w3 w4 hf v6 hvj v1 hEx hee v8
       have hpc:x.p.cells=[.i x.p.tmpl,.b x.p.neg,.sl .shared (x.p.tests.map Ts.cells)]:=rfl
       rw[hpc,hn]at v2 hPf
       rw[hn]at v3
       generalize f.s.map V.cells=VS at *
       generalize t.env.map V.cells=TE at *
       generalize t.fromD=fd at *
       generalize e.map V.cells=EC at *
       generalize x.p.tests.map Ts.cells=TS at *
       have v7:3<=(List.drop (k*9) ROWj).length:=by rw[AO];omega
       have hd3:∀l:List D,List.drop 3 (KC++l)=l:=λl=>by rw[<-v5];exact CN
       have ht3:∀l:List D,List.take 3 (KC++l)=KC:=λl=>by rw[<-v5];exact Ju
       have hd4:∀(y:D) (l:List D),List.drop 4 (KC++y::l)=l:=λy l=>by
        rw[show 4=3+1 from rfl,<-CY,hd3];rfl
       replace hPf:=Aa hPf
       generalize hcw:w.count=cw at *
       clear hcw
       repeat' (first|refine QV ?_|((with_reducible apply(Da (id:=6) [(b,[.i f.id,.i f.time,.i f.tmpl,.i f.ver,.sl .shared VS]),(nb,[.ptr S.g (k*9)]),(S.g,ROWj),(t.b,[fd,.i k,.i w.id,.sl .shared TE]++(KC++[.i cw]))]));(iterate 3 (focus kernel_rfl));(focus exact q_k);intro hne;(try simp only[nes,ne1,and_assoc]at hne);repeat(have hq:=hne.1;replace hne:=hne.2))|((with_reducible refine And.intro ?_ ?_);(focus exact q_k))|(with_reducible refine Du ?_)|refine QY ?_|refine QB ?_;intro b|with_reducible refine QZ ?_<;>(try constructor)<;>intro hb<;>try intro hb1|refine Qc call17 ((hPf.out _)) ?_|fail)
       obtain⟨s2,q1,q2⟩:=Nq v9.out.symm
       exact⟨s2,q1,_,q2,_,hJn.out,rfl⟩
      | false =>
       have hwX:w.b∈t.b::X:=by rw[hwb];exact Ag ..
       have hext:=hEx Sj w (t.b::X) f.id e hJ.str hJ.loc hwX w1 (by rw[w2];exact hk) (by rw[hKj.nl];exact hkl) hee hkid (.box b 43 [.i f.id,.i f.time,.i f.tmpl,.i f.ver,.sl .shared (f.s.map V.cells)]::.box nb 164 [.ptr S.g (k*9)]::(st++K'))
       rw[hKj.c,hwb]at hext
       have hJn:=Aa λ(S':NC) h1 h2 h3=>hJ.pos hf hq hn hfnd w1 w2 (S':=S') h1 h2 h3
       have v8:=Aa (((v1.symm.cons (Res.box nb 164 [.ptr S.g (k*9)])).cons (Res.box b 43 [.i f.id,.i f.time,.i f.tmpl,.i f.ver,.sl .shared (f.s.map V.cells)])).trans perm_in2)
       clear hq hJ hKj hpj w1 w2 w3 w4 hf v6 hvj v1 hEx hee
       have hpc:x.p.cells=[.i x.p.tmpl,.b x.p.neg,.sl .shared (x.p.tests.map Ts.cells)]:=rfl
       rw[hpc,hn]at v2 hPf
       rw[hn]at v3
       generalize f.s.map V.cells=VS at *
       generalize t.env.map V.cells=TE at *
       generalize t.fromD=fd at *
       generalize e.map V.cells=EC at *
       generalize x.p.tests.map Ts.cells=TS at *
       have v7:3<=(List.drop (k*9) ROWj).length:=by rw[AO];omega
       replace hPf:=Aa hPf
       replace hext:=Aa hext
       generalize hcw:w.count=cw at *
       clear hcw
       repeat' (first|refine QV ?_|((with_reducible apply(Da (id:=6) [(b,[.i f.id,.i f.time,.i f.tmpl,.i f.ver,.sl .shared VS]),(nb,[.ptr S.g (k*9)]),(S.g,ROWj),(t.b,[fd,.i k,.i w.id,.sl .shared TE]++(KC++[.i cw]))]));(iterate 3 (focus kernel_rfl));(focus exact q_k);intro hne;(try simp only[nes,ne1,and_assoc]at hne);repeat(have hq:=hne.1;replace hne:=hne.2))|((with_reducible refine And.intro ?_ ?_);(focus exact q_k))|((with_reducible apply(BG (f:=97) (henter:=call97) (hp:=v8.out) (h:=hext.out)));(focus exact q_v);(focus exact q_l);(rintro d0 st0 ⟨S',h1,h2,h3,rfl,hp4⟩))|(with_reducible refine Du ?_)|refine QY ?_|refine QB ?_;intro b|with_reducible refine QZ ?_<;>(try constructor)<;>intro hb<;>try intro hb1|refine Qc call17 ((hPf.out _)) ?_|fail)
       obtain⟨s2,q1,q2⟩:=Nq (FB:=.box b 43 [.i f.id,.i f.time,.i f.tmpl,.i f.ver,.sl .shared VS]) (NB:=.box nb 164 [.ptr S.g (k*9)]) (Sx:=S') (K:=K') (st:=st) (.refl _)
       exact⟨s2,hp4.symm.trans (perm_in2.symm.trans q1),_,q2,S',hJn.out S' h1 h2 h3,rfl⟩
   . rintro d K1 C' rfl ⟨Sj,hJ,rfl⟩
     obtain⟨w,w1,w2,w3,w4,w5⟩:=hJ.part
     obtain⟨Hj,hpj⟩:=Nt.tok_split w1
     have hKj:=hK2.trans hJ.grew.toKept
     have hwb:w.b=t.b:=Nt.b_of w2
     obtain⟨ROWj,KC,RJ,TL,v1,v2,v3,v4,v5, -⟩:=hvj.out Sj w Hj (BK d::st) hKj hJ.str w2 w4 hpj
     have hGS:=hG2.out.trans rfl rfl rfl hJ.grew
     have hct:=w5.ct
     rw[Cb]at hct
     have hNj:k+1≠Sj.ns.length:=by rw[hKj.nl];exact hN
     have hxj:=hKj.ns k x hx
     clear hIt hPs hfb hvj
     change Tr _ _ _ _ _ _ _
     refine Bn (st':=.box nb 164 [.ptr S.g (k*9)]::.box S.c 109 [.ar S.g 0 S.ns.length S.cap]::.box S.g 115 ROWj::.box t.b 119 ([t.fromD,.i k,.i w.id,.sl .shared (t.env.map V.cells)]++(KC++[.i w.count]))::RJ) (((EV _ _ _ _)).trans (v1.cons _)) ?_
     have hd3:∀l:List D,List.drop 3 (KC++l)=l:=λl=>by rw[<-v5];exact CN
     have v6:(Res.box nb 164 [.ptr S.g (k*9)]::(Sj.st++(BK d::st))).Perm (BK d::.box nb 164 [.ptr S.g (k*9)]::(Sj.st++st)):=((EV _ _ _ _)).symm
     have v7:=Aa ((v1.symm.cons (Res.box nb 164 [.ptr S.g (k*9)])).trans v6)
     cases hn:x.p.neg with
     | false =>
      have hLd:=hJ.done hk hNj hxj (λh=>by rw[hn]at h;cases h)
      have hfin:Hid (∃S',Nt.Str S' []/\Nt.Loc S' X/\Nt.Grew S S' t/\D.tup []=D.tup []/\(S'.st++st).Perm (Sj.st++st)):=⟨Sj,hJ.str,hLd,hGS,rfl,.refl _⟩
      rw[hn]at v3
      clear hJ hKj hpj w1 w2 w3 w4 w5 v1 v2 v6 hEx hGS hct hLd hxj
      generalize t.env.map V.cells=TE at *
      generalize t.fromD=fd at *
      repeat' (first|refine QX ?_|refine QB ?_;intro b|with_reducible refine QZ ?_<;>(try constructor)<;>intro hb<;>try intro hb1|fail)
      exact Em q_x q_y v7.out ((Aj _).cons _) (LE.refl _) hfin.out
     | true =>
      unfold Nt.cnt at hct
      rw[if_pos hn]at hct
      rw[hn]at v3
      by_cases h0:Mat.passL x.p x.fs t.env=[]
      . have hc0:w.count=0:=by rw[hct,h0];rfl
        have hwX:w.b∈t.b::X:=by rw[hwb];exact Ag ..
        have hkid:w.kids.length<1000:=by
         have:=w5.kids hJ.str w1
         rw[if_pos hn]at this
         have:w.kids.length<=0:=this
         omega
        have hext:=hEx Sj w (t.b::X) 0 t.env hJ.str hJ.loc hwX w1 (by rw[w2];exact hk) (by rw[hKj.nl];exact hkl) hek hkid (.box nb 164 [.ptr S.g (k*9)]::BK d::st)
        rw[hKj.c,hwb]at hext
        have hJn:=Aa λ(S':NC) (h1:Nt.Str S' []) (h2:Nt.Loc S' (t.b::X)) (h3:Nt.ExtR Sj S' w 0 t.env)=>hJ.done0 (S':=S') hk (by rw[h3.nl];exact hNj) (by
         obtain⟨y,y1,y2,y3⟩:=hxj
         obtain⟨z,z1,z2,z3⟩:=h3.ns k y y1
         exact⟨z,z1,z2.trans y2,z3.trans y3⟩) hn h0 w1 w2 h1 h2 h3
        have v8:=Aa ((v1.symm.cons (Res.box nb 164 [.ptr S.g (k*9)])).trans AD.symm)
        have hinh2:Hid ((∃w',Holds (.box nb 164 [.ptr S.g (k*9)]::.box S.c 109 [.ar S.g 0 S.ns.length S.cap]::.box S.g 115 ROWj::.box t.b 119 ([t.fromD,.i k,.i w.id,.sl .shared (t.env.map V.cells)]++(KC++[.i w.count]))::RJ) w')->∃d0 st',∃S',Nt.Str S' []/\Nt.Loc S' (t.b::X)/\Nt.ExtR Sj S' w 0 t.env/\d0=D.tup []/\(S'.st++(Res.box nb 164 [.ptr S.g (k*9)]::BK d::st)).Perm st'):=λ⟨w',hw⟩=>by
         obtain⟨v,hv⟩:=Yv (d:=.sl .shared (t.env.map V.cells)) (i:=3) hw (b:=t.b) (ty:=119) (cs:=([t.fromD,.i k,.i w.id,.sl .shared (t.env.map V.cells)]++(KC++[.i w.count]))) (Ae _ (Ae _ (Ae _ (Ag ..)))) rfl
         exact(TrF.perm v8.out hext).inhab (us:=[.pointer (some ⟨S.c,0,none⟩),.pointer (some ⟨t.b,0,none⟩),.int .i64 0,v]) (RepL.cons (.ptr _ _) (RepL.cons (.ptr _ _) (RepL.cons (.s _ rfl) (RepL.cons hv .nil)))) hw
        have hGG:=hG2
        clear hJ hKj hpj w1 w2 w3 w4 w5 v1 v2 v6 hEx hGS hct hxj
        generalize hTE:t.env.map V.cells=TE at *
        generalize t.fromD=fd at *
        rw[hc0]at hinh2 v8 |-
        replace hext:=Aa hext
        repeat' (first|refine QV ?_|((with_reducible apply(La (id:=12) [(t.b,[fd,.i k,.i w.id,.sl .shared TE]++(KC++[.i 0]))]));(iterate 3 (focus kernel_rfl));(focus exact q_k);intro hne;(try simp only[nes,ne1,and_assoc]at hne);(repeat(have hq:=hne.1;replace hne:=hne.2));intro hw2)|((with_reducible refine And.intro ?_ ?_);(focus exact q_k))|((with_reducible apply(DL call97));(focus exact v8.out);(focus exact hext.out);(focus exact LEL.refl _);(focus exact hinh2.out hw2);(rintro d2 st4 ⟨S',h1,h2,h3,rfl,hp4⟩;refine⟨BI,?_⟩))|(with_reducible refine Du ?_)|refine QY ?_|refine QB ?_;intro b|with_reducible refine QZ ?_<;>(try constructor)<;>intro hb<;>try intro hb1|fail)
        obtain⟨k1,k2⟩:=hJn.out S' h1 h2 h3
        exact Em q_x q_y (hp4.symm.trans (perm_in2.symm.trans (List.Perm.swap _ _ _))) ((Aj _).cons _) (LE.refl _) ⟨S',h1,k1,hGG.out.trans rfl rfl rfl k2,rfl,.refl _⟩
      . have hc0:¬w.count=0:=λe=>h0 (Ay (by rw[hct]at e;exact lK e))
        have hLd:=hJ.done hk hNj hxj (λ_=>h0)
        have hfin:Hid (∃S',Nt.Str S' []/\Nt.Loc S' X/\Nt.Grew S S' t/\D.tup []=D.tup []/\(S'.st++st).Perm (Sj.st++st)):=⟨Sj,hJ.str,hLd,hGS,rfl,.refl _⟩
        clear hJ hKj hpj w1 w2 w3 w4 w5 v1 v2 v6 hEx hGS hct hLd hxj
        generalize t.env.map V.cells=TE at *
        generalize t.fromD=fd at *
        generalize w.count=cw at *
        repeat' (first|refine QX ?_|refine QB ?_;intro b|with_reducible refine QZ ?_<;>(try constructor)<;>intro hb<;>try intro hb1|fail)
        exact Em q_x q_y v7.out ((Aj _).cons _) (LE.refl _) hfin.out
end
section
theorem Sa{k:Nat}(h:4<=k):Nc k:=λS t X id env hS _ _ _ _ hk=>absurd hS.nl q_o
theorem Sb:∀n k,k+n=4->Nc k
|0,k,h=>Sa q_o
|n+1,k,h=>gg k (dp (k+1) λ_ _=>Sb n (k+1) q_o)
theorem Tu(k:Nat):Nc k:=by
 by_cases h:4<=k
 . exact Sa h
 . exact Sb (4 - k) k q_o
theorem jl(k:Nat):Xu k:=dp k λ_ _=>Tu k
namespace Nt
variable {S S':NC} {E X:List Nat} {t u v p:Tok} {H0 H1:List Tok}
theorem swapL_mem{α:Type}{K:List α}{i n:Nat}{k z:α}(hnd:K.Nodup)(hn:K.length=n+1)(hi:K[i]?=some k)(hz:K[n]?=some z):(Cz K i z).Nodup/\∀b,b∈Cz K i z↔b∈K/\b≠k:=by
 have hin:=(Af.1 hi).1
 have hnn:=(Af.1 hz).1
 have hzl:K[K.length - 1]?=some z:=by rw[hn,Mf];exact hz
 have hat:=Jy hin hzl
 have inj:∀{a b:Nat} {y:α},K[a]?=some y->K[b]?=some y->a=b:=λ{a b y} ha hb=>(Jv (Af.1 ha).1 hnd).1 (ha.trans hb.symm)
 have hlen:=Jw (K:=K) (i:=i) (z:=z) hn
 constructor
 . refine FA.2 λa b ha hb hab e=>?_
   have h1:(Cz K i z)[a]?=(Cz K i z)[b]?:=by rw[Al ha,Al hb,e]
   rw[hlen]at ha hb
   have ea:(Cz K i z)[a]?=if a=i then some z else K[a]?:=by rw[hat,if_pos q_o]
   have eb:(Cz K i z)[b]?=if b=i then some z else K[b]?:=by rw[hat,if_pos q_o]
   rw[ea,eb]at h1
   by_cases e1:a=i
   . rw[if_pos e1,if_neg q_o]at h1
     have:=inj hz h1.symm
     omega
   . rw[if_neg e1]at h1
     by_cases e2:b=i
     . rw[if_pos e2]at h1
       have:=inj h1 hz
       omega
     . rw[if_neg e2]at h1
       have:=(Jv q_o hnd).1 h1
       omega
 . intro b
   constructor
   . intro hb
     obtain⟨a,ha⟩:=BT hb
     rw[hat]at ha
     split at ha
     . rename_i hlt
       split at ha
       . rename_i e
         cases ha
         refine⟨Ah hz,λe2=>?_⟩
         subst e2
         have:=inj hz hi
         omega
       . rename_i e
         refine⟨Ah ha,λe2=>?_⟩
         subst e2
         exact e (inj ha hi)
     . cases ha
   . rintro⟨hb,hne⟩
     obtain⟨a,ha⟩:=BT hb
     have hal:=(Af.1 ha).1
     have hai:a≠i:=λe=>by
      subst e
      rw[hi]at ha
      exact hne (Cl ha).symm
     by_cases e:a=n
     . subst e
       rw[hz]at ha
       cases ha
       refine Ah (i:=i) ?_
       rw[hat,if_pos q_o,if_pos rfl]
     . refine Ah (i:=a) ?_
       rw[hat,if_pos q_o,if_neg hai]
       exact ha
def setT (S:NC)(k:Nat)(x:Nd)(ts:List Nat)(M:MemP):NC:={S with ns:=S.ns.set k {x with ts:=ts,tm:=M} }
theorem kept_setT{k:Nat}{x:Nd}{ts:List Nat}{M:MemP}(hx:S.ns[k]?=some x):Kept S (setT S k x ts M):=by
 refine⟨rfl,rfl,rfl,rfl,AV ..,λi y hy=>?_⟩
 by_cases e:i=k
 . subst e
   rw[hx]at hy
   cases hy
   exact⟨_,BA (Af.1 hx).1,rfl,rfl⟩
 . exact⟨y,by show(S.ns.set k _)[i]?=_;rw[DX (λe1=>e e1.symm)];exact hy,rfl,rfl⟩
theorem Str.dropT(h:Str S [])(hu:u∈S.H){k:Nat}{x:Nd}{M:MemP}{ts:List Nat}(hk:u.anc.length=k+1)(hx:S.ns[k]?=some x)(hnd:ts.Nodup)(hts:∀b,b∈ts↔b∈x.ts/\b≠u.b)(hM:M.okT ts):Str (setT S k x ts M) [u.b]:=by
 have hxm:=Ah hx
 refine⟨h.ne,h.nd,h.up,h.rt,h.kn,h.km,h.kl,λw hw=>?_,λi y hy=>?_,λi y hy b=>?_,h.okt,λy hy=>?_,?_,?_,h.ek,λy hy=>?_,h.ct,h.rx⟩
 . show _<=(S.ns.set k _).length
   rw[AV];exact h.lv w hw
 . rcases Jg hx hy with⟨-,rfl⟩|⟨-,hy⟩
   . exact hnd
   . exact h.tn i y hy
 . show b∈y.ts↔∃u∈S.H,_
   rcases Jg hx hy with⟨rfl,rfl⟩|⟨hi,hy⟩
   . show b∈ts↔_
     rw[hts,h.tm _ x hx b]
     constructor
     . rintro⟨⟨w,hw,e1,e2, -⟩,hne⟩
       exact⟨w,hw,e1,e2,λhb=>hne (AB.1 hb)⟩
     . rintro⟨w,hw,e1,e2,e3⟩
       exact⟨⟨w,hw,e1,e2,AP⟩,λe=>e3 (AB.2 e)⟩
   . rw[h.tm i y hy b]
     constructor
     . rintro⟨w,hw,e1,e2, -⟩
       refine⟨w,hw,e1,e2,λhb=>?_⟩
       rw[AB]at hb
       have:=h.same hw hu (e1.trans hb)
       rw[this,hk]at e2
       omega
     . rintro⟨w,hw,e1,e2, -⟩;exact⟨w,hw,e1,e2,AP⟩
 . rcases BT hy with⟨i,hi⟩
   rcases Jg hx hi with⟨-,rfl⟩|⟨-,hi⟩
   . exact⟨(h.okx x hxm).1,hM⟩
   . exact h.okx y (Ah hi)
 . show(CJ (S.ns.set k _)++S.zs).length=_
   rw[Ad,DP,AV,<-DP,<-Ad]
   exact h.row
 . show(S.ns.set k _).length<=5
   rw[AV];exact h.nl
 . rcases BT hy with⟨i,hi⟩
   rcases Jg hx hi with⟨-,rfl⟩|⟨-,hi⟩
   . exact h.pk x hxm
   . exact h.pk y (Ah hi)
def withKids (p:Tok)(ks:List Nat)(M:MemP):Tok:={p with kids:=ks,km:=M}
def dropKid (S:NC)(H1:List Tok)(p:Tok)(ks:List Nat)(M:MemP):NC:={S with H:=withKids p ks M::H1}
theorem Str.dropKid(h:Str S [u.b])(hp:S.H.Perm (u::p::H1))(hup:u.anc.tail=p.anc)(hno:u.kids=[]){ks:List Nat}{M:MemP}(hnd:ks.Nodup)(hks:∀b,b∈ks↔b∈p.kids/\b≠u.b)(hl:ks.length<=1000)(hM:M.okT ks):Str (Nt.dropKid S H1 p ks M) []:=by
 have hm:∀w,w∈S.H↔w=u\/w=p\/w∈H1:=λw=>by rw[hp.mem_iff,Ax,Ax]
 have hu:=(hm u).2 (.inl rfl)
 have hpm:=(hm p).2 (.inr (.inl rfl))
 have h1:∀w∈H1,w∈S.H:=λw hw=>(hm w).2 (.inr (.inr hw))
 have hndS:=(hp.map Tok.b).nodup_iff.1 h.nd
 rw[Au,Bb]at hndS
 have hub:∀w∈S.H,w.b=u.b->w=u:=λw hw e=>h.same hw hu e
 have nou:∀w∈(Nt.dropKid S H1 p ks M).H,∃w0∈S.H,w.anc=w0.anc/\w.env=w0.env/\w.count=w0.count/\w0≠u/\(w=w0\/w=withKids p ks M/\w0=p):=λw hw=>by
  rcases Ax.1 hw with rfl|hw
  . exact⟨p,hpm,rfl,rfl,rfl,λe=>hndS.1 (by rw[<-e];exact Ag ..),.inr ⟨rfl,rfl⟩⟩
  . refine⟨w,h1 w hw,rfl,rfl,rfl,λe=>hndS.1 ?_,.inl rfl⟩
    rw[<-e]
    exact Ae _ (BJ hw)
 have old:∀w∈S.H,w≠u->∃w'∈(Nt.dropKid S H1 p ks M).H,w'.anc=w.anc/\w'.b=w.b:=λw hw hne=>by
  rcases(hm w).1 hw with rfl|rfl|hw
  . exact absurd rfl hne
  . exact⟨_,Ag ..,rfl,rfl⟩
  . exact⟨w,Ae _ hw,rfl,rfl⟩
 have nokid:∀w∈S.H,w.anc.tail≠u.anc:=λw hw e=>by
  have:=(h.km u hu w.b).2 ⟨w,hw,rfl,e⟩
  rw[hno]at this
  cases this
 constructor
 . intro w hw
   obtain⟨w0,k1,k2, -⟩:=nou w hw
   rw[k2];exact h.ne w0 k1
 . exact hndS.2
 . intro w hw hne
   obtain⟨w0,k1,k2, -⟩:=nou w hw
   rw[k2]at hne |-
   obtain⟨q,q1,q2⟩:=h.up w0 k1 hne
   obtain⟨q',r1,r2, -⟩:=old q q1 (λe=>by rw[e]at q2;exact nokid w0 k1 q2)
   exact⟨q',r1,q2.trans r2.symm⟩
 . intro w hw v hv e1 e2
   obtain⟨w0,k1,k2, -⟩:=nou w hw
   obtain⟨v0,q1,q2, -⟩:=nou v hv
   rw[b_of k2,b_of q2]
   exact h.rt w0 k1 v0 q1 (by rw[<-k2];exact e1) (by rw[<-q2];exact e2)
 . intro w hw
   obtain⟨w0,k1, -, -, -, -,rfl|⟨rfl, -⟩⟩:=nou w hw
   . exact h.kn w k1
   . exact hnd
 . intro w hw b
   have key:(∃y∈(Nt.dropKid S H1 p ks M).H,y.b=b/\y.anc.tail=w.anc)↔b≠u.b/\∃y∈S.H,y.b=b/\y.anc.tail=w.anc:=by
    constructor
    . rintro⟨y,y1,y2,y3⟩
      obtain⟨y0,r1,r2, -, -,r3, -⟩:=nou y y1
      refine⟨λe=>r3 (hub y0 r1 ((b_of r2).symm.trans (y2.trans e))),y0,r1,(b_of r2).symm.trans y2,by rw[<-r2];exact y3⟩
    . rintro⟨hne,y,y1,y2,y3⟩
      obtain⟨y',r1,r2,r3⟩:=old y y1 (λe=>hne (by rw[<-y2,e]))
      exact⟨y',r1,r3.trans y2,by rw[r2];exact y3⟩
   rw[key]
   obtain⟨w0,k1,k2, -, -,k3,k4⟩:=nou w hw
   rcases k4 with rfl|⟨rfl,rfl⟩
   . rw[h.km w k1 b]
     constructor
     . rintro⟨y,y1,y2,y3⟩
       refine⟨λe=>?_,y,y1,y2,y3⟩
       have:=hub y y1 (y2.trans e)
       rw[this,hup]at y3
       have hwp:w=p:=h.anc_b k1 hpm y3.symm
       rcases Ax.1 hw with e4|hw1
       . have:p.kids=ks:=by rw[<-hwp];exact(congrArg Tok.kids e4)
         have hb:u.b∈p.kids:=(h.km p hpm u.b).2 ⟨u,hu,rfl,hup⟩
         rw[this]at hb
         exact((hks _).1 hb).2 rfl
       . rw[hwp]at hw1
         rw[Au,Bb]at hndS
         exact hndS.2.1 (BJ hw1)
     . rintro⟨-,h2⟩;exact h2
   . show b∈ks↔_
     rw[hks,h.km w0 hpm b]
     exact and_comm
 . intro w hw
   obtain⟨w0,k1, -, -, -, -,rfl|⟨rfl, -⟩⟩:=nou w hw
   . exact h.kl w k1
   . exact hl
 . intro w hw
   obtain⟨w0,k1,k2, -⟩:=nou w hw
   rw[k2];exact h.lv w0 k1
 . exact h.tn
 . intro k x hx b
   rw[h.tm k x hx b]
   constructor
   . rintro⟨y,y1,y2,y3,y4⟩
     obtain⟨y',r1,r2,r3⟩:=old y y1 (λe=>y4 (by rw[<-y2,e];exact AB.2 rfl))
     exact⟨y',r1,r3.trans y2,by rw[r2];exact y3,AP⟩
   . rintro⟨y,y1,y2,y3, -⟩
     obtain⟨y0,r1,r2, -, -,r3, -⟩:=nou y y1
     exact⟨y0,r1,(b_of r2).symm.trans y2,by rw[<-r2];exact y3,λhb=>r3 (hub y0 r1 ((b_of r2).symm.trans (y2.trans (AB.1 hb))))⟩
 . intro w hw
   obtain⟨w0,k1, -, -, -, -,rfl|⟨rfl, -⟩⟩:=nou w hw
   . exact h.okt w k1
   . exact hM
 . exact h.okx
 . exact h.row
 . exact h.nl
 . intro w hw
   obtain⟨w0,k1, -,k2, -⟩:=nou w hw
   rw[k2];exact h.ek w0 k1
 . exact h.pk
 . intro w hw
   obtain⟨w0,k1, -, -,k2, -⟩:=nou w hw
   rw[k2];exact h.ct w0 k1
 . obtain⟨r,q1,q2,q3,q4⟩:=h.rx
   rcases(hm r).1 q1 with rfl|rfl|q1
   . have e:=congrArg List.length hup
     rw[CL,q2]at e
     exact absurd (Ay e.symm) (h.ne p hpm)
   . exact⟨_,Ag ..,q2,q3,q4⟩
   . exact⟨r,Ae _ q1,q2,q3,q4⟩
end Nt
end
theorem iW(A B C:St):(A++(B++C)).Perm (B++(A++C)):=by
 rw[<-Ai,<-Ai]
 exact Bm.append_right _
theorem cO{K:List Nat}{b:Nat}(h:b∈K):∃(i n z:Nat),K.length=n+1/\K[i]?=some b/\K[n]?=some z:=by
 obtain⟨i,hi⟩:=BT h
 have hl:=(Af.1 hi).1
 exact⟨i,K.length - 1,K[K.length - 1]'(by omega),by omega,hi,Al q_o⟩
theorem jb(S:NC)(u:Tok)(k:Nat)(x:Nd)(hS:Nt.Str S [])(hu:u∈S.H)(hk:u.anc.length=k+1)(hx:S.ns[k]?=some x)(st:St):TrF prog 142 [.ptr S.g (k*9+6),.ptr u.b 0] (S.st++st) λd st'=>∃(ts:List Nat) (M':MemP),Nt.Str (Nt.setT S k x ts M') [u.b]/\d=.tup []/\((Nt.setT S k x ts M').st++st).Perm st':=by
 have hb:u.b∈x.ts:=(hS.tm k x hx u.b).2 ⟨u,hu,rfl,hk,AP⟩
 obtain⟨i,n,z,hn,hi,hz⟩:=cO hb
 have hxm:=Ah hx
 obtain⟨q1,q2⟩:=Nt.swapL_mem (hS.tn k x hx) hn hi hz
 have hnl:n<=10000000000000:=by have:=Nt.ts_len hS hx;omega
 have h2:=Ub S.g 115 (JW S.ns k x) (GQ S.ns k S.zs) x.tm x.ts u.b z i n (hS.okx x hxm).2 hn hi hz hnl (x.fm.resF x.fs++(S.off k++st)) (λb hb=>.inr (by
  obtain⟨w,hw,e1, -⟩:=(hS.tm k x hx b).1 hb
  rw[<-e1]
  exact⟨_,_,Bh _ (Bp _ (Ae _ (Bh _ (Bh _ (Dx.2 ⟨w,hw,Ag ..⟩)))))⟩))
 rw[KI hx]at h2
 have h1:(S.st++st).Perm (.box S.g 115 (JW S.ns k x++(x.tm.cells x.ts.length++GQ S.ns k S.zs))::(x.tm.resT x.ts++(x.fm.resF x.fs++(S.off k++st)))):=by
  have:=(NC.at_T hx).append_right st
  simp only[AI,Ai]at this
  exact this
 refine(TrF.perm h1 h2).mono λd st' ⟨M',h3,h4,h5⟩=>⟨Cz x.ts i z,M',hS.dropT hu hk hx q1 q2 h3,h4,List.Perm.trans ?_ h5⟩
 have hx2:(Nt.setT S k x (Cz x.ts i z) M').ns[k]?=some {x with ts:=Cz x.ts i z,tm:=M'}:=BA (Af.1 hx).1
 have h6:=(NC.at_T hx2).append_right st
 refine h6.trans ?_
 simp only[AI,Ai]
 have e1:JW (Nt.setT S k x (Cz x.ts i z) M').ns k {x with ts:=Cz x.ts i z,tm:=M'}=JW S.ns k x:=by
  unfold JW
  show CJ ((S.ns.set k _).take k)++_=_
  rw[EH]
 have e2:GQ (Nt.setT S k x (Cz x.ts i z) M').ns k (Nt.setT S k x (Cz x.ts i z) M').zs=GQ S.ns k S.zs:=by
  unfold GQ
  show CJ ((S.ns.set k _).drop (k+1))++_=_
  rw[EN]
  rfl
 have e3:(Nt.setT S k x (Cz x.ts i z) M').off k=S.off k:=by
  unfold NC.off NC.cbox
  show Res.box S.c _ [.ar S.g 0 (S.ns.set k _).length S.cap]::(((S.ns.set k _).take k).flatMap Nd.res++(((S.ns.set k _).drop (k+1)).flatMap Nd.res++S.H.flatMap Tok.res))=_
  rw[EH,EN,AV]
 rw[e1,e2,e3]
 show List.Perm (Res.box S.g _ (JW S.ns k x++(M'.cells (Cz x.ts i z).length++GQ S.ns k S.zs))::_) _
 rw[Jw hn]
theorem ZQ(S:NC)(u p:Tok)(H1:List Tok)(hS:Nt.Str S [u.b])(hp:S.H.Perm (u::p::H1))(hup:u.anc.tail=p.anc)(hno:u.kids=[])(st:St):TrF prog 142 [.ptr p.b 4,.ptr u.b 0] (S.st++st) λd st'=>∃(ks:List Nat) (M':MemP),Nt.Str (Nt.dropKid S H1 p ks M') []/\d=.tup []/\(u.res++((Nt.dropKid S H1 p ks M').st++st)).Perm st':=by
 have hm:∀w,w∈S.H↔w=u\/w=p\/w∈H1:=λw=>by rw[hp.mem_iff,Ax,Ax]
 have hu:=(hm u).2 (.inl rfl)
 have hpm:=(hm p).2 (.inr (.inl rfl))
 have hb:u.b∈p.kids:=(hS.km p hpm u.b).2 ⟨u,hu,rfl,hup⟩
 obtain⟨i,n,z,hn,hi,hz⟩:=cO hb
 obtain⟨q1,q2⟩:=Nt.swapL_mem (hS.kn p hpm) hn hi hz
 have hkl:=hS.kl p hpm
 have hp2:S.H.Perm (p::u::H1):=hp.trans (.swap _ _ _)
 have h2:=Ub p.b 119 p.pre [.i p.count] p.km p.kids u.b z i n (hS.okt p hpm) hn hi hz q_o (({S with H:=u::H1}:NC).st++st) (λb hb=>by
  obtain⟨w,hw,e1, -⟩:=(hS.km p hpm b).1 hb
  rw[<-e1]
  rcases(hm w).1 hw with rfl|rfl|hw
  . exact .inr ⟨_,_,Bp _ (Nt.tok_box (S:={S with H:=w::H1}) (Ag ..))⟩
  . exact .inl rfl
  . exact .inr ⟨_,_,Bp _ (Nt.tok_box (S:={S with H:=u::H1}) (Ae _ hw))⟩)
 have h1:(S.st++st).Perm (.box p.b 119 (p.pre++(p.km.cells p.kids.length++[.i p.count]))::(p.km.resT p.kids++(({S with H:=u::H1}:NC).st++st))):=by
  have:=(NC.at_tok hp2).append_right st
  simp only[AI,Ai]at this
  exact this
 have hsl:=Jw (i:=i) (z:=z) hn
 refine(TrF.perm h1 h2).mono λd st' ⟨M',h3,h4,h5⟩=>⟨Cz p.kids i z,M',hS.dropKid hp hup hno q1 q2 (by rw[hsl];omega) h3,h4,List.Perm.trans ?_ h5⟩
 have h6:=NC.at_tok (S:=Nt.dropKid S H1 p (Cz p.kids i z) M') (t:=Nt.withKids p (Cz p.kids i z) M') (H0:=H1) (.refl _)
 have h7:=NC.at_tok (S:={S with H:=u::H1}) (t:=u) (H0:=H1) (.refl _)
 have e1:(Nt.withKids p (Cz p.kids i z) M').cells=p.pre++(M'.cells n++[.i p.count]):=by
  show p.pre++(M'.cells (Cz p.kids i z).length++[.i p.count])=_
  rw[hsl]
 rw[e1]at h6
 have h8:=h6.append_right st
 simp only[AI,Ai]at h8
 have h9:=h7.append_right st
 simp only[AI,Ai]at h9
 refine(CU u.res h8).trans ?_
 refine List.Perm.trans ?_ ((CU _ h9.symm).cons _)
 show(u.res++(Res.box p.b _ _::(M'.resT (Cz p.kids i z)++_))).Perm (_::(M'.resT (Cz p.kids i z)++(u.res++_)))
 exact AD.trans (.cons _ (iW _ _ _))
section
attribute [local push_cast] Br Bl BV V.cells_mk V.cells_len Nat.mul_one Int.sub_zero List.map_nil beq_self_eq_true bne_self_eq_false List.head?_cons Bool.not_true Bool.not_false Nat.zero_add Kf Kg
attribute [-instance] Ck Cu BO Ds
namespace Nt
variable {S S' Sj:NC} {E X:List Nat} {t u v w t':Tok} {H0 H1:List Tok}
structure RemR (S S':NC)(u:Tok):Prop extends Kept S S' where
 keep:∀w,¬u.anc <:+ w.anc->w.anc≠u.anc.tail->(w∈S.H↔w∈S'.H)
 gone:∀w∈S'.H,¬u.anc <:+ w.anc
 par:∃p'∈S'.H,p'.anc=u.anc.tail/\∀p∈S.H,p.anc=u.anc.tail->p'.id=p.id/\p'.env=p.env/\p'.count=p.count
structure PruR (S S':NC)(t:Tok):Prop extends Kept S S' where
 keep:∀w,¬t.anc <:+ w.anc->(w∈S.H↔w∈S'.H)
 gone:∀w∈S'.H,t.anc <:+ w.anc->w.anc=t.anc
 self:∃t'∈S'.H,t'.anc=t.anc/\t'.id=t.id/\t'.env=t.env/\t'.count=t.count/\t'.kids=[]
theorem fM{u:Tok}(h:u.anc≠[]):¬u.anc <:+ u.anc.tail:=λhs=>by
 have:=hs.length_le
 rw[CL]at this
 have:=Cm.2 h
 omega
theorem PruR.rem{S1:NC}{k:Nat}{x1:Nd}{ts ks:List Nat}{M M':MemP}{u1 p1:Tok}(hS1:Str S1 [])(hne:u.anc≠[])(h:PruR S S1 u)(hu1:u1.anc=u.anc)(hp1:p1.anc=u.anc.tail)(hpm:S1.H.Perm (u1::p1::H1))(hx1:S1.ns[k]?=some x1):RemR S (dropKid (setT S1 k x1 ts M) H1 p1 ks M') u:=by
 have hm:∀w,w∈S1.H↔w=u1\/w=p1\/w∈H1:=λw=>by rw[hpm.mem_iff,Ax,Ax]
 have hsuf:=fM hne
 have hK:Kept S (dropKid (setT S1 k x1 ts M) H1 p1 ks M'):=by
  have h1:=h.toKept.trans (kept_setT (ts:=ts) (M:=M) hx1)
  exact⟨h1.c,h1.g,h1.cap,h1.zs,h1.nl,h1.ns⟩
 refine⟨hK,λw hw hwt=>?_,λw hw hs=>?_,withKids p1 ks M',Ag ..,hp1,λp hp he=>?_⟩
 . rw[h.keep w hw,hm]
   show _↔w∈withKids p1 ks M'::H1
   rw[Ax]
   constructor
   . rintro(rfl|rfl|h)
     . exact absurd (by rw[hu1];exact Es _) hw
     . exact absurd hp1 hwt
     . exact .inr h
   . rintro(rfl|h)
     . exact absurd hp1 hwt
     . exact .inr (.inr h)
 . have hw:w∈withKids p1 ks M'::H1:=hw
   rcases Ax.1 hw with rfl|hw
   . exact hsuf (by rw[<-hp1];exact hs)
   . have hwS:=(hm w).2 (.inr (.inr hw))
     have e:=h.gone w hwS hs
     have e2:=hS1.anc_b hwS ((hm u1).2 (.inl rfl)) (e.trans hu1.symm)
     have hnd:=(hpm.map Tok.b).nodup_iff.1 hS1.nd
     rw[Au,Au,Bb]at hnd
     refine hnd.1 ?_
     rw[<-e2]
     exact Ae _ (BJ hw)
 . have h2:=(h.keep p (by rw[he];exact hsuf)).1 hp
   have:=hS1.anc_b h2 ((hm p1).2 (.inr (.inl rfl))) (he.trans hp1.symm)
   subst this
   exact⟨rfl,rfl,rfl⟩
structure PruJ (S:NC)(t:Tok)(K0:List Nat)(j:Nat)(Sj:NC):Prop extends Kept S Sj where
 str:Str Sj []
 keep:∀w,¬t.anc <:+ w.anc->(w∈S.H↔w∈Sj.H)
 self:∃t'∈Sj.H,t'.anc=t.anc/\t'.id=t.id/\t'.env=t.env/\t'.count=t.count/\∀b,b∈t'.kids↔b∈K0.drop j
theorem PruJ.kid{K0:List Nat}{j b:Nat}(h:PruJ S t K0 j Sj)(hb:K0[j]?=some b):∃u∈Sj.H,u.b=b/\u.anc.tail=t.anc:=by
 obtain⟨t',k1,k2, -, -, -,k3⟩:=h.self
 have:b∈t'.kids:=(k3 b).2 (by rw[V.drop_cons hb];exact Ag ..)
 obtain⟨u,u1,u2,u3⟩:=(h.str.km t' k1 b).1 this
 exact⟨u,u1,u2,u3.trans k2⟩
theorem PruJ.step{K0:List Nat}{j b:Nat}(h:PruJ S t K0 j Sj)(hnd:K0.Nodup)(hb:K0[j]?=some b)(hu:u∈Sj.H)(hub:u.b=b)(hut:u.anc.tail=t.anc)(hS':Str S' [])(hR:RemR Sj S' u):PruJ S t K0 (j+1) S':=by
 obtain⟨t',k1,k2,k3,k4,k5,k6⟩:=h.self
 obtain⟨p',p1,p2,p3⟩:=hR.par
 obtain⟨q1,q2,q3⟩:=p3 t' k1 (k2.trans hut.symm)
 have hune:=h.str.ne u hu
 have hts:t.anc <:+ u.anc:=by rw[<-hut];exact List.tail_suffix _
 refine⟨h.toKept.trans hR.toKept,hS',λw hw=>?_,p',p1,p2.trans hut,q1.trans k3,q2.trans k4,q3.trans k5,λc=>?_⟩
 . rw[h.keep w hw]
   exact hR.keep w (λhs=>hw (hts.trans hs)) (λe=>hw (by rw[e,hut];exact Es _))
 . have hul:u.anc.length=t.anc.length+1:=by rw[tok_b hune,hut,An]
   have hd:c∈K0.drop (j+1)↔c∈K0.drop j/\c≠b:=by
    have hnd2:=hnd.sublist (List.drop_sublist j K0)
    rw[V.drop_cons hb]at hnd2 |-
    rw[Bb]at hnd2
    rw[Ax]
    constructor
    . intro h1;exact⟨.inr h1,λe=>hnd2.1 (e▸h1)⟩
    . rintro⟨rfl|h1,h2⟩
      . exact absurd rfl h2
      . exact h1
   rw[hd,<-k6 c,hS'.km p' p1 c,h.str.km t' k1 c,p2,hut,k2]
   have hlen:∀v:Tok,v.anc≠[]->v.anc.tail=t.anc->v.anc.length=t.anc.length+1:=λv hv e=>by rw[tok_b hv,e,An]
   constructor
   . rintro⟨v,v1,v2,v3⟩
     have hvl:=hlen v (hS'.ne v v1) v3
     have hns:=hR.gone v v1
     have hvS:=(hR.keep v hns (λe=>by rw[e,hut]at hvl;omega)).2 v1
     refine⟨⟨v,hvS,v2,v3⟩,λe=>hns ?_⟩
     have:=h.str.same hvS hu (v2.trans (e.trans hub.symm))
     rw[this]
     exact Es _
   . rintro⟨⟨v,v1,v2,v3⟩,hne⟩
     have hvl:=hlen v (h.str.ne v v1) v3
     refine⟨v,(hR.keep v (λhs=>hne ?_) (λe=>by rw[e,hut]at hvl;omega)).1 v1,v2,v3⟩
     have e:=Lc hs q_o
     have:=h.str.anc_b v1 hu e.symm
     rw[<-v2,this,hub]
theorem below(hS:Str S E):∀n (w:Tok),w∈S.H->w.anc.length=n->t.anc≠[]->t.anc <:+ w.anc->w.anc≠t.anc->∃v∈S.H,v.anc.tail=t.anc
|0,w,hw,hl,_,_,_=>absurd (Ay hl) (hS.ne w hw)
|n+1,w,hw,hl,ht,hs,hne=>by
  by_cases e:w.anc.tail=t.anc
  . exact⟨w,hw,e⟩
  . have hs2 : t.anc <:+ w.anc.tail := by
     have h1:=tok_b (hS.ne w hw)
     rw[h1]at hs
     rcases oS.1 hs with h2|h2
     . exact absurd (h1.trans h2.symm) hne
     . exact h2
    have hnil:w.anc.tail≠[]:=λe0=>by
     rw[e0]at hs2
     exact ht (List.suffix_nil.1 hs2)
    obtain⟨q,q1,q2⟩:=hS.up w hw hnil
    refine below hS n q q1 (by rw[<-q2,CL,hl];rfl) ht (by rw[<-q2];exact hs2) (λe2=>e (q2.trans e2))
theorem PruJ.done{K0:List Nat}(h:PruJ S t K0 K0.length Sj)(ht:t.anc≠[]):PruR S Sj t:=by
 obtain⟨t',k1,k2,k3,k4,k5,k6⟩:=h.self
 have hk:t'.kids=[]:=Cj.2 λb hb=>by
  have:=(k6 b).1 hb
  rw[Hv]at this
  cases this
 refine⟨h.toKept,h.keep,λw hw hs=>?_,t',k1,k2,k3,k4,k5,hk⟩
 by_cases e:w.anc=t.anc
 . exact e
 . obtain⟨v,v1,v2⟩:=below h.str _ w hw rfl ht hs e
   have:=(h.str.km t' k1 v.b).2 ⟨v,v1,rfl,v2.trans k2.symm⟩
   rw[hk]at this
   cases this
end Nt
def MX (k:Nat):Prop:=∀(S:NC) (u:Tok),Nt.Str S []->u∈S.H->u.anc.length=k+1->u.anc.tail≠[]->∀st,TrF prog 105 [.ptr S.c 0,.ptr u.b 0] (S.st++st) λd st'=>∃S',Nt.Str S' []/\Nt.RemR S S' u/\d=.tup []/\(S'.st++st).Perm st'
def Xp (k:Nat):Prop:=∀(S:NC) (t:Tok),Nt.Str S []->t∈S.H->t.anc.length=k+1->∀st,TrF prog 102 [.ptr S.c 0,.ptr t.b 0] (S.st++st) λd st'=>∃S',Nt.Str S' []/\Nt.PruR S S' t/\d=.tup []/\(S'.st++st).Perm st'
theorem ce(k:Nat)(hR:MX (k+1)):Xp k:=by
 intro S t hS ht hk st
 obtain⟨H0,hp⟩:=Nt.tok_split ht
 have hkl:=hS.kl t ht
 have hkn:=hS.kn t ht
 have h1:=(NC.at_tok hp).append_right st
 simp only[AI,Ai]at h1
 have hall0:=Ov t.b 119 t.pre [.i t.count] t.km t.kids (hS.okt t ht) q_o (({S with H:=H0}:NC).st++st)
 have hall:Hid (TrF prog 104 [.ptr t.b 4] (S.st++st) λd st'=>d=.fn (.func 141) [] [.ip [.sl .shared (Gm t.kids)]]/\(S.st++st).Perm st'):=(TrF.perm h1 hall0).mono λd st' ⟨e1,e2⟩=>⟨e1,by rw[e2];exact h1⟩
 have hIt:=Aa (Ou t.kids q_o)
 have hJ0:Hid (Nt.PruJ S t t.kids 0 S):=⟨Nt.Kept.refl _,hS,λw _=>Nl,t,ht,rfl,rfl,rfl,rfl,λb=>Nl⟩
 have hne:=hS.ne t ht
 clear h1 hall0 hS hp
 generalize hST:S.st++st=ST at *
 refine Qin [] func102 results102 ntmps102 ?_
 repeat' (first|refine QV ?_|((with_reducible apply(BG (f:=104) (henter:=call104) (hp:=Ar _) (h:=hall.out)));(focus exact q_v);(focus exact q_l);(rintro d0 st0 ⟨rfl,hp3⟩))|refine QY ?_|refine QB ?_;intro b|with_reducible refine QZ ?_<;>(try constructor)<;>intro hb<;>try intro hb1|fail)
 refine Bn (st':=[]++(S.st++st)) (by rw[AM,hST];exact hp3.symm) ?_
 clear hp3 hall
 refine Iu hIt.out call141 q_v (λ_=>rfl) rfl (λj C=>∃Sj,Nt.PruJ S t t.kids j Sj/\C=Sj.st++st) (λ_ _ _=>False) ⟨S,hJ0.out,rfl⟩ ?_ ?_ (λ_ _ _ _ _ _ h=>h.elim)
 . rintro l j b C K hb ⟨Sj,hJ,rfl⟩
   obtain⟨u,u1,u2,u3⟩:=hJ.kid hb
   have hul:u.anc.length=k+1+1:=by rw[Nt.tok_b (hJ.str.ne u u1),u3,An,hk]
   clear hIt hJ0
   refine(?_:Tr _ _ _ _ (AA.put ⟨_,[]⟩ (some 9) (.ptr b 0)) ((Sj.st++st)++K) _)
   repeat' (first|refine QX ?_|refine QB ?_;intro b|with_reducible refine QZ ?_<;>(try constructor)<;>intro hb<;>try intro hb1|fail)
   refine⟨Sj.st++st,Aj _,λK'=>?_⟩
   clear K
   have hrm:=hR Sj u hJ.str u1 hul (by rw[u3];exact hne) (st++K')
   rw[hJ.c,u2]at hrm
   have hst:=Aa λ(S':NC) h1 h2=>hJ.step hkn hb u1 u2 u3 (S':=S') h1 h2
   replace hrm:=Aa hrm
   refine Hl ?_
   refine Bn (st':=Sj.st++(st++K')) (by rw[<-Ai]) ?_
   clear hJ hul u1 u2 u3 hR hb
   repeat' (first|refine QV ?_|((with_reducible apply(BG (f:=105) (henter:=call105) (hp:=Ar _) (h:=hrm.out)));(focus exact q_v);(focus exact q_l);(rintro d0 st0 ⟨S',h1,h2,rfl,hp4⟩))|refine QY ?_|refine QB ?_;intro b|with_reducible refine QZ ?_<;>(try constructor)<;>intro hb<;>try intro hb1|fail)
   exact⟨(S'.st++st)++K',by rw[Ai];exact hp4.symm,_,Aj _,S',hst.out S' h1 h2,rfl⟩
 . rintro d K1 C' rfl ⟨Sj,hJ,rfl⟩
   have hfin:Hid (∃S',Nt.Str S' []/\Nt.PruR S S' t/\D.tup []=D.tup []/\(S'.st++st).Perm (Sj.st++st)):=⟨Sj,hJ.str,hJ.done hne,rfl,.refl _⟩
   repeat' (first|refine QX ?_|refine QB ?_;intro b|with_reducible refine QZ ?_<;>(try constructor)<;>intro hb<;>try intro hb1|fail)
   exact Em q_x q_y (.refl _) (Aj _) (LE.refl _) hfin.out
end
section
attribute [local push_cast] Br Bl BV V.cells_mk V.cells_len Nat.mul_one Int.sub_zero List.map_nil beq_self_eq_true bne_self_eq_false List.head?_cons Bool.not_true Bool.not_false Nat.zero_add Kf Kg
attribute [-instance] Ck Cu BO Ds
section
variable {P:Program} {r:Option Nat} {A:AA} {st:St} {k:D->St->Prop} {dst:Option Tmp} {ty:TypeId} {pos:String} {aft:Array Edge} {gd:Option (Nat×Bool)} {t t':TypeId} {x:Operand}
theorem Kz{b off:Nat}(ht:UH P t=true)(hx:ev A.e x=some (.ptr b off))(hk:k (.b true) st):S P r none ⟨dst,.binOp .neq t x (.const (.pointer none)) t',ty,pos,aft,gd⟩ A st k:=XH (a:=some ⟨b,off,none⟩) ht hx rfl hk
theorem OQ(ht:UH P t=true)(hx:ev A.e x=some (.s (.pointer none)))(hk:k (.b false) st):S P r none ⟨dst,.binOp .neq t x (.const (.pointer none)) t',ty,pos,aft,gd⟩ A st k:=XH (a:=none) ht hx rfl hk
end
theorem NC.lay{S Sj:NC}{w:Tok}{Hj:List Tok}{k:Nat}(hK:Nt.Kept S Sj)(hk:w.anc.length=k+1)(hp:Sj.H.Perm (w::Hj))(s:St):∃(ROWj UC:List D) (RJ:St),(Sj.st++s).Perm (.box S.c 109 [.ar S.g 0 S.ns.length S.cap]::.box S.g 115 ROWj::.box w.b 119 (w.fromD::.i k::UC)::RJ):=by
 have e1:Sj.cbox=.box S.c 109 [.ar S.g 0 S.ns.length S.cap]:=by unfold NC.cbox;rw[hK.c,hK.g,hK.cap,hK.nl]
 have e2:Sj.gbox=.box S.g 115 (CJ Sj.ns++Sj.zs):=by unfold NC.gbox;rw[hK.g]
 have h2:w.lv=k:=by unfold Tok.lv;omega
 have e3:w.cells=w.fromD::.i k::([.i w.id,.sl .shared (w.env.map V.cells)]++(w.km.cells w.kids.length++[.i w.count])):=by
  unfold Tok.cells Tok.pre
  rw[h2]
  rfl
 have:=NC.view hp s
 rw[e1,e2,e3]at this
 exact⟨_,_,_,this⟩
theorem fh(k:Nat)(hP:Xp k):MX k:=by
 intro S u hS hu hk hne st
 have hkn:=hS.lv u hu
 have hn5:=hS.nl
 have hkS:k<S.ns.length:=by omega
 have hune:=hS.ne u hu
 have hcap:S.ns.length<=S.cap:=by
  have:=hS.row
  rw[Ad,DP]at this
  omega
 obtain⟨pb,pl,hpl⟩:∃pb pl,u.anc.tail=pb::pl:=by
  cases h:u.anc.tail with
  | nil=>exact absurd h hne
  | cons a l=>exact⟨a,l,rfl⟩
 have hpr:=Aa (hP S u hS hu hk st)
 have hfr:∀w:Tok,w.anc=u.anc->w.fromD=.ptr pb 0:=λw e=>by
  unfold Tok.fromD
  rw[e,hpl]
 have hub:∀w:Tok,w.anc=u.anc->w.b=u.b:=λw e=>Nt.b_of e
 clear hP hS hu
 generalize hST:S.st++st=ST at *
 refine Qin [] func105 results105 ntmps105 ?_
 refine Lb 0 (λA' st'=>A'.df=[]/\A'.e 0=.ptr S.c 0/\A'.e 1=.ptr u.b 0/\∃S1,Nt.Str S1 []/\Nt.PruR S S1 u/\(S1.st++st).Perm st') ?_ ?_
 . repeat' (first|refine QV ?_|((with_reducible apply(BG (f:=102) (henter:=call102) (hp:=Ar _) (h:=hpr.out)));(focus exact q_v);(focus exact q_l);(rintro d0 st0 ⟨S1,h1,h2,rfl,hp1⟩))|refine QY ?_|refine QB ?_;intro b|with_reducible refine QZ ?_<;>(try constructor)<;>intro hb<;>try intro hb1|fail)
   exact⟨Qf,Qf,Qf,S1,h1,h2,hp1⟩
 clear hpr hST ST
 rintro A st1 ⟨hdf,e0,e1,S1,hS1,hPr,hp1⟩
 obtain⟨u1,u2,u3, -, -, -,u4⟩:=hPr.self
 obtain⟨p1,q1,q2⟩:=hS1.up u1 u2 (by rw[u3];exact hne)
 rw[u3]at q2
 have hup:u1.anc.tail=p1.anc:=by rw[u3];exact q2
 have hpne:p1≠u1:=λe=>by
  rw[e,u3]at q2
  have:=congrArg List.length q2
  rw[CL]at this
  have:=Cm.2 hune
  omega
 obtain⟨H0,hp0⟩:=Nt.tok_split u2
 have hp0m:p1∈H0:=((Nt.memH hp0).1 q1).resolve_left hpne
 obtain⟨la,lb,hab⟩:=Mh hp0m
 have hpm:S1.H.Perm (u1::p1::(la++lb)):=hp0.trans (by rw[hab];exact(AD).cons _)
 obtain⟨x1,hx1⟩:∃x1,S1.ns[k]?=some x1:=⟨_,Al (by rw[hPr.nl];omega)⟩
 have hk1:u1.anc.length=k+1:=by rw[u3];exact hk
 have hlv:=jb S1 u1 k x1 hS1 u2 hk1 hx1 st
 obtain⟨ROW1,UC1,R1,v1⟩:=NC.lay hPr.toKept hk1 hp0 st
 have hpb:p1.b=pb:=by
  unfold Tok.b
  rw[<-q2,hpl];rfl
 have hnext:Hid (∀(ts:List Nat) (M':MemP),Nt.Str (Nt.setT S1 k x1 ts M') [u.b]->(∃(ROW2 UC2:List D) (R2:St),((Nt.setT S1 k x1 ts M').st++st).Perm (.box S.c 109 [.ar S.g 0 S.ns.length S.cap]::.box S.g 115 ROW2::.box u.b 119 (.ptr pb 0::.i k::UC2)::R2))/\TrF prog 142 [.ptr pb 4,.ptr u.b 0] ((Nt.setT S1 k x1 ts M').st++st) λd st'=>∃S',Nt.Str S' []/\Nt.RemR S S' u/\d=.tup []/\(u1.res++(S'.st++st)).Perm st'):=λts M' h=>by
  have hKs:=hPr.toKept.trans (Nt.kept_setT (ts:=ts) (M:=M') hx1)
  obtain⟨ROW2,UC2,R2,v2⟩:=NC.lay (Sj:=Nt.setT S1 k x1 ts M') hKs hk1 hp0 st
  rw[hfr u1 u3,hub u1 u3]at v2
  refine⟨⟨ROW2,UC2,R2,v2⟩,?_⟩
  have h2:=ZQ (Nt.setT S1 k x1 ts M') u1 p1 (la++lb) (by rw[hub u1 u3];exact h) hpm hup u4 st
  rw[hpb,hub u1 u3]at h2
  exact h2.mono λd st' ⟨ks,M2,h3,h4,h5⟩=>⟨_,h3,hPr.rem hS1 hune u3 q2.symm hpm hx1,h4,h5⟩
 rw[hfr u1 u3,hub u1 u3]at v1
 rw[hub u1 u3,hPr.g]at hlv
 have hlv2:=Aa (TrF.perm v1.symm hlv)
 have hinh:Hid ((∃w,Holds (.box S.c 109 [.ar S.g 0 S.ns.length S.cap]::.box S.g 115 ROW1::.box u.b 119 (.ptr pb 0::.i k::UC1)::R1) w)->∃d st',∃(ts:List Nat) (M':MemP),Nt.Str (Nt.setT S1 k x1 ts M') [u.b]/\d=D.tup []/\((Nt.setT S1 k x1 ts M').st++st).Perm st'):=λ⟨w,hw⟩=>hlv2.out.inhab (us:=[.pointer (some ⟨S.g,k*9+6,none⟩),.pointer (some ⟨u.b,0,none⟩)]) (RepL.cons (.ptr _ _) (RepL.cons (.ptr _ _) .nil)) hw
 refine Bn (hp1.symm.trans v1) ?_
 clear hp1 v1 hlv hfr hub hp0 hpm hx1 hS1 hPr u2 u3 u4 q1 q2 hup hpne hp0m hab hpb hpl hk1 hk hne hune
 repeat' (first|refine QV ?_|((with_reducible apply(La (id:=1) [(S.c,[.ar S.g 0 S.ns.length S.cap]),(u.b,.ptr pb 0::.i k::UC1)]));(iterate 3 (focus kernel_rfl));(focus exact q_k);intro hne;(try simp only[nes,ne1,and_assoc]at hne);(repeat(have hq:=hne.1;replace hne:=hne.2));intro hw)|((with_reducible refine And.intro ?_ ?_);(focus exact q_k))|((with_reducible apply(DL call142));(focus exact Ar _);(focus exact hlv2.out);(focus exact LEL.refl _);(focus exact hinh.out hw);(rintro d2 st2 ⟨ts,M2,h1,rfl,hp2⟩;refine⟨BI,?_⟩;obtain⟨⟨ROW2,UC2,R2,v2⟩,hkd⟩:=hnext.out ts M2 h1))|((with_reducible refine Bn (hp2.symm.trans v2) ?_))|((with_reducible apply(Kz (b:=pb) (off:=0)));(focus kernel_rfl);(focus exact q_v))|((with_reducible apply(BG (f:=142) (henter:=call142) (hp:=v2.symm) (h:=hkd)));(focus exact q_v);(focus exact q_l);(rintro d0 st0 ⟨S',h3,h4,rfl,hp5⟩))|(with_reducible refine Du ?_)|refine QY ?_|refine QB ?_;intro b|with_reducible refine QZ ?_<;>(try constructor)<;>intro hb<;>try intro hb1|fail)
 all_goals exact Ha (rs:=[]) q_x q_y hp5.symm (show List.Sublist (S'.st++st) (u1.res++(S'.st++st))from Hw _ _) (LE.refl _) ⟨S',h3,h4,rfl,.refl _⟩
end
theorem Ri{k:Nat}(h:5<=k):MX k:=λS u hS hu hk _ st=>absurd (Cp (hS.lv u hu) hS.nl) q_o
theorem Rj:∀n k,k+n=5->MX k
|0,k,h=>Ri q_o
|n+1,k,h=>fh k (ce k (Rj n (k+1) q_o))
theorem XR(k:Nat):MX k:=by
 by_cases h:5<=k
 . exact Ri h
 . exact Rj (5 - k) k q_o
theorem iV(k:Nat):Xp k:=ce k (XR (k+1))
section
attribute [local push_cast] Br Bl BV V.cells_mk V.cells_len Nat.mul_one Int.sub_zero List.map_nil beq_self_eq_true bne_self_eq_false List.head?_cons Bool.not_true Bool.not_false Nat.zero_add
def Mat.lo (p:Pt):Pt:=⟨p.tmpl,false,p.tests.filter λt=>decide (t.kind<5)⟩
def Mat.solo (p:Pt)(f:Fc):Bool:=(Mat.pass (Mat.lo p) f Mat.empty).isSome
theorem SJ{α:Type}{L:List α}{i:Nat}{t:α}(h:L[i]?=some t)(q:α->Bool)(hq:q t=true):(L.take (i+1)).filter q=(L.take i).filter q++[t]:=by
 rw[Bk,h,Bw,Et,Cf hq,List.filter_nil]
theorem SM{α:Type}{L:List α}{i:Nat}{t:α}(h:L[i]?=some t)(q:α->Bool)(hq:q t=false):(L.take (i+1)).filter q=(L.take i).filter q:=by
 rw[Bk,h,Bw,Et,Cg (by rw[hq];decide),List.filter_nil,AY]
theorem ju(p:Pt)(f:Fc)(hp:PK p)(hf:FK f)(st:St):TrF prog 99 [.agg p.cells,.agg f.cells] st λd st'=>d=.b (Mat.solo p f)/\st'=st:=by
 have hlo:∀t∈(Mat.lo p).tests,t.val.Bg:=λt ht=>hp.v t (EP.1 ht).1
 have hlol:(Mat.lo p).tests.length<=1000000:=Cp (Fw ..) hp.l
 have hPa:Hid (∀st:St,TrF prog 17 [.agg (Mat.lo p).cells,.agg f.cells,.sl .shared (Mat.empty.map V.cells)] st λd st'=>d=Gl (Mat.pass (Mat.lo p) f Mat.empty)/\st'=st):=λst=>Po (Mat.lo p) f Mat.empty hlo hlol hf empty_ek.v empty_ek.l .shared st
 have hEm:Hid (∀st:St,TrF prog 20 [] st λd st'=>d=.sl .shared (Mat.empty.map V.cells)/\st'=st):=λst=>Rz st
 have hal:Mat.solo p f=(Mat.pass (Mat.lo p) f Mat.empty).isSome:=rfl
 have hpm:(p.tests.map Ts.cells).length=p.tests.length:=Ab ..
 have hpl:=hp.l
 clear hlo hlol hp hf
 have hpc:=hMp Ts.cells p.tests
 generalize Mat.pass (Mat.lo p) f Mat.empty=R at *
 rw[hal]
 clear hal
 generalize Mat.empty.map V.cells=EC at *
 have hlc:(Mat.lo p).cells=[.i p.tmpl,.b false,.sl .shared ((p.tests.filter λt=>decide (t.kind<5)).map Ts.cells)]:=rfl
 rw[hlc]at hPa
 clear hlc
 unfold Pt.cells
 unfold Fc.cells at *
 cases p with
|mk tm ng tests =>
 dsimp only at *
 generalize f.s.map V.cells=FS at *
 generalize f.id=f0 at *
 generalize f.time=f1 at *
 generalize f.tmpl=f2 at *
 generalize f.ver=f3 at *
 generalize hTS:tests.map Ts.cells=TS at *
 refine Qin [4] func99 results99 ntmps99 ?_
 refine GF 76 7 (((tests.take 0).filter λt=>decide (t.kind<5)).map Ts.cells).length ?_
 repeat' (first|refine QX ?_|(refine QB ?_;intro b)|refine QP ?_;intro o' ho'|(with_reducible refine QZ ?_<;>(try constructor)<;>intro hb<;>try intro hb1)|fail)
 revert b
 intro pb
 refine Bs (ι:=Nat) (λi A st'=>i<=tests.length/\A.df=[]/\A.e 3=.ip [.i f0,.i f1,.i f2,.i f3,.sl .shared FS]/\A.e 5=.ptr pb 0/\A.e 14=.sl .shared TS/\A.e 15=.i tests.length/\A.e 16=.i i/\∃o,o≠.shared/\st'=.box pb 39 [.i tm,.b false,.sl o (((tests.take i).filter λt=>decide (t.kind<5)).map Ts.cells)]::.room o 76 7 (((tests.take i).filter λt=>decide (t.kind<5)).map Ts.cells).length::st) (λi=>tests.length - i) 0 ⟨Ao _,Qf,Qf,Qf,Qf,Qf,Qf,.tight,by decide,rfl⟩ ?_
 rintro i A st' ⟨hi,hdf,e3,e5,e14,e15,e16,o,ho,rfl⟩
 by_cases hlt:i<tests.length
 . obtain⟨t,ht⟩:=gEx hlt
   have htc:=hpc.out i t ht
   clear hpc hPa hEm
   have hb7:∀a∈((tests.take i).filter λt=>decide (t.kind<5)).map Ts.cells,a.length=7:=λa ha=>by
    obtain⟨t, -,rfl⟩:=Av.1 ha
    cases t with
    | mk kind slot var val=>cases val with
     | mk k n s l=>rfl
   have hbl:(((tests.take i).filter λt=>decide (t.kind<5)).map Ts.cells).length<=1000000:=by
    rw[Ab]
    refine Cp (Fw ..) ?_
    rw[AQ]
    omega
   by_cases hk:t.kind<5
   . have hcx:=congrArg (List.map Ts.cells) (SJ ht (λt=>decide (t.kind<5)) (decide_eq_true hk))
     rw[Bi,Au,BH]at hcx
     have hcx2:Hid _:=hcx
     clear hcx ht
     cases t with
     | mk kind slot var val =>
     cases val with
     | mk k n s l =>
     rw[Ts.cells_mk]at *
     dsimp only at hk
     generalize l.map V.cells=VL at *
     generalize hT0:((tests.take i).filter λt=>decide (t.kind<5)).map Ts.cells=T0 at *
     repeat' (first|refine QX ?_|(refine QB ?_;intro b)|refine QP ?_;intro o' ho'|(with_reducible refine QZ ?_<;>(try constructor)<;>intro hb<;>try intro hb1)|fail)
     refine⟨i+1,.box pb 39 [.i tm,.b false,.sl o' (((tests.take (i+1)).filter λt=>decide (t.kind<5)).map Ts.cells)]::.room o' 76 7 (((tests.take (i+1)).filter λt=>decide (t.kind<5)).map Ts.cells).length::st,?_,⟨hlt,?_,?_,?_,?_,?_,?_,o',by assumption,rfl⟩,by omega⟩
     . rw[hcx2.out];(repeat(first|exact Aj _|with_reducible apply List.Sublist.cons_cons|apply List.Sublist.cons))
     all_goals exact Qf
   . have hcx:=congrArg (List.map Ts.cells) (SM ht (λt=>decide (t.kind<5)) (decide_eq_false hk))
     have hcx2:Hid _:=hcx
     clear hcx ht
     cases t with
     | mk kind slot var val =>
     cases val with
     | mk k n s l =>
     rw[Ts.cells_mk]at *
     dsimp only at hk
     generalize l.map V.cells=VL at *
     generalize hT0:((tests.take i).filter λt=>decide (t.kind<5)).map Ts.cells=T0 at *
     repeat' (first|refine QX ?_|(refine QB ?_;intro b)|refine QP ?_;intro o' ho'|(with_reducible refine QZ ?_<;>(try constructor)<;>intro hb<;>try intro hb1)|fail)
     refine⟨i+1,.box pb 39 [.i tm,.b false,.sl o (((tests.take (i+1)).filter λt=>decide (t.kind<5)).map Ts.cells)]::.room o 76 7 (((tests.take (i+1)).filter λt=>decide (t.kind<5)).map Ts.cells).length::st,?_,⟨hlt,?_,?_,?_,?_,?_,?_,o,ho,rfl⟩,by omega⟩
     . rw[hcx2.out];(repeat(first|exact Aj _|with_reducible apply List.Sublist.cons_cons|apply List.Sublist.cons))
     all_goals exact Qf
 . have hii:i=tests.length:=by omega
   subst hii
   rw[Cb]
   clear hpc hi hlt
   generalize hT0:(tests.filter λt=>decide (t.kind<5)).map Ts.cells=T0 at *
   cases R with
   | none =>
    dsimp only[Gl,Option.isSome]at *
    repeat' (first|refine QV ?_|((with_reducible refine FL (id:=8) [(pb,[.i tm,.b false,.sl o T0])] ?_ ?_ ?_ ?_ ?_);(iterate 3 (focus kernel_rfl));(focus((repeat(first|exact BI|refine BX q_m ?_));done)))|((with_reducible refine And.intro ?_ ?_);(focus exact q_k))|refine QY ?_|(refine QB ?_;intro b)|refine QP ?_;intro o' ho'|(with_reducible refine QZ ?_<;>(try constructor)<;>intro hb<;>try intro hb1)|refine Qc call20 ((hEm.out _)) ?_|refine QL call17 ((hPa.out _)) ?_|fail)
    all_goals exact BZ
   | some e =>
    dsimp only[Gl,Option.isSome]at *
    repeat' (first|refine QV ?_|((with_reducible refine FL (id:=8) [(pb,[.i tm,.b false,.sl o T0])] ?_ ?_ ?_ ?_ ?_);(iterate 3 (focus kernel_rfl));(focus((repeat(first|exact BI|refine BX q_m ?_));done)))|((with_reducible refine And.intro ?_ ?_);(focus exact q_k))|refine QY ?_|(refine QB ?_;intro b)|refine QP ?_;intro o' ho'|(with_reducible refine QZ ?_<;>(try constructor)<;>intro hb<;>try intro hb1)|refine Qc call20 ((hEm.out _)) ?_|refine QL call17 ((hPa.out _)) ?_|fail)
    all_goals exact BZ
end
section
def YD (P:Program)(g:FuncId)(caps:List D){X:Type}(args:X->List D)(L:List X)(K0:St)(Kend:St->Prop)(Kstop:Nat->St->Prop)(Pr:St->Prop):Prop :=
 ∀(l:Nat) (C:St) (J Jx:Nat->St->Prop),Jn P l args L J Jx->(∀i C',J i C'->Pr C')->J 0 C->TrF P g (.fn (.yield l) [] []::caps) (K0++C) λ_ st'=>∃K1 C',st'=K1++C'/\((Kend K1/\J L.length C')\/∃i,Kstop i K1/\Jx i C')
section
variable {P:Program} {N:Nat} {r:Option Nat} {A:AA} {st:St} {w:World} {Q:Exit->AA->St->Prop} {m:Option Ro} {k:D->St->Prop} {dst:Option Tmp} {ty:TypeId} {pos:String} {aft:Array Edge} {gd:Option (Nat×Bool)} {o:Oper}
theorem It{X:Type}{g:Operand}{ps:Array Tmp}{assign body:Code}{gf:FuncId}{caps:List D}{args:X->List D}{L:List X}{K0 C:St}{Kend:St->Prop}{Kstop:Nat->St->Prop}{Pr:St->Prop}
 (hit:YD P gf caps args L K0 Kend Kstop Pr)(hent:∀args w,(callFunc gf args).run P w=.ok (.enter gf args) w)(hg:ev A.e g=some (.fn (.func gf) [] caps))(hps:∀x,(args x).length=ps.size)(hpN:ps.toList.all (λt=>decide (t<N))=true)
 (J:Nat->St->Prop)(Jx:Code->Nat->St->Prop)(hpr:∀C B,Pr C->Pr (C++B))(hJp:∀i C,J i C->Pr C)(h0:J 0 C)
 (hround:∀l i x C K,L[i]?=some x->J i C->Tr P N (some l) assign (SQ ⟨A.e,[]⟩ ps.toList (args x)) (C++K) (IK (λA' st'=>∃C1,(C1++K).Sublist st'/\∀K',Tr P N (some l) body A' (C1++K') (Ta K' (i+1) J Jx)) (λ_ _ _=>False)))
 (hdone:∀d K1 C',Kend K1->J L.length C'->Q .normal ⟨A.e,Fx d::A.df⟩ (BK d::(K1++C')))
 (hstop:∀c d i K1 C',Kstop i K1->Jx c i C'->Tr P N none c ⟨A.e,Fx d::A.df⟩ (BK d::(K1++C')) Q) :
 Tr P N none (.rangeFunc g ps assign body) A (K0++C) Q:=by
 intro a w h1 h2
 have hr:=PJ h1 hg
 generalize hgv:a.eval g=gv at hr
 cases hr with
|fn _ us1 us2 _ _ l1 l2 r1 r2 =>
 obtain rfl:us1=[]:=Ay l1
 refine wpIn_rangeFunc λfn hfn=>?_
 obtain⟨d,hd⟩:∃d,d=w.heap.size:=⟨_,rfl⟩
 obtain⟨rec,hrec⟩:∃rec,rec=Tl fn a.tmps ps assign body d:=⟨_,rfl⟩
 have n1:=Io h2 (Res.raw d (.deferred (some []))) (λb e=>by cases e;exact hd) (.deferred (some [])) (λ_=>by rw[hd];exact heap_alloc_new w _)
 obtain⟨w1,hw1⟩:∃w1,w1=w.alloc (.deferred (some [])):=⟨_,rfl⟩
 rw[<-hw1]at n1
 have hs1:w1.heap.size=d+1:=by rw[hw1,hd];simp
 have n2:=Io n1.1 (Res.raw (d+1) (.loop (rec .ready none))) (λb e=>by cases e;exact hs1.symm) (.loop (rec .ready none)) (λ_=>by rw[<-hs1];exact heap_alloc_new w1 _)
 obtain⟨W1,hW1⟩:∃W1,W1=w1.alloc (.loop (rec .ready none)):=⟨_,rfl⟩
 rw[<-hW1]at n2
 obtain⟨tm,htm⟩:∃tm:Nat->Value,tm=λt=>a.tmps.getD t undef:=⟨_,rfl⟩
 have n3:=n2.1.know (f:=tm) (e:=A.e) (λt=>by rw[htm];exact((h1.ext n1.2).ext n2.2).2.2 t)
 obtain⟨B,hB⟩:∃B:LoopState->Option Code->St,B=λs pe=>[Res.raw (d+1) (.loop (rec s pe)),Res.raw d (.deferred (some [])),Res.know tm A.e]:=⟨_,rfl⟩
 have hp:(Res.know tm A.e::Res.raw (d+1) (.loop (rec .ready none))::Res.raw d (.deferred (some []))::(K0++C)).Perm (K0++(C++B .ready none)):=by rw[hB];exact Nu
 have E3:Ext (OwnS (K0++C)) w (OwnS (K0++(C++B .ready none))) W1:=by rw[<-OwnS.perm hp];exact n1.2.trans (n2.2.trans n3.2)
 have H3:=n3.1.perm hp
 have hnl:∀(x:Loop) c E fr,Obj.loop x≠.cells c E fr:=λ_ _ _ _ e=>by cases e
 have hY:Jn P (d+1) args L (λi C'=>∃C,C'=C++B .ready none/\J i C) (λi C'=>∃c C,C'=C++B .done (some c)/\Jx c i C):=by
  rintro i x C' K hx ⟨Cn,rfl,hJ⟩ vs w2 hv hh
  rw[Ai]at hv hh
  have hl:w2.heap[d+1]?=some (.loop (rec .ready none)):=hh.2 (Res.raw (d+1) (.loop (rec .ready none))) (by rw[hB];simp)
  have hkn:∀t,Rep (OwnS (Cn++(B .ready none++K))) w2 (tm t) (A.e t):=hh.2 (Res.know tm A.e) (by rw[hB];simp)
  have hy:=run_yield (P:=P) (args:=vs) hl (by rw[hrec,<-AR,hv.1];exact hps x)
  rw[hrec]at hy
  refine⟨fn,_,assign,body,hy,roundIn_of_wpIn hfn ?_⟩
  clear hy
  have hz:(ps.zip vs).foldl (λtmps (t,a)=>tmps.setIfInBounds t a) a.tmps=(ps.toList.zip vs.toList).foldl (λt (p,v)=>t.setIfInBounds p v) a.tmps:=by
   rw[<-Mj,d6]
  have hrel:RelA N (OwnS (Cn++(B .ready none++K))) w2 ⟨(ps.zip vs).foldl (λtmps (t,a)=>tmps.setIfInBounds t a) a.tmps,[]⟩ (SQ ⟨A.e,[]⟩ ps.toList (args x)):=by
   rw[hz]
   refine Mu _ _ _ _ _ (λp hp=>by simpa using AU.1 hpN p hp) ⟨h1.1,rfl,λt=>?_⟩ hv
   have:=hkn t
   rw[htm]at this
   exact this
  refine wpIn_mono (hround (d+1) i x Cn (B .ready none++K) hx hJ _ w2 hrel hh) ?_
  rintro e a3 w3 ⟨A3,st3,k1,k2,k3,k4⟩
  cases e with
  | normal =>
   obtain⟨C1,hsub,hbody⟩:=k4
   have e3:=Ext.drop (λ_ h=>hsub.subset h) w3
   have H4:=k2.sub hsub
   have hl3:w3.heap[d+1]?=some (.loop (rec .ready none)):=H4.2 (Res.raw (d+1) (.loop (rec .ready none))) (by rw[hB];simp)
   refine⟨_,run_beginRound hl3 (by rw[hrec]),?_⟩
   have q:=Ia (C:=C1) (T:=[Res.raw d (.deferred (some [])),Res.know tm A.e]++K) (o':=.loop {rec .ready none with state:=.busy}) (by rw[hB]at H4;exact H4) (hnl _)
   have hbz:C1++(Res.raw (d+1) (.loop {rec .ready none with state:=.busy})::([Res.raw d (.deferred (some [])),Res.know tm A.e]++K))=C1++(B .busy none++K):=by rw[hB,hrec];rfl
   have hbr:C1++(Res.raw (d+1) (.loop (rec .ready none))::([Res.raw d (.deferred (some [])),Res.know tm A.e]++K))=C1++(B .ready none++K):=by rw[hB];rfl
   rw[hbz]at q
   rw[hbr]at q
   have E4:=(k3.trans e3).trans q.2
   refine wpIn_mono (hbody (B .busy none++K) _ _ ((k1.ext e3).ext q.2) q.1) ?_
   have fin:∀(jump:Option Code) (C5 st5:St) (w5:World),(C5++(B .busy none++K)).Sublist st5->Holds st5 w5->Ext (OwnS (C1++(B .busy none++K))) (w3.putObj (d+1) (.loop {rec .ready none with state:=.busy})) (OwnS st5) w5 ->
    (Instr.endRound (d+1) jump).run P w5=.ok (.bool jump.isNone) (w5.putObj (d+1) (.loop (rec (if jump.isNone then .ready else .done) jump))) /\
    Holds (C5++B (if jump.isNone then .ready else .done) jump++K) (w5.putObj (d+1) (.loop (rec (if jump.isNone then .ready else .done) jump))) /\
    Ext (OwnS (Cn++B .ready none++K)) w2 (OwnS (C5++B (if jump.isNone then .ready else .done) jump++K)) (w5.putObj (d+1) (.loop (rec (if jump.isNone then .ready else .done) jump))):=λjump C5 st5 w5 hs5 hh5 he5=>by
    have e5:=Ext.drop (λ_ h=>hs5.subset h) w5
    have H6:=hh5.sub hs5
    have hl5:w5.heap[d+1]?=some (.loop (rec .busy none)):=H6.2 (Res.raw (d+1) (.loop (rec .busy none))) (by rw[hB];simp)
    have hr5:=run_endRound (P:=P) jump hl5
    rw[hrec]at hr5 |-
    have q5:=Ia (C:=C5) (T:=[Res.raw d (.deferred (some [])),Res.know tm A.e]++K) (o':=.loop (Tl fn a.tmps ps assign body d (if jump.isNone then .ready else .done) jump)) (by rw[hB]at H6;exact H6) (hnl _)
    have hbz5:C5++(Res.raw (d+1) (.loop (Tl fn a.tmps ps assign body d (if jump.isNone then .ready else .done) jump))::([Res.raw d (.deferred (some [])),Res.know tm A.e]++K))=C5++B (if jump.isNone then .ready else .done) jump++K:=by rw[hB,hrec,Ai];rfl
    have hbr5:C5++(Res.raw (d+1) (.loop (rec .busy none))::([Res.raw d (.deferred (some [])),Res.know tm A.e]++K))=C5++(B .busy none++K):=by rw[hB];rfl
    rw[hbz5]at q5
    rw[hbr5]at q5
    refine⟨hr5,q5.1,?_⟩
    rw[show Cn++B .ready none++K=Cn++(B .ready none++K) by rw[Ai]]
    exact(E4.trans (he5.trans e5)).trans q5.2
   rintro e a5 w5 ⟨A5,st5,m1,m2,m3,m4⟩
   cases e with
   | normal =>
    obtain⟨C5,hs5,hJ5⟩:=m4
    obtain⟨f1,f2,f3⟩:=fin none C5 st5 w5 hs5 m2 m3
    exact⟨_,_,f1,_,rfl,.s (.bool true),_,.s _ rfl,f2,f3,_,rfl,.inl ⟨rfl,C5,rfl,hJ5⟩⟩
   | ret =>
    obtain⟨C5,hs5,hJ5⟩:=m4
    obtain⟨f1,f2,f3⟩:=fin (some .ret) C5 st5 w5 hs5 m2 m3
    exact⟨_,_,f1,_,rfl,.s (.bool false),_,.s _ rfl,f2,f3,_,rfl,.inr ⟨rfl,.ret,C5,rfl,hJ5⟩⟩
   | exit id =>
    obtain⟨C5,hs5,hJ5⟩:=m4
    obtain⟨f1,f2,f3⟩:=fin (some (.exit id)) C5 st5 w5 hs5 m2 m3
    exact⟨_,_,f1,_,rfl,.s (.bool false),_,.s _ rfl,f2,f3,_,rfl,.inr ⟨rfl,.exit id,C5,rfl,hJ5⟩⟩
   | goto t =>
    obtain⟨C5,hs5,hJ5⟩:=m4
    obtain⟨f1,f2,f3⟩:=fin (some (.goto t)) C5 st5 w5 hs5 m2 m3
    exact⟨_,_,f1,_,rfl,.s (.bool false),_,.s _ rfl,f2,f3,_,rfl,.inr ⟨rfl,.goto t,C5,rfl,hJ5⟩⟩
   | panic c=>exact m4.elim
   | outgrown=>exact m4.elim
  | exit id=>exact k4.elim
  | goto t=>exact k4.elim
  | ret=>exact k4.elim
  | panic c=>exact k4.elim
  | outgrown=>exact k4.elim
 refine⟨d+1,[Fx d],W1,{target:=.fn (.func gf) us2.toArray,args:=#[.func (.yield (d+1)) #[] #[]]},W1,gf,#[.func (.yield (d+1)) #[] #[]]++us2.toArray,W1,?_,?_,λ_ _=>trivial,?_,(λh=>by cases h),?_⟩
 . rw[hW1,hrec,hw1,hd]
   exact run_enterLoop_outer _ _ _ _ _
 . simp only[resolve,hgv]
   simp[go_sem]
 . simp[invoke,go_sem,hent]
 . have hcall := hit (d + 1) (C ++ B .ready none) _ _ hY (λi C' ⟨C0, e, h⟩ => by rw [e]; exact hpr _ _ (hJp _ _ h)) ⟨C, rfl, h0⟩ (#[.func (.yield (d + 1)) #[] #[]] ++ us2.toArray) W1 (by
    have hvs:(#[Value.func (.yield (d+1)) #[] #[]]++us2.toArray).toList=Value.func (.yield (d+1)) #[] #[]::us2:=by simp
    rw[hvs]
    refine RepL.cons ?_ ?_
    . exact .fn (.yield (d+1)) [] [] [] [] rfl rfl (λi h=>absurd h (BL _)) (λi h=>absurd h (BL _))
    . exact⟨l2,λi h h'=>(r2 i h h').ext E3⟩) H3
   refine(callsIn_wide.2 hcall).mono ?_
   rintro e w2 ⟨v,rfl,dd,st2, -,q2,q3,K1,C2,rfl,⟨hk,Cn,rfl,hJ⟩|⟨i,hk,c,Cn,rfl,hJ⟩⟩
   . have hl:w2.heap[d+1]?=some (.loop (rec .ready none)):=q2.2 (Res.raw (d+1) (.loop (rec .ready none))) (by rw[hB];simp)
     have hend:(Instr.endLoop (d+1)).run P w2=.ok none (w2.putObj (d+1) (.loop {rec .ready none with state:=.exhausted})):=by
      subst hrec;exact run_endLoop (P:=P) hl (by simp)
     have q2':Holds ((K1++Cn)++Res.raw (d+1) (.loop (rec .ready none))::[Res.raw d (.deferred (some [])),Res.know tm A.e]) w2:=by rw[hB,<-Ai]at q2;exact q2
     have q:=Ia (o':=.loop {rec .ready none with state:=.exhausted}) q2' (hnl _)
     have hsub:(BK d::(K1++Cn)).Sublist (BK d::(K1++Cn++[Res.raw (d+1) (.loop {rec .ready none with state:=.exhausted}),Res.know tm A.e])):=(Dd _ _).cons_cons _
     have hpm:(K1++Cn++Res.raw (d+1) (.loop {rec .ready none with state:=.exhausted})::[Res.raw d (.deferred (some [])),Res.know tm A.e]).Perm (BK d::(K1++Cn++[Res.raw (d+1) (.loop {rec .ready none with state:=.exhausted}),Res.know tm A.e])):=by
      refine(CU _ (.swap _ _ _)).trans ?_
      exact AD
     have hq3:Ext (OwnS (K0++C)) w (OwnS ((K1++Cn)++Res.raw (d+1) (.loop (rec .ready none))::[Res.raw d (.deferred (some [])),Res.know tm A.e])) w2:=by
      have:=E3.trans q3
      rw[hB,<-Ai]at this
      exact this
     have Ef:Ext (OwnS (K0++C)) w (OwnS (BK d::(K1++Cn))) (w2.putObj (d+1) (.loop {rec .ready none with state:=.exhausted})):=by
      refine((hq3.trans q.2).trans ?_)
      rw[OwnS.perm hpm]
      exact Ext.drop (λ_ h=>hsub.subset h) _
     exact⟨none,_,hend,⟨A.e,Fx d::A.df⟩,_,⟨h1.1,by show Fx d::a.defers=Fx d::A.df;rw[h1.2.1],λt=>(h1.2.2 t).ext Ef⟩,(q.1.perm hpm).sub hsub,Ef,hdone d K1 Cn hk hJ⟩
   . have hl:w2.heap[d+1]?=some (.loop (rec .done (some c))):=q2.2 (Res.raw (d+1) (.loop (rec .done (some c)))) (by rw[hB];simp)
     have hend:(Instr.endLoop (d+1)).run P w2=.ok (some c) (w2.putObj (d+1) (.loop {rec .done (some c)with state:=.exhausted})):=by
      subst hrec;exact run_endLoop (P:=P) hl (by simp)
     have q2':Holds ((K1++Cn)++Res.raw (d+1) (.loop (rec .done (some c)))::[Res.raw d (.deferred (some [])),Res.know tm A.e]) w2:=by rw[hB,<-Ai]at q2;exact q2
     have q:=Ia (o':=.loop {rec .done (some c)with state:=.exhausted}) q2' (hnl _)
     have hsub:(BK d::(K1++Cn)).Sublist (BK d::(K1++Cn++[Res.raw (d+1) (.loop {rec .done (some c)with state:=.exhausted}),Res.know tm A.e])):=(Dd _ _).cons_cons _
     have hpm:(K1++Cn++Res.raw (d+1) (.loop {rec .done (some c)with state:=.exhausted})::[Res.raw d (.deferred (some [])),Res.know tm A.e]).Perm (BK d::(K1++Cn++[Res.raw (d+1) (.loop {rec .done (some c)with state:=.exhausted}),Res.know tm A.e])):=by
      refine(CU _ (.swap _ _ _)).trans ?_
      exact AD
     have hq3:Ext (OwnS (K0++C)) w (OwnS ((K1++Cn)++Res.raw (d+1) (.loop (rec .done (some c)))::[Res.raw d (.deferred (some [])),Res.know tm A.e])) w2:=by
      have:=E3.trans q3
      rw[hB,<-Ai]at this
      exact this
     have Ef:Ext (OwnS (K0++C)) w (OwnS (BK d::(K1++Cn))) (w2.putObj (d+1) (.loop {rec .done (some c)with state:=.exhausted})):=by
      refine((hq3.trans q.2).trans ?_)
      rw[OwnS.perm hpm]
      exact Ext.drop (λ_ h=>hsub.subset h) _
     exact⟨some c,_,hend,wpIn_mono (hstop c d i K1 Cn hk hJ _ _ ⟨h1.1,by show Fx d::a.defers=Fx d::A.df;rw[h1.2.1],λt=>(h1.2.2 t).ext Ef⟩ ((q.1.perm hpm).sub hsub)) λ_ _ _=>PostA.ext Ef⟩
end
end
section
attribute [local push_cast] Br Bl BV V.cells_mk V.cells_len Nat.mul_one Int.sub_zero List.map_nil beq_self_eq_true bne_self_eq_false List.head?_cons Bool.not_true Bool.not_false Nat.zero_add
theorem patsF(c:Nat)(st:St):TrF prog 98 [.ptr c 0] st λd st'=>d=.fn (.func 139) [] [.ip [.ptr c 0]]/\st'=st:=by
 refine Qin [2] func98 results98 ntmps98 ?_
 exact WR
def HasC (c g n cap:Nat)(C:St):Prop:=∃C',C.Perm (.box c 109 [.ar g 0 n cap]::C')
theorem HasC.app{c g n cap:Nat}(C B:St)(h:HasC c g n cap C):HasC c g n cap (C++B):=by
 obtain⟨C',h⟩:=h
 exact⟨C'++B,h.append_right B⟩
def PP (n:Nat):List Nat:=(List.range (n - 1)).reverse
theorem JI(n:Nat):(PP n).length=n - 1:=by unfold PP;rw[Lq,Nk]
theorem PM{n i:Nat}(h:i<n - 1):(PP n)[i]?=some (n - 2 - i):=by
 unfold PP
 rw[od (by rw[Nk];exact h),Nk,VR q_o]
 exact congrArg some q_o
theorem UI(c g n cap:Nat)(hn:n<=5)(hn1:1<=n)(hc:n<=cap):YD prog 139 [.ip [.ptr c 0]] (λk=>[D.ptr g (k*9)]) (PP n) [] (λR=>R=[]) (λ_ R=>R=[]) (HasC c g n cap):=by
 intro l C J Jx hY hPr hJ
 obtain⟨J',hJ'⟩:∃J':Nat->St->Prop,J'=λi C0=>∃C',J i C'/\C0.Perm C':=⟨_,rfl⟩
 have HY:Hid (Jn prog l (λk=>[D.ptr g (k*9)]) (PP n) J' Jx):=by
  subst hJ'
  rintro i x C0 K hx ⟨C',h1,h2⟩
  refine RoundC.perm (h2.append_right K) (hY i x C' K hx h1) ?_
  rintro d s ⟨C1,rfl,⟨e,h⟩|⟨e,h⟩⟩
  . exact⟨_,.refl _,C1,rfl,.inl ⟨e,C1,h,.refl _⟩⟩
  . exact⟨_,.refl _,C1,rfl,.inr ⟨e,h⟩⟩
 have HP:Hid (∀i C0,J' i C0->∃C',C0.Perm (.box c 109 [.ar g 0 n cap]::C')/\J' i (.box c 109 [.ar g 0 n cap]::C')):=by
  subst hJ'
  rintro i C0 ⟨C1,h1,h2⟩
  obtain⟨C',h3⟩:=hPr i C1 h1
  exact⟨C',h2.trans h3,C1,h1,h3.symm⟩
 have HE:Hid (∀C0,J' (n - 1) C0->∃C1,J (PP n).length C1/\C0.Perm C1):=by
  subst hJ'
  rintro C0 ⟨C1,h1,h2⟩
  exact⟨C1,by rw[JI];exact h1,h2⟩
 have H0:Hid (J' 0 C):=by
  subst hJ'
  exact⟨C,hJ,.refl _⟩
 clear hY hJ hPr hJ'
 refine Qin [] func139 results139 ntmps139 ?_
 obtain⟨C',hC',H1⟩:=HP.out 0 C H0.out
 refine Bn (st':=.box c 109 [.ar g 0 n cap]::C') hC' ?_
 replace H1:=Aa H1
 clear H0 hC'
 repeat' (first|refine QX ?_|refine QB ?_;intro b|with_reducible refine QZ ?_<;>(try constructor)<;>intro hb<;>try intro hb1|fail)
 refine Bs (ι:=Nat) (λi A st'=>∃(C':St) (z:Int),i<=n - 1/\Hid (J' i C')/\A.df=[]/\A.e 0=.fn (.yield l) [] []/\A.e 1=.ip [.ptr c 0]/\A.e 3=.i z/\z+2+i=n/\st'=C') (λi=>n - 1 - i) 0 ⟨_,(n:Int) - 2,Ao _,H1,Qf,Qf,Qf,Qf,by omega,rfl⟩ ?_
 clear H1
 rintro i A st' ⟨C2,z,hi,HJ,hdf,e0,e1,e3,hz,rfl⟩
 by_cases hlt:i<n - 1
 . have hx:=PM hlt
   obtain⟨k,hk⟩:∃k,k=n - 2 - i:=⟨_,rfl⟩
   rw[<-hk]at hx
   obtain rfl:z=(k:Int):=by omega
   have hkn:k<n:=by omega
   obtain⟨C3,h1,h2⟩:=HP.out i _ HJ.out
   refine Bn h1 ?_
   replace h2:=Aa h2
   clear h1 HJ HE
   have hz2:Hid ((k:Int)+2+i=n):=hz
   clear hk hz
   repeat' (first|refine QV ?_|((with_reducible apply(OP (f:=λx=>x) (K:=[]) HY.out h2.out hx));(focus exact q_v);(focus exact q_v);(focus first|exact LEL.refl _);(focus exactλ_=>rfl);all_goals(intro C' hC'))|refine QY ?_|refine QB ?_;intro b|with_reducible refine QZ ?_<;>(try constructor)<;>intro hb<;>try intro hb1|fail)
   rotate_left
   . exact Bf q_x q_y q_u (LE.refl _) ⟨[],C',rfl,.inr ⟨_,rfl,hC'⟩⟩
   refine⟨i+1,C',q_t,⟨C',(k:Int) - 1,hlt,Aa hC',?_,?_,?_,?_,(by have:=hz2.out;omega),rfl⟩,by omega⟩
   all_goals exact Qf
 . have hil:i=n - 1:=by omega
   subst hil
   obtain⟨C1,h1,h2⟩:=HE.out _ HJ.out
   obtain rfl:z = -1:=by omega
   refine Bn h2 ?_
   clear h2 HJ HE HP HY hz
   repeat' (first|refine QX ?_|refine QB ?_;intro b|with_reducible refine QZ ?_<;>(try constructor)<;>intro hb<;>try intro hb1|fail)
   exact Bf q_x q_y q_u (LE.refl _) ⟨[],C1,rfl,.inl ⟨rfl,h1⟩⟩
end
section
attribute [local push_cast] Br Bl BV V.cells_mk V.cells_len Nat.mul_one Int.sub_zero List.map_nil beq_self_eq_true bne_self_eq_false List.head?_cons Bool.not_true Bool.not_false Nat.zero_add
attribute [-instance] Ck Cu BO Ds
theorem NC.layN{S Sj:NC}{w:Tok}{Hj:List Tok}{k:Nat}{x:Nd}(hK:Nt.Kept S Sj)(hx:S.ns[k]?=some x)(hp:Sj.H.Perm (w::Hj))(s:St):∃(ROWj UC:List D) (RJ:St),(Sj.st++s).Perm (.box S.c 109 [.ar S.g 0 S.ns.length S.cap]::.box S.g 115 ROWj::.box w.b 119 ([w.fromD,.i w.lv,.i w.id,.sl .shared (w.env.map V.cells)]++UC)::RJ)/\List.take 3 (List.drop (k*9) ROWj)=x.p.cells/\k*9+9<=ROWj.length:=by
 obtain⟨y,y1,y2,y3⟩:=hK.ns k x hx
 have e1:Sj.cbox=.box S.c 109 [.ar S.g 0 S.ns.length S.cap]:=by unfold NC.cbox;rw[hK.c,hK.g,hK.cap,hK.nl]
 have e2:Sj.gbox=.box S.g 115 (CJ Sj.ns++Sj.zs):=by unfold NC.gbox;rw[hK.g]
 have e3:w.cells=[w.fromD,.i w.lv,.i w.id,.sl .shared (w.env.map V.cells)]++(w.km.cells w.kids.length++[.i w.count]):=rfl
 have hs:CJ Sj.ns++Sj.zs=CJ (Sj.ns.take k)++(x.p.cells++((y.fm.cells y.fs.length++y.tm.cells y.ts.length)++(CJ (Sj.ns.drop (k+1))++Sj.zs))):=by
  rw[GZ y1]
  unfold Nd.cells
  rw[y2]
  simp only[Ai]
 have hl:=Iw y1
 have hpc:x.p.cells=[.i x.p.tmpl,.b x.p.neg,.sl .shared (x.p.tests.map Ts.cells)]:=rfl
 refine⟨CJ Sj.ns++Sj.zs,w.km.cells w.kids.length++[.i w.count],Sj.rest Hj w s,?_,?_,?_⟩
 . have:=NC.view hp s
   rwa[e1,e2,e3]at this
 . rw[hs,<-hl,CN,hpc];rfl
 . rw[Ad,DP]
   have:=(Af.1 y1).1
   omega
theorem UJ(S:NC)(k:Nat)(x:Nd)(f:Fc)(B:Res)(G:FuncId)(caps:List D)(J:Nat->NC->Prop)(hx:S.ns[k]?=some x)(hS:Nt.Str S [])(hf:FK f)(hent:Hid (∀args w,(callFunc G args).run prog w=.ok (.enter G args) w))(h0:J 0 S)(hJs:∀j Sj,J j Sj->Nt.Str Sj []/\Nt.Kept S Sj)(hJw:∀(j b:Nat) Sj,x.ts[j]?=some b->J j Sj->∃w∈Sj.H,w.b=b)
 (hnone:∀(j b:Nat) Sj w,x.ts[j]?=some b->J j Sj->w∈Sj.H->w.b=b->Mat.pass x.p f w.env=none->J (j+1) Sj)
 (hsome:∀(j b:Nat) Sj w e,x.ts[j]?=some b->J j Sj->w∈Sj.H->w.b=b->Mat.pass x.p f w.env=some e->∀st,TrF prog G (.ptr b 0::.sl .shared (e.map V.cells)::caps) (B::(Sj.st++st)) λd st'=>∃S',J (j+1) S'/\d=.tup []/\(B::(S'.st++st)).Perm st')
 (st:St):TrF prog 100 [.ptr S.g (k*9),.agg f.cells,.fn (.func G) [] caps] (B::(S.st++st)) λd st'=>∃S',J x.ts.length S'/\d=.tup []/\(B::(S'.st++st)).Perm st':=by
 have hxm:=Ah hx
 have hpk:=(hS.pk x hxm).1
 have htl:=Nt.ts_len hS hx
 have hall:Hid (TrF prog 104 [.ptr S.g (k*9+6)] (B::(S.st++st)) λd st'=>d=.fn (.func 141) [] [.ip [.sl .shared (Gm x.ts)]]/\(B::(S.st++st)).Perm st'):=by
  have h6:=(((NC.at_T hx).append_right st).cons B)
  simp only[AI,Ai]at h6
  have h7:=h6.trans (EV _ _ _ _)
  have h8:=Ov S.g 115 (JW S.ns k x) (GQ S.ns k S.zs) x.tm x.ts (hS.okx x hxm).2 htl (B::(x.fm.resF x.fs++(S.off k++st)))
  rw[KI hx]at h8
  exact(TrF.perm h7 h8).mono λd st' ⟨e1,e2⟩=>⟨e1,by rw[e2];exact h7⟩
 have hIt:=Aa (Ou x.ts htl)
 have hJ0:Hid (J 0 S):=h0
 have HS:Hid _:=hsome
 have HN:Hid _:=hnone
 have HW:Hid _:=hJw
 have HJ:Hid _:=hJs
 have hPs:Hid (∀(e:List V),EK e->∀st,TrF prog 17 [.agg x.p.cells,.agg f.cells,.sl .shared (e.map V.cells)] st λd st'=>d=Gl (Mat.pass x.p f e)/\st'=st):=λe he st=>Po x.p f e hpk.v hpk.l hf he.v he.l .shared st
 clear hsome hnone hJw hJs h0 hS hxm hpk
 rw[show f.cells=[.i f.id,.i f.time,.i f.tmpl,.i f.ver,.sl .shared (f.s.map V.cells)]from rfl]at *
 generalize f.s.map V.cells=VS at *
 generalize hST:S.st++st=ST at *
 refine Qin [] func100 results100 ntmps100 ?_
 repeat' (first|refine QV ?_|((with_reducible apply(BG (f:=104) (henter:=call104) (hp:=Ar _) (h:=hall.out)));(focus exact q_v);(focus exact q_l);(rintro d0 st0 ⟨rfl,hp3⟩))|refine QY ?_|refine QB ?_;intro b|with_reducible refine QZ ?_<;>(try constructor)<;>intro hb<;>try intro hb1|fail)
 refine Bn (st':=[]++(B::(S.st++st))) (by rw[AM,hST];exact hp3.symm) ?_
 clear hp3 hall
 refine Iu hIt.out call141 q_v (λ_=>rfl) rfl (λj C=>∃Sj,J j Sj/\C=B::(Sj.st++st)) (λ_ _ _=>False) ⟨S,hJ0.out,rfl⟩ ?_ ?_ (λ_ _ _ _ _ _ h=>h.elim)
 . rintro l j b C K hb ⟨Sj,hJ,rfl⟩
   obtain⟨w,w1,w2⟩:=HW.out j b Sj hb hJ
   obtain⟨hSj,hKj⟩:=HJ.out j Sj hJ
   obtain⟨Hj,hpj⟩:=Nt.tok_split w1
   have hPw:=hPs.out w.env (hSj.ek w w1)
   have hNw:=HN.out j b Sj w hb hJ w1 w2
   have hSw:=HS.out j b Sj w
   clear hIt hJ0 HW HJ HN HS hPs
   refine(?_:Tr _ _ _ _ (AA.put ⟨_,[]⟩ (some 13) (.ptr b 0)) (B::((Sj.st++st)++K)) _)
   repeat' (first|refine QX ?_|refine QB ?_;intro b|with_reducible refine QZ ?_<;>(try constructor)<;>intro hb<;>try intro hb1|fail)
   refine⟨B::(Sj.st++st),Aj _,λK'=>?_⟩
   clear K
   obtain⟨ROWj,UC,RJ,v1,v2,v3⟩:=NC.layN hKj hx hpj (st++K')
   rw[w2]at v1
   have v4:(B::(Sj.st++(st++K'))).Perm (.box S.c 109 [.ar S.g 0 S.ns.length S.cap]::.box S.g 115 ROWj::.box b 119 ([w.fromD,.i w.lv,.i w.id,.sl .shared (w.env.map V.cells)]++UC)::B::RJ):=(v1.cons B).trans (EV B _ [_,_] _)
   refine Hl ?_
   refine Bn (st':=.box S.c 109 [.ar S.g 0 S.ns.length S.cap]::.box S.g 115 ROWj::.box b 119 ([w.fromD,.i w.lv,.i w.id,.sl .shared (w.env.map V.cells)]++UC)::B::RJ) (by
    show List.Perm (_::((Sj.st++st)++K')) _
    rw[Ai]
    exact v4) ?_
   have v7:3<=(List.drop (k*9) ROWj).length:=by rw[AO];omega
   have hpc:x.p.cells=[.i x.p.tmpl,.b x.p.neg,.sl .shared (x.p.tests.map Ts.cells)]:=rfl
   rw[hpc]at *
   cases hq:Mat.pass x.p f w.env with
   | none =>
    have hJn:=Aa (hNw hq)
    rw[hq]at hPw
    dsimp only[Gl]at hPw
    replace v4:=Aa v4
    clear hq hJ hKj hpj w1 hb v1 hNw hSw hpc w2 hSj hent
    generalize w.env.map V.cells=TE at *
    generalize w.fromD=fd at *
    generalize x.p.tests.map Ts.cells=TS at *
    replace hPw:=Aa hPw
    repeat' (first|refine QV ?_|((with_reducible apply(Da (id:=3) [(S.g,ROWj),(b,[fd,.i w.lv,.i w.id,.sl .shared TE]++UC)]));(iterate 3 (focus kernel_rfl));(focus exact q_k);intro hne;(try simp only[nes,ne1,and_assoc]at hne);repeat(have hq:=hne.1;replace hne:=hne.2))|((with_reducible refine And.intro ?_ ?_);(focus exact q_k))|(with_reducible refine Du ?_)|refine QY ?_|refine QB ?_;intro b|with_reducible refine QZ ?_<;>(try constructor)<;>intro hb<;>try intro hb1|refine Qc call17 ((hPw.out _)) ?_|fail)
    exact⟨(B::(Sj.st++st))++K',by rw[show(B::(Sj.st++st))++K'=B::(Sj.st++(st++K'))from by rw[AI,Ai]];exact v4.out.symm,_,Aj _,Sj,hJn.out,rfl⟩
   | some e =>
    have hdo:=Aa (hSw e hb hJ w1 w2 hq (st++K'))
    rw[hq]at hPw
    dsimp only[Gl]at hPw
    replace v4:=Aa v4
    clear hq hJ hKj hpj w1 hb v1 hNw hSw hpc w2 hSj
    generalize w.env.map V.cells=TE at *
    generalize w.fromD=fd at *
    generalize x.p.tests.map Ts.cells=TS at *
    replace hPw:=Aa hPw
    repeat' (first|refine QV ?_|((with_reducible apply(Da (id:=3) [(S.g,ROWj),(b,[fd,.i w.lv,.i w.id,.sl .shared TE]++UC)]));(iterate 3 (focus kernel_rfl));(focus exact q_k);intro hne;(try simp only[nes,ne1,and_assoc]at hne);repeat(have hq:=hne.1;replace hne:=hne.2))|((with_reducible refine And.intro ?_ ?_);(focus exact q_k))|((with_reducible apply(BG (f:=G) (henter:=hent.out) (hp:=v4.out.symm) (h:=hdo.out)));(focus exact q_v);(focus exact LEL.refl _);(rintro d0 st0 ⟨S',h1,rfl,hp4⟩))|(with_reducible refine Du ?_)|refine QY ?_|refine QB ?_;intro b|with_reducible refine QZ ?_<;>(try constructor)<;>intro hb<;>try intro hb1|refine Qc call17 ((hPw.out _)) ?_|fail)
    exact⟨(B::(S'.st++st))++K',by rw[show(B::(S'.st++st))++K'=B::(S'.st++(st++K'))from by rw[AI,Ai]];exact hp4.symm,_,Aj _,S',h1,rfl⟩
 . rintro d K1 C' rfl ⟨Sj,hJ,rfl⟩
   have hfin:Hid (∃S',J x.ts.length S'/\D.tup []=D.tup []/\(B::(S'.st++st)).Perm (B::(Sj.st++st))):=⟨Sj,hJ,rfl,.refl _⟩
   repeat' (first|refine QX ?_|refine QB ?_;intro b|with_reducible refine QZ ?_<;>(try constructor)<;>intro hb<;>try intro hb1|fail)
   exact Em q_x q_y (.refl _) (Aj _) (LE.refl _) hfin.out
end
section
attribute [local push_cast] Br Bl BV V.cells_mk V.cells_len Nat.mul_one Int.sub_zero List.map_nil beq_self_eq_true bne_self_eq_false List.head?_cons Bool.not_true Bool.not_false Nat.zero_add
attribute [-instance] Ck Cu BO Ds
theorem NC.layC{S:NC}{w:Tok}{Hj:List Tok}{k:Nat}{x:Nd}(hx:S.ns[k]?=some x)(hp:S.H.Perm (w::Hj))(s:St):∃(ROWj KC:List D) (RJ:St) (TL:List D),(∀c,(({S with H:=Nt.withCount w c::Hj}:NC).st++s).Perm (.box S.c 109 [.ar S.g 0 S.ns.length S.cap]::.box S.g 115 ROWj::.box w.b 119 ([w.fromD,.i w.lv,.i w.id,.sl .shared (w.env.map V.cells)]++(KC++[.i c]))::RJ))/\List.drop (k*9+1) ROWj=.b x.p.neg::TL/\k*9+9<=ROWj.length/\KC.length=3:=by
 have hs:CJ S.ns++S.zs=CJ (S.ns.take k)++(x.p.cells++((x.fm.cells x.fs.length++x.tm.cells x.ts.length)++(CJ (S.ns.drop (k+1))++S.zs))):=by
  rw[GZ hx]
  unfold Nd.cells
  simp only[Ai]
 have hl:=Iw hx
 have hpc:x.p.cells=[.i x.p.tmpl,.b x.p.neg,.sl .shared (x.p.tests.map Ts.cells)]:=rfl
 refine⟨CJ S.ns++S.zs,w.km.cells w.kids.length,S.rest Hj w s,[.sl .shared (x.p.tests.map Ts.cells)]++((x.fm.cells x.fs.length++x.tm.cells x.ts.length)++(CJ (S.ns.drop (k+1))++S.zs)),λc=>?_,?_,?_,MemP.cells_len ..⟩
 . exact NC.view (S:={S with H:=Nt.withCount w c::Hj}) (t:=Nt.withCount w c) (H0:=Hj) (.refl _) s
 . rw[hs,<-hl,<-CY,CN,hpc];rfl
 . rw[Ad,DP]
   have:=(Af.1 hx).1
   omega
theorem dy(S : NC)(w:Tok)(X:List Nat)(k nb:Nat)(x:Nd)(f:Fc)(e:List V)(hx:S.ns[k]?=some x)(hn:x.p.neg=false)(hS:Nt.Str S [])(hL:Nt.Loc S X)(hwX:w.b∈X)(hw:w∈S.H)(hk:w.anc.length=k+1)(hkl:k+1<S.ns.length)(he:EK e)(hkid:w.kids.length<1000)(st:St) :
 TrF prog 101 (.ptr w.b 0::.sl .shared (e.map V.cells)::[.ptr nb 0,.ip [.ptr S.c 0],.ip f.cells]) (.box nb 164 [.ptr S.g (k*9)]::(S.st++st)) λd st'=>∃S',Nt.Str S' []/\Nt.Loc S' X/\Nt.ExtR S S' w f.id e/\d=.tup []/\(Res.box nb 164 [.ptr S.g (k*9)]::(S'.st++st)).Perm st':=by
 have hext:=Tu k S w X f.id e hS hL hwX hw hk hkl he hkid (.box nb 164 [.ptr S.g (k*9)]::st)
 obtain⟨Hj,hpj⟩:=Nt.tok_split hw
 obtain⟨ROWj,KC,RJ,TL,v1,v3,v4, -⟩:=NC.layC hx hpj st
 have hv1:(S.st++st).Perm _:=((NC.view hpj st).trans (NC.view (S:={S with H:=Nt.withCount w w.count::Hj}) (t:=Nt.withCount w w.count) (H0:=Hj) (.refl _) st).symm).trans (v1 w.count)
 rw[hn]at v3
 have v5:=hv1.cons (Res.box nb 164 [.ptr S.g (k*9)])
 have v6:(Res.box nb 164 [.ptr S.g (k*9)]::(S.st++st)).Perm (S.st++(Res.box nb 164 [.ptr S.g (k*9)]::st)):=AD.symm
 have v8:=Aa (v5.symm.trans v6)
 have hext2:=Aa (hext.mono λd st' ⟨S',h1,h2,h3,h4,h5⟩=>(⟨S',h1,h2,h3,h4,AD.symm.trans h5⟩:∃S',Nt.Str S' []/\Nt.Loc S' X/\Nt.ExtR S S' w f.id e/\d=D.tup []/\(Res.box nb 164 [.ptr S.g (k*9)]::(S'.st++st)).Perm st'))
 refine TrF.perm v5 ?_
 clear hext hpj v1 hv1 v5 v6 hS hL hwX hw hk hkl he hkid hx hn
 rw[show f.cells=[.i f.id,.i f.time,.i f.tmpl,.i f.ver,.sl .shared (f.s.map V.cells)]from rfl]
 generalize f.s.map V.cells=VS at *
 generalize e.map V.cells=EC at *
 generalize w.env.map V.cells=TE at *
 generalize w.fromD=fd at *
 refine Qin [] func101 results101 ntmps101 ?_
 repeat' (first|refine QV ?_|((with_reducible apply(BG (f:=97) (henter:=call97) (hp:=v8.out) (h:=hext2.out)));(focus exact q_v);(focus exact q_l);(rintro d0 st0 ⟨S',h1,h2,h3,rfl,hp4⟩))|refine QY ?_|refine QB ?_;intro b|with_reducible refine QZ ?_<;>(try constructor)<;>intro hb<;>try intro hb1|fail)
 all_goals exact Bf q_x q_y (Aj _) (LE.refl _) ⟨S',h1,h2,h3,rfl,hp4⟩
theorem dz(S : NC)(w:Tok)(Hj:List Tok)(k nb:Nat)(x:Nd)(f:Fc)(e:List V)(hx:S.ns[k]?=some x)(hn:x.p.neg=true)(hS:Nt.Str S [])(hpj:S.H.Perm (w::Hj))(hk:w.anc.length=k+1)(hc:0<=w.count/\w.count+1<=1000)(st:St) :
 TrF prog 101 (.ptr w.b 0::.sl .shared (e.map V.cells)::[.ptr nb 0,.ip [.ptr S.c 0],.ip f.cells]) (.box nb 164 [.ptr S.g (k*9)]::(S.st++st)) λd st'=>∃S',Nt.Str S' []/\Nt.PruR (Nt.setCount S Hj w (w.count+1)) S' (Nt.withCount w (w.count+1))/\d=.tup []/\(Res.box nb 164 [.ptr S.g (k*9)]::(S'.st++st)).Perm st':=by
 have hpr:=iV k (Nt.setCount S Hj w (w.count+1)) (Nt.withCount w (w.count+1)) (hS.setCount hpj ⟨by omega,hc.2⟩) (Ag ..) hk (.box nb 164 [.ptr S.g (k*9)]::st)
 obtain⟨ROWj,KC,RJ,TL,v1,v3,v4,v5⟩:=NC.layC hx hpj st
 have hv1:(S.st++st).Perm _:=((NC.view hpj st).trans (NC.view (S:={S with H:=Nt.withCount w w.count::Hj}) (t:=Nt.withCount w w.count) (H0:=Hj) (.refl _) st).symm).trans (v1 w.count)
 rw[hn]at v3
 have v6:=hv1.cons (Res.box nb 164 [.ptr S.g (k*9)])
 have v7:(Res.box nb 164 [.ptr S.g (k*9)]::((Nt.setCount S Hj w (w.count+1)).st++st)).Perm ((Nt.setCount S Hj w (w.count+1)).st++(Res.box nb 164 [.ptr S.g (k*9)]::st)):=AD.symm
 have v8:=Aa (((v1 (w.count+1)).cons (Res.box nb 164 [.ptr S.g (k*9)])).symm.trans v7)
 have hpr2:=Aa (hpr.mono λd st' ⟨S',h1,h2,h4,h5⟩=>(⟨S',h1,h2,h4,AD.symm.trans h5⟩:∃S',Nt.Str S' []/\Nt.PruR (Nt.setCount S Hj w (w.count+1)) S' (Nt.withCount w (w.count+1))/\d=D.tup []/\(Res.box nb 164 [.ptr S.g (k*9)]::(S'.st++st)).Perm st'))
 have e1:(Nt.setCount S Hj w (w.count+1)).c=S.c:=rfl
 have e2:(Nt.withCount w (w.count+1)).b=w.b:=rfl
 rw[e1,e2]at hpr2
 refine TrF.perm v6 ?_
 have hd3:∀l:List D,List.drop 3 (KC++l)=l:=λl=>by rw[<-v5];exact CN
 have ht3:∀l:List D,List.take 3 (KC++l)=KC:=λl=>by rw[<-v5];exact Ju
 have hd4:∀(y:D) (l:List D),List.drop 4 (KC++y::l)=l:=λy l=>by
  rw[show 4=3+1 from rfl,<-CY,hd3];rfl
 obtain⟨hb1,hb2⟩:=hc
 clear hpr hpj v1 hv1 v6 v7 hS hk hx hn e1 e2
 rw[show f.cells=[.i f.id,.i f.time,.i f.tmpl,.i f.ver,.sl .shared (f.s.map V.cells)]from rfl]
 generalize hSC:Nt.setCount S Hj w (w.count+1)=SC at *
 generalize hWC:Nt.withCount w (w.count+1)=WC at *
 clear hSC hWC
 generalize f.s.map V.cells=VS at *
 generalize e.map V.cells=EC at *
 generalize w.env.map V.cells=TE at *
 generalize w.fromD=fd at *
 generalize w.count=cw at *
 have v9:Hid ((Res.box nb 164 [.ptr S.g (k*9)]::.box S.c 109 [.ar S.g 0 S.ns.length S.cap]::.box S.g 115 ROWj::.box w.b 119 (fd::.i w.lv::.i w.id::.sl .shared TE::(KC++[.s (.int .i64 (cw+1))]))::RJ).Perm (SC.st++(Res.box nb 164 [.ptr S.g (k*9)]::st))):=v8
 clear v8
 refine Qin [] func101 results101 ntmps101 ?_
 repeat' (first|refine QV ?_|((with_reducible apply(BG (f:=102) (henter:=call102) (hp:=v9.out) (h:=hpr2.out)));(focus exact q_v);(focus exact q_l);(rintro d0 st0 ⟨S',h1,h2,rfl,hp4⟩))|refine QY ?_|refine QB ?_;intro b|with_reducible refine QZ ?_<;>(try constructor)<;>intro hb<;>try intro hb1|fail)
 all_goals exact Bf q_x q_y (Aj _) (LE.refl _) ⟨S',h1,h2,rfl,hp4⟩
end
section
attribute [local push_cast] Br Bl BV V.cells_mk V.cells_len Nat.mul_one Int.sub_zero List.map_nil beq_self_eq_true bne_self_eq_false List.head?_cons Bool.not_true Bool.not_false Nat.zero_add
attribute [-instance] Ck Cu BO Ds
theorem ZO(S:NC)(w:Tok)(k nb:Nat)(x:Nd)(id:Int)(e:List V)(J:Nat->NC->Prop)(hx:S.ns[k]?=some x)(hn:x.p.neg=false)(hS:Nt.Str S [])(hw:w∈S.H)(hk:w.anc.length=k+1)(h0:J 0 S)(hJs:∀j Sj,J j Sj->Nt.Str Sj []/\Nt.Kept S Sj)
 (hJk:∀(j b:Nat) Sj,w.kids[j]?=some b->J j Sj->∃u∈Sj.H,u.b=b/\u.anc.length=k+1+1)
 (hno:∀(j b:Nat) Sj u,w.kids[j]?=some b->J j Sj->u∈Sj.H->u.b=b->u.id≠id->J (j+1) Sj)
 (hyes:∀(j b:Nat) Sj u S',w.kids[j]?=some b->J j Sj->u∈Sj.H->u.b=b->u.id=id->Nt.Str S' []->Nt.RemR Sj S' u->J (j+1) S')(st:St) :
 TrF prog 103 (.ptr w.b 0::.sl .shared (e.map V.cells)::[.ptr nb 0,.ip [.ptr S.c 0],.ip [.i id]]) (.box nb 164 [.ptr S.g (k*9)]::(S.st++st)) λd st'=>∃S',J w.kids.length S'/\d=.tup []/\(Res.box nb 164 [.ptr S.g (k*9)]::(S'.st++st)).Perm st':=by
 obtain⟨Hj,hpj⟩:=Nt.tok_split hw
 have hkl:=hS.kl w hw
 obtain⟨NB,hNB⟩:∃NB,NB=Res.box nb 164 [.ptr S.g (k*9)]:=⟨_,rfl⟩
 have hall:Hid (TrF prog 104 [.ptr w.b 4] (NB::(S.st++st)) λd st'=>d=.fn (.func 141) [] [.ip [.sl .shared (Gm w.kids)]]/\(NB::(S.st++st)).Perm st'):=by
  have h1:=((NC.at_tok hpj).append_right st).cons NB
  simp only[AI,Ai]at h1
  have h7:=h1.trans (EV _ _ _ _)
  have h8:=Ov w.b 119 w.pre [.i w.count] w.km w.kids (hS.okt w hw) q_o (NB::(({S with H:=Hj}:NC).st++st))
  exact(TrF.perm h7 h8).mono λd st' ⟨e1,e2⟩=>⟨e1,by rw[e2];exact h7⟩
 obtain⟨ROWj,KC,RJ,TL,v1,v3,v4, -⟩:=NC.layC hx hpj st
 have hv1:(S.st++st).Perm _:=((NC.view hpj st).trans (NC.view (S:={S with H:=Nt.withCount w w.count::Hj}) (t:=Nt.withCount w w.count) (H0:=Hj) (.refl _) st).symm).trans (v1 w.count)
 rw[hn]at v3
 have v5:=hv1.cons NB
 have v8:Hid (List.Perm _ (NB::(S.st++st))):=v5.symm
 have hIt:=Aa (Ou w.kids q_o)
 have hJ0:Hid (J 0 S):=h0
 have HK:Hid _:=hJk
 have HN:Hid _:=hno
 have HY:Hid _:=hyes
 have HJ:Hid _:=hJs
 have HNB:Hid (NB=Res.box nb 164 [.ptr S.g (k*9)]):=hNB
 rw[hNB]at v5 v8 hall
 refine TrF.perm v5 ?_
 clear hNB
 have hR:=XR (k+1)
 clear hyes hno hJk hJs h0 v5 hv1 v1 hpj hS hw hn
 generalize e.map V.cells=EC at *
 generalize w.env.map V.cells=TE at *
 generalize w.fromD=fd at *
 generalize hST:S.st++st=ST at *
 refine Qin [] func103 results103 ntmps103 ?_
 repeat' (first|refine QV ?_|((with_reducible apply(BG (f:=104) (henter:=call104) (hp:=v8.out) (h:=hall.out)));(focus exact q_v);(focus exact q_l);(rintro d0 st0 ⟨rfl,hp3⟩))|refine QY ?_|refine QB ?_;intro b|with_reducible refine QZ ?_<;>(try constructor)<;>intro hb<;>try intro hb1|fail)
 refine Bn (st':=[]++(NB::(S.st++st))) (by rw[AM,hST,HNB.out];exact hp3.symm) ?_
 clear hp3 hall v8
 refine Iu hIt.out call141 q_v (λ_=>rfl) rfl (λj C=>∃Sj,J j Sj/\C=NB::(Sj.st++st)) (λ_ _ _=>False) ⟨S,hJ0.out,rfl⟩ ?_ ?_ (λ_ _ _ _ _ _ h=>h.elim)
 . rintro l j b C K hb ⟨Sj,hJ,rfl⟩
   obtain⟨u,u1,u2,u3⟩:=HK.out j b Sj hb hJ
   obtain⟨hSj,hKj⟩:=HJ.out j Sj hJ
   obtain⟨Hq,hpq⟩:=Nt.tok_split u1
   have hNw:=HN.out j b Sj u hb hJ u1 u2
   have hYw:=λS'=>HY.out j b Sj u S' hb hJ u1 u2
   clear hIt hJ0 HK HJ HN HY
   refine(?_:Tr _ _ _ _ (AA.put ⟨_,[]⟩ (some 36) (.ptr b 0)) (NB::((Sj.st++st)++K)) _)
   repeat' (first|refine QX ?_|refine QB ?_;intro b|with_reducible refine QZ ?_<;>(try constructor)<;>intro hb<;>try intro hb1|fail)
   refine⟨NB::(Sj.st++st),Aj _,λK'=>?_⟩
   clear K
   obtain⟨ROWu,UC,RU,q1, -, -⟩:=NC.layN hKj hx hpq (st++K')
   rw[u2]at q1
   have q4:(NB::(Sj.st++(st++K'))).Perm (.box S.c 109 [.ar S.g 0 S.ns.length S.cap]::.box S.g 115 ROWu::.box b 119 ([u.fromD,.i u.lv,.i u.id,.sl .shared (u.env.map V.cells)]++UC)::NB::RU):=(q1.cons NB).trans (EV NB _ [_,_] _)
   refine Hl ?_
   refine Bn (st':=.box S.c 109 [.ar S.g 0 S.ns.length S.cap]::.box S.g 115 ROWu::.box b 119 ([u.fromD,.i u.lv,.i u.id,.sl .shared (u.env.map V.cells)]++UC)::NB::RU) (by
    show List.Perm (_::((Sj.st++st)++K')) _
    rw[Ai]
    exact q4) ?_
   by_cases hid:u.id=id
   . have hrm := hR Sj u hSj u1 u3 (λe0 => by
      have:=congrArg List.length e0
      rw[CL,u3]at this
      simp at this) (NB::(st++K'))
     rw[hKj.c,u2]at hrm
     have hst:=Aa λ(S':NC) h1 h2=>hYw S' hid h1 h2
     replace hrm:=Aa hrm
     have q5:=Aa (q4.symm.trans (AD (a:=NB) (l₁:=Sj.st) (l₂:=st++K')).symm)
     clear hR hb hJ hSj hKj hpq u1 u2 u3 hNw hYw q1 q4
     generalize u.env.map V.cells=UE at *
     generalize u.fromD=ud at *
     rw[hid]at *
     repeat' (first|refine QV ?_|((with_reducible apply(Da (id:=6) [(b,[ud,.i u.lv,.i id,.sl .shared UE]++UC)]));(iterate 3 (focus kernel_rfl));(focus exact q_k);intro hne;(try simp only[nes,ne1,and_assoc]at hne);repeat(have hq:=hne.1;replace hne:=hne.2))|((with_reducible refine And.intro ?_ ?_);(focus exact q_k))|((with_reducible apply(BG (f:=105) (henter:=call105) (hp:=q5.out) (h:=hrm.out)));(focus exact q_v);(focus exact q_l);(rintro d0 st0 ⟨S',h1,h2,rfl,hp4⟩))|refine QY ?_|refine QB ?_;intro b|with_reducible refine QZ ?_<;>(try constructor)<;>intro hb<;>try intro hb1|fail)
     exact⟨(NB::(S'.st++st))++K',hp4.symm.trans (by rw[show(NB::(S'.st++st))++K'=NB::(S'.st++(st++K'))from by rw[AI,Ai]];exact AD),_,Aj _,S',hst.out S' h1 h2,rfl⟩
   . have hst:=Aa (hNw hid)
     replace q4:=Aa q4
     clear hR hb hJ hSj hKj hpq u1 u2 u3 hNw hYw q1
     generalize u.env.map V.cells=UE at *
     generalize u.fromD=ud at *
     generalize u.id=ui at *
     repeat' (first|refine QV ?_|((with_reducible apply(Da (id:=6) [(b,[ud,.i u.lv,.i ui,.sl .shared UE]++UC)]));(iterate 3 (focus kernel_rfl));(focus exact q_k);intro hne;(try simp only[nes,ne1,and_assoc]at hne);repeat(have hq:=hne.1;replace hne:=hne.2))|((with_reducible refine And.intro ?_ ?_);(focus exact q_k))|refine QY ?_|refine QB ?_;intro b|with_reducible refine QZ ?_<;>(try constructor)<;>intro hb<;>try intro hb1|fail)
     exact⟨(NB::(Sj.st++st))++K',by rw[show(NB::(Sj.st++st))++K'=NB::(Sj.st++(st++K'))from by rw[AI,Ai]];exact q4.out.symm,_,Aj _,Sj,hst.out,rfl⟩
 . rintro d K1 C' rfl ⟨Sj,hJ,rfl⟩
   have hfin:Hid (∃S',J w.kids.length S'/\D.tup []=D.tup []/\(Res.box nb 164 [.ptr S.g (k*9)]::(S'.st++st)).Perm (NB::(Sj.st++st))):=⟨Sj,hJ,rfl,by rw[HNB.out]⟩
   repeat' (first|refine QX ?_|refine QB ?_;intro b|with_reducible refine QZ ?_<;>(try constructor)<;>intro hb<;>try intro hb1|fail)
   exact Em q_x q_y (.refl _) (Aj _) (LE.refl _) hfin.out
end
section
attribute [local push_cast] Br Bl BV V.cells_mk V.cells_len Nat.mul_one Int.sub_zero List.map_nil beq_self_eq_true bne_self_eq_false List.head?_cons Bool.not_true Bool.not_false Nat.zero_add
attribute [-instance] Ck Cu BO Ds
theorem ZP(S : NC)(w:Tok)(Hj:List Tok)(k nb:Nat)(x:Nd)(id:Int)(e:List V)(hx:S.ns[k]?=some x)(hn:x.p.neg=true)(hpj:S.H.Perm (w::Hj))(hc:2<=w.count/\w.count<=1000)(st:St) :
 TrF prog 103 (.ptr w.b 0::.sl .shared (e.map V.cells)::[.ptr nb 0,.ip [.ptr S.c 0],.ip [.i id]]) (.box nb 164 [.ptr S.g (k*9)]::(S.st++st)) λd st'=>d=.tup []/\(Res.box nb 164 [.ptr S.g (k*9)]::((Nt.setCount S Hj w (w.count - 1)).st++st)).Perm st':=by
 obtain⟨ROWj,KC,RJ,TL,v1,v3,v4,v5⟩:=NC.layC hx hpj st
 have hv1:(S.st++st).Perm _:=((NC.view hpj st).trans (NC.view (S:={S with H:=Nt.withCount w w.count::Hj}) (t:=Nt.withCount w w.count) (H0:=Hj) (.refl _) st).symm).trans (v1 w.count)
 rw[hn]at v3
 have v6:=hv1.cons (Res.box nb 164 [.ptr S.g (k*9)])
 have v8:=Aa ((v1 (w.count - 1)).cons (Res.box nb 164 [.ptr S.g (k*9)]))
 refine TrF.perm v6 ?_
 have hd3:∀l:List D,List.drop 3 (KC++l)=l:=λl=>by rw[<-v5];exact CN
 have ht3:∀l:List D,List.take 3 (KC++l)=KC:=λl=>by rw[<-v5];exact Ju
 have hd4:∀(y:D) (l:List D),List.drop 4 (KC++y::l)=l:=λy l=>by
  rw[show 4=3+1 from rfl,<-CY,hd3];rfl
 obtain⟨hb1,hb2⟩:=hc
 clear hpj v1 hv1 v6 hx hn
 have e3:(Nt.setCount S Hj w (w.count - 1))={S with H:=Nt.withCount w (w.count - 1)::Hj}:=rfl
 rw[<-e3]at v8
 clear e3
 generalize Nt.setCount S Hj w (w.count - 1)=SC at *
 generalize e.map V.cells=EC at *
 generalize w.env.map V.cells=TE at *
 generalize w.fromD=fd at *
 generalize w.count=cw at *
 have hcz:(cw - 1 == 0)=false:=by
  rw[beq_eq_false_iff_ne];omega
 have hcn:¬cw - 1=0:=by omega
 refine Qin [] func103 results103 ntmps103 ?_
 repeat' (first|refine QX ?_|refine QB ?_;intro b|with_reducible refine QZ ?_<;>(try constructor)<;>intro hb<;>try intro hb1|fail)
 all_goals exact Bf q_x q_y (Aj _) (LE.refl _) ⟨rfl,v8.out⟩
theorem WI(S : NC)(w:Tok)(Hj:List Tok)(X:List Nat)(k nb:Nat)(x:Nd)(id:Int)(e:List V)(hx:S.ns[k]?=some x)(hn:x.p.neg=true)(hS:Nt.Str S [])(hL:Nt.Loc S X)(hwX:w.b∈X)(hpj:S.H.Perm (w::Hj))(hk:w.anc.length=k+1)(hkl:k+1<S.ns.length)(hkid:w.kids.length<1000)(hc:w.count=1)(st:St) :
 TrF prog 103 (.ptr w.b 0::.sl .shared (e.map V.cells)::[.ptr nb 0,.ip [.ptr S.c 0],.ip [.i id]]) (.box nb 164 [.ptr S.g (k*9)]::(S.st++st)) λd st'=>∃S',Nt.Str S' []/\Nt.Loc S' X/\Nt.ExtR (Nt.setCount S Hj w 0) S' (Nt.withCount w 0) 0 w.env/\d=.tup []/\(Res.box nb 164 [.ptr S.g (k*9)]::(S'.st++st)).Perm st':=by
 have hw:w∈S.H:=(Nt.memH hpj).2 (.inl rfl)
 have hb:(0:Int)<=0/\(0:Int)<=1000:=by decide
 have hext:=Tu k (Nt.setCount S Hj w 0) (Nt.withCount w 0) X 0 w.env (hS.setCount hpj hb) (hL.setCount hS hpj hwX hb) hwX (Ag ..) hk hkl (hS.ek w hw) hkid (.box nb 164 [.ptr S.g (k*9)]::st)
 obtain⟨ROWj,KC,RJ,TL,v1,v3,v4,v5⟩:=NC.layC hx hpj st
 have hv1:(S.st++st).Perm _:=((NC.view hpj st).trans (NC.view (S:={S with H:=Nt.withCount w w.count::Hj}) (t:=Nt.withCount w w.count) (H0:=Hj) (.refl _) st).symm).trans (v1 w.count)
 rw[hn]at v3
 have v6:=hv1.cons (Res.box nb 164 [.ptr S.g (k*9)])
 have e1:(Nt.setCount S Hj w 0).c=S.c:=rfl
 have e2:(Nt.withCount w 0).b=w.b:=rfl
 rw[e1,e2]at hext
 have v7:(Res.box nb 164 [.ptr S.g (k*9)]::((Nt.setCount S Hj w 0).st++st)).Perm ((Nt.setCount S Hj w 0).st++(Res.box nb 164 [.ptr S.g (k*9)]::st)):=AD.symm
 have v8:Hid ((Res.box nb 164 [.ptr S.g (k*9)]::.box S.c 109 [.ar S.g 0 S.ns.length S.cap]::.box S.g 115 ROWj::.box w.b 119 (w.fromD::.i w.lv::.i w.id::.sl .shared (w.env.map V.cells)::(KC++[.i 0]))::RJ).Perm ((Nt.setCount S Hj w 0).st++(Res.box nb 164 [.ptr S.g (k*9)]::st))):=((v1 0).cons (Res.box nb 164 [.ptr S.g (k*9)])).symm.trans v7
 have hext2:=Aa (hext.mono λd st' ⟨S',h1,h2,h3,h4,h5⟩=>(⟨S',h1,h2,h3,h4,AD.symm.trans h5⟩:∃S',Nt.Str S' []/\Nt.Loc S' X/\Nt.ExtR (Nt.setCount S Hj w 0) S' (Nt.withCount w 0) 0 w.env/\d=D.tup []/\(Res.box nb 164 [.ptr S.g (k*9)]::(S'.st++st)).Perm st'))
 have hinh2:Hid ((∃w',Holds (.box nb 164 [.ptr S.g (k*9)]::.box S.c 109 [.ar S.g 0 S.ns.length S.cap]::.box S.g 115 ROWj::.box w.b 119 (w.fromD::.i w.lv::.i w.id::.sl .shared (w.env.map V.cells)::(KC++[.i 0]))::RJ) w')->∃d0 st',∃S',Nt.Str S' []/\Nt.Loc S' X/\Nt.ExtR (Nt.setCount S Hj w 0) S' (Nt.withCount w 0) 0 w.env/\d0=D.tup []/\(Res.box nb 164 [.ptr S.g (k*9)]::(S'.st++st)).Perm st'):=λ⟨w',hw⟩=>by
  obtain⟨v,hv⟩:=Yv (d:=.sl .shared (w.env.map V.cells)) (i:=3) hw (b:=w.b) (ty:=119) (cs:=(w.fromD::.i w.lv::.i w.id::.sl .shared (w.env.map V.cells)::(KC++[.i 0]))) (Ae _ (Ae _ (Ae _ (Ag ..)))) rfl
  exact(TrF.perm v8.out hext2.out).inhab (us:=[.pointer (some ⟨S.c,0,none⟩),.pointer (some ⟨w.b,0,none⟩),.int .i64 0,v]) (RepL.cons (.ptr _ _) (RepL.cons (.ptr _ _) (RepL.cons (.s _ rfl) (RepL.cons hv .nil)))) hw
 refine TrF.perm v6 ?_
 have hd3:∀l:List D,List.drop 3 (KC++l)=l:=λl=>by rw[<-v5];exact CN
 have ht3:∀l:List D,List.take 3 (KC++l)=KC:=λl=>by rw[<-v5];exact Ju
 have hd4:∀(y:D) (l:List D),List.drop 4 (KC++y::l)=l:=λy l=>by
  rw[show 4=3+1 from rfl,<-CY,hd3];rfl
 clear hext hpj v1 hv1 v6 v7 hS hL hwX hk hkl hkid hx hn e1 e2 hw hb
 rw[hc]
 clear hc
 generalize hSC:Nt.setCount S Hj w 0=SC at *
 generalize hWC:Nt.withCount w 0=WC at *
 clear hSC hWC
 generalize e.map V.cells=EC at *
 generalize hTE:w.env.map V.cells=TE at *
 generalize w.fromD=fd at *
 refine Qin [] func103 results103 ntmps103 ?_
 repeat' (first|refine QV ?_|((with_reducible apply(La (id:=3) [(w.b,fd::.i w.lv::.i w.id::.sl .shared TE::(KC++[.i 0]))]));(iterate 3 (focus kernel_rfl));(focus exact q_k);intro hne;(try simp only[nes,ne1,and_assoc]at hne);(repeat(have hq:=hne.1;replace hne:=hne.2));intro hw2)|((with_reducible refine And.intro ?_ ?_);(focus exact q_k))|((with_reducible apply(DL call97));(focus exact v8.out);(focus exact hext2.out);(focus exact LEL.refl _);(focus exact hinh2.out hw2);(rintro d2 st4 ⟨S',h1,h2,h3,rfl,hp4⟩;refine⟨BI,?_⟩))|(with_reducible refine Du ?_)|refine QY ?_|refine QB ?_;intro b|with_reducible refine QZ ?_<;>(try constructor)<;>intro hb<;>try intro hb1|fail)
 all_goals exact Bf q_x q_y (Aj _) (LE.refl _) ⟨S',h1,h2,h3,rfl,hp4⟩
end
end Go.Proofs.YtoeidpmjifjplaaGreat
