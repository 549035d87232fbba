/- Texts put together. No statement is proved here. -/
import Derived.Test.YtoeidpmjifjplaaGreatZ11
set_option linter.all false
set_option maxRecDepth 10000
set_option maxHeartbeats 8000000
namespace Go.Proofs.YtoeidpmjifjplaaGreat
open Go.RowKit Tryz
section
namespace Nt
variable {S S1 S' Sj:NC} {E X ts:List Nat} {t u v w t' w':Tok} {H0 H1:List Tok} {p:Pt} {F:List Fc} {j k b:Nat} {x:Nd} {f:Fc} {e:List V}
theorem Loc.prune(h:Loc S X)(hS:Str S [])(hS':Str S' [])(hR:PruR S S' t)(ht:t∈S.H)(htX:t.b∈X):Loc S' X:=by
 intro u hu hub
 have hne:u.anc≠t.anc:=λe=>hub (by rw[b_of e];exact htX)
 have hns:¬t.anc <:+ u.anc:=λhs=>hne (hR.gone u hu hs)
 have hu0:=(hR.keep u hns).2 hu
 obtain⟨z,z1,z2,z3,z4, -⟩:=hR.self
 refine(h u hu0 hub).move hS hS' hu0 hu hR.toKept rfl rfl rfl ⟨λw hw e=>?_,λw hw e=>?_⟩
 . by_cases ew:w.anc=t.anc
   . have:=hS.anc_b hw ht ew
     subst this
     exact⟨z,z1,z2,z3,z4⟩
   . exact⟨w,(hR.keep w λhs=>hns (by rw[<-e];exact Me hs ew)).1 hw,rfl,rfl,rfl⟩
 . by_cases ew:w.anc=t.anc
   . have:=hS'.anc_b hw z1 (ew.trans z2.symm)
     subst this
     exact⟨t,ht,z2,z3,z4⟩
   . exact⟨w,(hR.keep w λhs=>hns (by rw[<-e];exact Me hs ew)).2 hw,rfl,rfl,rfl⟩
theorem Part.congr{L L':List (Int×List V)}{c:Int}(h:Part S t L c)(hL:∀y,y∈L↔y∈L'):Part S t L' c:=⟨h.ct,λu hu e=>(hL _).1 (h.sub u hu e),λy hy=>h.all y ((hL y).2 hy),h.one⟩
theorem Part.ok(hQ:Kept S1 S')(hx:S1.ns[k]?=some x)(hkn:k+1≠S1.ns.length)(hk:w'.anc.length=k+1)(h:Part S' w' (exps x.p x.fs w'.env) (cnt x.p x.fs w'.env)):LocOk S' w':=by
 obtain⟨y,y1,y2,y3⟩:=hQ.ns k x hx
 rw[<-y2,<-y3]at h
 exact h.loc (by rw[hQ.nl,hk];exact hkn) (by rw[hk];exact y1)
theorem StepJ.same(h:StepJ S1 ts k x.p F j Sj)(hnd:ts.Nodup)(hb:ts[j]?=some b)(hw:w∈Sj.H)(hwb:w.b=b)(hx:S1.ns[k]?=some x)(hkn:k+1≠S1.ns.length)(hs:(Mat.passL x.p x.fs w.env).Perm (Mat.passL x.p F w.env)):StepJ S1 ts k x.p F (j+1) Sj:=by
 obtain⟨w0,q1,q2,q3,q4⟩:=h.tok hb
 have:=h.str.same q1 hw (q2.trans hwb.symm)
 subst this
 have hc:cnt x.p F w0.env=cnt x.p x.fs w0.env:=by
  unfold cnt
  rw[hs.length_eq]
 have he:∀y,y∈exps x.p F w0.env↔y∈exps x.p x.fs w0.env:=λy=>by
  unfold exps
  split
  . have:Mat.passL x.p x.fs w0.env=[]↔Mat.passL x.p F w0.env=[]:=⟨λe=>by rw[e]at hs;exact List.nil_perm.1 hs,λe=>by rw[e]at hs;exact kS.1 hs⟩
    by_cases e:Mat.passL x.p x.fs w0.env=[]
    . rw[if_pos e,if_pos (this.1 e)]
    . rw[if_neg e,if_neg (λe1=>e (this.2 e1))]
  . exact hs.mem_iff.symm
 have hP:=q4.congr he
 rw[hc]at hP
 refine h.next hnd hb hw hwb h.str (Kept.refl _) h.loc (λ_ _=>Na) (λw' h1 h2=>?_) ⟨w0,q1,rfl⟩
 have:=h.str.anc_b h1 q1 h2
 subst this
 exact Part.ok h.kept hx hkn q3 hP
theorem StepJ.pos(h:StepJ S1 ts k x.p F j Sj)(hnd:ts.Nodup)(hb:ts[j]?=some b)(hw:w∈Sj.H)(hwb:w.b=b)(hx:S1.ns[k]?=some x)(hkn:k+1≠S1.ns.length)(hn:x.p.neg=false)(hfs:x.fs=F++[f])(hid:f.id∉F.map Fc.id)(hp:Mat.pass x.p f w.env=some e)(hS':Str S' [])(hL:Loc S' (ts.drop j))(hE:ExtR Sj S' w f.id e):StepJ S1 ts k x.p F (j+1) S':=by
 obtain⟨w0,q1,q2,q3,q4⟩:=h.tok hb
 have:=h.str.same q1 hw (q2.trans hwb.symm)
 subst this
 have e1:exps x.p F w0.env=Mat.passL x.p F w0.env:=by unfold exps;rw[if_neg (by rw[hn];decide)]
 have e2:exps x.p x.fs w0.env=Mat.passL x.p F w0.env++[(f.id,e)]:=by
  unfold exps
  rw[if_neg (by rw[hn];decide),hfs]
  unfold Mat.passL
  rw[Jz,DI (b:=(f.id,e)) (by rw[hp];rfl),Xa]
 have e3:∀G,cnt x.p G w0.env=0:=λG=>by unfold cnt;rw[if_neg (by rw[hn];decide)]
 rw[e1,e3]at q4
 obtain⟨z,z1,z2,z3,z4,z5⟩:=q4.ext hS' hw (id:=f.id) (env:=e) (λhm=>by
  obtain⟨y,hy,hye⟩:=Ax.1 hm
  exact hid (by rw[<-hye];exact Nk hy)) hE
 refine h.next hnd hb hw hwb hS' hE.toKept hL hE.grew.off (λw' h1 h2=>?_) ⟨z,z1,z2⟩
 have:=hS'.anc_b h1 z1 (h2.trans z2.symm)
 subst this
 rw[<-e2,<-e3 x.fs,<-z4]at z5
 exact Part.ok (h.kept.trans hE.toKept) hx hkn (by rw[z2,q3]) z5
theorem StepJ.neg(h:StepJ S1 ts k x.p F j Sj)(hnd:ts.Nodup)(hb:ts[j]?=some b)(hw:w∈Sj.H)(hwb:w.b=b)(hx:S1.ns[k]?=some x)(hkn:k+1≠S1.ns.length)(hn:x.p.neg=true)(hfs:x.fs=F++[f])(hp:Mat.pass x.p f w.env=some e)(hpm:Sj.H.Perm (w::H0))(hc:0<=w.count+1/\w.count+1<=1000)(hS':Str S' [])(hR:PruR (Nt.setCount Sj H0 w (w.count+1)) S' (withCount w (w.count+1))):StepJ S1 ts k x.p F (j+1) S':=by
 obtain⟨w0,q1,q2,q3,q4⟩:=h.tok hb
 have:=h.str.same q1 hw (q2.trans hwb.symm)
 subst this
 have hbm:b∈ts.drop j:=by rw[V.drop_cons hb];exact Ag ..
 have hwX:w0.b∈ts.drop j:=by rw[q2];exact hbm
 have hS2:=h.str.setCount hpm hc
 have hL:=(h.loc.setCount h.str hpm hwX hc).prune hS2 hS' hR (Ag ..) hwX
 have hG:=Grew.setCount (c:=w0.count+1) hpm
 obtain⟨z,z1,z2,z3,z4,z5,z6⟩:=hR.self
 have z2:z.anc=w0.anc:=z2
 have z4:z.env=w0.env:=z4
 have z5:z.count=w0.count+1:=z5
 have e1:Mat.passL x.p x.fs w0.env=Mat.passL x.p F w0.env++[(f.id,e)]:=by
  rw[hfs]
  unfold Mat.passL
  rw[Jz,DI (b:=(f.id,e)) (by rw[hp];rfl),Xa]
 have e2:exps x.p x.fs z.env=[]:=by
  unfold exps
  rw[if_pos hn,z4,e1,if_neg (by simp)]
 have e3:cnt x.p x.fs z.env=z.count:=by
  have:=q4.ct
  unfold cnt at this |-
  rw[if_pos hn]at this |-
  rw[z4,e1,z5,this,Ae,BM]
  omega
 refine h.next hnd hb hw hwb hS' (hG.toKept.trans hR.toKept) hL (hG.off.trans hR.off) (λw' h1 h2=>?_) ⟨z,z1,z2⟩
 have:=hS'.anc_b h1 z1 (h2.trans z2.symm)
 subst this
 have hP:=Part.nil hS' z1 z6
 rw[<-e2,<-e3]at hP
 exact Part.ok (h.kept.trans (hG.toKept.trans hR.toKept)) hx hkn (by rw[z2,q3]) hP
end Nt
end
section
namespace Nt
variable {S S0 S1 S' Sj Si:NC} {E X ts K0:List Nat} {t u v w t' w':Tok} {H0 H1:List Tok} {p:Pt} {F:List Fc} {i j k b:Nat} {x:Nd} {f:Fc} {e:List V} {id:Int}
theorem Loc.remove(h:Loc S X)(hS:Str S [])(hS':Str S' [])(hR:RemR S S' u)(hu:u∈S.H)(hne:u.anc.tail≠[])(ht:t.anc=u.anc.tail)(htX:t.b∈X):Loc S' X:=by
 intro v hv hvb
 have hvn:v.anc≠t.anc:=λe=>hvb (by rw[b_of e];exact htX)
 have hns:=hR.gone v hv
 have hv0:=(hR.keep v hns (by rw[<-ht];exact hvn)).2 hv
 obtain⟨z,z1,z2,z3⟩:=hR.par
 obtain⟨q,q1,q2⟩:=hS.up u hu hne
 refine(h v hv0 hvb).move hS hS' hv0 hv hR.toKept rfl rfl rfl ⟨λw hw e=>?_,λw hw e=>?_⟩
 . by_cases ew:w.anc=u.anc.tail
   . obtain⟨z4,z5, -⟩:=z3 w hw ew
     exact⟨z,z1,z2.trans ew.symm,z4,z5⟩
   . refine⟨w,(hR.keep w (λhs=>?_) ew).1 hw,rfl,rfl,rfl⟩
     by_cases e2:w.anc=u.anc
     . exact hvn (by rw[<-e,e2,ht])
     . exact hns (by rw[<-e];exact Me hs e2)
 . by_cases ew:w.anc=u.anc.tail
   . have:=hS'.anc_b hw z1 (ew.trans z2.symm)
     subst this
     obtain⟨z4,z5, -⟩:=z3 q q1 q2.symm
     exact⟨q,q1,ew.trans q2,z4,z5⟩
   . exact⟨w,(hR.keep w (hR.gone w hw) ew).2 hw,rfl,rfl,rfl⟩
structure KidJ (S0:NC)(w:Tok)(id:Int)(X:List Nat)(i:Nat)(Si:NC):Prop where
 str:Str Si []
 kept:Kept S0 Si
 loc:Loc Si X
 off:Off S0 Si w.anc
 self:∃w'∈Si.H,w'.anc=w.anc/\w'.id=w.id/\w'.env=w.env/\w'.count=w.count
 sub:∀u∈Si.H,u.anc.tail=w.anc->∃u0∈S0.H,u=u0/\(u.b∈w.kids.take i->u.id≠id)
 sup:∀u∈S0.H,u.anc.tail=w.anc->(u.id≠id\/u.b∉w.kids.take i)->u∈Si.H
theorem KidJ.zero(hS:Str S0 [])(hL:Loc S0 X)(hw:w∈S0.H):KidJ S0 w id X 0 S0 :=
 ⟨hS,Kept.refl _,hL,λ_ _=>Na,⟨w,hw,rfl,rfl,rfl,rfl⟩,λu hu _=>⟨u,hu,rfl,λh=>by rw[DH]at h;exact absurd h AU⟩,λu hu _ _=>hu⟩
theorem KidJ.kid(h:KidJ S0 w id X i Si)(hS:Str S0 [])(hw:w∈S0.H)(hb:w.kids[i]?=some b):∃u∈Si.H,u.b=b/\u.anc.tail=w.anc:=by
 obtain⟨u,u1,u2,u3⟩:=(hS.km w hw b).1 (Ah hb)
 refine⟨u,h.sup u u1 u3 (.inr λhm=>?_),u2,u3⟩
 rw[u2]at hm
 have h1:=hS.kn w hw
 rw[<-Bz i w.kids,V.drop_cons hb,Fy]at h1
 exact h1.2.2 b hm b (Ag ..) rfl
theorem KidJ.no(h:KidJ S0 w id X i Si)(hb:w.kids[i]?=some b)(hu:u∈Si.H)(hub:u.b=b)(hid:u.id≠id):KidJ S0 w id X (i+1) Si:=by
 refine⟨h.str,h.kept,h.loc,h.off,h.self,λv hv e=>?_,λv hv e hor=>?_⟩
 . obtain⟨v0,v1,v2,v3⟩:=h.sub v hv e
   refine⟨v0,v1,v2,λhm=>?_⟩
   rw[Br,hb,BQ,Bh,Ay]at hm
   rcases hm with hm|hm
   . exact v3 hm
   . rw[h.str.same hv hu (hm.trans hub.symm)];exact hid
 . refine h.sup v hv e (hor.imp_right λhm hm2=>hm ?_)
   rw[Br]
   exact Bm _ hm2
theorem KidJ.yes(h:KidJ S0 w id X i Si)(hS:Str S0 [])(hw:w∈S0.H)(hwX:w.b∈X)(hb:w.kids[i]?=some b)(hu:u∈Si.H)(hub:u.b=b)(hid:u.id=id)(hS':Str S' [])(hR:RemR Si S' u):KidJ S0 w id X (i+1) S':=by
 obtain⟨u0,u1,u2,u3⟩:=h.kid hS hw hb
 have:=h.str.same u1 hu (u2.trans hub.symm)
 subst this
 have hwne:=hS.ne w hw
 have hne:u0.anc.tail≠[]:=by rw[u3];exact hwne
 obtain⟨z,z1,z2,z3⟩:=hR.par
 obtain⟨s,s1,s2,s3,s4,s5⟩:=h.self
 obtain⟨z4,z5,z6⟩:=z3 s s1 (s2.trans u3.symm)
 have hu0:=tok_b (h.str.ne u0 u1)
 refine⟨hS',h.kept.trans hR.toKept,h.loc.remove h.str hS' hR u1 hne u3.symm hwX,h.off.trans (hR.off u3.symm),⟨z,z1,z2.trans u3,z4.trans s3,z5.trans s4,z6.trans s5⟩,λv hv e=>?_,λv hv e hor=>?_⟩
 . have hvl : v.anc ≠ u0.anc.tail := λe2 => by
    rw[u3]at e2
    rw[e2]at e
    have:=congrArg List.length e
    rw[CD]at this
    have:=Cj.2 hwne
    omega
   have hg:=hR.gone v hv
   obtain⟨v0,v1,v2,v3⟩:=h.sub v ((hR.keep v hg hvl).2 hv) e
   refine⟨v0,v1,v2,λhm=>?_⟩
   rw[Br,hb,BQ,Bh,Ay]at hm
   rcases hm with hm|hm
   . exact v3 hm
   . refine absurd ?_ hg
     have h1:=tok_b (hS'.ne v hv)
     rw[hu0,h1,hm,hub,u3,e]
     exact Es _
 . have hvi:v∈Si.H:=h.sup v hv e (hor.imp_right λhm hm2=>hm (by rw[Br];exact Bm _ hm2))
   have hvl:v.anc≠u0.anc.tail:=λe2=>by
    rw[u3]at e2
    rw[e2]at e
    have:=congrArg List.length e
    rw[CD]at this
    have:=Cj.2 hwne
    omega
   refine(hR.keep v (λhs=>?_) hvl).1 hvi
   have h1:=tok_b (h.str.ne v hvi)
   have hlen:u0.anc=v.anc:=KV hs (by rw[h1,hu0,e,u3];exact Ap _)
   have:=h.str.anc_b u1 hvi hlen
   subst this
   rcases hor with ho|ho
   . exact ho hid
   . exact ho (by rw[Br,hb,BQ,hub];exact Bc _ (Ay.2 rfl))
end Nt
end
section
namespace Nt
variable {S S0 S1 S' Sj Si:NC} {E X ts K0:List Nat} {t u v w t' w':Tok} {H0 H1:List Tok} {p:Pt} {F:List Fc} {i j k b:Nat} {x:Nd} {f:Fc} {e:List V} {id:Int}
theorem passL_perm{p:Pt}{F G:List Fc}(h:F.Perm G)(env:List V):(Mat.passL p F env).Perm (Mat.passL p G env):=h.filterMap _
theorem passL_some{p:Pt}{G:List Fc}{env:List V}(h:Mat.pass p f env=some e):Mat.passL p (f::G) env=(f.id,e)::Mat.passL p G env:=by
 unfold Mat.passL
 exact DI (by rw[h];rfl)
theorem passL_none{p:Pt}{G:List Fc}{env:List V}(h:Mat.pass p f env=none):Mat.passL p (f::G) env=Mat.passL p G env:=by
 unfold Mat.passL
 exact Ez (by rw[h];rfl)
theorem StepJ.kids(h:StepJ S1 ts k x.p F j Sj)(hnd:ts.Nodup)(hb:ts[j]?=some b)(hw:w∈Sj.H)(hwb:w.b=b)(hx:S1.ns[k]?=some x)(hkn:k+1≠S1.ns.length)(hn:x.p.neg=false)(hF:F.Perm (f::x.fs))(hid:f.id∉x.fs.map Fc.id)(hp:Mat.pass x.p f w.env=some e)(hK:KidJ Sj w f.id (ts.drop j) w.kids.length S'):StepJ S1 ts k x.p F (j+1) S':=by
 obtain⟨w0,q1,q2,q3,q4⟩:=h.tok hb
 have:=h.str.same q1 hw (q2.trans hwb.symm)
 subst this
 have e1:∀G,exps x.p G w0.env=Mat.passL x.p G w0.env:=λG=>by unfold exps;rw[if_neg (by rw[hn];decide)]
 have e3:∀G,cnt x.p G w0.env=0:=λG=>by unfold cnt;rw[if_neg (by rw[hn];decide)]
 rw[e1,e3]at q4
 have hm:∀y,y∈Mat.passL x.p F w0.env↔y=(f.id,e)\/y∈Mat.passL x.p x.fs w0.env:=λy=>by
  rw[(passL_perm hF w0.env).mem_iff,passL_some hp,Az]
 obtain⟨z,z1,z2,z3,z4,z5⟩:=hK.self
 have hkb:∀u∈Sj.H,u.anc.tail=w0.anc->u.b∈w0.kids.take w0.kids.length:=λu hu e=>by
  rw[Db]
  exact(h.str.km w0 hw u.b).2 ⟨u,hu,rfl,e⟩
 have hP:Part S' z (exps x.p x.fs z.env) (cnt x.p x.fs z.env):=by
  rw[z4,e1,e3]
  refine⟨z5.trans q4.ct,λu hu e=>?_,λy hy=>?_,λu hu v hv a1 a2 a3=>?_⟩
  . obtain⟨u0,u1,u2,u3⟩:=hK.sub u hu (e.trans z2)
    subst u2
    have hne:=u3 (hkb u u1 (e.trans z2))
    rcases(hm _).1 (q4.sub u u1 (e.trans z2))with h1|h1
    . exact absurd (congrArg Prod.fst h1) hne
    . exact h1
  . obtain⟨u,u1,u2,u3⟩:=q4.all y ((hm y).2 (.inr hy))
    have hne:u.id≠f.id:=λh1=>hid (by
     rw[<-h1,show u.id=y.1 from congrArg Prod.fst u3]
     exact Nk hy)
    exact⟨u,hK.sup u u1 u2 (.inl hne),u2.trans z2.symm,u3⟩
  . obtain⟨u0,u1,u2, -⟩:=hK.sub u hu (a1.trans z2)
    obtain⟨v0,v1,v2, -⟩:=hK.sub v hv (a2.trans z2)
    subst u2 v2
    exact q4.one u u1 v v1 (a1.trans z2) (a2.trans z2) a3
 refine h.next hnd hb hw hwb hK.str hK.kept hK.loc hK.off (λw' h1 h2=>?_) ⟨z,z1,z2⟩
 have:=hK.str.anc_b h1 z1 (h2.trans z2.symm)
 subst this
 exact Part.ok (h.kept.trans hK.kept) hx hkn (by rw[z2,q3]) hP
theorem StepJ.less(h:StepJ S1 ts k x.p F j Sj)(hnd:ts.Nodup)(hb:ts[j]?=some b)(hw:w∈Sj.H)(hwb:w.b=b)(hx:S1.ns[k]?=some x)(hkn:k+1≠S1.ns.length)(hn:x.p.neg=true)(hF:F.Perm (f::x.fs))(hp:Mat.pass x.p f w.env=some e)(hpm:Sj.H.Perm (w::H0))(hc:2<=w.count/\w.count<=1000):StepJ S1 ts k x.p F (j+1) (Nt.setCount Sj H0 w (w.count - 1)):=by
 obtain⟨w0,q1,q2,q3,q4⟩:=h.tok hb
 have:=h.str.same q1 hw (q2.trans hwb.symm)
 subst this
 have hbm:b∈ts.drop j:=by rw[V.drop_cons hb];exact Ag ..
 have hwX:w0.b∈ts.drop j:=by rw[q2];exact hbm
 have hc2:0<=w0.count - 1/\w0.count - 1<=1000:=by omega
 have hS2:=h.str.setCount hpm hc2
 have hL:=h.loc.setCount h.str hpm hwX hc2
 have hG:=Grew.setCount (c:=w0.count - 1) hpm
 have hl:(Mat.passL x.p F w0.env).length=(Mat.passL x.p x.fs w0.env).length+1:=by
  rw[(passL_perm hF w0.env).length_eq,passL_some hp,An]
 have hct:=q4.ct
 unfold cnt at hct
 rw[if_pos hn,hl]at hct
 have e1:exps x.p F w0.env=[]:=by
  unfold exps
  rw[if_pos hn,if_neg (λe=>by rw[e]at hl;cases hl)]
 have e2:exps x.p x.fs w0.env=[]:=by
  unfold exps
  rw[if_pos hn,if_neg (λe=>by rw[e]at hct;simp at hct;omega)]
 have e3:cnt x.p x.fs w0.env=w0.count - 1:=by
  unfold cnt
  rw[if_pos hn,hct]
  omega
 rw[e1]at q4
 have hP:=q4.setCount h.str hpm hc2
 rw[<-e2,<-e3]at hP
 refine h.next hnd hb hw hwb hS2 hG.toKept hL hG.off (λw' h1 h2=>?_) ⟨withCount w0 (w0.count - 1),Ag ..,rfl⟩
 have:=hS2.anc_b h1 (Ag ..) (h2.trans (show w0.anc=(withCount w0 (w0.count - 1)).anc from rfl))
 subst this
 refine Part.ok (h.kept.trans hG.toKept) hx hkn q3 (w':=withCount w0 (w0.count - 1)) ?_
 rw[<-e3]
 exact hP
theorem StepJ.last(h:StepJ S1 ts k x.p F j Sj)(hnd:ts.Nodup)(hb:ts[j]?=some b)(hw:w∈Sj.H)(hwb:w.b=b)(hx:S1.ns[k]?=some x)(hkn:k+1≠S1.ns.length)(hn:x.p.neg=true)(hF:F.Perm (f::x.fs))(hp:Mat.pass x.p f w.env=some e)(hpm:Sj.H.Perm (w::H0))(hc:w.count=1)(hS':Str S' [])(hL:Loc S' (ts.drop j))(hE:ExtR (Nt.setCount Sj H0 w 0) S' (withCount w 0) 0 w.env):StepJ S1 ts k x.p F (j+1) S':=by
 obtain⟨w0,q1,q2,q3,q4⟩:=h.tok hb
 have:=h.str.same q1 hw (q2.trans hwb.symm)
 subst this
 have hc2:(0:Int)<=0/\(0:Int)<=1000:=by decide
 have hS2:=h.str.setCount hpm hc2
 have hG:=Grew.setCount (c:=0) hpm
 have hl:(Mat.passL x.p F w0.env).length=(Mat.passL x.p x.fs w0.env).length+1:=by
  rw[(passL_perm hF w0.env).length_eq,passL_some hp,An]
 have hct:=q4.ct
 unfold cnt at hct
 rw[if_pos hn,hl,hc]at hct
 have hnil:Mat.passL x.p x.fs w0.env=[]:=Au q_o
 have e1:exps x.p F w0.env=[]:=by
  unfold exps
  rw[if_pos hn,if_neg (λe=>by rw[e]at hl;cases hl)]
 have e2:exps x.p x.fs w0.env=[(0,w0.env)]:=by
  unfold exps
  rw[if_pos hn,if_pos hnil]
 have e3:cnt x.p x.fs w0.env=0:=by
  unfold cnt
  rw[if_pos hn,hnil]
  rfl
 rw[e1]at q4
 have hP:=q4.setCount h.str hpm hc2
 obtain⟨z,z1,z2,z3,z4,z5⟩:=hP.ext hS' (Ag ..) (id:=0) (env:=w0.env) (by simp) hE
 have z2:z.anc=w0.anc:=z2
 have z4:z.env=w0.env:=z4
 rw[AO,<-e2,<-e3,<-z4]at z5
 refine h.next hnd hb hw hwb hS' (hG.toKept.trans hE.toKept) hL (hG.off.trans hE.grew.off) (λw' h1 h2=>?_) ⟨z,z1,z2⟩
 have:=hS'.anc_b h1 z1 (h2.trans z2.symm)
 subst this
 exact Part.ok (h.kept.trans (hG.toKept.trans hE.toKept)) hx hkn (by rw[z2,q3]) z5
end Nt
end
section
namespace Nt
variable {S S1 S' Sj:NC} {X:List Nat} {w:Tok} {k:Nat} {x:Nd} {f z:Fc} {fs:List Fc} {M:MemP}
def setFs (S:NC)(k:Nat)(x:Nd)(fs:List Fc)(M:MemP):NC:={S with ns:=S.ns.set k {x with fs:=fs,fm:=M} }
theorem Str.setFs(h:Str S [])(hx:S.ns[k]?=some x)(hM:M.okF fs)(hf:FKs fs)(hl:fs.length<=1000):Str (Nt.setFs S k x fs M) []:=by
 have hxm:=Ah hx
 have hk:=(Af.1 hx).1
 refine⟨h.ne,h.nd,h.up,h.rt,h.kn,h.km,h.kl,λw hw=>?_,λi y hy=>?_,λi y hy b=>?_,h.okt,λy hy=>?_,?_,?_,h.ek,λy hy=>?_,h.ct,h.rx⟩
 . show _<=(S.ns.set k _).length
   rw[AW];exact h.lv w hw
 . rcases IM hx hy with⟨-,rfl⟩|⟨-,hy⟩
   . exact h.tn k x hx
   . exact h.tn i y hy
 . rcases IM hx hy with⟨rfl,rfl⟩|⟨-,hy⟩
   . exact h.tm _ x hx b
   . exact h.tm i y hy b
 . rcases BT hy with⟨i,hi⟩
   rcases IM hx hi with⟨-,rfl⟩|⟨-,hi⟩
   . exact⟨hM,(h.okx x hxm).2⟩
   . exact h.okx y (Ah hi)
 . have h1:=h.row
   show(Cz (S.ns.set k _)++S.zs).length=_
   rw[Ae,DK]at h1 |-
   rw[AW]
   exact h1
 . show(S.ns.set k _).length<=5
   rw[AW];exact h.nl
 . rcases BT hy with⟨i,hi⟩
   rcases IM hx hi with⟨-,rfl⟩|⟨-,hi⟩
   . exact⟨(h.pk x hxm).1,hf,hl⟩
   . exact h.pk y (Ah hi)
theorem Loc.setFs(h:Loc S [])(hS:Str S [])(hx:S.ns[k]?=some x):Loc (Nt.setFs S k x fs M) x.ts:=by
 intro u hu hub
 have hu:u∈S.H:=hu
 have hk:u.anc.length≠k+1:=λe=>hub ((hS.tm k x hx u.b).2 ⟨u,hu,rfl,e,AU⟩)
 have h1:=h u hu AU
 unfold LocOk at h1 |-
 show if u.anc.length=(S.ns.set k _).length then _ else _
 rw[AW]
 split
 . rename_i e;rw[if_pos e]at h1;exact h1
 . rename_i e
   rw[if_neg e]at h1
   intro y hy
   have hp:=Cj.2 (hS.ne u hu)
   rcases IM hx hy with⟨e2, -⟩|⟨-,hy⟩
   . omega
   . exact h1 y hy
theorem StepJ.zero(h:Loc S [])(hS:Str S [])(hx:S.ns[k]?=some x)(hkn:k+1≠S.ns.length)(hM:M.okF fs)(hf:FKs fs)(hl:fs.length<=1000):StepJ (Nt.setFs S k x fs M) x.ts k x.p x.fs 0 (Nt.setFs S k x fs M):=by
 refine⟨hS.setFs hx hM hf hl,Kept.refl _,by rw[Ca];exact h.setFs hS hx,λb hb=>?_⟩
 rw[Ca]at hb
 obtain⟨w,w1,w2,w3, -⟩:=(hS.tm k x hx b).1 hb
 have h1:=(h w w1 AU).part (by rw[w3];exact hkn) (x:=x) (by rw[w3];exact hx)
 exact⟨w,w1,w2,w3,h1.ct,h1.sub,h1.all,h1.one⟩
end Nt
theorem NC.put_F{S:NC}{k:Nat}{x:Nd}(hx:S.ns[k]?=some x)(fs:List Fc)(M:MemP)(B:Res)(st:St):(B::((Nt.setFs S k x fs M).st++st)).Perm (.box S.g 115 (Mp S.ns k x++(M.cells fs.length++Kd S.ns k x S.zs))::(M.resF fs++(B::(x.tm.resT x.ts++(S.off k++st))))):=by
 have hx2:(Nt.setFs S k x fs M).ns[k]?=some {x with fs:=fs,fm:=M}:=BB (Af.1 hx).1
 have h6:=((NC.at_F hx2).append_right st).cons B
 refine h6.trans ?_
 simp only[AJ,Ai]
 refine(EW _ _ _ _).trans ?_
 have e1:Mp (Nt.setFs S k x fs M).ns k {x with fs:=fs,fm:=M}=Mp S.ns k x:=by
  unfold Mp
  show Cz ((S.ns.set k _).take k)++_=_
  rw[EI]
 have e2:Kd (Nt.setFs S k x fs M).ns k {x with fs:=fs,fm:=M} (Nt.setFs S k x fs M).zs=Kd S.ns k x S.zs:=by
  unfold Kd
  show _++(Cz ((S.ns.set k _).drop (k+1))++_)=_
  rw[EO]
  rfl
 have e3:(Nt.setFs S k x fs M).off k=S.off k:=by
  unfold NC.off NC.cbox
  show Res.box S.c _ [.ar S.g 0 (S.ns.set k _).length S.cap]::(((S.ns.set k _).take k).flatMap Nd.res++(((S.ns.set k _).drop (k+1)).flatMap Nd.res++S.H.flatMap Tok.res))=_
  rw[EI,EO,AW]
 rw[e1,e2,e3]
 exact Ao _
theorem NC.get_F{S:NC}{k:Nat}{x:Nd}(hx:S.ns[k]?=some x)(B:Res)(st:St):(B::(S.st++st)).Perm (.box S.g 115 (Mp S.ns k x++(x.fm.cells x.fs.length++Kd S.ns k x S.zs))::(x.fm.resF x.fs++(B::(x.tm.resT x.ts++(S.off k++st))))):=by
 have h6:=((NC.at_F hx).append_right st).cons B
 refine h6.trans ?_
 simp only[AJ,Ai]
 exact EW _ _ _ _
theorem bE(S:NC)(k:Nat)(x:Nd)(f:Fc)(B:Res)(hS:Nt.Str S [])(hx:S.ns[k]?=some x)(hid:f.id∉x.fs.map Fc.id)(st:St):TrF prog 65 [.ptr S.g (k*9+3),.i f.id,.agg f.cells] (B::(S.st++st)) λd st'=>∃M':MemP,M'.okF (x.fs++[f])/\d=.tup []/\(B::((Nt.setFs S k x (x.fs++[f]) M').st++st)).Perm st':=by
 have hxm:=Ah hx
 have hl:=(hS.pk x hxm).2.2
 have h2:=XL S.g 115 (Mp S.ns k x) (Kd S.ns k x S.zs) x.fm x.fs f (hS.okx x hxm).1 hid q_o (B::(x.tm.resT x.ts++(S.off k++st)))
 rw[Mo hx]at h2
 refine(TrF.perm (NC.get_F hx B st) h2).mono λd st' ⟨M',h3,h4,h5⟩=>⟨M',h3,h4,?_⟩
 have h6:=NC.put_F hx (x.fs++[f]) M' B st
 rw[Ae,BM]at h6
 exact h6.trans h5
theorem YY(S:NC)(k:Nat)(x:Nd)(f z:Fc)(i n:Nat)(B:Res)(hS:Nt.Str S [])(hx:S.ns[k]?=some x)(hn:x.fs.length=n+1)(hi:x.fs[i]?=some f)(hz:x.fs[n]?=some z)(st:St):TrF prog 68 [.ptr S.g (k*9+3),.i f.id] (B::(S.st++st)) λd st'=>∃M':MemP,M'.okF (Cv x.fs i z)/\d=.tup []/\(B::((Nt.setFs S k x (Cv x.fs i z) M').st++st)).Perm st':=by
 have hxm:=Ah hx
 have hl:=(hS.pk x hxm).2.2
 have h2:=Vd S.g 115 (Mp S.ns k x) (Kd S.ns k x S.zs) x.fm x.fs f z i n (hS.okx x hxm).1 hn hi hz q_o (B::(x.tm.resT x.ts++(S.off k++st)))
 rw[Mo hx]at h2
 refine(TrF.perm (NC.get_F hx B st) h2).mono λd st' ⟨M',h3,h4,h5⟩=>⟨M',h3,h4,?_⟩
 have h6:=NC.put_F hx (Cv x.fs i z) M' B st
 rw[Jh hn]at h6
 exact h6.trans h5
theorem Uz(S:NC)(k:Nat)(x:Nd)(id:Int)(B:Res)(hS:Nt.Str S [])(hx:S.ns[k]?=some x)(st:St):TrF prog 64 [.ptr S.g (k*9+3),.i id] (B::(S.st++st)) λd st'=>d=IA (Mat.find x.fs id)/\(B::(S.st++st)).Perm st':=by
 have hxm:=Ah hx
 have hl:=(hS.pk x hxm).2.2
 have h2:=XN S.g 115 (Mp S.ns k x) (Kd S.ns k x S.zs) x.fm x.fs id (hS.okx x hxm).1 q_o (B::(x.tm.resT x.ts++(S.off k++st)))
 rw[Mo hx]at h2
 exact(TrF.perm (NC.get_F hx B st) h2).mono λd st' ⟨h3,h4⟩=>⟨h3,by rw[h4];exact NC.get_F hx B st⟩
end
theorem YZ(S1 : NC)(k nb:Nat)(x:Nd)(F:List Fc)(f:Fc)(hx:S1.ns[k]?=some x)(hkn:k+1<S1.ns.length)(hfs:x.fs=F++[f])(hid:f.id∉F.map Fc.id)(hF:F.length<1000)(hf:FK f)(h0:Nt.StepJ S1 x.ts k x.p F 0 S1)(st:St) :
 TrF prog 100 [.ptr S1.g (k*9),.agg f.cells,.fn (.func 101) [] [.ptr nb 0,.ip [.ptr S1.c 0],.ip f.cells]] (.box nb 164 [.ptr S1.g (k*9)]::(S1.st++st)) λd st'=>∃S',Nt.Str S' []/\Nt.Loc S' []/\Nt.Kept S1 S'/\d=.tup []/\(Res.box nb 164 [.ptr S1.g (k*9)]::(S'.st++st)).Perm st':=by
 have hnd:=h0.str.tn k x hx
 have hlen:∀env,(Mat.passL x.p F env).length<=F.length:=λenv=>NF ..
 refine(Un S1 k x f (.box nb 164 [.ptr S1.g (k*9)]) 101 [.ptr nb 0,.ip [.ptr S1.c 0],.ip f.cells] (Nt.StepJ S1 x.ts k x.p F) hx h0.str hf (Aa call101) h0 (λj Sj h=>⟨h.str,h.kept⟩) (λj b Sj hb h=>?_) (λj b Sj w hb h hw hwb hp=>?_) (λj b Sj w e hb h hw hwb hp st=>?_) st).mono λd st' ⟨S',h1,h2,h3⟩=>⟨S',h1.str,h1.done,h1.kept,h2,h3⟩
 . obtain⟨w,w1,w2, -⟩:=h.tok hb
   exact⟨w,w1,w2⟩
 . refine h.same hnd hb hw hwb hx q_o ?_
   have:Mat.passL x.p x.fs w.env=Mat.passL x.p F w.env:=by
    rw[hfs]
    unfold Mat.passL
    rw[Jz,Ez (by rw[hp];rfl),Xa,Bi]
   rw[this]
 . obtain⟨w0,q1,q2,q3,q4⟩:=h.tok hb
   have:=h.str.same q1 hw (q2.trans hwb.symm)
   subst this
   obtain⟨y,y1,y2,y3⟩:=h.kept.ns k x hx
   have hek:=h.str.ek w0 hw
   have hee:EK e:=⟨Mat.pass_mem hp (λz hz=>(hf.v z hz).1.bg) hek.v,by rw[Mat.pass_len hp];decide⟩
   cases hn:x.p.neg with
   | false =>
    have hkid:w0.kids.length<1000:=by
     have h1:=q4.kids h.str hw
     have h2:Nt.exps x.p F w0.env=Mat.passL x.p F w0.env:=by unfold Nt.exps;rw[if_neg (by rw[hn];decide)]
     rw[h2]at h1
     have:=hlen w0.env
     omega
    have hbm:w0.b∈x.ts.drop j:=by rw[q2,V.drop_cons hb];exact Ag ..
    have h1:=cA Sj w0 (x.ts.drop j) k nb y f e y1 (by rw[y2];exact hn) h.str h.loc hbm hw q3 (by rw[h.kept.nl];exact hkn) hee hkid st
    rw[h.kept.c,h.kept.g,q2]at h1
    exact h1.mono λd st' ⟨S',a1,a2,a3,a4,a5⟩=>⟨S',h.pos hnd hb hw hwb hx q_o hn hfs hid hp a1 a2 a3,a4,a5⟩
   | true =>
    have hct:=q4.ct
    unfold Nt.cnt at hct
    rw[if_pos hn]at hct
    have:=hlen w0.env
    obtain⟨Hj,hpj⟩:=Nt.tok_split hw
    have h1:=cB Sj w0 Hj k nb y f e y1 (by rw[y2];exact hn) h.str hpj q3 q_o st
    rw[h.kept.c,h.kept.g,q2]at h1
    exact h1.mono λd st' ⟨S',a1,a2,a4,a5⟩=>⟨S',h.neg hnd hb hw hwb hx q_o hn hfs hp hpj q_o a1 a2,a4,a5⟩
theorem Wh(S1 : NC)(k nb:Nat)(x:Nd)(F:List Fc)(f:Fc)(hx:S1.ns[k]?=some x)(hkn:k+1<S1.ns.length)(hF:F.Perm (f::x.fs))(hid:f.id∉x.fs.map Fc.id)(hf:FK f)(hFl:F.length<=1000)(h0:Nt.StepJ S1 x.ts k x.p F 0 S1)(st:St) :
 TrF prog 100 [.ptr S1.g (k*9),.agg f.cells,.fn (.func 103) [] [.ptr nb 0,.ip [.ptr S1.c 0],.ip [.i f.id]]] (.box nb 164 [.ptr S1.g (k*9)]::(S1.st++st)) λd st'=>∃S',Nt.Str S' []/\Nt.Loc S' []/\Nt.Kept S1 S'/\d=.tup []/\(Res.box nb 164 [.ptr S1.g (k*9)]::(S'.st++st)).Perm st':=by
 have hnd:=h0.str.tn k x hx
 have hlen:∀env,(Mat.passL x.p F env).length<=F.length:=λenv=>NF ..
 refine(Un S1 k x f (.box nb 164 [.ptr S1.g (k*9)]) 103 [.ptr nb 0,.ip [.ptr S1.c 0],.ip [.i f.id]] (Nt.StepJ S1 x.ts k x.p F) hx h0.str hf (Aa call103) h0 (λj Sj h=>⟨h.str,h.kept⟩) (λj b Sj hb h=>?_) (λj b Sj w hb h hw hwb hp=>?_) (λj b Sj w e hb h hw hwb hp st=>?_) st).mono λd st' ⟨S',h1,h2,h3⟩=>⟨S',h1.str,h1.done,h1.kept,h2,h3⟩
 . obtain⟨w,w1,w2, -⟩:=h.tok hb
   exact⟨w,w1,w2⟩
 . refine h.same hnd hb hw hwb hx q_o ?_
   have h1:=Nt.passL_perm (p:=x.p) hF w.env
   rw[Nt.passL_none hp]at h1
   exact h1.symm
 . obtain⟨w0,q1,q2,q3,q4⟩:=h.tok hb
   have:=h.str.same q1 hw (q2.trans hwb.symm)
   subst this
   obtain⟨y,y1,y2,y3⟩:=h.kept.ns k x hx
   have hbm:w0.b∈x.ts.drop j:=by rw[q2,V.drop_cons hb];exact Ag ..
   cases hn:x.p.neg with
   | false =>
    have h1:=Zl Sj w0 k nb y f.id e (Nt.KidJ Sj w0 f.id (x.ts.drop j)) y1 (by rw[y2];exact hn) h.str hw q3 (Nt.KidJ.zero h.str h.loc hw) (λi Si hi=>⟨hi.str,hi.kept⟩) (λi c Si hc hi=>by
     obtain⟨u,u1,u2,u3⟩:=hi.kid h.str hw hc
     exact⟨u,u1,u2,by rw[Nt.tok_b (hi.str.ne u u1),u3,An,q3]⟩) (λi c Si u hc hi hu hub hne=>hi.no hc hu hub hne) (λi c Si u S' hc hi hu hub he hS' hR=>hi.yes h.str hw hbm hc hu hub he hS' hR) st
    rw[h.kept.c,h.kept.g,q2]at h1
    exact h1.mono λd st' ⟨S',a1,a2,a3⟩=>⟨S',h.kids hnd hb hw hwb hx q_o hn hF hid hp a1,a2,a3⟩
   | true =>
    have hct:=q4.ct
    have hl:(Mat.passL x.p F w0.env).length=(Mat.passL x.p x.fs w0.env).length+1:=by
     rw[(Nt.passL_perm hF w0.env).length_eq,Nt.passL_some hp,An]
    unfold Nt.cnt at hct
    rw[if_pos hn]at hct
    have:=hlen w0.env
    obtain⟨Hj,hpj⟩:=Nt.tok_split hw
    by_cases h1c:w0.count=1
    . have hkid : w0.kids.length < 1000 := by
       have h1:=q4.kids h.str hw
       have h2:Nt.exps x.p F w0.env=[]:=by
        unfold Nt.exps
        rw[if_pos hn,if_neg (λe=>by rw[e]at hl;cases hl)]
       rw[h2]at h1
       have h1:w0.kids.length<=0:=h1
       omega
      have h1:=Wn Sj w0 Hj (x.ts.drop j) k nb y f.id e y1 (by rw[y2];exact hn) h.str h.loc hbm hpj q3 (by rw[h.kept.nl];exact hkn) hkid h1c st
      rw[h.kept.c,h.kept.g,q2]at h1
      exact h1.mono λd st' ⟨S',a1,a2,a3,a4,a5⟩=>⟨S',h.last hnd hb hw hwb hx q_o hn hF hp hpj h1c a1 a2 a3,a4,a5⟩
    . have h1:=Zm Sj w0 Hj k nb y f.id e y1 (by rw[y2];exact hn) hpj q_o st
      rw[h.kept.c,h.kept.g,q2]at h1
      exact h1.mono λd st' ⟨a4,a5⟩=>⟨_,h.less hnd hb hw hwb hx q_o hn hF hp hpj q_o,a4,a5⟩
section
theorem XE:∀(R:List MK),R.Nodup->∃l,MRep l R.reverse
|[],_=>⟨[],MRep.nil⟩
|k::R,h=>by
  obtain⟨l,hl⟩:=XE R (Ba.1 h).2
  exact⟨_,by rw[List.reverse_cons];exact hl.put 0 (λhm=>(Ba.1 h).1 (List.mem_reverse.1 hm))⟩
theorem Wg(K:List Fc)(h:(K.map Fc.id).Nodup):∃M:MemP,M.okF K:=by
 have h2:(K.map Pa).Nodup:=Eb.2 ((Eb.1 h).imp λhne e=>hne (MK.i.inj e))
 obtain⟨l,hl⟩:=XE (K.map Pa).reverse (List.pairwise_reverse.2 (h2.imp λa=>a.symm))
 rw[List.reverse_reverse]at hl
 refine⟨.at_ 0 l 0 0 K.length [] 0 K.length [],hl,?_,?_,?_⟩
 . rw[Bi,Dw]
 . rw[Bi,Ab,Ab]
 . rw[Dw,Ab]
theorem XB{M:MemP}{K:List Fc}{f:Fc}(hok:M.okF K)(hk:f.id∉K.map Fc.id):∃M':MemP,M'.okF (K++[f]):=Wg _ (by
 rw[Bo,Fy]
 refine⟨KZ hok,Ba.2 ⟨AU,Cw⟩,?_⟩
 rintro a ha b hb rfl
 rw[Aw,BF,Ay]at hb
 exact hk (hb▸ha))
namespace Nt
structure ComeI (S:NC)(f:Fc)(i:Nat)(Si:NC):Prop where
 str:Str Si []
 loc:Loc Si []
 c:Si.c=S.c
 g:Si.g=S.g
 cap:Si.cap=S.cap
 nl:Si.ns.length=S.ns.length
 ns:∀(k:Nat) (x:Nd),S.ns[k]?=some x->∃y,Si.ns[k]?=some y/\y.p=x.p/\y.fs=if S.ns.length - 1 - i<=k/\k+1<S.ns.length/\Mat.solo x.p f=true then x.fs++[f]else x.fs
theorem ComeI.zero{S:NC}{f:Fc}(hS:Str S [])(hL:Loc S []):ComeI S f 0 S:=⟨hS,hL,rfl,rfl,rfl,rfl,λk x hx=>⟨x,hx,rfl,by
 rw[if_neg]
 rintro⟨h1,h2, -⟩
 omega⟩⟩
variable {S Si S':NC} {f:Fc} {i k:Nat} {x y:Nd}
theorem ComeI.no(h:ComeI S f i Si)(hi:i<S.ns.length - 1)(hk:k=S.ns.length - 2 - i)(hx:S.ns[k]?=some x)(ha:Mat.solo x.p f=false):ComeI S f (i+1) Si:=by
 refine⟨h.str,h.loc,h.c,h.g,h.cap,h.nl,λk2 z hz=>?_⟩
 obtain⟨y,y1,y2,y3⟩:=h.ns k2 z hz
 refine⟨y,y1,y2,?_⟩
 rw[y3]
 by_cases e:k2=k
 . subst e
   rw[hx]at hz
   cases hz
   rw[if_neg (by rw[ha];simp),if_neg (by rw[ha];simp)]
 . congr 1
   refine propext ⟨λ⟨a,b,c⟩=>⟨by omega,b,c⟩,λ⟨a,b,c⟩=>⟨by omega,b,c⟩⟩
theorem ComeI.at_(h:ComeI S f i Si)(hi:i<S.ns.length - 1)(hk:k=S.ns.length - 2 - i)(hx:S.ns[k]?=some x):∃y,Si.ns[k]?=some y/\y.p=x.p/\y.fs=x.fs:=by
 obtain⟨y,y1,y2,y3⟩:=h.ns k x hx
 refine⟨y,y1,y2,?_⟩
 rw[y3,if_neg]
 rintro⟨a, -⟩
 omega
theorem ComeI.yes{M:MemP}(h:ComeI S f i Si)(hi:i<S.ns.length - 1)(hk:k=S.ns.length - 2 - i)(hx:S.ns[k]?=some x)(ha:Mat.solo x.p f=true)(hy:Si.ns[k]?=some y)(hS':Str S' [])(hL':Loc S' [])(hK:Kept (Nt.setFs Si k y (y.fs++[f]) M) S'):ComeI S f (i+1) S':=by
 have hkl:=(Af.1 hy).1
 refine⟨hS',hL',hK.c.trans h.c,hK.g.trans h.g,hK.cap.trans h.cap,hK.nl.trans ((show(Si.ns.set k _).length=_ from AW ..).trans h.nl),λk2 z hz=>?_⟩
 obtain⟨y2,q1,q2,q3⟩:=h.ns k2 z hz
 by_cases e:k2=k
 . subst e
   rw[hx]at hz
   cases hz
   rw[hy]at q1
   cases q1
   have h1:(Nt.setFs Si k2 y (y.fs++[f]) M).ns[k2]?=some {y with fs:=y.fs++[f],fm:=M}:=BB hkl
   obtain⟨z,z1,z2,z3⟩:=hK.ns k2 _ h1
   refine⟨z,z1,z2.trans q2,z3.trans ?_⟩
   show y.fs++[f]=_
   rw[q3,if_neg q_o,if_pos ⟨by omega,by omega,ha⟩]
 . have h1 : (Nt.setFs Si k y (y.fs ++ [f]) M).ns[k2]? = some y2 := by
    show(Si.ns.set k _)[k2]?=_
    rw[DS (λe1=>e e1.symm)];exact q1
   obtain⟨z2,z1,z3,z4⟩:=hK.ns k2 _ h1
   refine⟨z2,z1,z3.trans q2,?_⟩
   rw[z4,q3]
   congr 1
   refine propext ⟨λ⟨a,b,c⟩=>⟨by omega,b,c⟩,λ⟨a,b,c⟩=>⟨by omega,b,c⟩⟩
end Nt
end
section
attribute [local push_cast] Bs Bn BV V.cells_mk V.cells_len Nat.mul_one Int.sub_zero List.map_nil beq_self_eq_true bne_self_eq_false List.head?_cons Bool.not_true Bool.not_false Nat.zero_add
attribute [-instance] Ch Cr BL Dl
theorem NC.layP{S Sj:NC}{k:Nat}{y:Nd}(hc:Sj.c=S.c)(hg:Sj.g=S.g)(hcap:Sj.cap=S.cap)(hnl:Sj.ns.length=S.ns.length)(hy:Sj.ns[k]?=some y)(s:St):∃(ROWj:List D) (RJ:St),(Sj.st++s).Perm (.box S.c 109 [.ar S.g 0 S.ns.length S.cap]::.box S.g 115 ROWj::RJ)/\List.take 3 (List.drop (k*9) ROWj)=y.p.cells/\k*9+9<=ROWj.length:=by
 have hs:Cz Sj.ns++Sj.zs=Cz (Sj.ns.take k)++(y.p.cells++((y.fm.cells y.fs.length++y.tm.cells y.ts.length)++(Cz (Sj.ns.drop (k+1))++Sj.zs))):=by
  rw[GN hy]
  unfold Nd.cells
  simp only[Ai]
 have hl:=Ic hy
 have hpc:y.p.cells=[.i y.p.tmpl,.b y.p.neg,.sl .shared (y.p.tests.map Ts.cells)]:=rfl
 refine⟨Cz Sj.ns++Sj.zs,(Sj.ns.flatMap Nd.res++Sj.H.flatMap Tok.res)++s,?_,?_,?_⟩
 . rw[<-hc,<-hg,<-hcap,<-hnl]
   exact .refl _
 . rw[hs,<-hl,CH,hpc];rfl
 . rw[Ae,DK]
   have:=(Af.1 hy).1
   omega
theorem ky(S : NC)(f:Fc)(hS:Nt.Str S [])(hL:Nt.Loc S [])(hf:FK f)(hn1:1<=S.ns.length)(hid:∀x∈S.ns,f.id∉x.fs.map Fc.id)(hlen:∀x∈S.ns,x.fs.length<1000)(st:St) :
 TrF prog 66 [.ptr S.c 0,.agg f.cells] (S.st++st) λd st'=>∃S',Nt.ComeI S f (S.ns.length - 1) S'/\d=.tup []/\(S'.st++st).Perm st':=by
 have hcap:S.ns.length<=S.cap:=by
  have:=hS.row
  rw[Ae,DK]at this
  omega
 have hP:=Aa (patsF S.c)
 have hIt:=Aa (Um S.c S.g S.ns.length S.cap hS.nl hn1 hcap)
 have hJ0:Hid (Nt.ComeI S f 0 S):=Nt.ComeI.zero hS hL
 have hpk:Hid (∀x∈S.ns,PK x.p/\FKs x.fs):=λx hx=>⟨(hS.pk x hx).1,(hS.pk x hx).2.1⟩
 have hfk:=Aa hf
 have hid2:=Aa hid
 have hlen2:=Aa hlen
 clear hS hL hf hid hlen
 generalize hST:S.st++st=ST at *
 rw[show f.cells=[.i f.id,.i f.time,.i f.tmpl,.i f.ver,.sl .shared (f.s.map V.cells)]from rfl]
 generalize hVS:f.s.map V.cells=VS at *
 refine Qin [] func66 results66 ntmps66 ?_
 repeat' (first|refine QV ?_|(with_reducible refine DM ?_)|refine QY ?_|refine QB ?_;intro b|with_reducible refine QZ ?_<;>(try constructor)<;>intro hb<;>try intro hb1|refine Qc call98 ((hP.out _)) ?_|fail)
 rw[<-hST]
 refine Bq (st':=[]++(S.st++st)) (.refl _) ?_
 refine KU hIt.out call139 q_v (λ_=>rfl) rfl (λi C=>∃Si,Nt.ComeI S f i Si/\C=Si.st++st) (λ_ _ _=>False) (λC B h=>h.app C B) (λi C ⟨Si,h,e⟩=>by
  subst e
  refine⟨(Si.gbox::(Si.ns.flatMap Nd.res++Si.H.flatMap Tok.res))++st,?_⟩
  have:Si.cbox=.box S.c 109 [.ar S.g 0 S.ns.length S.cap]:=by unfold NC.cbox;rw[h.c,h.g,h.cap,h.nl]
  rw[<-this]
  exact .refl _) ⟨S,hJ0.out,rfl⟩ ?_ ?_ (λ_ _ _ _ _ _ h=>h.elim)
 . rintro l i k C K hk ⟨Si,hJ,rfl⟩
   have hin:i<S.ns.length - 1:=by
    have:=(Af.1 hk).1
    rwa[Jv]at this
   have hkk:k=S.ns.length - 2 - i:=by
    rw[Px hin]at hk
    exact(Ci hk).symm
   have hkn:k<S.ns.length:=by omega
   obtain⟨x,hx⟩:=gEx hkn
   have hxm:=Ah hx
   obtain⟨y,hy,hyp,hyf⟩:=hJ.at_ hin hkk hx
   have hA:∀s:St,TrF prog 99 [.agg x.p.cells,.agg [.i f.id,.i f.time,.i f.tmpl,.i f.ver,.sl .shared VS]] s λd st'=>d=.b (Mat.solo x.p f)/\st'=s:=λs=>by
    have:=iM x.p f (hpk.out x hxm).1 hfk.out s
    rw[show f.cells=[.i f.id,.i f.time,.i f.tmpl,.i f.ver,.sl .shared (f.s.map V.cells)]from rfl,hVS]at this
    exact this
   have hkk2:Hid (k=S.ns.length - 2 - i):=hkk
   clear hk hIt hJ0 hP hkk
   refine(?_:Tr _ _ _ _ (AA.put ⟨_,[]⟩ (some 7) (.ptr S.g (k*9))) ((Si.st++st)++K) _)
   repeat' (first|refine QX ?_|refine QB ?_;intro b|with_reducible refine QZ ?_<;>(try constructor)<;>intro hb<;>try intro hb1|fail)
   obtain⟨nb,rfl⟩:∃q,q=b:=⟨_,rfl⟩
   refine⟨.box nb 164 [.ptr S.g (k*9)]::(Si.st++st),Al _,λK'=>?_⟩
   clear K
   obtain⟨ROWj,RJ,v1,v2,v3⟩:=NC.layP hJ.c hJ.g hJ.cap hJ.nl hy (st++K')
   rw[hyp]at v2
   have v4:=v1.cons (Res.box nb 164 [.ptr S.g (k*9)])
   refine Ha ?_
   refine Bq (st':=.box nb 164 [.ptr S.g (k*9)]::.box S.c 109 [.ar S.g 0 S.ns.length S.cap]::.box S.g 115 ROWj::RJ) (by
    show List.Perm (_::((Si.st++st)++K')) _
    rw[Ai]
    exact v4) ?_
   have v7:3<=(List.drop (k*9) ROWj).length:=by rw[AP];omega
   have hpc:x.p.cells=[.i x.p.tmpl,.b x.p.neg,.sl .shared (x.p.tests.map Ts.cells)]:=rfl
   rw[hpc]at v2 hA
   cases ha:Mat.solo x.p f with
   | false =>
    have hJn:=Aa (hJ.no hin hkk2.out hx ha)
    rw[ha]at hA
    replace hA:=Aa hA
    replace v4:=Aa v4
    clear v1 hJ hx hxm hy hyp hyf ha hpc hkk2 hin hpk hid2 hlen2 hfk
    generalize x.p.tests.map Ts.cells=TS at *
    repeat' (first|refine QV ?_|((with_reducible apply(DN (id:=3) [(nb,[.ptr S.g (k*9)]),(S.g,ROWj)]));(iterate 3 (focus kernel_rfl));(focus exact q_k);intro hne;(try simp only[nes,ne1,and_assoc]at hne);repeat(have hq:=hne.1;replace hne:=hne.2))|((with_reducible refine And.intro ?_ ?_);(focus exact q_k))|(with_reducible refine DM ?_)|refine QY ?_|refine QB ?_;intro b|with_reducible refine QZ ?_<;>(try constructor)<;>intro hb<;>try intro hb1|refine Qc call99 ((hA.out _)) ?_|fail)
    exact⟨(.box nb 164 [.ptr S.g (k*9)]::(Si.st++st))++K',by rw[show(Res.box nb 164 [.ptr S.g (k*9)]::(Si.st++st))++K'=Res.box nb 164 [.ptr S.g (k*9)]::(Si.st++(st++K'))from by rw[AJ,Ai]];exact v4.out.symm,_,AL ..,Si,hJn.out,rfl⟩
   | true =>
    have hnew:f.id∉y.fs.map Fc.id:=by rw[hyf];exact hid2.out x hxm
    have hyl:y.fs.length<1000:=by rw[hyf];exact hlen2.out x hxm
    obtain⟨hpk1,hpk2⟩:=hpk.out x hxm
    have hFK:FKs (y.fs++[f]):=⟨λz hz=>by
     rw[Bh,Ay,hyf]at hz
     rcases hz with hz|rfl
     . exact hpk2.f z hz
     . exact hfk.out,by rw[Ae,BM];omega⟩
    have hl1:(y.fs++[f]).length<=1000:=by rw[Ae,BM];omega
    have hk1:k+1<Si.ns.length:=by
     have h1:=hkk2.out
     rw[hJ.nl]
     omega
    have hput:=bE Si k y f (.box nb 164 [.ptr S.g (k*9)]) hJ.str hy hnew (st++K')
    rw[hJ.g]at hput
    have hput2:=TrF.perm v4.symm hput
    have hE:∃(d:D) (st':St) (M':MemP),M'.okF (y.fs++[f])/\d=.tup []/\(Res.box nb 164 [.ptr S.g (k*9)]::((Nt.setFs Si k y (y.fs++[f]) M').st++(st++K'))).Perm st':=by
     obtain⟨M0,hM0⟩:=XB (hJ.str.okx y (Ah hy)).1 hnew
     exact⟨_,_,M0,hM0,rfl,.refl _⟩
    have hpas:Hid (∀M':MemP,M'.okF (y.fs++[f])->TrF prog 100 [.ptr S.g (k*9),.agg f.cells,.fn (.func 101) [] [.ptr nb 0,.ip [.ptr S.c 0],.ip f.cells]] (.box nb 164 [.ptr S.g (k*9)]::((Nt.setFs Si k y (y.fs++[f]) M').st++(st++K'))) λd st'=>∃S',Nt.ComeI S f (i+1) S'/\d=.tup []/\(Res.box nb 164 [.ptr S.g (k*9)]::(S'.st++(st++K'))).Perm st'):=λM' hM=>by
     have hy2:(Nt.setFs Si k y (y.fs++[f]) M').ns[k]?=some {y with fs:=y.fs++[f],fm:=M'}:=BB (Af.1 hy).1
     have h1:=YZ (Nt.setFs Si k y (y.fs++[f]) M') k nb {y with fs:=y.fs++[f],fm:=M'} y.fs f hy2 ((show(Si.ns.set k _).length=_ from AW ..).symm▸hk1) rfl hnew hyl hfk.out (Nt.StepJ.zero hJ.loc hJ.str hy q_o hM hFK hl1) (st++K')
     have e1:(Nt.setFs Si k y (y.fs++[f]) M').g=S.g:=hJ.g
     have e2:(Nt.setFs Si k y (y.fs++[f]) M').c=S.c:=hJ.c
     rw[e1,e2]at h1
     exact h1.mono λd st' ⟨S',a1,a2,a3,a4,a5⟩=>⟨S',hJ.yes hin hkk2.out hx ha hy a1 a2 a3,a4,a5⟩
    rw[show f.cells=[.i f.id,.i f.time,.i f.tmpl,.i f.ver,.sl .shared (f.s.map V.cells)]from rfl,hVS]at hput2 hpas
    rw[ha]at hA
    replace hA:=Aa hA
    replace hput2:=Aa hput2
    replace hE:=Aa hE
    clear v1 v4 hput hJ hx hxm hy hyp hyf ha hpc hkk2 hin hpk hid2 hlen2 hfk hnew hyl hpk1 hpk2 hFK hl1 hk1
    generalize x.p.tests.map Ts.cells=TS at *
    repeat' (first|refine QV ?_|((with_reducible apply(DN (id:=3) [(nb,[.ptr S.g (k*9)]),(S.g,ROWj)]));(iterate 3 (focus kernel_rfl));(focus exact q_k);intro hne;(try simp only[nes,ne1,and_assoc]at hne);repeat(have hq:=hne.1;replace hne:=hne.2))|((with_reducible refine And.intro ?_ ?_);(focus exact q_k))|((with_reducible apply(DN (id:=4) [(nb,[.ptr S.g (k*9)])]));(iterate 3 (focus kernel_rfl));(focus exact q_k);intro hne;(try simp only[nes,ne1,and_assoc]at hne);repeat(have hq:=hne.1;replace hne:=hne.2))|((with_reducible refine And.intro ?_ ?_);(focus exact q_k))|((with_reducible apply(EB call65));(focus exact Ao _);(focus exact hput2.out);(focus exact LEL.refl _);(focus exact hE.out);(rintro d st2 ⟨M2,hok2,rfl,hp2⟩;refine⟨BP,?_⟩))|((with_reducible refine Bq hp2.symm ?_))|((with_reducible apply(Bj (f:=100) (henter:=call100) (hp:=Ao _) (h:=hpas.out M2 hok2)));(focus exact q_v);(focus exact q_l);(rintro d0 st0 ⟨S',h1,rfl,hp4⟩))|(with_reducible refine DM ?_)|refine QY ?_|refine QB ?_;intro b|with_reducible refine QZ ?_<;>(try constructor)<;>intro hb<;>try intro hb1|refine Qc call99 ((hA.out _)) ?_|fail)
    exact⟨(.box nb 164 [.ptr S.g (k*9)]::(S'.st++st))++K',by rw[show(Res.box nb 164 [.ptr S.g (k*9)]::(S'.st++st))++K'=Res.box nb 164 [.ptr S.g (k*9)]::(S'.st++(st++K'))from by rw[AJ,Ai]];exact hp4.symm,_,AL ..,S',h1,rfl⟩
 . rintro d K1 C' rfl ⟨Si,hJ,rfl⟩
   have hfin:Hid (∃S',Nt.ComeI S f (S.ns.length - 1) S'/\D.tup []=D.tup []/\(S'.st++st).Perm (Si.st++st)):=⟨Si,by rw[Jv]at hJ;exact hJ,rfl,.refl _⟩
   repeat' (first|refine QX ?_|refine QB ?_;intro b|with_reducible refine QZ ?_<;>(try constructor)<;>intro hb<;>try intro hb1|fail)
   exact Em q_x q_y (.refl _) (Al _) (LE.refl _) hfin.out
end
section
theorem Ov{α:Type}{K:List α}{i n:Nat}{a z:α}(hn:K.length=n+1)(hi:K[i]?=some a)(hz:K[n]?=some z):K.Perm (a::Cv K i z):=by
 obtain⟨hil,hia⟩:=Af.1 hi
 have hs:K=K.take i++a::K.drop (i+1):=by rw[<-V.drop_cons hi,Bz]
 have ht:K.set i z=K.take i++z::K.drop (i+1):=by rw[Yd,if_pos hil]
 rw[Mh hn q_o hz]at ht
 have h1:(Cv K i z++[z]).Perm (z::(K.take i++K.drop (i+1))):=by rw[ht];exact AG
 have h2:(Cv K i z).Perm (K.take i++K.drop (i+1)):=(Tn z).1 ((Bk (l₁:=[z])).trans h1)
 have h3:K.Perm (a::(K.take i++K.drop (i+1))):=by
  conv=>lhs;rw[hs]
  exact AG
 exact h3.trans (h2.symm.cons a)
def EV (id:Int)(F:List Fc):List Fc:=F.filter λg=>g.id != id
theorem Sr{id:Int}{F:List Fc}(h:Mat.find F id=none):EV id F=F:=by
 unfold EV
 rw[Li]
 intro g hg
 have:=Dr.1 h g hg
 simpa using this
theorem LZ{f:Fc}{F G:List Fc}(hF:F.Perm (f::G))(hid:f.id∉G.map Fc.id):G.Perm (EV f.id F):=by
 have h1:(EV f.id F).Perm (EV f.id (f::G)):=hF.filter _
 have h2:EV f.id (f::G)=G:=by
  unfold EV
  rw[Dp (by simp),Li]
  intro g hg
  have:g.id≠f.id:=λe=>hid (by rw[<-e];exact BH hg)
  simpa using this
 rw[h2]at h1
 exact h1.symm
namespace Nt
structure LeaI (S:NC)(id:Int)(i:Nat)(Si:NC):Prop where
 str:Str Si []
 loc:Loc Si []
 c:Si.c=S.c
 g:Si.g=S.g
 cap:Si.cap=S.cap
 nl:Si.ns.length=S.ns.length
 ns:∀(k:Nat) (x:Nd),S.ns[k]?=some x->∃y,Si.ns[k]?=some y/\y.p=x.p/\if S.ns.length - 1 - i<=k/\k+1<S.ns.length then y.fs.Perm (EV id x.fs)else y.fs=x.fs
theorem LeaI.zero{S:NC}{id:Int}(hS:Str S [])(hL:Loc S []):LeaI S id 0 S:=⟨hS,hL,rfl,rfl,rfl,rfl,λk x hx=>⟨x,hx,rfl,by
 rw[if_neg]
 rintro⟨h1,h2⟩
 omega⟩⟩
variable {S Si S':NC} {id:Int} {i k:Nat} {x y:Nd}
theorem LeaI.at_(h:LeaI S id i Si)(hi:i<S.ns.length - 1)(hk:k=S.ns.length - 2 - i)(hx:S.ns[k]?=some x):∃y,Si.ns[k]?=some y/\y.p=x.p/\y.fs=x.fs:=by
 obtain⟨y,y1,y2,y3⟩:=h.ns k x hx
 refine⟨y,y1,y2,?_⟩
 rw[if_neg]at y3
 . exact y3
 . rintro⟨a, -⟩
   omega
theorem LeaI.no(h:LeaI S id i Si)(hi:i<S.ns.length - 1)(hk:k=S.ns.length - 2 - i)(hx:S.ns[k]?=some x)(ha:Mat.find x.fs id=none):LeaI S id (i+1) Si:=by
 refine⟨h.str,h.loc,h.c,h.g,h.cap,h.nl,λk2 z hz=>?_⟩
 by_cases e:k2=k
 . subst e
   rw[hx]at hz
   cases hz
   obtain⟨y,y1,y2,y3⟩:=h.at_ hi hk hx
   refine⟨y,y1,y2,?_⟩
   rw[if_pos ⟨by omega,by omega⟩,Sr ha,y3]
 . obtain⟨y,y1,y2,y3⟩:=h.ns k2 z hz
   refine⟨y,y1,y2,?_⟩
   by_cases e2:S.ns.length - 1 - i<=k2/\k2+1<S.ns.length
   . rw[if_pos e2]at y3
     rw[if_pos ⟨by omega,e2.2⟩]
     exact y3
   . rw[if_neg e2]at y3
     rw[if_neg (λh1=>e2 ⟨by omega,h1.2⟩)]
     exact y3
theorem LeaI.yes{M:MemP}{G:List Fc}(h:LeaI S id i Si)(hi:i<S.ns.length - 1)(hk:k=S.ns.length - 2 - i)(hx:S.ns[k]?=some x)(hG:G.Perm (EV id x.fs))(hy:Si.ns[k]?=some y)(hS':Str S' [])(hL':Loc S' [])(hK:Kept (Nt.setFs Si k y G M) S'):LeaI S id (i+1) S':=by
 have hkl:=(Af.1 hy).1
 refine⟨hS',hL',hK.c.trans h.c,hK.g.trans h.g,hK.cap.trans h.cap,hK.nl.trans ((show(Si.ns.set k _).length=_ from AW ..).trans h.nl),λk2 z hz=>?_⟩
 obtain⟨y2,q1,q2,q3⟩:=h.ns k2 z hz
 by_cases e:k2=k
 . subst e
   rw[hx]at hz
   cases hz
   rw[hy]at q1
   cases q1
   have h1:(Nt.setFs Si k2 y G M).ns[k2]?=some {y with fs:=G,fm:=M}:=BB hkl
   obtain⟨z,z1,z2,z3⟩:=hK.ns k2 _ h1
   refine⟨z,z1,z2.trans q2,?_⟩
   rw[if_pos ⟨by omega,by omega⟩,z3]
   exact hG
 . have h1 : (Nt.setFs Si k y G M).ns[k2]? = some y2 := by
    show(Si.ns.set k _)[k2]?=_
    rw[DS (λe1=>e e1.symm)];exact q1
   obtain⟨z2,z1,z3,z4⟩:=hK.ns k2 _ h1
   refine⟨z2,z1,z3.trans q2,?_⟩
   rw[z4]
   by_cases e2:S.ns.length - 1 - i<=k2/\k2+1<S.ns.length
   . rw[if_pos e2]at q3
     rw[if_pos ⟨by omega,e2.2⟩]
     exact q3
   . rw[if_neg e2]at q3
     rw[if_neg (λh1=>e2 ⟨by omega,h1.2⟩)]
     exact q3
end Nt
end
section
attribute [local push_cast] Bs Bn BV V.cells_mk V.cells_len Nat.mul_one Int.sub_zero List.map_nil beq_self_eq_true bne_self_eq_false List.head?_cons Bool.not_true Bool.not_false Nat.zero_add
attribute [-instance] Ch Cr BL Dl
theorem Zo(S : NC)(id:Int)(hS:Nt.Str S [])(hL:Nt.Loc S [])(hn1:1<=S.ns.length)(st:St) :
 TrF prog 69 [.ptr S.c 0,.i id] (S.st++st) λd st'=>∃S',Nt.LeaI S id (S.ns.length - 1) S'/\d=.tup []/\(S'.st++st).Perm st':=by
 have hcap:S.ns.length<=S.cap:=by
  have:=hS.row
  rw[Ae,DK]at this
  omega
 have hP:=Aa (patsF S.c)
 have hIt:=Aa (Um S.c S.g S.ns.length S.cap hS.nl hn1 hcap)
 have hJ0:Hid (Nt.LeaI S id 0 S):=Nt.LeaI.zero hS hL
 clear hS hL
 generalize hST:S.st++st=ST at *
 refine Qin [] func69 results69 ntmps69 ?_
 repeat' (first|refine QV ?_|(with_reducible refine DM ?_)|refine QY ?_|refine QB ?_;intro b|with_reducible refine QZ ?_<;>(try constructor)<;>intro hb<;>try intro hb1|refine Qc call98 ((hP.out _)) ?_|fail)
 rw[<-hST]
 refine Bq (st':=[]++(S.st++st)) (.refl _) ?_
 refine KU hIt.out call139 q_v (λ_=>rfl) rfl (λi C=>∃Si,Nt.LeaI S id i Si/\C=Si.st++st) (λ_ _ _=>False) (λC B h=>h.app C B) (λi C ⟨Si,h,e⟩=>by
  subst e
  refine⟨(Si.gbox::(Si.ns.flatMap Nd.res++Si.H.flatMap Tok.res))++st,?_⟩
  have:Si.cbox=.box S.c 109 [.ar S.g 0 S.ns.length S.cap]:=by unfold NC.cbox;rw[h.c,h.g,h.cap,h.nl]
  rw[<-this]
  exact .refl _) ⟨S,hJ0.out,rfl⟩ ?_ ?_ (λ_ _ _ _ _ _ h=>h.elim)
 . rintro l i k C K hk ⟨Si,hJ,rfl⟩
   have hin:i<S.ns.length - 1:=by
    have:=(Af.1 hk).1
    rwa[Jv]at this
   have hkk:k=S.ns.length - 2 - i:=by
    rw[Px hin]at hk
    exact(Ci hk).symm
   have hkn:k<S.ns.length:=by omega
   obtain⟨x,hx⟩:=gEx hkn
   have hxm:=Ah hx
   obtain⟨y,hy,hyp,hyf⟩:=hJ.at_ hin hkk hx
   have hkk2:Hid (k=S.ns.length - 2 - i):=hkk
   clear hk hIt hJ0 hP hkk
   refine(?_:Tr _ _ _ _ (AA.put ⟨_,[]⟩ (some 9) (.ptr S.g (k*9))) ((Si.st++st)++K) _)
   repeat' (first|refine QX ?_|refine QB ?_;intro b|with_reducible refine QZ ?_<;>(try constructor)<;>intro hb<;>try intro hb1|fail)
   obtain⟨nb,rfl⟩:∃q,q=b:=⟨_,rfl⟩
   refine⟨.box nb 164 [.ptr S.g (k*9)]::(Si.st++st),Al _,λK'=>?_⟩
   clear K
   obtain⟨ROWj,RJ,v1,v2,v3⟩:=NC.layP hJ.c hJ.g hJ.cap hJ.nl hy (st++K')
   have v4:=v1.cons (Res.box nb 164 [.ptr S.g (k*9)])
   refine Ha ?_
   refine Bq (st':=.box nb 164 [.ptr S.g (k*9)]::.box S.c 109 [.ar S.g 0 S.ns.length S.cap]::.box S.g 115 ROWj::RJ) (by
    show List.Perm (_::((Si.st++st)++K')) _
    rw[Ai]
    exact v4) ?_
   have hget:=Uz Si k y id (.box nb 164 [.ptr S.g (k*9)]) hJ.str hy (st++K')
   rw[hJ.g]at hget
   have hg2:TrF prog 64 [.ptr S.g (k*9+3),.i id] (.box nb 164 [.ptr S.g (k*9)]::.box S.c 109 [.ar S.g 0 S.ns.length S.cap]::.box S.g 115 ROWj::RJ) λd st'=>d=IA (Mat.find y.fs id)/\st'=.box nb 164 [.ptr S.g (k*9)]::.box S.c 109 [.ar S.g 0 S.ns.length S.cap]::.box S.g 115 ROWj::RJ:=TrF.permPost v4.symm (hget.mono λd st' ⟨e1,e2⟩=>⟨_,⟨e1,rfl⟩,e2.symm.trans v4⟩)
   clear hget
   have hg3:∀fb:Res,TrF prog 64 [.ptr S.g (k*9+3),.i id] (fb::.box nb 164 [.ptr S.g (k*9)]::.box S.c 109 [.ar S.g 0 S.ns.length S.cap]::.box S.g 115 ROWj::RJ) λd st'=>d=IA (Mat.find y.fs id)/\st'=fb::.box nb 164 [.ptr S.g (k*9)]::.box S.c 109 [.ar S.g 0 S.ns.length S.cap]::.box S.g 115 ROWj::RJ:=λfb=>by
    have h1:=Uz Si k y id (.box nb 164 [.ptr S.g (k*9)]) hJ.str hy (fb::(st++K'))
    rw[hJ.g]at h1
    have h2:(fb::.box nb 164 [.ptr S.g (k*9)]::.box S.c 109 [.ar S.g 0 S.ns.length S.cap]::.box S.g 115 ROWj::RJ).Perm (.box nb 164 [.ptr S.g (k*9)]::(Si.st++(fb::(st++K')))):=(v4.symm.cons fb).trans (EW fb _ Si.st (st++K'))
    exact TrF.permPost h2 (h1.mono λd st' ⟨e1,e2⟩=>⟨_,⟨e1,rfl⟩,e2.symm.trans h2.symm⟩)
   cases ha:Mat.find y.fs id with
   | none =>
    have hJn:=Aa (hJ.no hin hkk2.out hx (by rw[<-hyf];exact ha))
    rw[ha]at hg2 hg3
    dsimp only[IA]at hg2 hg3
    replace hg2:=Aa hg2
    replace hg3:=Aa hg3
    replace v4:=Aa v4
    clear v1 hJ hx hxm hy hyp hyf ha hkk2 hin
    repeat' (first|refine QV ?_|((with_reducible apply(NX (id:=3) [(nb,[.ptr S.g (k*9)])] 8 4));(iterate 3 (focus kernel_rfl));(focus(repeat(first|exact BP|refine Cp q_m ?_)));(focus exact rfl);(focus(simp only[DT,Ga];rfl)))|((with_reducible refine And.intro ?_ ?_);(focus exact q_k))|((with_reducible apply(EB call64));(focus exact Ao _);(focus exact hg2.out);(focus exact LEL.refl _);(focus exact⟨_,_,rfl,rfl⟩);(rintro d2 st2 ⟨rfl,rfl⟩;refine⟨by first|exact BP|exact Mw q_m,?_⟩))|((with_reducible apply(EB call64));(focus exact Ao _);(focus exact(hg3.out _));(focus exact LEL.refl _);(focus exact⟨_,_,rfl,rfl⟩);(rintro d2 st2 ⟨rfl,rfl⟩;refine⟨by first|exact BP|exact Mw q_m,?_⟩))|(with_reducible refine DM ?_)|refine QY ?_|refine QB ?_;intro b|with_reducible refine QZ ?_<;>(try constructor)<;>intro hb<;>try intro hb1|fail)
    all_goals exact⟨_::((.box nb 164 [.ptr S.g (k*9)]::(Si.st++st))++K'),(by rw[show(Res.box nb 164 [.ptr S.g (k*9)]::(Si.st++st))++K'=Res.box nb 164 [.ptr S.g (k*9)]::(Si.st++(st++K'))from by rw[AJ,Ai]];exact v4.out.symm.cons _),_,((AL ..).trans (AL ..)),Si,hJn.out,rfl⟩
   | some f =>
    have hfid:f.id=id:=by
     have:=Gs ha
     simpa using this
    have hfm:f∈y.fs:=CY ha
    obtain⟨i0,hi0⟩:=BT hfm
    obtain⟨n,hn⟩:∃n,y.fs.length=n+1:=⟨y.fs.length - 1,by have:=mX hfm;omega⟩
    obtain⟨z,hz⟩:=gEx (l:=y.fs) (i:=n) q_o
    obtain⟨G,hG⟩:∃G,G=Cv y.fs i0 z:=⟨_,rfl⟩
    have hF:y.fs.Perm (f::G):=by rw[hG];exact Ov hn hi0 hz
    have hym:=Ah hy
    obtain⟨-,hfk,hfl⟩:=hJ.str.pk y hym
    have hnd:=KZ (hJ.str.okx y hym).1
    have hnd2:(f.id::G.map Fc.id).Nodup:=(hF.map Fc.id).nodup_iff.1 hnd
    have hnew:=(Ba.1 hnd2).1
    have hFK:FKs G:=⟨λq hq=>hfk.f q (hF.mem_iff.2 (Ad _ hq)),by have:=hF.length_eq;rw[An]at this;omega⟩
    have hGl:G.length<=1000:=by have:=hF.length_eq;rw[An]at this;omega
    have hGw:G.Perm (EV id x.fs):=by
     have:=LZ hF hnew
     rw[hfid,hyf]at this
     exact this
    have hk1:k+1<Si.ns.length:=by
     have h1:=hkk2.out
     rw[hJ.nl]
     omega
    have hdrop:∀fb:Res,TrF prog 68 [.ptr S.g (k*9+3),.i id] (fb::.box nb 164 [.ptr S.g (k*9)]::.box S.c 109 [.ar S.g 0 S.ns.length S.cap]::.box S.g 115 ROWj::RJ) λd st'=>∃M':MemP,M'.okF G/\d=.tup []/\(Res.box nb 164 [.ptr S.g (k*9)]::fb::((Nt.setFs Si k y G M').st++(st++K'))).Perm st':=λfb=>by
     have h1:=YY Si k y f z i0 n (.box nb 164 [.ptr S.g (k*9)]) hJ.str hy hn hi0 hz (fb::(st++K'))
     rw[hJ.g,hfid,<-hG]at h1
     have h2:(fb::.box nb 164 [.ptr S.g (k*9)]::.box S.c 109 [.ar S.g 0 S.ns.length S.cap]::.box S.g 115 ROWj::RJ).Perm (.box nb 164 [.ptr S.g (k*9)]::(Si.st++(fb::(st++K')))):=(v4.symm.cons fb).trans (EW fb _ Si.st (st++K'))
     exact(TrF.perm h2 h1).mono λd st' ⟨M',a1,a2,a3⟩=>⟨M',a1,a2,(AG.symm.cons _).trans a3⟩
    have hE:∀fb:Res,∃(d:D) (st':St) (M':MemP),M'.okF G/\d=.tup []/\(Res.box nb 164 [.ptr S.g (k*9)]::fb::((Nt.setFs Si k y G M').st++(st++K'))).Perm st':=λfb=>by
     obtain⟨M0,hM0⟩:=Wg G (Ba.1 hnd2).2
     exact⟨_,_,M0,hM0,rfl,.refl _⟩
    have hpas:Hid (∀(M':MemP) (fb:Res),M'.okF G->TrF prog 100 [.ptr S.g (k*9),.agg f.cells,.fn (.func 103) [] [.ptr nb 0,.ip [.ptr S.c 0],.ip [.i id]]] (.box nb 164 [.ptr S.g (k*9)]::fb::((Nt.setFs Si k y G M').st++(st++K'))) λd st'=>∃S',Nt.LeaI S id (i+1) S'/\d=.tup []/\(fb::Res.box nb 164 [.ptr S.g (k*9)]::(S'.st++(st++K'))).Perm st'):=λM' fb hM=>by
     have hy2:(Nt.setFs Si k y G M').ns[k]?=some {y with fs:=G,fm:=M'}:=BB (Af.1 hy).1
     have h1:=Wh (Nt.setFs Si k y G M') k nb {y with fs:=G,fm:=M'} y.fs f hy2 ((show(Si.ns.set k _).length=_ from AW ..).symm▸hk1) hF hnew (hfk.f f hfm) hfl (Nt.StepJ.zero hJ.loc hJ.str hy q_o hM hFK hGl) (fb::(st++K'))
     have e1:(Nt.setFs Si k y G M').g=S.g:=hJ.g
     have e2:(Nt.setFs Si k y G M').c=S.c:=hJ.c
     rw[e1,e2,hfid]at h1
     exact(TrF.perm (AG.symm.cons _) h1).mono λd st' ⟨S',a1,a2,a3,a4,a5⟩=>⟨S',hJ.yes hin hkk2.out hx hGw hy a1 a2 a3,a4,(EW fb _ _ _).trans a5⟩
    rw[ha]at hg2 hg3
    dsimp only[IA]at hg2 hg3
    rw[show f.cells=[.i f.id,.i f.time,.i f.tmpl,.i f.ver,.sl .shared (f.s.map V.cells)]from rfl]at hg2 hg3 hpas
    generalize f.s.map V.cells=VS at *
    replace hg2:=Aa hg2
    replace hg3:=Aa hg3
    replace hdrop:=Aa hdrop
    replace hE:=Aa hE
    clear v1 v4 hJ hx hxm hy hyp hyf ha hkk2 hin hfid hfm hi0 hn hz hG hF hym hfk hfl hnd hnd2 hnew hFK hGl hGw hk1
    repeat' (first|refine QV ?_|((with_reducible apply(NX (id:=3) [(nb,[.ptr S.g (k*9)])] 8 4));(iterate 3 (focus kernel_rfl));(focus(repeat(first|exact BP|refine Cp q_m ?_)));(focus exact rfl);(focus(simp only[DT,Ga];rfl)))|((with_reducible refine And.intro ?_ ?_);(focus exact q_k))|((with_reducible apply(EB call64));(focus exact Ao _);(focus exact hg2.out);(focus exact LEL.refl _);(focus exact⟨_,_,rfl,rfl⟩);(rintro d2 st2 ⟨rfl,rfl⟩;refine⟨by first|exact BP|exact Mw q_m,?_⟩))|((with_reducible apply(EB call64));(focus exact Ao _);(focus exact(hg3.out _));(focus exact LEL.refl _);(focus exact⟨_,_,rfl,rfl⟩);(rintro d2 st2 ⟨rfl,rfl⟩;refine⟨by first|exact BP|exact Mw q_m,?_⟩))|((with_reducible apply(DN (id:=5) [(nb,[.ptr S.g (k*9)])]));(iterate 3 (focus kernel_rfl));(focus exact q_k);intro hne;(try simp only[nes,ne1,and_assoc]at hne);repeat(have hq:=hne.1;replace hne:=hne.2))|((with_reducible refine And.intro ?_ ?_);(focus exact q_k))|((with_reducible apply(EB call68));(focus exact Ao _);(focus exact hdrop.out _);(focus exact LEL.refl _);(focus exact hE.out _);(rintro d2 st2 ⟨M2,hok2,rfl,hp2⟩;refine⟨BP,?_⟩))|((with_reducible refine Bq hp2.symm ?_))|((with_reducible apply(Bj (f:=100) (henter:=call100) (hp:=Ao _) (h:=hpas.out M2 _ hok2)));(focus exact q_v);(focus exact q_l);(rintro d0 st0 ⟨S',h1,rfl,hp4⟩))|(with_reducible refine DM ?_)|refine QY ?_|refine QB ?_;intro b|with_reducible refine QZ ?_<;>(try constructor)<;>intro hb<;>try intro hb1|fail)
    all_goals exact⟨_::((.box nb 164 [.ptr S.g (k*9)]::(S'.st++st))++K'),(by rw[show(Res.box nb 164 [.ptr S.g (k*9)]::(S'.st++st))++K'=Res.box nb 164 [.ptr S.g (k*9)]::(S'.st++(st++K'))from by rw[AJ,Ai]];exact hp4.symm),_,((AL ..).trans (AL ..)),S',h1,rfl⟩
 . rintro d K1 C' rfl ⟨Si,hJ,rfl⟩
   have hfin:Hid (∃S',Nt.LeaI S id (S.ns.length - 1) S'/\D.tup []=D.tup []/\(S'.st++st).Perm (Si.st++st)):=⟨Si,by rw[Jv]at hJ;exact hJ,rfl,.refl _⟩
   repeat' (first|refine QX ?_|refine QB ?_;intro b|with_reducible refine QZ ?_<;>(try constructor)<;>intro hb<;>try intro hb1|fail)
   exact Em q_x q_y (.refl _) (Al _) (LE.refl _) hfin.out
end
section
attribute [local push_cast] Bs Bn BV V.cells_mk V.cells_len Nat.mul_one Int.sub_zero List.map_nil beq_self_eq_true bne_self_eq_false List.head?_cons Bool.not_true Bool.not_false Nat.zero_add
attribute [-instance] Ch Cr BL Dl
inductive IdsR (S:NC):Tok->List Int->Prop
|root {w:Tok} (h:w.anc.tail=[]):IdsR S w []
|zero {w p:Tok} {l:List Int} (hp:p∈S.H) (h:w.anc.tail=p.anc) (h0:w.id=0) (hl:IdsR S p l):IdsR S w l
|cons {w p:Tok} {l:List Int} (hp:p∈S.H) (h:w.anc.tail=p.anc) (h0:w.id≠0) (hl:IdsR S p l):IdsR S w (l++[w.id])
theorem IdsR.ex{S:NC}(hS:Nt.Str S []):∀(n:Nat) (w:Tok),w∈S.H->w.anc.length=n->∃l,IdsR S w l
|0,w,hw,hn=>absurd (Au hn) (hS.ne w hw)
|n+1,w,hw,hn=>by
  by_cases ht:w.anc.tail=[]
  . exact⟨[],.root ht⟩
  . obtain⟨p,hp,e⟩:=hS.up w hw ht
    obtain⟨l,hl⟩:=IdsR.ex hS n p hp (by rw[<-e,CD];omega)
    by_cases h0:w.id=0
    . exact⟨l,.zero hp e h0 hl⟩
    . exact⟨_,.cons hp e h0 hl⟩
def IdO (out:List Int)(d:D)(X:St):Prop:=(out=[]/\d=.sl .tight []/\X=[])\/∃g cap zs,(out.map D.i++zs).length=cap/\d=.ar g 0 out.length cap/\X=[.box g 3 (out.map D.i++zs)]
theorem NC.layW{S:NC}{w:Tok}(hw:w∈S.H)(s:St):∃(UC:List D) (RJ:St),(S.st++s).Perm (.box w.b 119 (w.fromD::.i w.lv::.i w.id::.sl .shared (w.env.map V.cells)::UC)::RJ):=by
 obtain⟨H0,hp⟩:=Nt.tok_split hw
 exact⟨_,_,(NC.at_tok hp).append_right s⟩
theorem d6(st:St):TrF prog 143 [.sl .tight []] st λd st'=>d=.tup []/\st'=st:=by
 refine Qin [] func143 results143 ntmps143 ?_
 repeat' (first|refine QX ?_|refine QB ?_;intro b|with_reducible refine QZ ?_<;>(try constructor)<;>intro hb<;>try intro hb1|fail)
 refine Bw (ι:=Nat) (λi A st'=>A.df=[]/\A.e 2=.i 0/\A.e 3=.i (-1)/\st'=st) (λi=>i) 0 ⟨Qf,Qf,Qf,rfl⟩ ?_
 rintro i A st' ⟨hdf,e2,e3,rfl⟩
 exact WR
theorem ff(S:NC)(w:Tok)(l:List Int)(hS:Nt.Str S [])(hw:w∈S.H)(hl:IdsR S w l)(st:St):TrF prog 107 [.ptr w.b 0] (S.st++st) λd st'=>∃X,IdO l d X/\st'.Perm (X++(S.st++st)):=by
 have hS2:=Aa hS
 clear hS
 refine Qin [2] func107 results107 ntmps107 ?_
 repeat' (first|refine QX ?_|refine QB ?_;intro b|with_reducible refine QZ ?_<;>(try constructor)<;>intro hb<;>try intro hb1|fail)
 refine Bw (ι:=Nat) (λn A st'=>∃(w:Tok) (l2 out:List Int) (d:D) (X:St),w∈S.H/\w.anc.length=n/\IdsR S w l2/\Hid (l2++out.reverse=l)/\out.length+n<=10/\IdO out d X/\A.df=[]/\A.e 0=.ptr w.b 0/\A.e 3=d/\st'.Perm (X++(S.st++st))) (λn=>n) w.anc.length ⟨w,l,[],_,[],hw,rfl,hl,by simp[Hid],?_,.inl ⟨rfl,rfl,rfl⟩,Qf,Qf,Qf,.refl _⟩ ?_
 . have:=hS2.out.lv w hw
   have:=hS2.out.nl
   show 0+_<=10
   omega
 clear hl hw w
 rintro n A st' ⟨w,l2,out,d,X,hw,hn,hl,hout,hlen,hO,hdf,e0,e3,hp⟩
 obtain⟨UC,RJ,v1⟩:=NC.layW hw st
 have hp2:st'.Perm (.box w.b 119 (w.fromD::.i w.lv::.i w.id::.sl .shared (w.env.map V.cells)::UC)::(X++RJ)):=(hp.trans (v1.append_left X)).trans AG
 refine Bq hp2 ?_
 by_cases ht:w.anc.tail=[]
 . have hfd:w.fromD=.s (.pointer none):=by unfold Tok.fromD;rw[ht]
   have hl0:l2=[]:=by
    cases hl with
    | root=>rfl
    | zero hq h=>exact absurd (h.symm.trans ht) (hS2.out.ne _ hq)
    | cons hq h=>exact absurd (h.symm.trans ht) (hS2.out.ne _ hq)
   subst hl0
   have hr:Hid (out.reverse=l):=by
    have:=hout.out
    rwa[AO]at this
   have hb:out.length<=10:=by omega
   have hv:Hid ((Res.box w.b 119 (.s (.pointer none)::.i w.lv::.i w.id::.sl .shared (w.env.map V.cells)::UC)::RJ).Perm (S.st++st)):=by
    rw[hfd]at v1
    exact v1.symm
   rw[hfd]
   clear hp2 v1 hout hl ht hfd hp hw hn hlen
   generalize w.env.map V.cells=TE at *
   rcases hO with⟨ho,rfl,rfl⟩|⟨g,cap,zs,hz,rfl,rfl⟩
   . subst ho
     have hR:=Aa d6
     rw[AO]
     repeat' (first|refine QV ?_|((with_reducible apply TR);(focus kernel_rfl);(focus exact q_v))|((with_reducible apply(Bj (f:=143) (henter:=call143) (hp:=Ao _) (h:=(hR.out _))));(focus exact q_v);(focus exact q_l);(rintro d0 st0 ⟨rfl,rfl⟩))|refine QY ?_|refine QB ?_;intro b|with_reducible refine QZ ?_<;>(try constructor)<;>intro hb<;>try intro hb1|fail)
     all_goals exact Bl (by simp) q_y (Al _) (LE.refl _) ⟨[],.inl ⟨hr.out.symm,by(try simp(disch:=omega) only[push_cast,simprocAttr, *]);(try exact rfl);done,rfl⟩,hv.out⟩
   . have hR:=Aa (d7 g cap out zs hz q_o)
     have hrr:=hr.out
     have hzr:Hid ((l.map D.i++zs).length=cap/\l.length=out.length):=by
      rw[<-hrr]
      refine Aa ⟨?_,Lh⟩
      rw[Ae,Ab,Lh]
      rw[Ae,Ab]at hz
      exact hz
     rw[hrr]at hR
     clear hrr
     rw[show∀(a b:Res) (c:St),a::([b]++c)=a::b::c fromλ_ _ _=>rfl]
     generalize out.map D.i++zs=RO at *
     generalize hRL:l.map D.i++zs=RL at *
     repeat' (first|refine QV ?_|((with_reducible apply TR);(focus kernel_rfl);(focus exact q_v))|((with_reducible apply(Bj (f:=143) (henter:=call143) (hp:=List.Perm.swap _ _ _) (h:=(hR.out _))));(focus exact q_v);(focus exact q_l);(rintro d0 st0 ⟨rfl,rfl⟩))|refine QY ?_|refine QB ?_;intro b|with_reducible refine QZ ?_<;>(try constructor)<;>intro hb<;>try intro hb1|fail)
     all_goals exact Bl (by simp) q_y (Al _) (LE.refl _) ⟨[.box g 3 RL],.inr ⟨g,cap,zs,by rw[hRL];exact hzr.out.1,by rw[hzr.out.2];(try simp(disch:=omega) only[push_cast,simprocAttr, *]);(try exact rfl);done,by rw[hRL]⟩,hv.out.cons _⟩
 . obtain⟨p,hpm,hpe⟩:=hS2.out.up w hw ht
   have hfd:w.fromD=.ptr p.b 0:=by
    have h1:=Nt.tok_b (hS2.out.ne p hpm)
    unfold Tok.fromD
    rw[hpe,h1]
   have hpn:p.anc.length+1=n:=by
    have h1:=Nt.tok_b (hS2.out.ne w hw)
    rw[h1,An,hpe]at hn
    exact hn
   have hback:Hid ((Res.box w.b 119 (.ptr p.b 0::.i w.lv::.i w.id::.sl .shared (w.env.map V.cells)::UC)::(X++RJ)).Perm (X++(S.st++st))):=by
    rw[<-hfd]
    exact hp2.symm.trans hp
   have hv:Hid ((Res.box w.b 119 (.ptr p.b 0::.i w.lv::.i w.id::.sl .shared (w.env.map V.cells)::UC)::RJ).Perm (S.st++st)):=by
    rw[hfd]at v1
    exact v1.symm
   rw[hfd]
   clear hp2 v1 hp hfd
   generalize w.env.map V.cells=TE at *
   cases hl with
   | root h=>exact absurd h ht
   | @zero _ p2 l3 hq h h0 hl3 =>
    have:=hS2.out.anc_b hq hpm (h.symm.trans hpe)
    subst this
    clear ht hw
    have HO:=Aa hO
    clear hO hn
    rw[h0]at *
    repeat' (first|refine QV ?_|((with_reducible apply(Kr (b:=p2.b) (off:=0)));(focus kernel_rfl);(focus exact q_v))|refine QY ?_|refine QB ?_;intro b|with_reducible refine QZ ?_<;>(try constructor)<;>intro hb<;>try intro hb1|fail)
    refine⟨p2.anc.length,_,Al _,⟨p2,l2,out,d,X,hq,rfl,hl3,hout,by omega,HO.out,?_,?_,?_,hback.out⟩,by omega⟩
    all_goals exact Qf
   | @cons _ p2 l3 hq h h0 hl3 =>
    have:=hS2.out.anc_b hq hpm (h.symm.trans hpe)
    subst this
    have hout2:Hid (l3++(out++[w.id]).reverse=l):=by
     have h1:=hout.out
     rw[Ai]at h1
     rw[List.reverse_append]
     exact h1
    have hol:(out++[w.id]).length+p2.anc.length<=10:=by rw[Ae,BM];omega
    clear ht hw hn hout
    generalize w.id=wi at *
    rcases hO with⟨ho,rfl,rfl⟩|⟨g,cap,zs,hz,rfl,rfl⟩
    . subst ho
      rw[AO]
      repeat' (first|refine QV ?_|((with_reducible apply(Kr (b:=p2.b) (off:=0)));(focus kernel_rfl);(focus exact q_v))|with_reducible refine IX ?_|with_reducible refine Lr ?_|((with_reducible apply IZ);(focus exact q_n);(focus exact CS rfl);(focus exact q_n);(focus exact q_n);intro g' cap' zs' hc hl')|refine QY ?_|refine QB ?_;intro b|with_reducible refine QZ ?_<;>(try constructor)<;>intro hb<;>try intro hb1|fail)
      refine⟨p2.anc.length,_,Al _,⟨p2,l3,[wi],.ar g' 0 1 cap',[.box g' 3 ([[D.i wi]].flatten++zs')],hq,rfl,hl3,hout2,hol,.inr ⟨g',cap',zs',?_,?_,rfl⟩,?_,?_,?_,hv.out.cons _⟩,by omega⟩
      . rw[Cx]at hl';exact hl'
      . exact rfl
      all_goals exact Qf
    . have hrl:(out.map D.i).length=out.length*1:=by rw[Ab,Cx]
      have hzl:(out.map D.i++zs).length=cap*1:=by rw[hz,Cx]
      have hle:out.length<=10:=by rw[Ae]at hol;omega
      have hmap:(out++[wi]).map D.i=out.map D.i++[[D.i wi]].flatten:=by rw[Bo];rfl
      rw[show∀(a b:Res) (c:St),a::([b]++c)=a::b::c fromλ_ _ _=>rfl]
      clear hback
      repeat' (first|refine QV ?_|((with_reducible apply(Kr (b:=p2.b) (off:=0)));(focus kernel_rfl);(focus exact q_v))|with_reducible refine Io ?_|with_reducible refine Kv ?_|((with_reducible apply(It hrl hzl));(focus(intro g' cs';repeat(first|exact Hn|apply Hm)));(focus exact CS rfl);(iterate 2 (focus exact q_n));intro g1 c1 z1 hc1 hl1)|refine QY ?_|refine QB ?_;intro b|with_reducible refine QZ ?_<;>(try constructor)<;>intro hb<;>try intro hb1|fail)
      refine⟨p2.anc.length,_,Al _,⟨p2,l3,out++[wi],.ar g1 0 (out.length+1) c1,[.box g1 3 (out.map D.i++[[D.i wi]].flatten++z1)],hq,rfl,hl3,hout2,hol,.inr ⟨g1,c1,z1,?_,?_,?_⟩,?_,?_,?_,?_⟩,by omega⟩
      . rw[hmap];rw[Cx]at hl1;exact hl1
      . rw[Ae,BM]
      . rw[hmap]
      . exact Qf
      . exact Qf
      . exact Qf
      . exact(List.Perm.swap _ _ _).trans (hv.out.cons _)
end
section
theorem Iv{α:Type}:∀{l m:List α},l.Nodup->m.Nodup->(∀a,a∈l↔a∈m)->l.Perm m
|[],m,_,_,h=>by
  cases m with
  | nil=>exact .refl _
  | cons b m=>exact absurd ((h b).2 (Ag ..)) AU
|a::l,m,hl,hm,h=>by
  obtain⟨m1,m2,rfl⟩:=LU ((h a).1 (Ag ..))
  have h1:=AG.nodup_iff.1 hm
  rw[Ba]at hl h1
  refine(List.Perm.cons a (Iv hl.2 h1.2 λb=>?_)).trans AG.symm
  constructor
  . intro hb
    have:=(h b).1 (Ad _ hb)
    rw[AG.mem_iff,Az]at this
    exact this.resolve_left (λe=>hl.1 (e▸hb))
  . intro hb
    have:b∈a::l:=(h b).2 (AG.mem_iff.2 (Ad _ hb))
    exact(Az.1 this).resolve_left (λe=>h1.1 (e▸hb))
theorem Jb{α β:Type}:∀{l:List α} {f g:α->List β},(∀a∈l,(f a).Perm (g a))->(l.flatMap f).Perm (l.flatMap g)
|[],_,_,_=>.refl _
|a::l,f,g,h=>by
  rw[Ce,Ce]
  exact(h a (Ag ..)).append (Jb λb hb=>h b (Ad _ hb))
namespace Mat
theorem aA{t:Ts}{f:Fc}{env e env':List V}(h:test t f env=some e)(hk:t.kind<5)(hl:env'.length=env.length):test t f env'=some env':=by
 unfold test at h |-
 rw[hl]
 by_cases hc:0<=t.slot/\t.slot<f.s.length/\0<=t.var/\t.var<env.length/\1<=t.kind/\t.kind<=9
 . rw[if_pos hc]at h |-
   rw[if_neg q_o,if_pos hk]at h |-
   split at h
   . rename_i hh;rw[if_pos hh]
   . cases h
 . rw[if_neg hc]at h;cases h
theorem Ym{t:Ts}{f:Fc}{env e:List V}(h:test t f env=some e):e.length=env.length:=by
 unfold test at h
 repeat' split at h
 all_goals first
  | (cases h;done)
  | (cases h;first|rfl|exact AW ..)
theorem Nb{f:Fc}:∀(l:List Ts) (env e:List V),tests f l env=some e->∀env':List V,env'.length=env.length->(tests f (l.filter λt=>decide (t.kind<5)) env').isSome=true
|[],_,_,_,env',_=>rfl
|t::l,env,e,h,env',hl=>by
  unfold tests at h
  cases ht:test t f env with
  | none=>rw[ht]at h;cases h
  | some e1 =>
   rw[ht]at h
   have h1:=Ym ht
   by_cases hk:t.kind<5
   . rw[Dn (by simpa using hk)]
     unfold tests
     rw[aA ht hk hl]
     exact Nb l e1 e h env' (by rw[h1,hl])
   . rw[Dp (by simpa using hk)]
     exact Nb l e1 e h env' (by rw[h1,hl])
theorem VY{p:Pt}{f:Fc}{env e:List V}(h:pass p f env=some e):solo p f=true:=by
 unfold pass at h
 by_cases hc:p.tmpl=f.tmpl/\env.length=8
 . rw[if_pos hc]at h
   unfold solo pass
   rw[if_pos ⟨hc.1,rfl⟩]
   exact Nb p.tests env e h empty (by rw[hc.2];rfl)
 . rw[if_neg hc]at h;cases h
theorem passL_alone(p:Pt)(F:List Fc)(env:List V):passL p (F.filter (solo p)) env=passL p F env:=by
 induction F with
|nil=>rfl
|cons f F ih =>
  by_cases ha:solo p f=true
  . rw[Dn ha]
    unfold passL at ih |-
    rw[DA,DA,ih]
  . rw[Dp ha,ih]
    have:pass p f env=none:=by
     cases h:pass p f env with
     | none=>rfl
     | some e=>exact absurd (VY h) ha
    rw[Nt.passL_none this]
theorem nil_iff{α:Type}{l m:List α}(h:l.Perm m):l=[]↔m=[]:=⟨λe=>kS.1 (e▸h.symm),λe=>kS.1 (e▸h)⟩
theorem passL_nodup(p:Pt){F:List Fc}(env:List V)(h:(F.map Fc.id).Nodup):((passL p F env).map Prod.fst).Nodup:=by
 refine h.sublist ?_
 induction F with
|nil=>exact Al _
|cons f F ih =>
  rw[Aw,Ba]at h
  have h1:=ih h.2
  unfold passL at h1 |-
  cases hp:pass p f env with
  | none=>rw[Ez (by rw[hp];rfl)];exact h1.cons _
  | some e=>rw[DI (by rw[hp];rfl)];exact h1.cons_cons _
theorem passL_mem{p:Pt}{F:List Fc}{env:List V}{y:Int×List V}(h:y∈passL p F env):∃f∈F,f.id=y.1/\pass p f env=some y.2:=by
 unfold passL at h
 obtain⟨f,hf,e⟩:=LR.1 h
 cases hp:pass p f env with
|none=>rw[hp] at e;cases e
|some e1=>rw[hp] at e;cases e;exact⟨f,hf,rfl,hp⟩
end Mat
namespace Nt
theorem exps_perm{p:Pt}{F G:List Fc}{env:List V}(h:F.Perm G):(exps p F env).Perm (exps p G env):=by
 unfold exps
 have h1:=passL_perm (p:=p) h env
 have h2:=Mat.nil_iff h1
 split
 . by_cases e:Mat.passL p F env=[]
   . rw[if_pos e,if_pos (h2.1 e)]
   . rw[if_neg e,if_neg (λk=>e (h2.2 k))]
 . exact h1
theorem exps_alone(p:Pt)(F:List Fc)(env:List V):exps p (F.filter (Mat.solo p)) env=exps p F env:=by
 unfold exps
 rw[Mat.passL_alone]
theorem exps_nodup(p:Pt){F:List Fc}(env:List V)(h:(F.map Fc.id).Nodup):(exps p F env).Nodup:=by
 unfold exps
 split
 . split
   . exact Ba.2 ⟨AU,Cw⟩
   . exact Cw
 . have h1:=Mat.passL_nodup p env h
   exact(Eb.1 h1).imp λhne e=>hne (congrArg Prod.fst e)
end Nt
def stp (p:Pt)(F:List Fc)(y:List Int×List V):List (List Int×List V):=(Nt.exps p F y.2).map λz=>(if p.neg=true then y.1 else y.1++[z.1],z.2)
theorem Nr(F:List Fc)(p:Pt):∀(ps:List Pt) (ids:List Int) (env:List V),Mat.from_ F (ps++[p]) ids env=(Mat.from_ F ps ids env).flatMap (stp p F)
|[],ids,env=>by
  rw[AO]
  simp only[Mat.from_,Ce,List.flatMap_nil,Bi]
  unfold stp Nt.exps
  dsimp only
  by_cases hn:p.neg=true
  . rw[if_pos hn,if_pos hn]
    by_cases h0:Mat.passL p F env=[]
    . rw[if_pos h0,if_pos h0];simp[hn]
    . rw[if_neg h0,if_neg h0];rfl
  . rw[if_neg hn,if_neg hn,List.map_eq_flatMap]
    refine Mat.flatMap_congr λz _=>?_
    rw[if_neg hn]
|q::ps,ids,env=>by
  rw[AJ]
  simp only[Mat.from_]
  by_cases hn:q.neg=true
  . rw[if_pos hn,if_pos hn]
    by_cases h0:Mat.passL q F env=[]
    . rw[if_pos h0,if_pos h0];exact Nr F p ps ids env
    . rw[if_neg h0,if_neg h0];rfl
  . rw[if_neg hn,if_neg hn,List.flatMap_assoc]
    exact Mat.flatMap_congr λx _=>Nr F p ps _ _
theorem from_perm{F G:List Fc}(h:F.Perm G):∀(ps:List Pt) (ids:List Int) (env:List V),(Mat.from_ F ps ids env).Perm (Mat.from_ G ps ids env)
|[],_,_=>.refl _
|p::ps,ids,env=>by
  simp only[Mat.from_]
  have h1:=Nt.passL_perm (p:=p) h env
  have h2:=Mat.nil_iff h1
  by_cases hn:p.neg=true
  . rw[if_pos hn,if_pos hn]
    by_cases e:Mat.passL p F env=[]
    . rw[if_pos e,if_pos (h2.1 e)];exact from_perm h ps ids env
    . rw[if_neg e,if_neg (λk=>e (h2.2 k))]
  . rw[if_neg hn,if_neg hn]
    exact(h1.flatMap_right _).trans (Jb λx _=>from_perm h ps _ _)
theorem IdsR.fn{S:NC}(hS:Nt.Str S []){w:Tok}{l m:List Int}(h:IdsR S w l)(k:IdsR S w m):l=m:=by
 induction h generalizing m with
|root h=>cases k with
  | root=>rfl
  | zero hp e=>exact absurd (e.symm.trans h) (hS.ne _ hp)
  | cons hp e=>exact absurd (e.symm.trans h) (hS.ne _ hp)
|zero hp e h0 hl ih=>cases k with
  | root h=>exact absurd (e.symm.trans h) (hS.ne _ hp)
  | zero hq e' h0' hl' =>
   have:=hS.anc_b hp hq (e.symm.trans e')
   subst this
   exact ih hl'
  | cons hq e' h0'=>exact absurd h0 h0'
|cons hp e h0 hl ih=>cases k with
  | root h=>exact absurd (e.symm.trans h) (hS.ne _ hp)
  | zero hq e' h0'=>exact absurd h0' h0
  | cons hq e' h0' hl' =>
   have:=hS.anc_b hp hq (e.symm.trans e')
   subst this
   rw[ih hl']
open Classical in
noncomputable def IR (S:NC)(w:Tok):List Int:=if h:∃l,IdsR S w l then Classical.choose h else[]
theorem Lc{S:NC}{w:Tok}(hS:Nt.Str S [])(hw:w∈S.H):IdsR S w (IR S w):=by
 have h:=IdsR.ex hS _ w hw rfl
 unfold IR
 rw[dif_pos h]
 exact Qn h
theorem Wu{S:NC}{w:Tok}(hS:Nt.Str S [])(hw:w∈S.H)(h:w.anc.tail=[]):IR S w=[]:=(Lc hS hw).fn hS (.root h)
theorem Zt{S:NC}{w p:Tok}(hS:Nt.Str S [])(hw:w∈S.H)(hp:p∈S.H)(h:w.anc.tail=p.anc):IR S w=if w.id=0 then IR S p else IR S p++[w.id]:=by
 by_cases h0:w.id=0
 . rw[if_pos h0];exact(Lc hS hw).fn hS (.zero hp h h0 (Lc hS hp))
 . rw[if_neg h0];exact(Lc hS hw).fn hS (.cons hp h h0 (Lc hS hp))
structure ChainOk (S:NC)(ps:List Pt)(F:List Fc):Prop where
 str:Nt.Str S []
 loc:Nt.Loc S []
 nl:S.ns.length=ps.length+1
 ns:∀(k:Nat) (p:Pt),ps[k]?=some p->∃y,S.ns[k]?=some y/\y.p=p/\y.fs.Perm (F.filter (Mat.solo p))
 last:∃y,S.ns[ps.length]?=some y/\y.fs=[]
def lvl (S:NC)(k:Nat):List Tok:=S.H.filter λu=>decide (u.anc.length=k+1)
def LM (S:NC)(t:Tok):List Tok:=S.H.filter λu=>decide (u.anc.tail=t.anc)
noncomputable def tkR (S:NC)(u:Tok):List Int×List V:=(IR S u,u.env)
variable {S:NC} {ps:List Pt} {F:List Fc}
theorem FM{k:Nat}{u:Tok}:u∈lvl S k↔u∈S.H/\u.anc.length=k+1:=by unfold lvl;rw[ER,decide_eq_true_iff]
theorem DZ{t u:Tok}:u∈LM S t↔u∈S.H/\u.anc.tail=t.anc:=by unfold LM;rw[ER,decide_eq_true_iff]
theorem Lk(hS:Nt.Str S []):S.H.Nodup:=(Eb.1 hS.nd).imp λhne e=>hne (congrArg Tok.b e)
theorem im(hS:Nt.Str S []){k:Nat}{x:Nd}(hx:S.ns[k]?=some x):x.ts.Perm ((lvl S k).map Tok.b):=by
 refine Iv (hS.tn k x hx) (Eb.2 (((Lk hS).sublist Ei).imp_of_mem λ{a b} ha hb hne e=>hne (hS.same (FM.1 ha).1 (FM.1 hb).1 e))) λb=>?_
 rw[hS.tm k x hx b,Ax]
 constructor
 . rintro⟨u,h1,h2,h3, -⟩;exact⟨u,FM.2 ⟨h1,h3⟩,h2⟩
 . rintro⟨u,h1,h2⟩;exact⟨u,(FM.1 h1).1,h2,(FM.1 h1).2,AU⟩
theorem Zp(h:ChainOk S ps F)(hid:∀f∈F,f.id≠0)(hnd:(F.map Fc.id).Nodup){k:Nat}{p:Pt}(hp:ps[k]?=some p){t:Tok}(ht:t∈lvl S k):((LM S t).map (tkR S)).Perm (stp p F (tkR S t)):=by
 obtain⟨x,hx,hxp,hxf⟩:=h.ns k p hp
 obtain⟨htm,htl⟩:=FM.1 ht
 have hkl:=(Af.1 hp).1
 have hP:=(h.loc t htm AU).part (by rw[htl,h.nl];omega) (x:=x) (by rw[htl];exact hx)
 have hfe:∀y,y∈Nt.exps x.p x.fs t.env↔y∈Nt.exps p F t.env:=λy=>by
  rw[hxp,<-Nt.exps_alone p F]
  exact(Nt.exps_perm hxf).mem_iff
 have h1:((LM S t).map λu=>(u.id,u.env)).Perm (Nt.exps p F t.env):=by
  refine Iv ?_ (Nt.exps_nodup p _ hnd) λy=>?_
  . refine Eb.2 (((Lk h.str).sublist Ei).imp_of_mem λ{a b} ha hb hne e=>hne ?_)
    exact hP.one a (DZ.1 ha).1 b (DZ.1 hb).1 (DZ.1 ha).2 (DZ.1 hb).2 (congrArg Prod.fst e)
  . rw[Ax,<-hfe]
    constructor
    . rintro⟨u,hu,rfl⟩
      exact hP.sub u (DZ.1 hu).1 (DZ.1 hu).2
    . intro hy
      obtain⟨u,u1,u2,u3⟩:=hP.all y hy
      exact⟨u,DZ.2 ⟨u1,u2⟩,u3⟩
 have h2:(LM S t).map (tkR S)=((LM S t).map λu=>(u.id,u.env)).map λz=>((if z.1=0 then IR S t else IR S t++[z.1],z.2):List Int×List V):=by
  rw[Ec]
  refine List.map_congr_left λu hu=>?_
  obtain⟨u1,u2⟩:=DZ.1 hu
  show(IR S u,u.env)=_
  rw[Zt h.str u1 htm u2]
  rfl
 rw[h2]
 refine(h1.map _).trans ?_
 unfold stp
 refine Ij (List.map_congr_left λz hz=>?_)
 show _=((if p.neg=true then IR S t else IR S t++[z.1],z.2):List Int×List V)
 unfold Nt.exps at hz
 by_cases hn:p.neg=true
 . rw[if_pos hn]at hz |-
   by_cases h0:Mat.passL p F t.env=[]
   . have hz:z∈(if Mat.passL p F t.env=[]then[((0:Int),t.env)]else[]):=hz
     rw[if_pos h0,Ay]at hz
     rw[hz,if_pos rfl]
   . have hz:z∈(if Mat.passL p F t.env=[]then[((0:Int),t.env)]else[]):=hz
     rw[if_neg h0]at hz
     cases hz
 . rw[if_neg hn]at hz |-
   obtain⟨f,hf,e, -⟩:=Mat.passL_mem hz
   rw[if_neg (by rw[<-e];exact hid f hf)]
theorem UN(h:ChainOk S ps F)(hid:∀f∈F,f.id≠0)(hnd:(F.map Fc.id).Nodup):∀k,k<=ps.length->((lvl S k).map (tkR S)).Perm (Mat.from_ F (ps.take k) [] Mat.empty)
|0,_=>by
  obtain⟨r,r1,r2,r3,r4⟩:=h.str.rx
  have h1:(lvl S 0).Perm [r]:=Iv ((Lk h.str).sublist Ei) (Ba.2 ⟨AU,Cw⟩) λu=>by
   rw[FM,Ay]
   constructor
   . rintro⟨u1,u2⟩;exact h.str.same u1 r1 (h.str.rt u u1 r r1 u2 r2)
   . rintro rfl;exact⟨r1,r2⟩
  refine(h1.map _).trans ?_
  have h2:tkR S r=([],Mat.empty):=by
   unfold tkR
   rw[Wu h.str r1 (Au (by rw[CD,r2])),r4]
  rw[Aw,BF,h2]
  exact .refl _
|k+1,hk=>by
  obtain⟨p,hp⟩:=gEx (l:=ps) (i:=k) q_o
  rw[Br,hp,BQ,Nr]
  have ih:=(UN h hid hnd k q_o).flatMap_right (stp p F)
  refine List.Perm.trans ?_ ih
  rw[List.flatMap_map]
  have h1:(lvl S (k+1)).Perm ((lvl S k).flatMap (LM S)):=by
   refine Iv ((Lk h.str).sublist Ei) (List.pairwise_flatMap.2 ⟨λa _=>(Lk h.str).sublist Ei,((Lk h.str).sublist Ei).imp_of_mem λ{a b} ha hb hne=>?_⟩) λu=>?_
   . rintro x hx y hy rfl
     exact hne (h.str.anc_b (FM.1 ha).1 (FM.1 hb).1 ((DZ.1 hx).2.symm.trans (DZ.1 hy).2))
   . rw[FM,Et]
     constructor
     . rintro⟨u1,u2⟩
       have hne:u.anc.tail≠[]:=λe=>by
        have:=congrArg List.length e
        rw[CD,u2]at this
        cases this
       obtain⟨t,t1,t2⟩:=h.str.up u u1 hne
       refine⟨t,FM.2 ⟨t1,?_⟩,DZ.2 ⟨u1,t2⟩⟩
       rw[<-t2,CD,u2];rfl
     . rintro⟨t,t1,t2⟩
       obtain⟨u1,u2⟩:=DZ.1 t2
       have h3:=(FM.1 t1).2
       have h4:=congrArg List.length u2
       rw[CD]at h4
       have:=Cj.2 (h.str.ne u u1)
       exact⟨u1,by omega⟩
  refine(h1.map _).trans ?_
  rw[List.map_flatMap]
  exact Jb λt ht=>Zp h hid hnd hp ht
end
section
theorem RM:∀l:List Int,(l.map Bn).flatten=l.map D.i
|[]=>rfl
|a::l=>by rw[Aw,AK,RM l];rfl
section
variable {P:Program} {f:FuncId} {args:List D} {st s0:St} {l:List Int}
theorem TrF.frI(h:TrF P f args st λd st'=>∃X,IdO l d X/\st'.Perm (X++s0)):TrF P f args st λd st'=>d=.sl .shared (l.map Bn)/\st'=s0:=by
 intro vs w h1 h2
 refine(h vs w h1 h2).mono λ_ w' ⟨v,ev,d,s,k1,k2,k3,X,hX,hp⟩=>?_
 have k1':Rep (OwnS (X++s0)) w' v d:=by rw[<-OwnS.perm hp];exact k1
 have k2':Holds (X++s0) w':=k2.perm hp
 have k3':Ext (OwnS st) w (OwnS (X++s0)) w':=by rw[<-OwnS.perm hp];exact k3
 rcases hX with⟨rfl,rfl,rfl⟩|⟨g,cap,zs,hz,rfl,rfl⟩
 . exact⟨v,ev,_,s0,(LE.sl .tight []) _ _ _ k1',k2',k3',rfl,rfl⟩
 . have hfl:=RM l
   have hes:∀e∈l.map Bn,e.length=1:=λe he=>by
    obtain⟨a, -,rfl⟩:=Ax.1 he
    rfl
   rw[<-hfl]at k1' k2' k3'
   have hr:=Kt (sz:=1) k2' (by decide) hes (Ab ..) v k1'
   have he:=Ext.drop (st:=.box g 3 ((l.map Bn).flatten++zs)::s0) (st':=s0) (λ_ h=>Ad _ h) w'
   exact⟨v,ev,_,s0,hr,k2'.sub (AL _ _),k3'.trans he,rfl,rfl⟩
end
theorem mK(S:NC)(w:Tok)(hS:Nt.Str S [])(hw:w∈S.H)(st:St):TrF prog 107 [.ptr w.b 0] (S.st++st) λd st'=>d=.sl .shared ((IR S w).map Bn)/\st'=S.st++st :=
 (ff S w _ hS hw (Lc hS hw) st).frI
section
variable {P:Program} {N:Nat} {r:Option Nat} {c:Code} {A:AA} {st:St} {Q:Exit->AA->St->Prop}
theorem ax{b:Nat}{ty:TypeId}{cs cs':List D}{s:St}(hp:st.Perm (.box b ty cs::s))(hle:LEL cs cs')(hl:∀d∈cs',d.leaf=true)(h:Tr P N r c A (.box b ty cs'::s) Q):Tr P N r c A st Q:=by
 refine Bq hp ?_
 intro a w h1 h2
 obtain⟨⟨us,hb,hr⟩,hlc⟩:=h2.2 (.box b ty cs) (Ag ..)
 have hO:OwnS (.box b ty cs::s)=OwnS (.box b ty cs'::s):=by
  funext b' off;apply propext
  rw[OwnS.cons_iff,OwnS.cons_iff];exact Na
 have h4:Holds (.box b ty cs'::s) w:=by
  refine⟨AV.2 ⟨λx hx b' hb'=>(AV.1 h2.1).1 x hx b' hb',(AV.1 h2.1).2⟩,λx hx=>?_⟩
  rcases Az.1 hx with rfl|hx
  . exact⟨⟨us,hb,by rw[<-hO];exact hle.repL hr⟩,hl⟩
  . rw[<-hO];exact h2.2 x (Ad _ hx)
 have he:Ext (OwnS (.box b ty cs::s)) w (OwnS (.box b ty cs'::s)) w:=by rw[<-hO];exact Ext.refl _ _
 exact wpIn_mono (h a w (h1.ext he) h4) λ_ _ _=>PostA.ext he
end
end
section
structure NT where
 b:Nat
 cs:List NC
 fm:MemP
 fs:List Fc
def NT.row (N:NT):List (List D):=N.cs.map λS=>[D.ptr S.c 0]
def NT.cells (N:NT):List D:=.sl .shared N.row::N.fm.cells N.fs.length
def NT.st (N:NT):St:=.box N.b 105 N.cells::(N.fm.resF N.fs++N.cs.flatMap NC.st)
structure NT.Ok (N:NT)(R:List Rl):Prop where
 fok:N.fm.okF N.fs
 fk:FKs N.fs
 fl:N.fs.length<=1000
 f0:∀f∈N.fs,f.id≠0
 cl:N.cs.length=R.length
 ch:∀(i:Nat) (x:Rl) (S:NC),R[i]?=some x->N.cs[i]?=some S->ChainOk S x.pats N.fs
variable {S S':NC} {ps:List Pt} {F G:List Fc} {f:Fc}
theorem ChainOk.node(h:ChainOk S ps F){x:Nd}(hx:x∈S.ns):(∃p,x.fs.Perm (F.filter (Mat.solo p)))\/x.fs=[]:=by
 obtain⟨k,hk⟩:=BT hx
 have hkl:=(Af.1 hk).1
 rw[h.nl]at hkl
 by_cases e:k=ps.length
 . obtain⟨y,y1,y2⟩:=h.last
   rw[e,y1]at hk
   cases hk
   exact .inr y2
 . obtain⟨p,hp⟩:=gEx (l:=ps) (i:=k) q_o
   obtain⟨y,y1, -,y2⟩:=h.ns k p hp
   rw[y1]at hk
   cases hk
   exact .inl ⟨p,y2⟩
theorem ChainOk.new(h:ChainOk S ps F)(hf:f.id∉F.map Fc.id):∀x∈S.ns,f.id∉x.fs.map Fc.id:=λx hx hm=>by
 rcases h.node hx with⟨p,hp⟩|e
 . obtain⟨g,hg,e⟩:=Ax.1 hm
   exact hf (Ax.2 ⟨g,(ER.1 (hp.mem_iff.1 hg)).1,e⟩)
 . rw[e]at hm;cases hm
theorem ChainOk.few(h:ChainOk S ps F){n:Nat}(hn:F.length<n):∀x∈S.ns,x.fs.length<n:=λx hx=>by
 rcases h.node hx with⟨p,hp⟩|e
 . rw[hp.length_eq]
   exact WX (Jy ..) hn
 . rw[e];exact WX (Aq _) hn
theorem ChainOk.come(h:ChainOk S ps F)(hC:Nt.ComeI S f (S.ns.length - 1) S'):ChainOk S' ps (F++[f]):=by
 refine⟨hC.str,hC.loc,hC.nl.trans h.nl,λk p hp=>?_,?_⟩
 . obtain⟨x,hx,hxp,hxf⟩:=h.ns k p hp
   obtain⟨y,y1,y2,y3⟩:=hC.ns k x hx
   have hkl:=(Af.1 hp).1
   refine⟨y,y1,y2.trans hxp,?_⟩
   rw[y3,IE]
   by_cases ha:Mat.solo p f=true
   . rw[if_pos ⟨by omega,by rw[h.nl];omega,by rw[hxp];exact ha⟩,Dn ha]
     exact hxf.append_right _
   . rw[if_neg (λh1=>ha (by rw[<-hxp];exact h1.2.2)),Dp ha]
     show x.fs.Perm (_++[])
     rw[Bi]
     exact hxf
 . obtain⟨x,hx,hxf⟩:=h.last
   obtain⟨y,y1,y2,y3⟩:=hC.ns _ x hx
   refine⟨y,y1,?_⟩
   rw[y3,if_neg (by rw[h.nl];omega)]
   exact hxf
theorem ChainOk.leave{id:Int}(h:ChainOk S ps F)(hC:Nt.LeaI S id (S.ns.length - 1) S')(hG:G.Perm (EV id F)):ChainOk S' ps G:=by
 refine⟨hC.str,hC.loc,hC.nl.trans h.nl,λk p hp=>?_,?_⟩
 . obtain⟨x,hx,hxp,hxf⟩:=h.ns k p hp
   obtain⟨y,y1,y2,y3⟩:=hC.ns k x hx
   have hkl:=(Af.1 hp).1
   refine⟨y,y1,y2.trans hxp,?_⟩
   rw[if_pos ⟨by omega,by rw[h.nl];omega⟩]at y3
   refine y3.trans (((hxf.filter _).trans ?_).trans (hG.filter _).symm)
   unfold EV
   rw[List.filter_filter,List.filter_filter]
   refine Ij (List.filter_congr λg _=>Bool.and_comm _ _)
 . obtain⟨x,hx,hxf⟩:=h.last
   obtain⟨y,y1,y2,y3⟩:=hC.ns _ x hx
   refine⟨y,y1,?_⟩
   rw[if_neg (by rw[h.nl];omega)]at y3
   rw[y3]
   exact hxf
theorem ChainOk.perm(h:ChainOk S ps F)(hG:F.Perm G):ChainOk S ps G:=⟨h.str,h.loc,h.nl,λk p hp=>by
 obtain⟨x,h1,h2,h3⟩:=h.ns k p hp
 exact⟨x,h1,h2,h3.trans (hG.filter _)⟩,h.last⟩
theorem NT.Ok.nodup{N:NT}{R:List Rl}(h:N.Ok R):(N.fs.map Fc.id).Nodup:=KZ h.fok
theorem ZK{cs:List NC}{i:Nat}(h:cs[i]?=some S):(cs.flatMap NC.st).Perm (S.st++((cs.take i).flatMap NC.st++(cs.drop (i+1)).flatMap NC.st)):=by
 conv=>lhs;rw[show cs=cs.take i++S::cs.drop (i+1) by rw[<-V.drop_cons h,Bz]]
 rw[Vu,Ce,<-Ai,<-Ai]
 exact Ff _ Bk
structure StepC (cs:List NC)(R:List Rl)(F G:List Fc)(i:Nat)(cs':List NC):Prop where
 row:cs'.map NC.c=cs.map NC.c
 done:∀(j:Nat) (x:Rl) (S:NC),j<i->R[j]?=some x->cs'[j]?=some S->ChainOk S x.pats G
 todo:∀j,i<=j->cs'[j]?=cs[j]?
theorem StepC.zero(cs:List NC)(R:List Rl)(F G:List Fc):StepC cs R F G 0 cs:=⟨rfl,λ_ _ _ h=>absurd h (BI _),λ_ _=>rfl⟩
theorem StepC.len{cs cs':List NC}{R:List Rl}{i:Nat}(h:StepC cs R F G i cs'):cs'.length=cs.length:=by
 have:=congrArg List.length h.row
 rwa[Ab,Ab]at this
theorem StepC.next{cs cs':List NC}{R:List Rl}{i:Nat}{x:Rl}(h:StepC cs R F G i cs')(hx:R[i]?=some x)(hS:cs[i]?=some S)(hc:S'.c=S.c)(hok:ChainOk S' x.pats G):StepC cs R F G (i+1) (cs'.set i S'):=by
 have hS2:=(h.todo i (Ap _)).trans hS
 have hil:=(Af.1 hS2).1
 refine⟨?_,λj y T hj hy hT=>?_,λj hj=>?_⟩
 . rw[<-h.row,FA,hc]
   apply Cu
   intro k
   rw[GC]
   by_cases e:i=k
   . subst e
     rw[if_pos rfl,Ab,if_pos hil,Ar,hS2]
     rfl
   . rw[if_neg e]
 . by_cases e:i=j
   . subst e
     rw[BB hil]at hT
     cases hT
     rw[hx]at hy
     cases hy
     exact hok
   . rw[DS e]at hT
     exact h.done j y T q_o hy hT
 . rw[DS q_o]
   exact h.todo j q_o
theorem StepC.row_eq{cs cs':List NC}{R:List Rl}{i:Nat}(h:StepC cs R F G i cs'):(cs'.map λS=>[D.ptr S.c 0])=cs.map λS=>[D.ptr S.c 0]:=by
 have:=congrArg (List.map λc=>[D.ptr c 0]) h.row
 rwa[Ec,Ec]at this
end
section
def GE (p:Pt):Nd:=⟨p,.no,[],.no,[]⟩
def WE:Pt:=⟨0,false,[]⟩
def DP (ps:List Pt):List Nd:=ps.map GE++[GE WE]
def Xq (kb:Nat):Tok:=⟨[kb],0,Mat.empty,.no,[],0⟩
def LN (c g cap:Nat)(zs:List D)(ps:List Pt)(kb:Nat):NC:=⟨c,g,cap,zs,DP ps,[Xq kb]⟩
theorem IU(ps:List Pt):(DP ps).length=ps.length+1:=by unfold DP;rw[Ae,Ab];rfl
theorem KK{ps:List Pt}{x:Nd}(h:x∈DP ps):∃p,(p∈ps\/p=WE)/\x=GE p:=by
 unfold DP at h
 rcases Bh.1 h with h|h
 . obtain⟨p,hp,rfl⟩:=Ax.1 h
   exact⟨p,.inl hp,rfl⟩
 . exact⟨WE,.inr rfl,Ay.1 h⟩
theorem Wx{ps:List Pt}{k:Nat}{p:Pt}(h:ps[k]?=some p):(DP ps)[k]?=some (GE p):=by
 unfold DP
 rw[AY (by rw[Ab];exact(Af.1 h).1),Ar,h]
 rfl
theorem SZ(ps:List Pt):(DP ps)[ps.length]?=some (GE WE):=by
 unfold DP
 rw[BN (by rw[Ab];exact Ap _),Ab,He]
 rfl
theorem ft:PK WE:=⟨λt h=>(by cases h),Aq _⟩
theorem XD:FKs []:=⟨λf h=>(by cases h),Aq _⟩
variable {c g cap kb:Nat} {zs:List D} {ps:List Pt}
theorem Zu(hrow:(Cz (DP ps)++zs).length=cap*9)(hl:ps.length<=4)(hp:∀p∈ps,PK p):Nt.Str (LN c g cap zs ps kb) [kb]:=by
 have hm:∀t,t∈(LN c g cap zs ps kb).H->t=Xq kb:=λt h=>Ay.1 h
 have hn:∀x,x∈(LN c g cap zs ps kb).ns->∃p,(p∈ps\/p=WE)/\x=GE p:=λx h=>KK h
 constructor
 . intro t h;rw[hm t h];exact Gb _ _
 . exact Ba.2 ⟨AU,Cw⟩
 . intro t h hne;rw[hm t h]at hne;exact absurd rfl hne
 . intro u hu v hv _ _;rw[hm u hu,hm v hv]
 . intro t h;rw[hm t h];exact Cw
 . intro t h b
   rw[hm t h]
   refine⟨λhb=>(by cases hb),?_⟩
   rintro⟨u,hu, -,e⟩
   rw[hm u hu]at e
   cases e
 . intro t h;rw[hm t h];exact Aq _
 . intro t h
   rw[hm t h]
   show 1<=(DP ps).length
   rw[IU];omega
 . intro k x hx
   obtain⟨p, -,rfl⟩:=hn x (Ah hx)
   exact Cw
 . intro k x hx b
   obtain⟨p, -,rfl⟩:=hn x (Ah hx)
   refine⟨λhb=>(by cases hb),?_⟩
   rintro⟨u,hu,e, -,hb⟩
   rw[hm u hu]at e
   exact absurd (Ay.2 e.symm) hb
 . intro t h;rw[hm t h];exact⟨rfl,rfl⟩
 . intro x hx
   obtain⟨p, -,rfl⟩:=hn x hx
   exact⟨⟨rfl,rfl⟩,⟨rfl,rfl⟩⟩
 . exact hrow
 . show(DP ps).length<=5
   rw[IU];omega
 . intro t h;rw[hm t h];exact empty_ek
 . intro x hx
   obtain⟨p,h1,rfl⟩:=hn x hx
   refine⟨?_,XD,Aq _⟩
   rcases h1 with h1|rfl
   . exact hp p h1
   . exact ft
 . intro t h;rw[hm t h];exact⟨MZ _,(by show(0:Int)<=1000;decide)⟩
 . exact⟨Xq kb,Ag ..,rfl,rfl,rfl⟩
theorem Zv:Nt.Loc (LN c g cap zs ps kb) [kb]:=λt h hb=>by
 rw[Ay.1 h]at hb
 exact absurd (Ag ..) hb
theorem ci{S':NC}(hS:Nt.Str S' [])(hL:Nt.Loc S' [])(hK:Nt.Kept (LN c g cap zs ps kb) S'):ChainOk S' ps []:=by
 refine⟨hS,hL,hK.nl.trans (IU ps),λk p hp=>?_,?_⟩
 . obtain⟨y,y1,y2,y3⟩:=hK.ns k _ (Wx hp)
   exact⟨y,y1,y2,by rw[y3];exact .refl _⟩
 . obtain⟨y,y1,y2,y3⟩:=hK.ns _ _ (SZ ps)
   exact⟨y,y1,y3⟩
theorem cg:(LN c g cap zs ps kb).st=[.box c 109 [.ar g 0 (ps.length+1) cap],.box g 115 (Cz (DP ps)++zs),.box kb 119 [.s (.pointer none),.i 0,.i 0,.sl .shared (Mat.empty.map V.cells),.s (.map none),.sl .tight [],.sl .tight [],.i 0]]:=by
 have h1:∀ns:List Nd,(∀x∈ns,∃p,(p∈ps\/p=WE)/\x=GE p)->ns.flatMap Nd.res=[]:=λns h=>by
  induction ns with
  | nil=>rfl
  | cons x ns ih =>
   rw[Ce,ih λy hy=>h y (Ad _ hy)]
   obtain⟨p, -,rfl⟩:=h x (Ag ..)
   rfl
 unfold NC.st NC.cbox NC.gbox
 show .box c _ [.ar g 0 (DP ps).length cap]::_::((DP ps).flatMap Nd.res++_)=_
 rw[h1 _ λx h=>KK h,IU]
 rfl
end
section
attribute [local push_cast] Bs Bn BV V.cells_mk V.cells_len Nat.mul_one Int.sub_zero List.map_nil beq_self_eq_true bne_self_eq_false List.head?_cons Bool.not_true Bool.not_false Nat.zero_add
theorem Holds.boxLE{b:Nat}{ty:TypeId}{cs cs':List D}{s:St}{w:World}(h:Holds (.box b ty cs::s) w)(hle:LEL cs cs')(hl:∀d∈cs',d.leaf=true):Holds (.box b ty cs'::s) w/\OwnS (.box b ty cs::s)=OwnS (.box b ty cs'::s):=by
 obtain⟨⟨us,hb,hr⟩,hlc⟩:=h.2 (.box b ty cs) (Ag ..)
 have hO:OwnS (.box b ty cs::s)=OwnS (.box b ty cs'::s):=by
  funext b' off;apply propext
  rw[OwnS.cons_iff,OwnS.cons_iff];exact Na
 refine⟨⟨AV.2 ⟨λx hx b' hb'=>(AV.1 h.1).1 x hx b' hb',(AV.1 h.1).2⟩,λx hx=>?_⟩,hO⟩
 rcases Az.1 hx with rfl|hx
 . exact⟨⟨us,hb,by rw[<-hO];exact hle.repL hr⟩,hl⟩
 . rw[<-hO];exact h.2 x (Ad _ hx)
def WU (l:List Fc):Prop:=l.Pairwise λa b=>a.id<=b.id
def Ws (f:Fc):List Fc->List Fc
|[]=>[f]
|g::l=>if f.id<g.id then f::g::l else g::Ws f l
theorem Jr(f:Fc):∀l,(Ws f l).Perm (f::l)
|[]=>.refl _
|g::l=>by
  unfold Ws
  split
  . exact .refl _
  . exact((Jr f l).cons g).trans (List.Perm.swap _ _ _)
theorem Pd(f:Fc):∀{l},WU l->WU (Ws f l)
|[],_=>AV.2 ⟨fun a h=>(by cases h),List.Pairwise.nil⟩
|g::l,h=>by
  have h1:=AV.1 h
  unfold Ws
  split
  . refine AV.2 ⟨λa ha=>?_,h⟩
    rcases Az.1 ha with rfl|ha
    . omega
    . have:=h1.1 a ha;omega
  . refine AV.2 ⟨λa ha=>?_,Pd f h1.2⟩
    rcases Az.1 ((Jr f l).mem_iff.1 ha)with rfl|ha
    . omega
    . exact h1.1 a ha
def nL (f:Fc)(put:Bool)(out:List Fc)(l:List Fc):List Fc:=if put=true then out++l else out++Ws f l
end
section
attribute [local push_cast] Bs Bn BV V.cells_mk V.cells_len Nat.mul_one Int.sub_zero List.map_nil beq_self_eq_true bne_self_eq_false List.head?_cons Bool.not_true Bool.not_false Nat.zero_add
attribute [-instance] Ch Cr BL Dl
def mT (ns:List Nd)(d:D)(X:St):Prop:=(ns=[]/\d=.sl .tight []/\X=[])\/∃g cap zs,(Cz ns++zs).length=cap*9/\d=.ar g 0 ns.length cap/\X=[.box g 115 (Cz ns++zs)]
def OF (cs:List NC):List D:=cs.map λS=>D.ptr S.c 0
def ChO (cs:List NC)(d:D)(X:St):Prop:=(cs=[]/\d=.sl .tight []/\X=[])\/∃g cap zs,(OF cs++zs).length=cap*1/\d=.ar g 0 cs.length cap/\X=[.box g 106 (OF cs++zs)]
theorem Ua(ns:List Nd)(x:Nd):Cz (ns++[x])=Cz ns++[x.cells].flatten:=by
 unfold Cz
 rw[Bo,CQ]
 rfl
theorem WB(c g cap kb:Nat)(zs:List D)(ps:List Pt)(hrow:(Cz (DP ps)++zs).length=cap*9)(hl:ps.length<=4)(hp:∀p∈ps,PK p)(st:St):TrF prog 63 [.ptr c 0,.ptr kb 0] (.box kb 119 [.s (.pointer none),.i 0,.i 0,.sl .shared (Mat.empty.map V.cells),.s (.map none),.sl .tight [],.sl .tight [],.i 0]::.box c 109 [.ar g 0 (ps.length+1) cap]::.box g 115 (Cz (DP ps)++zs)::st) λd st'=>∃S',ChainOk S' ps []/\S'.c=c/\d=.tup []/\(S'.st++st).Perm st':=by
 have h:=iC 0 (LN c g cap zs ps kb) (Xq kb) [] (Zu hrow hl hp) Zv (Ag ..) rfl rfl rfl st
 rw[cg]at h
 refine(TrF.perm ?_ h).mono λd st' ⟨S',h1,h2,h3,h4,h5⟩=>⟨S',ci h1 h2 h3.toKept,h3.c,h4,h5⟩
 exact(AG (l₁:=[_,_])).symm
theorem XH:∀(A:List D) {l l':List D},LEL l l'->LEL (A++l) (A++l')
|[],_,_,h=>h
|a::A,_,_,h=>⟨LE.refl a,XH A h⟩
theorem TrF.boxIn{P:Program}{f:FuncId}{args:List D}{b:Nat}{ty:TypeId}{cs cs':List D}{s:St}{R:D->St->Prop}(hle:LEL cs cs')(hl:(∀d∈cs,d.leaf=true)->∀d∈cs',d.leaf=true)(h:TrF P f args (.box b ty cs'::s) R):TrF P f args (.box b ty cs::s) R:=by
 intro vs w h1 h2
 obtain⟨q1,q2⟩:=h2.boxLE hle (hl (h2.2 (.box b ty cs) (Ag ..)).2)
 refine(h vs w (by rw[<-q2];exact h1) q1).mono λ_ w' ⟨v,ev,d,s',k1,k2,k3,k4⟩=>?_
 exact⟨v,ev,d,s',k1,k2,by rw[q2];exact k3,k4⟩
theorem Zc{ns:List Nd}(h:∀x∈ns,∃p,x=GE p):∀d∈Cz ns,d.leaf=true:=λd hd=>by
 obtain⟨e,he,hd⟩:=Hf.1 hd
 obtain⟨x,hx,rfl⟩:=Ax.1 he
 obtain⟨p,rfl⟩:=h x hx
 have hd:d∈[D.i p.tmpl,.b p.neg,.sl .shared (p.tests.map Ts.cells),.s (.map none),.sl .tight [],.sl .tight [],.s (.map none),.sl .tight [],.sl .tight []]:=hd
 simp only[Az,AU,or_false]at hd
 rcases hd with rfl|rfl|rfl|rfl|rfl|rfl|rfl|rfl|rfl<;>rfl
theorem NM(ps:List Pt):Cz (DP ps)=Cz (ps.map GE)++[D.i 0,.b false,.sl .shared [],.s (.map none),.sl .tight [],.sl .tight [],.s (.map none),.sl .tight [],.sl .tight []]:=by
 unfold DP
 rw[Ua]
 rfl
theorem Ve(c g cap kb:Nat)(zs:List D)(ps:List Pt)(hrow:(Cz (ps.map GE)++[D.i 0,.b false,.sl .tight [],.s (.map none),.sl .tight [],.sl .tight [],.s (.map none),.sl .tight [],.sl .tight []]++zs).length=cap*9)(hl:ps.length<=4)(hp:∀p∈ps,PK p)(st:St):TrF prog 63 [.ptr c 0,.ptr kb 0] (.box g 115 (Cz (ps.map GE)++[D.i 0,.b false,.sl .tight [],.s (.map none),.sl .tight [],.sl .tight [],.s (.map none),.sl .tight [],.sl .tight []]++zs)::.box kb 119 [.s (.pointer none),.i 0,.i 0,.sl .shared (Mat.empty.map V.cells),.s (.map none),.sl .tight [],.sl .tight [],.i 0]::.box c 109 [.ar g 0 (ps.length+1) cap]::st) λd st'=>∃S',ChainOk S' ps []/\S'.c=c/\d=.tup []/\(S'.st++st).Perm st':=by
 have hrow2:(Cz (DP ps)++zs).length=cap*9:=by
  rw[<-hrow,NM]
  simp only[Ae,An,BZ]
 refine TrF.boxIn (cs':=Cz (DP ps)++zs) ?_ ?_ ?_
 . rw[NM,Ai,Ai]
   exact XH _ ⟨LE.refl _,LE.refl _,LE.sl _ _,LEL.refl _⟩
 . intro hlf d hd
   rcases Bh.1 hd with hd|hd
   . exact Zc (λx hx=>by obtain⟨p, -,h⟩:=KK hx;exact⟨p,h⟩) d hd
   . exact hlf d (Bc _ hd)
 . exact TrF.perm ((List.Perm.swap _ _ _).trans ((List.Perm.swap _ _ _).cons _)) (WB c g cap kb zs ps hrow2 hl hp st)
theorem Oc(R:List Rl)(hR:∀x∈R,XK x/\1<=x.pats.length/\x.pats.length<=4)(hRl:R.length<=1000)(st:St):TrF prog 32 [.sl .shared (R.map Rl.cells)] st λd st'=>∃N:NT,N.Ok R/\N.fs=[]/\d=.ptr N.b 0/\(N.st++st).Perm st':=by
 have hEm:=Aa Rk
 have hRm:(R.map Rl.cells).length=R.length:=Ab ..
 have hRc:=hMp Rl.cells R
 have HR:Hid _:=hR
 clear hR
 generalize R.map Rl.cells=RC at *
 refine Qin [2] func32 results32 ntmps32 ?_
 repeat' (first|with_reducible refine FV ?_|refine QX ?_|refine QB ?_;intro b|with_reducible refine QZ ?_<;>(try constructor)<;>intro hb<;>try intro hb1|fail)
 revert b
 intro nb
 refine Bw (ι:=Nat) (λi A st'=>i<=R.length/\A.df=[]/\A.e 3=.ptr nb 0/\A.e 11=.sl .shared RC/\A.e 12=.i R.length/\A.e 13=.i i/\∃(cs:List NC) (dc:D) (X:St),cs.length=i/\Hid (∀(j:Nat) (x:Rl) (S:NC),R[j]?=some x->cs[j]?=some S->ChainOk S x.pats [])/\ChO cs dc X/\st'.Perm (.box nb 105 [dc,.s (.map none),.sl .tight [],.sl .tight []]::(X++(cs.flatMap NC.st++st)))) (λi=>R.length - i) 0 ⟨Aq _,Qf,Qf,Qf,Qf,Qf,[],_,[],rfl,Aa (λj x S _ h=>by cases h),.inl ⟨rfl,rfl,rfl⟩,.refl _⟩ ?_
 rintro i A st' ⟨hi,hdf,e3,e11,e12,e13,cs,dc,X,hcl,HC,hO,hp⟩
 by_cases hlt:i<R.length
 . obtain⟨x,hx⟩:=gEx hlt
   have hxc:=hRc.out i x hx
   obtain⟨hxk,hx1,hx4⟩:=HR.out x (Ah hx)
   have hPm:(x.pats.map Pt.cells).length=x.pats.length:=Ab ..
   have hPc:Hid (∀(k:Nat) (p:Pt),x.pats[k]?=some p->(x.pats.map Pt.cells)[k]?=some [.i p.tmpl,.b p.neg,.sl .shared (p.tests.map Ts.cells)]):=λk p h=>by rw[Ar,h];rfl
   have hen:Hid (∀(c g cap kb:Nat) (zs:List D),(Cz (x.pats.map GE)++[[D.i 0,D.b false,D.sl .tight [],D.s (.map none),D.sl .tight [],D.sl .tight [],D.s (.map none),D.sl .tight [],D.sl .tight []]].flatten++zs).length=cap*9->∀st:St,TrF prog 63 [.ptr c 0,.ptr kb 0] (.box g 115 (Cz (x.pats.map GE)++[[D.i 0,D.b false,D.sl .tight [],D.s (.map none),D.sl .tight [],D.sl .tight [],D.s (.map none),D.sl .tight [],D.sl .tight []]].flatten++zs)::.box kb 119 [.s (.pointer none),.i 0,.i 0,.sl .shared (Mat.empty.map V.cells),.s (.map none),.sl .tight [],.sl .tight [],.i 0]::.box c 109 [.ar g 0 (x.pats.length+1) cap]::st) λd st'=>∃S',ChainOk S' x.pats []/\S'.c=c/\d=.tup []/\(S'.st++st).Perm st'):=λc g cap kb zs h st=>Ve c g cap kb zs x.pats h hx4 hxk.p st
   rw[show x.cells=[.str x.name,.i x.sal,.sl .shared (x.pats.map Pt.cells),.sl .shared (x.acts.map Ac.cells)]from rfl]at hxc
   obtain⟨WW,hWW⟩:∃WW,WW=X++(cs.flatMap NC.st++st):=⟨_,rfl⟩
   rw[<-hWW]at hp
   refine Bq hp ?_
   clear hp hRc HR hxk
   generalize x.pats.map Pt.cells=PS at *
   generalize x.acts.map Ac.cells=AS at *
   generalize x.name=nm at *
   generalize x.sal=sal at *
   repeat' (first|with_reducible refine FV ?_|refine QX ?_|refine QB ?_;intro b|with_reducible refine QZ ?_<;>(try constructor)<;>intro hb<;>try intro hb1|fail)
   rename_i xb
   revert b
   intro cb
   have ht1:Hid (∀(k:Nat) (p:Pt),x.pats[k]?=some p->(x.pats.take (k+1)).map GE=(x.pats.take k).map GE++[GE p]):=λk p h=>by rw[Br,h,BQ,Bo];rfl
   have htl:Hid (∀k,k<=x.pats.length->((x.pats.take k).map GE).length=k):=λk h=>by
    show _=_
    rw[Ab,Bb];omega
   refine Bw (ι:=Nat) (λk A2 st2=>k<=x.pats.length/\A2.df=[]/\A2.e 3=.ptr nb 0/\A2.e 6=.ptr cb 0/\A2.e 11=.sl .shared RC/\A2.e 12=.i R.length/\A2.e 13=.i i/\A2.e 20=.sl .shared PS/\A2.e 21=.i x.pats.length/\A2.e 22=.i k/\∃(dn:D) (Y:St),mT ((x.pats.take k).map GE) dn Y/\st2.Perm (.box cb 109 [dn]::(Y++(.box nb 105 [dc,.s (.map none),.sl .tight [],.sl .tight []]::(.box xb 34 [.str nm,.i sal,.sl .shared PS,.sl .shared AS]::WW))))) (λk=>x.pats.length - k) 0 ⟨Aq _,Qf,Qf,Qf,Qf,Qf,Qf,Qf,Qf,Qf,_,[],.inl ⟨rfl,rfl,rfl⟩,(List.Perm.swap _ _ _).cons _⟩ ?_
   clear hdf e3 e11 e12 e13
   rintro k A2 st2 ⟨hk,hdf,e3,e6,e11,e12,e13,e20,e21,e22,dn,Y,hN,hp⟩
   by_cases hkl:k<x.pats.length
   . obtain⟨p,hpk⟩:=gEx hkl
     have hpc:=hPc.out k p hpk
     have hs:=ht1.out k p hpk
     have hl:=htl.out k q_o
     have hnc:(GE p).cells=[.i p.tmpl,.b p.neg,.sl .shared (p.tests.map Ts.cells),.s (.map none),.sl .tight [],.sl .tight [],.s (.map none),.sl .tight [],.sl .tight []]:=rfl
     clear hPc ht1 htl hen hpk hWW HC hO hxc hx
     generalize p.tests.map Ts.cells=TS at *
     generalize (x.pats.take k).map GE=ns at *
     refine Bq hp ?_
     clear hp
     rcases hN with⟨hnil,rfl,rfl⟩|⟨g,cap,zs,hz,rfl,rfl⟩
     . subst hnil
       rw[AO]
       repeat' (first|refine QV ?_|((with_reducible apply(Gu (id:=9) [(b,[.i p.tmpl,.b p.neg,.sl .shared TS]),(cb,[.sl .tight []])] [1,2,3,4,5,6,7] 8 [0,9,10,11]));(iterate 3 (focus kernel_rfl));(iterate 2 (focus(simp only[Gq,AJ,AO,BD,Bp];exact rfl)));(focus exact q_k);intro hne;(try simp only[nes,ne1,and_assoc]at hne);repeat(have hq:=hne.1;replace hne:=hne.2))|((with_reducible refine Exists.intro [] ?_);(with_reducible refine And.intro ?_ ?_);(focus exact q_k))|((with_reducible refine And.intro ?_ ?_);(focus exact q_k))|with_reducible refine IX ?_|with_reducible refine Lr ?_|((with_reducible apply IZ);(focus exact q_n);(focus exact CS rfl);(focus exact q_n);(focus exact q_n);intro g' cap' zs' hc hl')|refine QY ?_|refine QB ?_;intro b|with_reducible refine QZ ?_<;>(try constructor)<;>intro hb<;>try intro hb1|fail)
       refine⟨k+1,.box g' 115 ([[D.i p.tmpl,D.b p.neg,D.sl .shared TS,D.s (.map none),D.sl .tight [],D.sl .tight [],D.s (.map none),D.sl .tight [],D.sl .tight []]].flatten++zs')::.box cb 109 [.ar g' 0 1 cap']::.box nb 105 [dc,.s (.map none),.sl .tight [],.sl .tight []]::.box xb 34 [.str nm,.i sal,.sl .shared PS,.sl .shared AS]::WW,((Al _).cons _).cons_cons _,⟨hkl,?_,?_,?_,?_,?_,?_,?_,?_,?_,.ar g' 0 1 cap',[.box g' 115 ([[D.i p.tmpl,D.b p.neg,D.sl .shared TS,D.s (.map none),D.sl .tight [],D.sl .tight [],D.s (.map none),D.sl .tight [],D.sl .tight []]].flatten++zs')],.inr ⟨g',cap',zs',?_,?_,?_⟩,List.Perm.swap _ _ _⟩,by omega⟩
       . exact Qf
       . exact Qf
       . exact Qf
       . exact Qf
       . exact Qf
       . exact Qf
       . exact Qf
       . exact Qf
       . exact Qf
       . rw[hs,AO,show Cz [GE p]=[(GE p).cells].flatten from rfl,hnc];exact hl'
       . rw[hs];rfl
       . rw[hs,AO,show Cz [GE p]=[(GE p).cells].flatten from rfl,hnc]
     . have hrl:(Cz ns).length=ns.length*9:=DK _
       have hra:=Ua ns (GE p)
       rw[hnc]at hra
       rw[show∀(a:Res) (c:St),[a]++c=a::c fromλ_ _=>rfl]
       generalize hRN:Cz ns=RW at *
       rw[hl]at hrl |-
       repeat' (first|refine QV ?_|((with_reducible apply(Gu (id:=9) [(b,[.i p.tmpl,.b p.neg,.sl .shared TS]),(cb,[.ar g 0 k cap])] [1,2,3,4,5,6,7] 8 [0,9,10,11]));(iterate 3 (focus kernel_rfl));(iterate 2 (focus(simp only[Gq,AJ,AO,BD,Bp];exact rfl)));(focus exact q_k);intro hne;(try simp only[nes,ne1,and_assoc]at hne);repeat(have hq:=hne.1;replace hne:=hne.2))|((with_reducible refine Exists.intro [] ?_);(with_reducible refine And.intro ?_ ?_);(focus exact q_k))|((with_reducible refine And.intro ?_ ?_);(focus exact q_k))|with_reducible refine Io ?_|with_reducible refine Kv ?_|((with_reducible apply(It hrl hz));(focus(intro g' cs';repeat(first|exact Hn|apply Hm)));(focus exact CS rfl);(iterate 2 (focus exact q_n));intro g1 c1 z1 hc1 hl1)|refine QY ?_|refine QB ?_;intro b|with_reducible refine QZ ?_<;>(try constructor)<;>intro hb<;>try intro hb1|fail)
       refine⟨k+1,.box cb 109 [.ar g1 0 (k+1) c1]::.box g1 115 (RW++[[D.i p.tmpl,D.b p.neg,D.sl .shared TS,D.s (.map none),D.sl .tight [],D.sl .tight [],D.s (.map none),D.sl .tight [],D.sl .tight []]].flatten++z1)::.box nb 105 [dc,.s (.map none),.sl .tight [],.sl .tight []]::.box xb 34 [.str nm,.i sal,.sl .shared PS,.sl .shared AS]::WW,AL ..,⟨hkl,?_,?_,?_,?_,?_,?_,?_,?_,?_,.ar g1 0 (k+1) c1,[.box g1 115 (RW++[[D.i p.tmpl,D.b p.neg,D.sl .shared TS,D.s (.map none),D.sl .tight [],D.sl .tight [],D.s (.map none),D.sl .tight [],D.sl .tight []]].flatten++z1)],.inr ⟨g1,c1,z1,?_,?_,?_⟩,.refl _⟩,by omega⟩
       . exact Qf
       . exact Qf
       . exact Qf
       . exact Qf
       . exact Qf
       . exact Qf
       . exact Qf
       . exact Qf
       . exact Qf
       . rw[hs,hra];exact hl1
       . rw[hs,Ae,hl];rfl
       . rw[hs,hra]
   . have hkx:k=x.pats.length:=by omega
     subst hkx
     rw[Db]at hN
     rcases hN with⟨hnil, -, -⟩|⟨g,cap,zs,hz,rfl,rfl⟩
     . exfalso
       have:=congrArg List.length hnil
       rw[Ab]at this
       simp only[BZ]at this
       omega
     have hrl:(Cz (x.pats.map GE)).length=x.pats.length*9:=by rw[DK,Ab]
     have hx0:Hid (R[i]?=some x):=hx
     refine Bq hp ?_
     have hnl:(x.pats.map GE).length=x.pats.length:=Ab ..
     rw[hnl,show∀(a:Res) (c:St),[a]++c=a::c fromλ_ _=>rfl]
     clear hp ht1 htl hPc hxc hk hkl hnl hx
     obtain⟨RW,hRW⟩:∃RW,RW=Cz (x.pats.map GE):=⟨_,rfl⟩
     rw[<-hRW]at hz hrl hen |-
     clear hRW
     obtain⟨EC,hEC⟩:∃EC,EC=Mat.empty.map V.cells:=⟨_,rfl⟩
     rw[<-hEC]at hen hEm
     clear hEC
     have hEm2:=hEm
     repeat' (first|refine QV ?_|(refine Mb 12 (λA3 st3=>A3.df=[]/\A3.e 3=.ptr nb 0/\A3.e 6=.ptr cb 0/\A3.e 11=.sl .shared RC/\A3.e 12=.i R.length/\A3.e 13=.i i/\∃S2:NC,Hid (ChainOk S2 x.pats [])/\S2.c=cb/\st3.Perm (.box nb 105 [dc,.s (.map none),.sl .tight [],.sl .tight []]::(S2.st++(.box xb 34 [.str nm,.i sal,.sl .shared PS,.sl .shared AS]::WW)))) ?_ ?_)|with_reducible refine FV ?_|with_reducible refine Io ?_|with_reducible refine Kv ?_|((with_reducible apply(It hrl hz));(focus(intro g' cs';repeat(first|exact Hn|apply Hm)));(focus exact CS rfl);(iterate 2 (focus exact q_n));intro g1 c1 z1 hc1 hl1)|((with_reducible apply(Bj (f:=20) (henter:=call20) (hp:=Ao _) (h:=(hEm2.out _))));(focus exact q_v);(focus exact q_l);(rintro d0 st0 ⟨rfl,rfl⟩))|((with_reducible apply(Bj (f:=63) (henter:=call63) (hp:=(CV (CV DL))) (h:=(hen.out _ _ _ _ _ hl1 _))));(focus exact q_v);(focus exact q_l);(rintro d0 st0 ⟨S2,hok2,hSc2,rfl,hp4⟩))|refine QY ?_|refine QB ?_;intro b|with_reducible refine QZ ?_<;>(try constructor)<;>intro hb<;>try intro hb1|fail)
     . exact⟨Qf,Qf,Qf,Qf,Qf,Qf,S2,Aa hok2,hSc2,hp4.symm.trans AG⟩
     clear hEm2 hen hz hrl hdf e3 e6 e11 e12 e13 e20 e21 e22
     rintro A3 st3 ⟨hdf,e3,e6,e11,e12,e13,S2,hok2,hSc2,hp⟩
     have HCn:=Aa (λ(j:Nat) (y:Rl) (T:NC) (h1:R[j]?=some y) (h2:(cs++[S2])[j]?=some T)=>show ChainOk T y.pats []from by
      by_cases e:j<cs.length
      . rw[AY e]at h2
        exact HC.out j y T h1 h2
      . have hj : j = i := by
         have:=(Af.1 h2).1
         rw[Ae,BM]at this
         omega
        subst hj
        rw[BN q_o,hcl,He]at h2
        cases h2
        rw[hx0.out]at h1
        cases h1
        exact hok2.out)
     have hcn:(cs++[S2]).length=i+1:=by rw[Ae,hcl];rfl
     have hrkn:OF (cs++[S2])=OF cs++[[D.ptr cb 0]].flatten:=by unfold OF;rw[Bo,<-hSc2];rfl
     have hfm:(cs++[S2]).flatMap NC.st=cs.flatMap NC.st++S2.st:=by rw[Vu,Ce,List.flatMap_nil,Bi]
     clear hok2 HC hx0
     rcases hO with⟨rfl,rfl,rfl⟩|⟨gc,capc,zsc,hzc,rfl,rfl⟩
     . have hWW2:WW=st:=hWW
       subst hWW2
       clear hWW
       refine Bq hp ?_
       clear hp
       generalize S2.st=SS at *
       repeat' (first|refine QV ?_|with_reducible refine IX ?_|with_reducible refine Lr ?_|((with_reducible apply IZ);(focus exact q_n);(focus exact CS rfl);(focus exact q_n);(focus exact q_n);intro g2 c2 z2 hc2 hl2)|refine QY ?_|refine QB ?_;intro b|with_reducible refine QZ ?_<;>(try constructor)<;>intro hb<;>try intro hb1|fail)
       refine⟨i+1,.box g2 106 ([[D.ptr cb 0]].flatten++z2)::.box nb 105 [.ar g2 0 1 c2,.s (.map none),.sl .tight [],.sl .tight []]::(SS++WW),(((AL ..).append_left SS).cons_cons _).cons_cons _,⟨hlt,?_,?_,?_,?_,?_,[]++[S2],.ar g2 0 1 c2,[.box g2 106 ([[D.ptr cb 0]].flatten++z2)],hcn,Aa HCn,.inr ⟨g2,c2,z2,?_,?_,?_⟩,?_⟩,by omega⟩
       . exact Qf
       . exact Qf
       . exact Qf
       . exact Qf
       . exact Qf
       . rw[hrkn];exact hl2
       . rfl
       . rw[hrkn];rfl
       . rw[hfm];exact List.Perm.swap _ _ _
     . have hrlc:(OF cs).length=cs.length*1:=by unfold OF;rw[Ab,Cx]
       obtain⟨W2,hW2⟩:∃W2,W2=cs.flatMap NC.st++st:=⟨_,rfl⟩
       have hWW2:WW=.box gc 106 (OF cs++zsc)::W2:=by rw[hWW,hW2];rfl
       subst hWW2
       refine Bq (hp.trans ((((List.Perm.swap _ _ _).append_left _).trans AG).cons _)) ?_
       clear hp hWW
       rw[hcl]at hrlc |-
       generalize hSS:S2.st=SS at *
       obtain⟨RK,hRK⟩:∃RK,RK=OF cs:=⟨_,rfl⟩
       rw[<-hRK]at hrlc hzc hrkn |-
       repeat' (first|refine QV ?_|with_reducible refine Io ?_|with_reducible refine Kv ?_|((with_reducible apply(It hrlc hzc));(focus(intro g' cs';repeat(first|exact Hn|apply Hm)));(focus exact CS rfl);(iterate 2 (focus exact q_n));intro g2 c2 z2 hc2 hl2)|refine QY ?_|refine QB ?_;intro b|with_reducible refine QZ ?_<;>(try constructor)<;>intro hb<;>try intro hb1|fail)
       refine⟨i+1,.box nb 105 [.ar g2 0 (i+1) c2,.s (.map none),.sl .tight [],.sl .tight []]::.box g2 106 (RK++[[D.ptr cb 0]].flatten++z2)::(SS++W2),(((AL ..).append_left SS).cons_cons _).cons_cons _,⟨hlt,?_,?_,?_,?_,?_,cs++[S2],.ar g2 0 (i+1) c2,[.box g2 106 (RK++[[D.ptr cb 0]].flatten++z2)],hcn,Aa HCn,.inr ⟨g2,c2,z2,?_,?_,?_⟩,?_⟩,by omega⟩
       . exact Qf
       . exact Qf
       . exact Qf
       . exact Qf
       . exact Qf
       . rw[hrkn];exact hl2
       . rw[hcn]
       . rw[hrkn]
       . rw[hfm,hW2]
         refine(List.Perm.cons _ ?_).cons _
         rw[<-Ai]
         exact Bk.append_right _
 . have hil:i=R.length:=by omega
   subst hil
   have hfin:Hid (∃N:NT,N.Ok R/\N.fs=[]/\D.ptr nb 0=.ptr N.b 0/\(N.st++st).Perm (.box nb 105 [.sl .shared (cs.map λS=>[D.ptr S.c 0]),.s (.map none),.sl .tight [],.sl .tight []]::(cs.flatMap NC.st++st))):=⟨⟨nb,cs,.no,[]⟩,⟨⟨rfl,rfl⟩,XD,Aq _,(λf h=>by cases h),hcl,λj x S h1 h2=>HC.out j x S h1 h2⟩,rfl,rfl,.refl _⟩
   have hfl:(cs.map λS=>[D.ptr S.c 0]).flatten=OF cs:=by
    unfold OF
    clear hcl HC hO hp hfin
    induction cs with
    | nil=>rfl
    | cons S l ih=>rw[Aw,AK,ih];rfl
   have hlf:∀d∈[D.sl .shared (cs.map λS=>[D.ptr S.c 0]),D.s (.map none),D.sl .tight [],D.sl .tight []],d.leaf=true:=λd hd=>by
    simp only[Az,AU,or_false]at hd
    rcases hd with rfl|rfl|rfl|rfl<;>rfl
   rcases hO with⟨rfl,rfl,rfl⟩|⟨gc,capc,zsc,hzc,rfl,rfl⟩
   . refine ax hp (cs':=[.sl .shared [],.s (.map none),.sl .tight [],.sl .tight []]) ⟨LE.sl _ _,LEL.refl _⟩ hlf ?_
     clear hp HC hRc HR
     repeat' (first|refine QX ?_|refine QB ?_;intro b|with_reducible refine QZ ?_<;>(try constructor)<;>intro hb<;>try intro hb1|fail)
     exact Bl (by simp) q_y (Al _) (LE.of_eq q_v) hfin.out
   . refine dA (sz := 1) (es := cs.map λS => [D.ptr S.c 0]) (cs' := [.sl .shared (cs.map λS => [D.ptr S.c 0]), .s (.map none), .sl .tight [], .sl .tight []]) (hp.trans (by rw [hfl]; exact List.Perm.swap _ _ _)) (by decide) (λe he => by
      obtain⟨S, -,rfl⟩:=Ax.1 he
      rfl) (Ab ..) (.cons _ _ _ _ .ar (.cons _ _ _ _ (.same _) (.cons _ _ _ _ (.same _) (.cons _ _ _ _ (.same _) .nil)))) hlf ?_
     clear hp HC hRc HR hfl hlf hzc
     generalize (cs.map λS=>[D.ptr S.c 0])=RWS at *
     repeat' (first|refine QX ?_|refine QB ?_;intro b|with_reducible refine QZ ?_<;>(try constructor)<;>intro hb<;>try intro hb1|fail)
     exact Bl (by simp) q_y (Al _) (LE.of_eq q_v) hfin.out
end
end Go.Proofs.YtoeidpmjifjplaaGreat
