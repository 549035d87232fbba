/- Texts put together. No statement is proved here. -/
import Derived.Test.YtoeidpmjifjplaaGreatZ11
set_option linter.all false
set_option maxRecDepth 10000
set_option maxHeartbeats 8000000
namespace Go.Proofs.YtoeidpmjifjplaaGreat
open Go.RowKit Tryz
section
namespace Nt
variable {S S1 S' Sj:NC} {E X ts:List Nat} {t u v w t':Tok} {H0 H1:List Tok} {p:Pt} {F:List Fc} {j k b:Nat}
structure KidsSame (S S':NC)(a:List Nat):Prop where
 fw:∀w∈S.H,w.anc.tail=a->∃w'∈S'.H,w'.anc=w.anc/\w'.id=w.id/\w'.env=w.env
 bw:∀w'∈S'.H,w'.anc.tail=a->∃w∈S.H,w'.anc=w.anc/\w'.id=w.id/\w'.env=w.env
theorem Part.move{L:List (Int×List V)}{c:Int}(h:Part S t L c)(hS':Str S' [])(ha:t'.anc=t.anc)(hc:t'.count=t.count)(hK:KidsSame S S' t.anc):Part S' t' L c:=by
 refine⟨hc.trans h.ct,λu hu e=>?_,λy hy=>?_,λu hu v hv e1 e2 e3=>?_⟩
 . obtain⟨w,w1,w2,w3,w4⟩:=hK.bw u hu (e.trans ha)
   rw[w3,w4]
   exact h.sub w w1 (by rw[<-w2,e,ha])
 . obtain⟨w,w1,w2,w3⟩:=h.all y hy
   obtain⟨w',q1,q2,q3,q4⟩:=hK.fw w w1 w2
   exact⟨w',q1,by rw[q2,w2,ha],by rw[q3,q4];exact w3⟩
 . obtain⟨w,w1,w2,w3, -⟩:=hK.bw u hu (e1.trans ha)
   obtain⟨z,z1,z2,z3, -⟩:=hK.bw v hv (e2.trans ha)
   have:=h.one w w1 z z1 (by rw[<-w2,e1,ha]) (by rw[<-z2,e2,ha]) (by rw[<-w3,<-z3,e3])
   subst this
   exact hS'.anc_b hu hv (w2.trans z2.symm)
theorem LocOk.part(h:LocOk S t)(hk:t.anc.length≠S.ns.length){x:Nd}(hx:S.ns[t.anc.length - 1]?=some x):Part S t (exps x.p x.fs t.env) (cnt x.p x.fs t.env):=by
 unfold LocOk at h
 rw[if_neg hk]at h
 obtain⟨h1,h2,h3,h4⟩:=h x hx
 exact⟨h1,h2,h3,h4⟩
theorem LocOk.move(h:LocOk S t)(hS:Str S [])(hS':Str S' [])(ht:t∈S.H)(ht':t'∈S'.H)(hQ:Kept S S')(ha:t'.anc=t.anc)(hc:t'.count=t.count)(he:t'.env=t.env)(hK:KidsSame S S' t.anc):LocOk S' t':=by
 by_cases hl:t.anc.length=S.ns.length
 . unfold LocOk at h |-
   rw[if_pos hl]at h
   rw[if_pos (by rw[ha,hQ.nl];exact hl)]
   refine⟨hc.trans h.1,Cj.2 λb hb=>?_⟩
   obtain⟨u,u1,u2,u3⟩:=(hS'.km t' ht' b).1 hb
   obtain⟨w,w1,w2, -⟩:=hK.bw u u1 (u3.trans ha)
   have:=(hS.km t ht w.b).2 ⟨w,w1,rfl,by rw[<-w2,u3,ha]⟩
   rw[h.2]at this
   exact AP this
 . have hlt : t.anc.length - 1 < S.ns.length := by
    have:=hS.lv t ht
    have:=Cm.2 (hS.ne t ht)
    omega
   have hx:S.ns[t.anc.length - 1]?=some (S.ns[t.anc.length - 1]):=Al hlt
   obtain⟨y,y1,y2,y3⟩:=hQ.ns _ _ hx
   have h1:=(h.part hl hx).move hS' ha hc hK
   rw[<-y2,<-y3,<-he]at h1
   exact h1.loc (by rw[ha,hQ.nl];exact hl) (by rw[ha];exact y1)
def Off (S S':NC)(a:List Nat):Prop:=∀w,¬a <:+ w.anc->(w∈S.H↔w∈S'.H)
theorem Mp{a l:List Nat}(h:a <:+ l)(hne:l≠a):a <:+ l.tail:=by
 cases l with
|nil=>exact absurd (List.suffix_nil.1 h).symm hne
|cons b l =>
  rcases oS.1 h with e|h
  . exact absurd e.symm hne
  . exact h
theorem Off.kids{a c:List Nat}(h:Off S S' a)(hl:c.length=a.length)(hne:c≠a)(hc:0<a.length):KidsSame S S' c:=by
 have hn:∀w:Tok,w.anc.tail=c->¬a <:+ w.anc:=λw e hs=>by
  by_cases ew:w.anc=a
  . rw[ew]at e
    have:=congrArg List.length e
    rw[CL]at this
    omega
  . have h1:=Mp hs ew
    rw[e]at h1
    exact hne (Lc h1 q_o).symm
 exact⟨λw hw e=>⟨w,(h w (hn w e)).1 hw,rfl,rfl,rfl⟩,λw hw e=>⟨w,(h w (hn w e)).2 hw,rfl,rfl,rfl⟩⟩
theorem Grew.off(h:Grew S S' t):Off S S' t.anc:=h.keep
theorem PruR.off(h:PruR S S' t):Off S S' t.anc:=h.keep
theorem RemR.off(h:RemR S S' u)(hp:t.anc=u.anc.tail):Off S S' t.anc:=λw hw=>h.keep w (λhs=>hw (by rw[hp];exact(List.tail_suffix _).trans hs)) (λe=>hw (by rw[e,hp];exact Es _))
theorem Off.trans{S2:NC}{a:List Nat}(h:Off S S1 a)(k:Off S1 S2 a):Off S S2 a:=λw hw=>(h w hw).trans (k w hw)
structure StepJ (S1:NC)(ts:List Nat)(k:Nat)(p:Pt)(F:List Fc)(j:Nat)(Sj:NC):Prop where
 str:Str Sj []
 kept:Kept S1 Sj
 loc:Loc Sj (ts.drop j)
 part:∀b∈ts.drop j,∃w∈Sj.H,w.b=b/\w.anc.length=k+1/\Part Sj w (exps p F w.env) (cnt p F w.env)
theorem StepJ.tok(h:StepJ S1 ts k p F j Sj)(hb:ts[j]?=some b):∃w∈Sj.H,w.b=b/\w.anc.length=k+1/\Part Sj w (exps p F w.env) (cnt p F w.env):=h.part b (by rw[V.drop_cons hb];exact Ag ..)
theorem StepJ.next(h:StepJ S1 ts k p F j Sj)(hnd:ts.Nodup)(hb:ts[j]?=some b)(hw:w∈Sj.H)(hwb:w.b=b)(hS':Str S' [])(hQ:Kept Sj S')(hL:Loc S' (ts.drop j))(hO:Off Sj S' w.anc)(hok:∀w'∈S'.H,w'.anc=w.anc->LocOk S' w')(hw':∃w'∈S'.H,w'.anc=w.anc):StepJ S1 ts k p F (j+1) S':=by
 obtain⟨w0,q1,q2,q3, -⟩:=h.tok hb
 have:=h.str.same q1 hw (q2.trans hwb.symm)
 subst this
 obtain⟨z,z1,z2⟩:=hw'
 refine⟨hS',h.kept.trans hQ,λu hu hub=>?_,λc hc=>?_⟩
 . by_cases e:u.b=b
   . have hz:u=z:=hS'.same hu z1 (e.trans (by rw[<-q2];exact(b_of z2).symm))
     exact hok u hu (by rw[hz];exact z2)
   . exact hL u hu (by
      rw[V.drop_cons hb,Ax]
      rintro(h|h)
      . exact e h
      . exact hub h)
 . obtain⟨u,u1,u2,u3,u4⟩:=h.part c (by rw[V.drop_cons hb];exact Ae _ hc)
   have hcb:c≠b:=λe=>by
    have h1:(ts.drop j).Nodup:=hnd.sublist (List.drop_sublist ..)
    rw[V.drop_cons hb,Bb]at h1
    exact h1.1 (e▸hc)
   have hne:u.anc≠w0.anc:=λe=>hcb (by rw[<-u2,b_of e,q2])
   have hlen:u.anc.length=w0.anc.length:=by rw[u3,q3]
   have hu':u∈S'.H:=(hO u λhs=>hne (Lc hs q_o).symm).1 u1
   exact⟨u,hu',u2,u3,u4.move hS' rfl rfl (hO.kids hlen hne q_o)⟩
theorem StepJ.done(h:StepJ S1 ts k p F ts.length Sj):Loc Sj []:=by
 have:=h.loc
 rwa[Hv]at this
end Nt
end
section
namespace Nt
variable {S S1 S' Sj:NC} {E X ts:List Nat} {t u v w t' w':Tok} {H0 H1:List Tok} {p:Pt} {F:List Fc} {j k b:Nat} {x:Nd} {f:Fc} {e:List V}
theorem Loc.prune(h:Loc S X)(hS:Str S [])(hS':Str S' [])(hR:PruR S S' t)(ht:t∈S.H)(htX:t.b∈X):Loc S' X:=by
 intro u hu hub
 have hne:u.anc≠t.anc:=λe=>hub (by rw[b_of e];exact htX)
 have hns:¬t.anc <:+ u.anc:=λhs=>hne (hR.gone u hu hs)
 have hu0:=(hR.keep u hns).2 hu
 obtain⟨z,z1,z2,z3,z4, -⟩:=hR.self
 refine(h u hu0 hub).move hS hS' hu0 hu hR.toKept rfl rfl rfl ⟨λw hw e=>?_,λw hw e=>?_⟩
 . by_cases ew:w.anc=t.anc
   . have:=hS.anc_b hw ht ew
     subst this
     exact⟨z,z1,z2,z3,z4⟩
   . exact⟨w,(hR.keep w λhs=>hns (by rw[<-e];exact Mp hs ew)).1 hw,rfl,rfl,rfl⟩
 . by_cases ew:w.anc=t.anc
   . have:=hS'.anc_b hw z1 (ew.trans z2.symm)
     subst this
     exact⟨t,ht,z2,z3,z4⟩
   . exact⟨w,(hR.keep w λhs=>hns (by rw[<-e];exact Mp hs ew)).2 hw,rfl,rfl,rfl⟩
theorem Part.congr{L L':List (Int×List V)}{c:Int}(h:Part S t L c)(hL:∀y,y∈L↔y∈L'):Part S t L' c:=⟨h.ct,λu hu e=>(hL _).1 (h.sub u hu e),λy hy=>h.all y ((hL y).2 hy),h.one⟩
theorem Part.ok(hQ:Kept S1 S')(hx:S1.ns[k]?=some x)(hkn:k+1≠S1.ns.length)(hk:w'.anc.length=k+1)(h:Part S' w' (exps x.p x.fs w'.env) (cnt x.p x.fs w'.env)):LocOk S' w':=by
 obtain⟨y,y1,y2,y3⟩:=hQ.ns k x hx
 rw[<-y2,<-y3]at h
 exact h.loc (by rw[hQ.nl,hk];exact hkn) (by rw[hk];exact y1)
theorem StepJ.same(h:StepJ S1 ts k x.p F j Sj)(hnd:ts.Nodup)(hb:ts[j]?=some b)(hw:w∈Sj.H)(hwb:w.b=b)(hx:S1.ns[k]?=some x)(hkn:k+1≠S1.ns.length)(hs:(Mat.passL x.p x.fs w.env).Perm (Mat.passL x.p F w.env)):StepJ S1 ts k x.p F (j+1) Sj:=by
 obtain⟨w0,q1,q2,q3,q4⟩:=h.tok hb
 have:=h.str.same q1 hw (q2.trans hwb.symm)
 subst this
 have hc:cnt x.p F w0.env=cnt x.p x.fs w0.env:=by
  unfold cnt
  rw[hs.length_eq]
 have he:∀y,y∈exps x.p F w0.env↔y∈exps x.p x.fs w0.env:=λy=>by
  unfold exps
  split
  . have:Mat.passL x.p x.fs w0.env=[]↔Mat.passL x.p F w0.env=[]:=⟨λe=>by rw[e]at hs;exact List.nil_perm.1 hs,λe=>by rw[e]at hs;exact lH.1 hs⟩
    by_cases e:Mat.passL x.p x.fs w0.env=[]
    . rw[if_pos e,if_pos (this.1 e)]
    . rw[if_neg e,if_neg (λe1=>e (this.2 e1))]
  . exact hs.mem_iff.symm
 have hP:=q4.congr he
 rw[hc]at hP
 refine h.next hnd hb hw hwb h.str (Kept.refl _) h.loc (λ_ _=>Nl) (λw' h1 h2=>?_) ⟨w0,q1,rfl⟩
 have:=h.str.anc_b h1 q1 h2
 subst this
 exact Part.ok h.kept hx hkn q3 hP
theorem StepJ.pos(h:StepJ S1 ts k x.p F j Sj)(hnd:ts.Nodup)(hb:ts[j]?=some b)(hw:w∈Sj.H)(hwb:w.b=b)(hx:S1.ns[k]?=some x)(hkn:k+1≠S1.ns.length)(hn:x.p.neg=false)(hfs:x.fs=F++[f])(hid:f.id∉F.map Fc.id)(hp:Mat.pass x.p f w.env=some e)(hS':Str S' [])(hL:Loc S' (ts.drop j))(hE:ExtR Sj S' w f.id e):StepJ S1 ts k x.p F (j+1) S':=by
 obtain⟨w0,q1,q2,q3,q4⟩:=h.tok hb
 have:=h.str.same q1 hw (q2.trans hwb.symm)
 subst this
 have e1:exps x.p F w0.env=Mat.passL x.p F w0.env:=by unfold exps;rw[if_neg (by rw[hn];decide)]
 have e2:exps x.p x.fs w0.env=Mat.passL x.p F w0.env++[(f.id,e)]:=by
  unfold exps
  rw[if_neg (by rw[hn];decide),hfs]
  unfold Mat.passL
  rw[JK,CQ (b:=(f.id,e)) (by rw[hp];rfl),Xs]
 have e3:∀G,cnt x.p G w0.env=0:=λG=>by unfold cnt;rw[if_neg (by rw[hn];decide)]
 rw[e1,e3]at q4
 obtain⟨z,z1,z2,z3,z4,z5⟩:=q4.ext hS' hw (id:=f.id) (env:=e) (λhm=>by
  obtain⟨y,hy,hye⟩:=Av.1 hm
  exact hid (by rw[<-hye];exact Nv hy)) hE
 refine h.next hnd hb hw hwb hS' hE.toKept hL hE.grew.off (λw' h1 h2=>?_) ⟨z,z1,z2⟩
 have:=hS'.anc_b h1 z1 (h2.trans z2.symm)
 subst this
 rw[<-e2,<-e3 x.fs,<-z4]at z5
 exact Part.ok (h.kept.trans hE.toKept) hx hkn (by rw[z2,q3]) z5
theorem StepJ.neg(h:StepJ S1 ts k x.p F j Sj)(hnd:ts.Nodup)(hb:ts[j]?=some b)(hw:w∈Sj.H)(hwb:w.b=b)(hx:S1.ns[k]?=some x)(hkn:k+1≠S1.ns.length)(hn:x.p.neg=true)(hfs:x.fs=F++[f])(hp:Mat.pass x.p f w.env=some e)(hpm:Sj.H.Perm (w::H0))(hc:0<=w.count+1/\w.count+1<=1000)(hS':Str S' [])(hR:PruR (Nt.setCount Sj H0 w (w.count+1)) S' (withCount w (w.count+1))):StepJ S1 ts k x.p F (j+1) S':=by
 obtain⟨w0,q1,q2,q3,q4⟩:=h.tok hb
 have:=h.str.same q1 hw (q2.trans hwb.symm)
 subst this
 have hbm:b∈ts.drop j:=by rw[V.drop_cons hb];exact Ag ..
 have hwX:w0.b∈ts.drop j:=by rw[q2];exact hbm
 have hS2:=h.str.setCount hpm hc
 have hL:=(h.loc.setCount h.str hpm hwX hc).prune hS2 hS' hR (Ag ..) hwX
 have hG:=Grew.setCount (c:=w0.count+1) hpm
 obtain⟨z,z1,z2,z3,z4,z5,z6⟩:=hR.self
 have z2:z.anc=w0.anc:=z2
 have z4:z.env=w0.env:=z4
 have z5:z.count=w0.count+1:=z5
 have e1:Mat.passL x.p x.fs w0.env=Mat.passL x.p F w0.env++[(f.id,e)]:=by
  rw[hfs]
  unfold Mat.passL
  rw[JK,CQ (b:=(f.id,e)) (by rw[hp];rfl),Xs]
 have e2:exps x.p x.fs z.env=[]:=by
  unfold exps
  rw[if_pos hn,z4,e1,if_neg (by simp)]
 have e3:cnt x.p x.fs z.env=z.count:=by
  have:=q4.ct
  unfold cnt at this |-
  rw[if_pos hn]at this |-
  rw[z4,e1,z5,this,Ad,BE]
  omega
 refine h.next hnd hb hw hwb hS' (hG.toKept.trans hR.toKept) hL (hG.off.trans hR.off) (λw' h1 h2=>?_) ⟨z,z1,z2⟩
 have:=hS'.anc_b h1 z1 (h2.trans z2.symm)
 subst this
 have hP:=Part.nil hS' z1 z6
 rw[<-e2,<-e3]at hP
 exact Part.ok (h.kept.trans (hG.toKept.trans hR.toKept)) hx hkn (by rw[z2,q3]) hP
end Nt
end
section
namespace Nt
variable {S S0 S1 S' Sj Si:NC} {E X ts K0:List Nat} {t u v w t' w':Tok} {H0 H1:List Tok} {p:Pt} {F:List Fc} {i j k b:Nat} {x:Nd} {f:Fc} {e:List V} {id:Int}
theorem Loc.remove(h:Loc S X)(hS:Str S [])(hS':Str S' [])(hR:RemR S S' u)(hu:u∈S.H)(hne:u.anc.tail≠[])(ht:t.anc=u.anc.tail)(htX:t.b∈X):Loc S' X:=by
 intro v hv hvb
 have hvn:v.anc≠t.anc:=λe=>hvb (by rw[b_of e];exact htX)
 have hns:=hR.gone v hv
 have hv0:=(hR.keep v hns (by rw[<-ht];exact hvn)).2 hv
 obtain⟨z,z1,z2,z3⟩:=hR.par
 obtain⟨q,q1,q2⟩:=hS.up u hu hne
 refine(h v hv0 hvb).move hS hS' hv0 hv hR.toKept rfl rfl rfl ⟨λw hw e=>?_,λw hw e=>?_⟩
 . by_cases ew:w.anc=u.anc.tail
   . obtain⟨z4,z5, -⟩:=z3 w hw ew
     exact⟨z,z1,z2.trans ew.symm,z4,z5⟩
   . refine⟨w,(hR.keep w (λhs=>?_) ew).1 hw,rfl,rfl,rfl⟩
     by_cases e2:w.anc=u.anc
     . exact hvn (by rw[<-e,e2,ht])
     . exact hns (by rw[<-e];exact Mp hs e2)
 . by_cases ew:w.anc=u.anc.tail
   . have:=hS'.anc_b hw z1 (ew.trans z2.symm)
     subst this
     obtain⟨z4,z5, -⟩:=z3 q q1 q2.symm
     exact⟨q,q1,ew.trans q2,z4,z5⟩
   . exact⟨w,(hR.keep w (hR.gone w hw) ew).2 hw,rfl,rfl,rfl⟩
structure KidJ (S0:NC)(w:Tok)(id:Int)(X:List Nat)(i:Nat)(Si:NC):Prop where
 str:Str Si []
 kept:Kept S0 Si
 loc:Loc Si X
 off:Off S0 Si w.anc
 self:∃w'∈Si.H,w'.anc=w.anc/\w'.id=w.id/\w'.env=w.env/\w'.count=w.count
 sub:∀u∈Si.H,u.anc.tail=w.anc->∃u0∈S0.H,u=u0/\(u.b∈w.kids.take i->u.id≠id)
 sup:∀u∈S0.H,u.anc.tail=w.anc->(u.id≠id\/u.b∉w.kids.take i)->u∈Si.H
theorem KidJ.zero(hS:Str S0 [])(hL:Loc S0 X)(hw:w∈S0.H):KidJ S0 w id X 0 S0 :=
 ⟨hS,Kept.refl _,hL,λ_ _=>Nl,⟨w,hw,rfl,rfl,rfl,rfl⟩,λu hu _=>⟨u,hu,rfl,λh=>by rw[CX]at h;exact absurd h AP⟩,λu hu _ _=>hu⟩
theorem KidJ.kid(h:KidJ S0 w id X i Si)(hS:Str S0 [])(hw:w∈S0.H)(hb:w.kids[i]?=some b):∃u∈Si.H,u.b=b/\u.anc.tail=w.anc:=by
 obtain⟨u,u1,u2,u3⟩:=(hS.km w hw b).1 (Ah hb)
 refine⟨u,h.sup u u1 u3 (.inr λhm=>?_),u2,u3⟩
 rw[u2]at hm
 have h1:=hS.kn w hw
 rw[<-Bv i w.kids,V.drop_cons hb,FG]at h1
 exact h1.2.2 b hm b (Ag ..) rfl
theorem KidJ.no(h:KidJ S0 w id X i Si)(hb:w.kids[i]?=some b)(hu:u∈Si.H)(hub:u.b=b)(hid:u.id≠id):KidJ S0 w id X (i+1) Si:=by
 refine⟨h.str,h.kept,h.loc,h.off,h.self,λv hv e=>?_,λv hv e hor=>?_⟩
 . obtain⟨v0,v1,v2,v3⟩:=h.sub v hv e
   refine⟨v0,v1,v2,λhm=>?_⟩
   rw[Bk,hb,Bw,Bc,AB]at hm
   rcases hm with hm|hm
   . exact v3 hm
   . rw[h.str.same hv hu (hm.trans hub.symm)];exact hid
 . refine h.sup v hv e (hor.imp_right λhm hm2=>hm ?_)
   rw[Bk]
   exact Bp _ hm2
theorem KidJ.yes(h:KidJ S0 w id X i Si)(hS:Str S0 [])(hw:w∈S0.H)(hwX:w.b∈X)(hb:w.kids[i]?=some b)(hu:u∈Si.H)(hub:u.b=b)(hid:u.id=id)(hS':Str S' [])(hR:RemR Si S' u):KidJ S0 w id X (i+1) S':=by
 obtain⟨u0,u1,u2,u3⟩:=h.kid hS hw hb
 have:=h.str.same u1 hu (u2.trans hub.symm)
 subst this
 have hwne:=hS.ne w hw
 have hne:u0.anc.tail≠[]:=by rw[u3];exact hwne
 obtain⟨z,z1,z2,z3⟩:=hR.par
 obtain⟨s,s1,s2,s3,s4,s5⟩:=h.self
 obtain⟨z4,z5,z6⟩:=z3 s s1 (s2.trans u3.symm)
 have hu0:=tok_b (h.str.ne u0 u1)
 refine⟨hS',h.kept.trans hR.toKept,h.loc.remove h.str hS' hR u1 hne u3.symm hwX,h.off.trans (hR.off u3.symm),⟨z,z1,z2.trans u3,z4.trans s3,z5.trans s4,z6.trans s5⟩,λv hv e=>?_,λv hv e hor=>?_⟩
 . have hvl : v.anc ≠ u0.anc.tail := λe2 => by
    rw[u3]at e2
    rw[e2]at e
    have:=congrArg List.length e
    rw[CL]at this
    have:=Cm.2 hwne
    omega
   have hg:=hR.gone v hv
   obtain⟨v0,v1,v2,v3⟩:=h.sub v ((hR.keep v hg hvl).2 hv) e
   refine⟨v0,v1,v2,λhm=>?_⟩
   rw[Bk,hb,Bw,Bc,AB]at hm
   rcases hm with hm|hm
   . exact v3 hm
   . refine absurd ?_ hg
     have h1:=tok_b (hS'.ne v hv)
     rw[hu0,h1,hm,hub,u3,e]
     exact Es _
 . have hvi:v∈Si.H:=h.sup v hv e (hor.imp_right λhm hm2=>hm (by rw[Bk];exact Bp _ hm2))
   have hvl:v.anc≠u0.anc.tail:=λe2=>by
    rw[u3]at e2
    rw[e2]at e
    have:=congrArg List.length e
    rw[CL]at this
    have:=Cm.2 hwne
    omega
   refine(hR.keep v (λhs=>?_) hvl).1 hvi
   have h1:=tok_b (h.str.ne v hvi)
   have hlen:u0.anc=v.anc:=Lc hs (by rw[h1,hu0,e,u3];exact Ap _)
   have:=h.str.anc_b u1 hvi hlen
   subst this
   rcases hor with ho|ho
   . exact ho hid
   . exact ho (by rw[Bk,hb,Bw,hub];exact Bh _ (AB.2 rfl))
end Nt
end
section
namespace Nt
variable {S S0 S1 S' Sj Si:NC} {E X ts K0:List Nat} {t u v w t' w':Tok} {H0 H1:List Tok} {p:Pt} {F:List Fc} {i j k b:Nat} {x:Nd} {f:Fc} {e:List V} {id:Int}
theorem passL_perm{p:Pt}{F G:List Fc}(h:F.Perm G)(env:List V):(Mat.passL p F env).Perm (Mat.passL p G env):=h.filterMap _
theorem passL_some{p:Pt}{G:List Fc}{env:List V}(h:Mat.pass p f env=some e):Mat.passL p (f::G) env=(f.id,e)::Mat.passL p G env:=by
 unfold Mat.passL
 exact CQ (by rw[h];rfl)
theorem passL_none{p:Pt}{G:List Fc}{env:List V}(h:Mat.pass p f env=none):Mat.passL p (f::G) env=Mat.passL p G env:=by
 unfold Mat.passL
 exact De (by rw[h];rfl)
theorem StepJ.kids(h:StepJ S1 ts k x.p F j Sj)(hnd:ts.Nodup)(hb:ts[j]?=some b)(hw:w∈Sj.H)(hwb:w.b=b)(hx:S1.ns[k]?=some x)(hkn:k+1≠S1.ns.length)(hn:x.p.neg=false)(hF:F.Perm (f::x.fs))(hid:f.id∉x.fs.map Fc.id)(hp:Mat.pass x.p f w.env=some e)(hK:KidJ Sj w f.id (ts.drop j) w.kids.length S'):StepJ S1 ts k x.p F (j+1) S':=by
 obtain⟨w0,q1,q2,q3,q4⟩:=h.tok hb
 have:=h.str.same q1 hw (q2.trans hwb.symm)
 subst this
 have e1:∀G,exps x.p G w0.env=Mat.passL x.p G w0.env:=λG=>by unfold exps;rw[if_neg (by rw[hn];decide)]
 have e3:∀G,cnt x.p G w0.env=0:=λG=>by unfold cnt;rw[if_neg (by rw[hn];decide)]
 rw[e1,e3]at q4
 have hm:∀y,y∈Mat.passL x.p F w0.env↔y=(f.id,e)\/y∈Mat.passL x.p x.fs w0.env:=λy=>by
  rw[(passL_perm hF w0.env).mem_iff,passL_some hp,Ax]
 obtain⟨z,z1,z2,z3,z4,z5⟩:=hK.self
 have hkb:∀u∈Sj.H,u.anc.tail=w0.anc->u.b∈w0.kids.take w0.kids.length:=λu hu e=>by
  rw[Cb]
  exact(h.str.km w0 hw u.b).2 ⟨u,hu,rfl,e⟩
 have hP:Part S' z (exps x.p x.fs z.env) (cnt x.p x.fs z.env):=by
  rw[z4,e1,e3]
  refine⟨z5.trans q4.ct,λu hu e=>?_,λy hy=>?_,λu hu v hv a1 a2 a3=>?_⟩
  . obtain⟨u0,u1,u2,u3⟩:=hK.sub u hu (e.trans z2)
    subst u2
    have hne:=u3 (hkb u u1 (e.trans z2))
    rcases(hm _).1 (q4.sub u u1 (e.trans z2))with h1|h1
    . exact absurd (congrArg Prod.fst h1) hne
    . exact h1
  . obtain⟨u,u1,u2,u3⟩:=q4.all y ((hm y).2 (.inr hy))
    have hne:u.id≠f.id:=λh1=>hid (by
     rw[<-h1,show u.id=y.1 from congrArg Prod.fst u3]
     exact Nv hy)
    exact⟨u,hK.sup u u1 u2 (.inl hne),u2.trans z2.symm,u3⟩
  . obtain⟨u0,u1,u2, -⟩:=hK.sub u hu (a1.trans z2)
    obtain⟨v0,v1,v2, -⟩:=hK.sub v hv (a2.trans z2)
    subst u2 v2
    exact q4.one u u1 v v1 (a1.trans z2) (a2.trans z2) a3
 refine h.next hnd hb hw hwb hK.str hK.kept hK.loc hK.off (λw' h1 h2=>?_) ⟨z,z1,z2⟩
 have:=hK.str.anc_b h1 z1 (h2.trans z2.symm)
 subst this
 exact Part.ok (h.kept.trans hK.kept) hx hkn (by rw[z2,q3]) hP
theorem StepJ.less(h:StepJ S1 ts k x.p F j Sj)(hnd:ts.Nodup)(hb:ts[j]?=some b)(hw:w∈Sj.H)(hwb:w.b=b)(hx:S1.ns[k]?=some x)(hkn:k+1≠S1.ns.length)(hn:x.p.neg=true)(hF:F.Perm (f::x.fs))(hp:Mat.pass x.p f w.env=some e)(hpm:Sj.H.Perm (w::H0))(hc:2<=w.count/\w.count<=1000):StepJ S1 ts k x.p F (j+1) (Nt.setCount Sj H0 w (w.count - 1)):=by
 obtain⟨w0,q1,q2,q3,q4⟩:=h.tok hb
 have:=h.str.same q1 hw (q2.trans hwb.symm)
 subst this
 have hbm:b∈ts.drop j:=by rw[V.drop_cons hb];exact Ag ..
 have hwX:w0.b∈ts.drop j:=by rw[q2];exact hbm
 have hc2:0<=w0.count - 1/\w0.count - 1<=1000:=by omega
 have hS2:=h.str.setCount hpm hc2
 have hL:=h.loc.setCount h.str hpm hwX hc2
 have hG:=Grew.setCount (c:=w0.count - 1) hpm
 have hl:(Mat.passL x.p F w0.env).length=(Mat.passL x.p x.fs w0.env).length+1:=by
  rw[(passL_perm hF w0.env).length_eq,passL_some hp,An]
 have hct:=q4.ct
 unfold cnt at hct
 rw[if_pos hn,hl]at hct
 have e1:exps x.p F w0.env=[]:=by
  unfold exps
  rw[if_pos hn,if_neg (λe=>by rw[e]at hl;cases hl)]
 have e2:exps x.p x.fs w0.env=[]:=by
  unfold exps
  rw[if_pos hn,if_neg (λe=>by rw[e]at hct;simp at hct;omega)]
 have e3:cnt x.p x.fs w0.env=w0.count - 1:=by
  unfold cnt
  rw[if_pos hn,hct]
  omega
 rw[e1]at q4
 have hP:=q4.setCount h.str hpm hc2
 rw[<-e2,<-e3]at hP
 refine h.next hnd hb hw hwb hS2 hG.toKept hL hG.off (λw' h1 h2=>?_) ⟨withCount w0 (w0.count - 1),Ag ..,rfl⟩
 have:=hS2.anc_b h1 (Ag ..) (h2.trans (show w0.anc=(withCount w0 (w0.count - 1)).anc from rfl))
 subst this
 refine Part.ok (h.kept.trans hG.toKept) hx hkn q3 (w':=withCount w0 (w0.count - 1)) ?_
 rw[<-e3]
 exact hP
theorem StepJ.last(h:StepJ S1 ts k x.p F j Sj)(hnd:ts.Nodup)(hb:ts[j]?=some b)(hw:w∈Sj.H)(hwb:w.b=b)(hx:S1.ns[k]?=some x)(hkn:k+1≠S1.ns.length)(hn:x.p.neg=true)(hF:F.Perm (f::x.fs))(hp:Mat.pass x.p f w.env=some e)(hpm:Sj.H.Perm (w::H0))(hc:w.count=1)(hS':Str S' [])(hL:Loc S' (ts.drop j))(hE:ExtR (Nt.setCount Sj H0 w 0) S' (withCount w 0) 0 w.env):StepJ S1 ts k x.p F (j+1) S':=by
 obtain⟨w0,q1,q2,q3,q4⟩:=h.tok hb
 have:=h.str.same q1 hw (q2.trans hwb.symm)
 subst this
 have hc2:(0:Int)<=0/\(0:Int)<=1000:=by decide
 have hS2:=h.str.setCount hpm hc2
 have hG:=Grew.setCount (c:=0) hpm
 have hl:(Mat.passL x.p F w0.env).length=(Mat.passL x.p x.fs w0.env).length+1:=by
  rw[(passL_perm hF w0.env).length_eq,passL_some hp,An]
 have hct:=q4.ct
 unfold cnt at hct
 rw[if_pos hn,hl,hc]at hct
 have hnil:Mat.passL x.p x.fs w0.env=[]:=Ay q_o
 have e1:exps x.p F w0.env=[]:=by
  unfold exps
  rw[if_pos hn,if_neg (λe=>by rw[e]at hl;cases hl)]
 have e2:exps x.p x.fs w0.env=[(0,w0.env)]:=by
  unfold exps
  rw[if_pos hn,if_pos hnil]
 have e3:cnt x.p x.fs w0.env=0:=by
  unfold cnt
  rw[if_pos hn,hnil]
  rfl
 rw[e1]at q4
 have hP:=q4.setCount h.str hpm hc2
 obtain⟨z,z1,z2,z3,z4,z5⟩:=hP.ext hS' (Ag ..) (id:=0) (env:=w0.env) (by simp) hE
 have z2:z.anc=w0.anc:=z2
 have z4:z.env=w0.env:=z4
 rw[AM,<-e2,<-e3,<-z4]at z5
 refine h.next hnd hb hw hwb hS' (hG.toKept.trans hE.toKept) hL (hG.off.trans hE.grew.off) (λw' h1 h2=>?_) ⟨z,z1,z2⟩
 have:=hS'.anc_b h1 z1 (h2.trans z2.symm)
 subst this
 exact Part.ok (h.kept.trans (hG.toKept.trans hE.toKept)) hx hkn (by rw[z2,q3]) z5
end Nt
end
section
namespace Nt
variable {S S1 S' Sj:NC} {X:List Nat} {w:Tok} {k:Nat} {x:Nd} {f z:Fc} {fs:List Fc} {M:MemP}
def setFs (S:NC)(k:Nat)(x:Nd)(fs:List Fc)(M:MemP):NC:={S with ns:=S.ns.set k {x with fs:=fs,fm:=M} }
theorem Str.setFs(h:Str S [])(hx:S.ns[k]?=some x)(hM:M.okF fs)(hf:FKs fs)(hl:fs.length<=1000):Str (Nt.setFs S k x fs M) []:=by
 have hxm:=Ah hx
 have hk:=(Af.1 hx).1
 refine⟨h.ne,h.nd,h.up,h.rt,h.kn,h.km,h.kl,λw hw=>?_,λi y hy=>?_,λi y hy b=>?_,h.okt,λy hy=>?_,?_,?_,h.ek,λy hy=>?_,h.ct,h.rx⟩
 . show _<=(S.ns.set k _).length
   rw[AV];exact h.lv w hw
 . rcases Jg hx hy with⟨-,rfl⟩|⟨-,hy⟩
   . exact h.tn k x hx
   . exact h.tn i y hy
 . rcases Jg hx hy with⟨rfl,rfl⟩|⟨-,hy⟩
   . exact h.tm _ x hx b
   . exact h.tm i y hy b
 . rcases BT hy with⟨i,hi⟩
   rcases Jg hx hi with⟨-,rfl⟩|⟨-,hi⟩
   . exact⟨hM,(h.okx x hxm).2⟩
   . exact h.okx y (Ah hi)
 . have h1:=h.row
   show(CJ (S.ns.set k _)++S.zs).length=_
   rw[Ad,DP]at h1 |-
   rw[AV]
   exact h1
 . show(S.ns.set k _).length<=5
   rw[AV];exact h.nl
 . rcases BT hy with⟨i,hi⟩
   rcases Jg hx hi with⟨-,rfl⟩|⟨-,hi⟩
   . exact⟨(h.pk x hxm).1,hf,hl⟩
   . exact h.pk y (Ah hi)
theorem Loc.setFs(h:Loc S [])(hS:Str S [])(hx:S.ns[k]?=some x):Loc (Nt.setFs S k x fs M) x.ts:=by
 intro u hu hub
 have hu:u∈S.H:=hu
 have hk:u.anc.length≠k+1:=λe=>hub ((hS.tm k x hx u.b).2 ⟨u,hu,rfl,e,AP⟩)
 have h1:=h u hu AP
 unfold LocOk at h1 |-
 show if u.anc.length=(S.ns.set k _).length then _ else _
 rw[AV]
 split
 . rename_i e;rw[if_pos e]at h1;exact h1
 . rename_i e
   rw[if_neg e]at h1
   intro y hy
   have hp:=Cm.2 (hS.ne u hu)
   rcases Jg hx hy with⟨e2, -⟩|⟨-,hy⟩
   . omega
   . exact h1 y hy
theorem StepJ.zero(h:Loc S [])(hS:Str S [])(hx:S.ns[k]?=some x)(hkn:k+1≠S.ns.length)(hM:M.okF fs)(hf:FKs fs)(hl:fs.length<=1000):StepJ (Nt.setFs S k x fs M) x.ts k x.p x.fs 0 (Nt.setFs S k x fs M):=by
 refine⟨hS.setFs hx hM hf hl,Kept.refl _,by rw[Ch];exact h.setFs hS hx,λb hb=>?_⟩
 rw[Ch]at hb
 obtain⟨w,w1,w2,w3, -⟩:=(hS.tm k x hx b).1 hb
 have h1:=(h w w1 AP).part (by rw[w3];exact hkn) (x:=x) (by rw[w3];exact hx)
 exact⟨w,w1,w2,w3,h1.ct,h1.sub,h1.all,h1.one⟩
end Nt
theorem NC.put_F{S:NC}{k:Nat}{x:Nd}(hx:S.ns[k]?=some x)(fs:List Fc)(M:MemP)(B:Res)(st:St):(B::((Nt.setFs S k x fs M).st++st)).Perm (.box S.g 115 (MD S.ns k x++(M.cells fs.length++Km S.ns k x S.zs))::(M.resF fs++(B::(x.tm.resT x.ts++(S.off k++st))))):=by
 have hx2:(Nt.setFs S k x fs M).ns[k]?=some {x with fs:=fs,fm:=M}:=BA (Af.1 hx).1
 have h6:=((NC.at_F hx2).append_right st).cons B
 refine h6.trans ?_
 simp only[AI,Ai]
 refine(EV _ _ _ _).trans ?_
 have e1:MD (Nt.setFs S k x fs M).ns k {x with fs:=fs,fm:=M}=MD S.ns k x:=by
  unfold MD
  show CJ ((S.ns.set k _).take k)++_=_
  rw[EH]
 have e2:Km (Nt.setFs S k x fs M).ns k {x with fs:=fs,fm:=M} (Nt.setFs S k x fs M).zs=Km S.ns k x S.zs:=by
  unfold Km
  show _++(CJ ((S.ns.set k _).drop (k+1))++_)=_
  rw[EN]
  rfl
 have e3:(Nt.setFs S k x fs M).off k=S.off k:=by
  unfold NC.off NC.cbox
  show Res.box S.c _ [.ar S.g 0 (S.ns.set k _).length S.cap]::(((S.ns.set k _).take k).flatMap Nd.res++(((S.ns.set k _).drop (k+1)).flatMap Nd.res++S.H.flatMap Tok.res))=_
  rw[EH,EN,AV]
 rw[e1,e2,e3]
 exact Ar _
theorem NC.get_F{S:NC}{k:Nat}{x:Nd}(hx:S.ns[k]?=some x)(B:Res)(st:St):(B::(S.st++st)).Perm (.box S.g 115 (MD S.ns k x++(x.fm.cells x.fs.length++Km S.ns k x S.zs))::(x.fm.resF x.fs++(B::(x.tm.resT x.ts++(S.off k++st))))):=by
 have h6:=((NC.at_F hx).append_right st).cons B
 refine h6.trans ?_
 simp only[AI,Ai]
 exact EV _ _ _ _
theorem cq(S:NC)(k:Nat)(x:Nd)(f:Fc)(B:Res)(hS:Nt.Str S [])(hx:S.ns[k]?=some x)(hid:f.id∉x.fs.map Fc.id)(st:St):TrF prog 65 [.ptr S.g (k*9+3),.i f.id,.agg f.cells] (B::(S.st++st)) λd st'=>∃M':MemP,M'.okF (x.fs++[f])/\d=.tup []/\(B::((Nt.setFs S k x (x.fs++[f]) M').st++st)).Perm st':=by
 have hxm:=Ah hx
 have hl:=(hS.pk x hxm).2.2
 have h2:=Yj S.g 115 (MD S.ns k x) (Km S.ns k x S.zs) x.fm x.fs f (hS.okx x hxm).1 hid q_o (B::(x.tm.resT x.ts++(S.off k++st)))
 rw[MB hx]at h2
 refine(TrF.perm (NC.get_F hx B st) h2).mono λd st' ⟨M',h3,h4,h5⟩=>⟨M',h3,h4,?_⟩
 have h6:=NC.put_F hx (x.fs++[f]) M' B st
 rw[Ad,BE]at h6
 exact h6.trans h5
theorem Zy(S:NC)(k:Nat)(x:Nd)(f z:Fc)(i n:Nat)(B:Res)(hS:Nt.Str S [])(hx:S.ns[k]?=some x)(hn:x.fs.length=n+1)(hi:x.fs[i]?=some f)(hz:x.fs[n]?=some z)(st:St):TrF prog 68 [.ptr S.g (k*9+3),.i f.id] (B::(S.st++st)) λd st'=>∃M':MemP,M'.okF (Cz x.fs i z)/\d=.tup []/\(B::((Nt.setFs S k x (Cz x.fs i z) M').st++st)).Perm st':=by
 have hxm:=Ah hx
 have hl:=(hS.pk x hxm).2.2
 have h2:=Vy S.g 115 (MD S.ns k x) (Km S.ns k x S.zs) x.fm x.fs f z i n (hS.okx x hxm).1 hn hi hz q_o (B::(x.tm.resT x.ts++(S.off k++st)))
 rw[MB hx]at h2
 refine(TrF.perm (NC.get_F hx B st) h2).mono λd st' ⟨M',h3,h4,h5⟩=>⟨M',h3,h4,?_⟩
 have h6:=NC.put_F hx (Cz x.fs i z) M' B st
 rw[Jw hn]at h6
 exact h6.trans h5
theorem UV(S:NC)(k:Nat)(x:Nd)(id:Int)(B:Res)(hS:Nt.Str S [])(hx:S.ns[k]?=some x)(st:St):TrF prog 64 [.ptr S.g (k*9+3),.i id] (B::(S.st++st)) λd st'=>d=GL (Mat.find x.fs id)/\(B::(S.st++st)).Perm st':=by
 have hxm:=Ah hx
 have hl:=(hS.pk x hxm).2.2
 have h2:=Yl S.g 115 (MD S.ns k x) (Km S.ns k x S.zs) x.fm x.fs id (hS.okx x hxm).1 q_o (B::(x.tm.resT x.ts++(S.off k++st)))
 rw[MB hx]at h2
 exact(TrF.perm (NC.get_F hx B st) h2).mono λd st' ⟨h3,h4⟩=>⟨h3,by rw[h4];exact NC.get_F hx B st⟩
end
theorem Zz(S1 : NC)(k nb:Nat)(x:Nd)(F:List Fc)(f:Fc)(hx:S1.ns[k]?=some x)(hkn:k+1<S1.ns.length)(hfs:x.fs=F++[f])(hid:f.id∉F.map Fc.id)(hF:F.length<1000)(hf:FK f)(h0:Nt.StepJ S1 x.ts k x.p F 0 S1)(st:St) :
 TrF prog 100 [.ptr S1.g (k*9),.agg f.cells,.fn (.func 101) [] [.ptr nb 0,.ip [.ptr S1.c 0],.ip f.cells]] (.box nb 164 [.ptr S1.g (k*9)]::(S1.st++st)) λd st'=>∃S',Nt.Str S' []/\Nt.Loc S' []/\Nt.Kept S1 S'/\d=.tup []/\(Res.box nb 164 [.ptr S1.g (k*9)]::(S'.st++st)).Perm st':=by
 have hnd:=h0.str.tn k x hx
 have hlen:∀env,(Mat.passL x.p F env).length<=F.length:=λenv=>NV ..
 refine(UJ S1 k x f (.box nb 164 [.ptr S1.g (k*9)]) 101 [.ptr nb 0,.ip [.ptr S1.c 0],.ip f.cells] (Nt.StepJ S1 x.ts k x.p F) hx h0.str hf (Aa call101) h0 (λj Sj h=>⟨h.str,h.kept⟩) (λj b Sj hb h=>?_) (λj b Sj w hb h hw hwb hp=>?_) (λj b Sj w e hb h hw hwb hp st=>?_) st).mono λd st' ⟨S',h1,h2,h3⟩=>⟨S',h1.str,h1.done,h1.kept,h2,h3⟩
 . obtain⟨w,w1,w2, -⟩:=h.tok hb
   exact⟨w,w1,w2⟩
 . refine h.same hnd hb hw hwb hx q_o ?_
   have:Mat.passL x.p x.fs w.env=Mat.passL x.p F w.env:=by
    rw[hfs]
    unfold Mat.passL
    rw[JK,De (by rw[hp];rfl),Xs,AY]
   rw[this]
 . obtain⟨w0,q1,q2,q3,q4⟩:=h.tok hb
   have:=h.str.same q1 hw (q2.trans hwb.symm)
   subst this
   obtain⟨y,y1,y2,y3⟩:=h.kept.ns k x hx
   have hek:=h.str.ek w0 hw
   have hee:EK e:=⟨Mat.pass_mem hp (λz hz=>(hf.v z hz).1.bg) hek.v,by rw[Mat.pass_len hp];decide⟩
   cases hn:x.p.neg with
   | false =>
    have hkid:w0.kids.length<1000:=by
     have h1:=q4.kids h.str hw
     have h2:Nt.exps x.p F w0.env=Mat.passL x.p F w0.env:=by unfold Nt.exps;rw[if_neg (by rw[hn];decide)]
     rw[h2]at h1
     have:=hlen w0.env
     omega
    have hbm:w0.b∈x.ts.drop j:=by rw[q2,V.drop_cons hb];exact Ag ..
    have h1:=dy Sj w0 (x.ts.drop j) k nb y f e y1 (by rw[y2];exact hn) h.str h.loc hbm hw q3 (by rw[h.kept.nl];exact hkn) hee hkid st
    rw[h.kept.c,h.kept.g,q2]at h1
    exact h1.mono λd st' ⟨S',a1,a2,a3,a4,a5⟩=>⟨S',h.pos hnd hb hw hwb hx q_o hn hfs hid hp a1 a2 a3,a4,a5⟩
   | true =>
    have hct:=q4.ct
    unfold Nt.cnt at hct
    rw[if_pos hn]at hct
    have:=hlen w0.env
    obtain⟨Hj,hpj⟩:=Nt.tok_split hw
    have h1:=dz Sj w0 Hj k nb y f e y1 (by rw[y2];exact hn) h.str hpj q3 q_o st
    rw[h.kept.c,h.kept.g,q2]at h1
    exact h1.mono λd st' ⟨S',a1,a2,a4,a5⟩=>⟨S',h.neg hnd hb hw hwb hx q_o hn hfs hp hpj q_o a1 a2,a4,a5⟩
theorem Wz(S1 : NC)(k nb:Nat)(x:Nd)(F:List Fc)(f:Fc)(hx:S1.ns[k]?=some x)(hkn:k+1<S1.ns.length)(hF:F.Perm (f::x.fs))(hid:f.id∉x.fs.map Fc.id)(hf:FK f)(hFl:F.length<=1000)(h0:Nt.StepJ S1 x.ts k x.p F 0 S1)(st:St) :
 TrF prog 100 [.ptr S1.g (k*9),.agg f.cells,.fn (.func 103) [] [.ptr nb 0,.ip [.ptr S1.c 0],.ip [.i f.id]]] (.box nb 164 [.ptr S1.g (k*9)]::(S1.st++st)) λd st'=>∃S',Nt.Str S' []/\Nt.Loc S' []/\Nt.Kept S1 S'/\d=.tup []/\(Res.box nb 164 [.ptr S1.g (k*9)]::(S'.st++st)).Perm st':=by
 have hnd:=h0.str.tn k x hx
 have hlen:∀env,(Mat.passL x.p F env).length<=F.length:=λenv=>NV ..
 refine(UJ S1 k x f (.box nb 164 [.ptr S1.g (k*9)]) 103 [.ptr nb 0,.ip [.ptr S1.c 0],.ip [.i f.id]] (Nt.StepJ S1 x.ts k x.p F) hx h0.str hf (Aa call103) h0 (λj Sj h=>⟨h.str,h.kept⟩) (λj b Sj hb h=>?_) (λj b Sj w hb h hw hwb hp=>?_) (λj b Sj w e hb h hw hwb hp st=>?_) st).mono λd st' ⟨S',h1,h2,h3⟩=>⟨S',h1.str,h1.done,h1.kept,h2,h3⟩
 . obtain⟨w,w1,w2, -⟩:=h.tok hb
   exact⟨w,w1,w2⟩
 . refine h.same hnd hb hw hwb hx q_o ?_
   have h1:=Nt.passL_perm (p:=x.p) hF w.env
   rw[Nt.passL_none hp]at h1
   exact h1.symm
 . obtain⟨w0,q1,q2,q3,q4⟩:=h.tok hb
   have:=h.str.same q1 hw (q2.trans hwb.symm)
   subst this
   obtain⟨y,y1,y2,y3⟩:=h.kept.ns k x hx
   have hbm:w0.b∈x.ts.drop j:=by rw[q2,V.drop_cons hb];exact Ag ..
   cases hn:x.p.neg with
   | false =>
    have h1:=ZO Sj w0 k nb y f.id e (Nt.KidJ Sj w0 f.id (x.ts.drop j)) y1 (by rw[y2];exact hn) h.str hw q3 (Nt.KidJ.zero h.str h.loc hw) (λi Si hi=>⟨hi.str,hi.kept⟩) (λi c Si hc hi=>by
     obtain⟨u,u1,u2,u3⟩:=hi.kid h.str hw hc
     exact⟨u,u1,u2,by rw[Nt.tok_b (hi.str.ne u u1),u3,An,q3]⟩) (λi c Si u hc hi hu hub hne=>hi.no hc hu hub hne) (λi c Si u S' hc hi hu hub he hS' hR=>hi.yes h.str hw hbm hc hu hub he hS' hR) st
    rw[h.kept.c,h.kept.g,q2]at h1
    exact h1.mono λd st' ⟨S',a1,a2,a3⟩=>⟨S',h.kids hnd hb hw hwb hx q_o hn hF hid hp a1,a2,a3⟩
   | true =>
    have hct:=q4.ct
    have hl:(Mat.passL x.p F w0.env).length=(Mat.passL x.p x.fs w0.env).length+1:=by
     rw[(Nt.passL_perm hF w0.env).length_eq,Nt.passL_some hp,An]
    unfold Nt.cnt at hct
    rw[if_pos hn]at hct
    have:=hlen w0.env
    obtain⟨Hj,hpj⟩:=Nt.tok_split hw
    by_cases h1c:w0.count=1
    . have hkid : w0.kids.length < 1000 := by
       have h1:=q4.kids h.str hw
       have h2:Nt.exps x.p F w0.env=[]:=by
        unfold Nt.exps
        rw[if_pos hn,if_neg (λe=>by rw[e]at hl;cases hl)]
       rw[h2]at h1
       have h1:w0.kids.length<=0:=h1
       omega
      have h1:=WI Sj w0 Hj (x.ts.drop j) k nb y f.id e y1 (by rw[y2];exact hn) h.str h.loc hbm hpj q3 (by rw[h.kept.nl];exact hkn) hkid h1c st
      rw[h.kept.c,h.kept.g,q2]at h1
      exact h1.mono λd st' ⟨S',a1,a2,a3,a4,a5⟩=>⟨S',h.last hnd hb hw hwb hx q_o hn hF hp hpj h1c a1 a2 a3,a4,a5⟩
    . have h1:=ZP Sj w0 Hj k nb y f.id e y1 (by rw[y2];exact hn) hpj q_o st
      rw[h.kept.c,h.kept.g,q2]at h1
      exact h1.mono λd st' ⟨a4,a5⟩=>⟨_,h.less hnd hb hw hwb hx q_o hn hF hp hpj q_o,a4,a5⟩
section
theorem Yc:∀(R:List MK),R.Nodup->∃l,MRep l R.reverse
|[],_=>⟨[],MRep.nil⟩
|k::R,h=>by
  obtain⟨l,hl⟩:=Yc R (Bb.1 h).2
  exact⟨_,by rw[List.reverse_cons];exact hl.put 0 (λhm=>(Bb.1 h).1 (List.mem_reverse.1 hm))⟩
theorem Wy(K:List Fc)(h:(K.map Fc.id).Nodup):∃M:MemP,M.okF K:=by
 have h2:(K.map Pq).Nodup:=EE.2 ((EE.1 h).imp λhne e=>hne (MK.i.inj e))
 obtain⟨l,hl⟩:=Yc (K.map Pq).reverse (List.pairwise_reverse.2 (h2.imp λa=>a.symm))
 rw[List.reverse_reverse]at hl
 refine⟨.at_ 0 l 0 0 K.length [] 0 K.length [],hl,?_,?_,?_⟩
 . rw[AY,Dz]
 . rw[AY,Ab,Ab]
 . rw[Dz,Ab]
theorem XY{M:MemP}{K:List Fc}{f:Fc}(hok:M.okF K)(hk:f.id∉K.map Fc.id):∃M':MemP,M'.okF (K++[f]):=Wy _ (by
 rw[Bi,FG]
 refine⟨Lf hok,Bb.2 ⟨AP,CA⟩,?_⟩
 rintro a ha b hb rfl
 rw[Au,BH,AB]at hb
 exact hk (hb▸ha))
namespace Nt
structure ComeI (S:NC)(f:Fc)(i:Nat)(Si:NC):Prop where
 str:Str Si []
 loc:Loc Si []
 c:Si.c=S.c
 g:Si.g=S.g
 cap:Si.cap=S.cap
 nl:Si.ns.length=S.ns.length
 ns:∀(k:Nat) (x:Nd),S.ns[k]?=some x->∃y,Si.ns[k]?=some y/\y.p=x.p/\y.fs=if S.ns.length - 1 - i<=k/\k+1<S.ns.length/\Mat.solo x.p f=true then x.fs++[f]else x.fs
theorem ComeI.zero{S:NC}{f:Fc}(hS:Str S [])(hL:Loc S []):ComeI S f 0 S:=⟨hS,hL,rfl,rfl,rfl,rfl,λk x hx=>⟨x,hx,rfl,by
 rw[if_neg]
 rintro⟨h1,h2, -⟩
 omega⟩⟩
variable {S Si S':NC} {f:Fc} {i k:Nat} {x y:Nd}
theorem ComeI.no(h:ComeI S f i Si)(hi:i<S.ns.length - 1)(hk:k=S.ns.length - 2 - i)(hx:S.ns[k]?=some x)(ha:Mat.solo x.p f=false):ComeI S f (i+1) Si:=by
 refine⟨h.str,h.loc,h.c,h.g,h.cap,h.nl,λk2 z hz=>?_⟩
 obtain⟨y,y1,y2,y3⟩:=h.ns k2 z hz
 refine⟨y,y1,y2,?_⟩
 rw[y3]
 by_cases e:k2=k
 . subst e
   rw[hx]at hz
   cases hz
   rw[if_neg (by rw[ha];simp),if_neg (by rw[ha];simp)]
 . congr 1
   refine propext ⟨λ⟨a,b,c⟩=>⟨by omega,b,c⟩,λ⟨a,b,c⟩=>⟨by omega,b,c⟩⟩
theorem ComeI.at_(h:ComeI S f i Si)(hi:i<S.ns.length - 1)(hk:k=S.ns.length - 2 - i)(hx:S.ns[k]?=some x):∃y,Si.ns[k]?=some y/\y.p=x.p/\y.fs=x.fs:=by
 obtain⟨y,y1,y2,y3⟩:=h.ns k x hx
 refine⟨y,y1,y2,?_⟩
 rw[y3,if_neg]
 rintro⟨a, -⟩
 omega
theorem ComeI.yes{M:MemP}(h:ComeI S f i Si)(hi:i<S.ns.length - 1)(hk:k=S.ns.length - 2 - i)(hx:S.ns[k]?=some x)(ha:Mat.solo x.p f=true)(hy:Si.ns[k]?=some y)(hS':Str S' [])(hL':Loc S' [])(hK:Kept (Nt.setFs Si k y (y.fs++[f]) M) S'):ComeI S f (i+1) S':=by
 have hkl:=(Af.1 hy).1
 refine⟨hS',hL',hK.c.trans h.c,hK.g.trans h.g,hK.cap.trans h.cap,hK.nl.trans ((show(Si.ns.set k _).length=_ from AV ..).trans h.nl),λk2 z hz=>?_⟩
 obtain⟨y2,q1,q2,q3⟩:=h.ns k2 z hz
 by_cases e:k2=k
 . subst e
   rw[hx]at hz
   cases hz
   rw[hy]at q1
   cases q1
   have h1:(Nt.setFs Si k2 y (y.fs++[f]) M).ns[k2]?=some {y with fs:=y.fs++[f],fm:=M}:=BA hkl
   obtain⟨z,z1,z2,z3⟩:=hK.ns k2 _ h1
   refine⟨z,z1,z2.trans q2,z3.trans ?_⟩
   show y.fs++[f]=_
   rw[q3,if_neg q_o,if_pos ⟨by omega,by omega,ha⟩]
 . have h1 : (Nt.setFs Si k y (y.fs ++ [f]) M).ns[k2]? = some y2 := by
    show(Si.ns.set k _)[k2]?=_
    rw[DX (λe1=>e e1.symm)];exact q1
   obtain⟨z2,z1,z3,z4⟩:=hK.ns k2 _ h1
   refine⟨z2,z1,z3.trans q2,?_⟩
   rw[z4,q3]
   congr 1
   refine propext ⟨λ⟨a,b,c⟩=>⟨by omega,b,c⟩,λ⟨a,b,c⟩=>⟨by omega,b,c⟩⟩
end Nt
end
section
attribute [local push_cast] Br Bl BV V.cells_mk V.cells_len Nat.mul_one Int.sub_zero List.map_nil beq_self_eq_true bne_self_eq_false List.head?_cons Bool.not_true Bool.not_false Nat.zero_add
attribute [-instance] Ck Cu BO Ds
theorem NC.layP{S Sj:NC}{k:Nat}{y:Nd}(hc:Sj.c=S.c)(hg:Sj.g=S.g)(hcap:Sj.cap=S.cap)(hnl:Sj.ns.length=S.ns.length)(hy:Sj.ns[k]?=some y)(s:St):∃(ROWj:List D) (RJ:St),(Sj.st++s).Perm (.box S.c 109 [.ar S.g 0 S.ns.length S.cap]::.box S.g 115 ROWj::RJ)/\List.take 3 (List.drop (k*9) ROWj)=y.p.cells/\k*9+9<=ROWj.length:=by
 have hs:CJ Sj.ns++Sj.zs=CJ (Sj.ns.take k)++(y.p.cells++((y.fm.cells y.fs.length++y.tm.cells y.ts.length)++(CJ (Sj.ns.drop (k+1))++Sj.zs))):=by
  rw[GZ hy]
  unfold Nd.cells
  simp only[Ai]
 have hl:=Iw hy
 have hpc:y.p.cells=[.i y.p.tmpl,.b y.p.neg,.sl .shared (y.p.tests.map Ts.cells)]:=rfl
 refine⟨CJ Sj.ns++Sj.zs,(Sj.ns.flatMap Nd.res++Sj.H.flatMap Tok.res)++s,?_,?_,?_⟩
 . rw[<-hc,<-hg,<-hcap,<-hnl]
   exact .refl _
 . rw[hs,<-hl,CN,hpc];rfl
 . rw[Ad,DP]
   have:=(Af.1 hy).1
   omega
theorem lf(S : NC)(f:Fc)(hS:Nt.Str S [])(hL:Nt.Loc S [])(hf:FK f)(hn1:1<=S.ns.length)(hid:∀x∈S.ns,f.id∉x.fs.map Fc.id)(hlen:∀x∈S.ns,x.fs.length<1000)(st:St) :
 TrF prog 66 [.ptr S.c 0,.agg f.cells] (S.st++st) λd st'=>∃S',Nt.ComeI S f (S.ns.length - 1) S'/\d=.tup []/\(S'.st++st).Perm st':=by
 have hcap:S.ns.length<=S.cap:=by
  have:=hS.row
  rw[Ad,DP]at this
  omega
 have hP:=Aa (patsF S.c)
 have hIt:=Aa (UI S.c S.g S.ns.length S.cap hS.nl hn1 hcap)
 have hJ0:Hid (Nt.ComeI S f 0 S):=Nt.ComeI.zero hS hL
 have hpk:Hid (∀x∈S.ns,PK x.p/\FKs x.fs):=λx hx=>⟨(hS.pk x hx).1,(hS.pk x hx).2.1⟩
 have hfk:=Aa hf
 have hid2:=Aa hid
 have hlen2:=Aa hlen
 clear hS hL hf hid hlen
 generalize hST:S.st++st=ST at *
 rw[show f.cells=[.i f.id,.i f.time,.i f.tmpl,.i f.ver,.sl .shared (f.s.map V.cells)]from rfl]
 generalize hVS:f.s.map V.cells=VS at *
 refine Qin [] func66 results66 ntmps66 ?_
 repeat' (first|refine QV ?_|(with_reducible refine Du ?_)|refine QY ?_|refine QB ?_;intro b|with_reducible refine QZ ?_<;>(try constructor)<;>intro hb<;>try intro hb1|refine Qc call98 ((hP.out _)) ?_|fail)
 rw[<-hST]
 refine Bn (st':=[]++(S.st++st)) (.refl _) ?_
 refine It hIt.out call139 q_v (λ_=>rfl) rfl (λi C=>∃Si,Nt.ComeI S f i Si/\C=Si.st++st) (λ_ _ _=>False) (λC B h=>h.app C B) (λi C ⟨Si,h,e⟩=>by
  subst e
  refine⟨(Si.gbox::(Si.ns.flatMap Nd.res++Si.H.flatMap Tok.res))++st,?_⟩
  have:Si.cbox=.box S.c 109 [.ar S.g 0 S.ns.length S.cap]:=by unfold NC.cbox;rw[h.c,h.g,h.cap,h.nl]
  rw[<-this]
  exact .refl _) ⟨S,hJ0.out,rfl⟩ ?_ ?_ (λ_ _ _ _ _ _ h=>h.elim)
 . rintro l i k C K hk ⟨Si,hJ,rfl⟩
   have hin:i<S.ns.length - 1:=by
    have:=(Af.1 hk).1
    rwa[JI]at this
   have hkk:k=S.ns.length - 2 - i:=by
    rw[PM hin]at hk
    exact(Cl hk).symm
   have hkn:k<S.ns.length:=by omega
   obtain⟨x,hx⟩:=gEx hkn
   have hxm:=Ah hx
   obtain⟨y,hy,hyp,hyf⟩:=hJ.at_ hin hkk hx
   have hA:∀s:St,TrF prog 99 [.agg x.p.cells,.agg [.i f.id,.i f.time,.i f.tmpl,.i f.ver,.sl .shared VS]] s λd st'=>d=.b (Mat.solo x.p f)/\st'=s:=λs=>by
    have:=ju x.p f (hpk.out x hxm).1 hfk.out s
    rw[show f.cells=[.i f.id,.i f.time,.i f.tmpl,.i f.ver,.sl .shared (f.s.map V.cells)]from rfl,hVS]at this
    exact this
   have hkk2:Hid (k=S.ns.length - 2 - i):=hkk
   clear hk hIt hJ0 hP hkk
   refine(?_:Tr _ _ _ _ (AA.put ⟨_,[]⟩ (some 7) (.ptr S.g (k*9))) ((Si.st++st)++K) _)
   repeat' (first|refine QX ?_|refine QB ?_;intro b|with_reducible refine QZ ?_<;>(try constructor)<;>intro hb<;>try intro hb1|fail)
   obtain⟨nb,rfl⟩:∃q,q=b:=⟨_,rfl⟩
   refine⟨.box nb 164 [.ptr S.g (k*9)]::(Si.st++st),Aj _,λK'=>?_⟩
   clear K
   obtain⟨ROWj,RJ,v1,v2,v3⟩:=NC.layP hJ.c hJ.g hJ.cap hJ.nl hy (st++K')
   rw[hyp]at v2
   have v4:=v1.cons (Res.box nb 164 [.ptr S.g (k*9)])
   refine Hl ?_
   refine Bn (st':=.box nb 164 [.ptr S.g (k*9)]::.box S.c 109 [.ar S.g 0 S.ns.length S.cap]::.box S.g 115 ROWj::RJ) (by
    show List.Perm (_::((Si.st++st)++K')) _
    rw[Ai]
    exact v4) ?_
   have v7:3<=(List.drop (k*9) ROWj).length:=by rw[AO];omega
   have hpc:x.p.cells=[.i x.p.tmpl,.b x.p.neg,.sl .shared (x.p.tests.map Ts.cells)]:=rfl
   rw[hpc]at v2 hA
   cases ha:Mat.solo x.p f with
   | false =>
    have hJn:=Aa (hJ.no hin hkk2.out hx ha)
    rw[ha]at hA
    replace hA:=Aa hA
    replace v4:=Aa v4
    clear v1 hJ hx hxm hy hyp hyf ha hpc hkk2 hin hpk hid2 hlen2 hfk
    generalize x.p.tests.map Ts.cells=TS at *
    repeat' (first|refine QV ?_|((with_reducible apply(Da (id:=3) [(nb,[.ptr S.g (k*9)]),(S.g,ROWj)]));(iterate 3 (focus kernel_rfl));(focus exact q_k);intro hne;(try simp only[nes,ne1,and_assoc]at hne);repeat(have hq:=hne.1;replace hne:=hne.2))|((with_reducible refine And.intro ?_ ?_);(focus exact q_k))|(with_reducible refine Du ?_)|refine QY ?_|refine QB ?_;intro b|with_reducible refine QZ ?_<;>(try constructor)<;>intro hb<;>try intro hb1|refine Qc call99 ((hA.out _)) ?_|fail)
    exact⟨(.box nb 164 [.ptr S.g (k*9)]::(Si.st++st))++K',by rw[show(Res.box nb 164 [.ptr S.g (k*9)]::(Si.st++st))++K'=Res.box nb 164 [.ptr S.g (k*9)]::(Si.st++(st++K'))from by rw[AI,Ai]];exact v4.out.symm,_,AK ..,Si,hJn.out,rfl⟩
   | true =>
    have hnew:f.id∉y.fs.map Fc.id:=by rw[hyf];exact hid2.out x hxm
    have hyl:y.fs.length<1000:=by rw[hyf];exact hlen2.out x hxm
    obtain⟨hpk1,hpk2⟩:=hpk.out x hxm
    have hFK:FKs (y.fs++[f]):=⟨λz hz=>by
     rw[Bc,AB,hyf]at hz
     rcases hz with hz|rfl
     . exact hpk2.f z hz
     . exact hfk.out,by rw[Ad,BE];omega⟩
    have hl1:(y.fs++[f]).length<=1000:=by rw[Ad,BE];omega
    have hk1:k+1<Si.ns.length:=by
     have h1:=hkk2.out
     rw[hJ.nl]
     omega
    have hput:=cq Si k y f (.box nb 164 [.ptr S.g (k*9)]) hJ.str hy hnew (st++K')
    rw[hJ.g]at hput
    have hput2:=TrF.perm v4.symm hput
    have hE:∃(d:D) (st':St) (M':MemP),M'.okF (y.fs++[f])/\d=.tup []/\(Res.box nb 164 [.ptr S.g (k*9)]::((Nt.setFs Si k y (y.fs++[f]) M').st++(st++K'))).Perm st':=by
     obtain⟨M0,hM0⟩:=XY (hJ.str.okx y (Ah hy)).1 hnew
     exact⟨_,_,M0,hM0,rfl,.refl _⟩
    have hpas:Hid (∀M':MemP,M'.okF (y.fs++[f])->TrF prog 100 [.ptr S.g (k*9),.agg f.cells,.fn (.func 101) [] [.ptr nb 0,.ip [.ptr S.c 0],.ip f.cells]] (.box nb 164 [.ptr S.g (k*9)]::((Nt.setFs Si k y (y.fs++[f]) M').st++(st++K'))) λd st'=>∃S',Nt.ComeI S f (i+1) S'/\d=.tup []/\(Res.box nb 164 [.ptr S.g (k*9)]::(S'.st++(st++K'))).Perm st'):=λM' hM=>by
     have hy2:(Nt.setFs Si k y (y.fs++[f]) M').ns[k]?=some {y with fs:=y.fs++[f],fm:=M'}:=BA (Af.1 hy).1
     have h1:=Zz (Nt.setFs Si k y (y.fs++[f]) M') k nb {y with fs:=y.fs++[f],fm:=M'} y.fs f hy2 ((show(Si.ns.set k _).length=_ from AV ..).symm▸hk1) rfl hnew hyl hfk.out (Nt.StepJ.zero hJ.loc hJ.str hy q_o hM hFK hl1) (st++K')
     have e1:(Nt.setFs Si k y (y.fs++[f]) M').g=S.g:=hJ.g
     have e2:(Nt.setFs Si k y (y.fs++[f]) M').c=S.c:=hJ.c
     rw[e1,e2]at h1
     exact h1.mono λd st' ⟨S',a1,a2,a3,a4,a5⟩=>⟨S',hJ.yes hin hkk2.out hx ha hy a1 a2 a3,a4,a5⟩
    rw[show f.cells=[.i f.id,.i f.time,.i f.tmpl,.i f.ver,.sl .shared (f.s.map V.cells)]from rfl,hVS]at hput2 hpas
    rw[ha]at hA
    replace hA:=Aa hA
    replace hput2:=Aa hput2
    replace hE:=Aa hE
    clear v1 v4 hput hJ hx hxm hy hyp hyf ha hpc hkk2 hin hpk hid2 hlen2 hfk hnew hyl hpk1 hpk2 hFK hl1 hk1
    generalize x.p.tests.map Ts.cells=TS at *
    repeat' (first|refine QV ?_|((with_reducible apply(Da (id:=3) [(nb,[.ptr S.g (k*9)]),(S.g,ROWj)]));(iterate 3 (focus kernel_rfl));(focus exact q_k);intro hne;(try simp only[nes,ne1,and_assoc]at hne);repeat(have hq:=hne.1;replace hne:=hne.2))|((with_reducible refine And.intro ?_ ?_);(focus exact q_k))|((with_reducible apply(Da (id:=4) [(nb,[.ptr S.g (k*9)])]));(iterate 3 (focus kernel_rfl));(focus exact q_k);intro hne;(try simp only[nes,ne1,and_assoc]at hne);repeat(have hq:=hne.1;replace hne:=hne.2))|((with_reducible refine And.intro ?_ ?_);(focus exact q_k))|((with_reducible apply(DL call65));(focus exact Ar _);(focus exact hput2.out);(focus exact LEL.refl _);(focus exact hE.out);(rintro d st2 ⟨M2,hok2,rfl,hp2⟩;refine⟨BI,?_⟩))|((with_reducible refine Bn hp2.symm ?_))|((with_reducible apply(BG (f:=100) (henter:=call100) (hp:=Ar _) (h:=hpas.out M2 hok2)));(focus exact q_v);(focus exact q_l);(rintro d0 st0 ⟨S',h1,rfl,hp4⟩))|(with_reducible refine Du ?_)|refine QY ?_|refine QB ?_;intro b|with_reducible refine QZ ?_<;>(try constructor)<;>intro hb<;>try intro hb1|refine Qc call99 ((hA.out _)) ?_|fail)
    exact⟨(.box nb 164 [.ptr S.g (k*9)]::(S'.st++st))++K',by rw[show(Res.box nb 164 [.ptr S.g (k*9)]::(S'.st++st))++K'=Res.box nb 164 [.ptr S.g (k*9)]::(S'.st++(st++K'))from by rw[AI,Ai]];exact hp4.symm,_,AK ..,S',h1,rfl⟩
 . rintro d K1 C' rfl ⟨Si,hJ,rfl⟩
   have hfin:Hid (∃S',Nt.ComeI S f (S.ns.length - 1) S'/\D.tup []=D.tup []/\(S'.st++st).Perm (Si.st++st)):=⟨Si,by rw[JI]at hJ;exact hJ,rfl,.refl _⟩
   repeat' (first|refine QX ?_|refine QB ?_;intro b|with_reducible refine QZ ?_<;>(try constructor)<;>intro hb<;>try intro hb1|fail)
   exact Em q_x q_y (.refl _) (Aj _) (LE.refl _) hfin.out
end
section
theorem OK{α:Type}{K:List α}{i n:Nat}{a z:α}(hn:K.length=n+1)(hi:K[i]?=some a)(hz:K[n]?=some z):K.Perm (a::Cz K i z):=by
 obtain⟨hil,hia⟩:=Af.1 hi
 have hs:K=K.take i++a::K.drop (i+1):=by rw[<-V.drop_cons hi,Bv]
 have ht:K.set i z=K.take i++z::K.drop (i+1):=by rw[YB,if_pos hil]
 rw[Ms hn q_o hz]at ht
 have h1:(Cz K i z++[z]).Perm (z::(K.take i++K.drop (i+1))):=by rw[ht];exact AD
 have h2:(Cz K i z).Perm (K.take i++K.drop (i+1)):=(TM z).1 ((Bm (l₁:=[z])).trans h1)
 have h3:K.Perm (a::(K.take i++K.drop (i+1))):=by
  conv=>lhs;rw[hs]
  exact AD
 exact h3.trans (h2.symm.cons a)
def EU (id:Int)(F:List Fc):List Fc:=F.filter λg=>g.id != id
theorem SG{id:Int}{F:List Fc}(h:Mat.find F id=none):EU id F=F:=by
 unfold EU
 rw[Ls]
 intro g hg
 have:=Dr.1 h g hg
 simpa using this
theorem Mm{f:Fc}{F G:List Fc}(hF:F.Perm (f::G))(hid:f.id∉G.map Fc.id):G.Perm (EU f.id F):=by
 have h1:(EU f.id F).Perm (EU f.id (f::G)):=hF.filter _
 have h2:EU f.id (f::G)=G:=by
  unfold EU
  rw[Cg (by simp),Ls]
  intro g hg
  have:g.id≠f.id:=λe=>hid (by rw[<-e];exact BJ hg)
  simpa using this
 rw[h2]at h1
 exact h1.symm
namespace Nt
structure LeaI (S:NC)(id:Int)(i:Nat)(Si:NC):Prop where
 str:Str Si []
 loc:Loc Si []
 c:Si.c=S.c
 g:Si.g=S.g
 cap:Si.cap=S.cap
 nl:Si.ns.length=S.ns.length
 ns:∀(k:Nat) (x:Nd),S.ns[k]?=some x->∃y,Si.ns[k]?=some y/\y.p=x.p/\if S.ns.length - 1 - i<=k/\k+1<S.ns.length then y.fs.Perm (EU id x.fs)else y.fs=x.fs
theorem LeaI.zero{S:NC}{id:Int}(hS:Str S [])(hL:Loc S []):LeaI S id 0 S:=⟨hS,hL,rfl,rfl,rfl,rfl,λk x hx=>⟨x,hx,rfl,by
 rw[if_neg]
 rintro⟨h1,h2⟩
 omega⟩⟩
variable {S Si S':NC} {id:Int} {i k:Nat} {x y:Nd}
theorem LeaI.at_(h:LeaI S id i Si)(hi:i<S.ns.length - 1)(hk:k=S.ns.length - 2 - i)(hx:S.ns[k]?=some x):∃y,Si.ns[k]?=some y/\y.p=x.p/\y.fs=x.fs:=by
 obtain⟨y,y1,y2,y3⟩:=h.ns k x hx
 refine⟨y,y1,y2,?_⟩
 rw[if_neg]at y3
 . exact y3
 . rintro⟨a, -⟩
   omega
theorem LeaI.no(h:LeaI S id i Si)(hi:i<S.ns.length - 1)(hk:k=S.ns.length - 2 - i)(hx:S.ns[k]?=some x)(ha:Mat.find x.fs id=none):LeaI S id (i+1) Si:=by
 refine⟨h.str,h.loc,h.c,h.g,h.cap,h.nl,λk2 z hz=>?_⟩
 by_cases e:k2=k
 . subst e
   rw[hx]at hz
   cases hz
   obtain⟨y,y1,y2,y3⟩:=h.at_ hi hk hx
   refine⟨y,y1,y2,?_⟩
   rw[if_pos ⟨by omega,by omega⟩,SG ha,y3]
 . obtain⟨y,y1,y2,y3⟩:=h.ns k2 z hz
   refine⟨y,y1,y2,?_⟩
   by_cases e2:S.ns.length - 1 - i<=k2/\k2+1<S.ns.length
   . rw[if_pos e2]at y3
     rw[if_pos ⟨by omega,e2.2⟩]
     exact y3
   . rw[if_neg e2]at y3
     rw[if_neg (λh1=>e2 ⟨by omega,h1.2⟩)]
     exact y3
theorem LeaI.yes{M:MemP}{G:List Fc}(h:LeaI S id i Si)(hi:i<S.ns.length - 1)(hk:k=S.ns.length - 2 - i)(hx:S.ns[k]?=some x)(hG:G.Perm (EU id x.fs))(hy:Si.ns[k]?=some y)(hS':Str S' [])(hL':Loc S' [])(hK:Kept (Nt.setFs Si k y G M) S'):LeaI S id (i+1) S':=by
 have hkl:=(Af.1 hy).1
 refine⟨hS',hL',hK.c.trans h.c,hK.g.trans h.g,hK.cap.trans h.cap,hK.nl.trans ((show(Si.ns.set k _).length=_ from AV ..).trans h.nl),λk2 z hz=>?_⟩
 obtain⟨y2,q1,q2,q3⟩:=h.ns k2 z hz
 by_cases e:k2=k
 . subst e
   rw[hx]at hz
   cases hz
   rw[hy]at q1
   cases q1
   have h1:(Nt.setFs Si k2 y G M).ns[k2]?=some {y with fs:=G,fm:=M}:=BA hkl
   obtain⟨z,z1,z2,z3⟩:=hK.ns k2 _ h1
   refine⟨z,z1,z2.trans q2,?_⟩
   rw[if_pos ⟨by omega,by omega⟩,z3]
   exact hG
 . have h1 : (Nt.setFs Si k y G M).ns[k2]? = some y2 := by
    show(Si.ns.set k _)[k2]?=_
    rw[DX (λe1=>e e1.symm)];exact q1
   obtain⟨z2,z1,z3,z4⟩:=hK.ns k2 _ h1
   refine⟨z2,z1,z3.trans q2,?_⟩
   rw[z4]
   by_cases e2:S.ns.length - 1 - i<=k2/\k2+1<S.ns.length
   . rw[if_pos e2]at q3
     rw[if_pos ⟨by omega,e2.2⟩]
     exact q3
   . rw[if_neg e2]at q3
     rw[if_neg (λh1=>e2 ⟨by omega,h1.2⟩)]
     exact q3
end Nt
end
section
attribute [local push_cast] Br Bl BV V.cells_mk V.cells_len Nat.mul_one Int.sub_zero List.map_nil beq_self_eq_true bne_self_eq_false List.head?_cons Bool.not_true Bool.not_false Nat.zero_add
attribute [-instance] Ck Cu BO Ds
theorem ZR(S : NC)(id:Int)(hS:Nt.Str S [])(hL:Nt.Loc S [])(hn1:1<=S.ns.length)(st:St) :
 TrF prog 69 [.ptr S.c 0,.i id] (S.st++st) λd st'=>∃S',Nt.LeaI S id (S.ns.length - 1) S'/\d=.tup []/\(S'.st++st).Perm st':=by
 have hcap:S.ns.length<=S.cap:=by
  have:=hS.row
  rw[Ad,DP]at this
  omega
 have hP:=Aa (patsF S.c)
 have hIt:=Aa (UI S.c S.g S.ns.length S.cap hS.nl hn1 hcap)
 have hJ0:Hid (Nt.LeaI S id 0 S):=Nt.LeaI.zero hS hL
 clear hS hL
 generalize hST:S.st++st=ST at *
 refine Qin [] func69 results69 ntmps69 ?_
 repeat' (first|refine QV ?_|(with_reducible refine Du ?_)|refine QY ?_|refine QB ?_;intro b|with_reducible refine QZ ?_<;>(try constructor)<;>intro hb<;>try intro hb1|refine Qc call98 ((hP.out _)) ?_|fail)
 rw[<-hST]
 refine Bn (st':=[]++(S.st++st)) (.refl _) ?_
 refine It hIt.out call139 q_v (λ_=>rfl) rfl (λi C=>∃Si,Nt.LeaI S id i Si/\C=Si.st++st) (λ_ _ _=>False) (λC B h=>h.app C B) (λi C ⟨Si,h,e⟩=>by
  subst e
  refine⟨(Si.gbox::(Si.ns.flatMap Nd.res++Si.H.flatMap Tok.res))++st,?_⟩
  have:Si.cbox=.box S.c 109 [.ar S.g 0 S.ns.length S.cap]:=by unfold NC.cbox;rw[h.c,h.g,h.cap,h.nl]
  rw[<-this]
  exact .refl _) ⟨S,hJ0.out,rfl⟩ ?_ ?_ (λ_ _ _ _ _ _ h=>h.elim)
 . rintro l i k C K hk ⟨Si,hJ,rfl⟩
   have hin:i<S.ns.length - 1:=by
    have:=(Af.1 hk).1
    rwa[JI]at this
   have hkk:k=S.ns.length - 2 - i:=by
    rw[PM hin]at hk
    exact(Cl hk).symm
   have hkn:k<S.ns.length:=by omega
   obtain⟨x,hx⟩:=gEx hkn
   have hxm:=Ah hx
   obtain⟨y,hy,hyp,hyf⟩:=hJ.at_ hin hkk hx
   have hkk2:Hid (k=S.ns.length - 2 - i):=hkk
   clear hk hIt hJ0 hP hkk
   refine(?_:Tr _ _ _ _ (AA.put ⟨_,[]⟩ (some 9) (.ptr S.g (k*9))) ((Si.st++st)++K) _)
   repeat' (first|refine QX ?_|refine QB ?_;intro b|with_reducible refine QZ ?_<;>(try constructor)<;>intro hb<;>try intro hb1|fail)
   obtain⟨nb,rfl⟩:∃q,q=b:=⟨_,rfl⟩
   refine⟨.box nb 164 [.ptr S.g (k*9)]::(Si.st++st),Aj _,λK'=>?_⟩
   clear K
   obtain⟨ROWj,RJ,v1,v2,v3⟩:=NC.layP hJ.c hJ.g hJ.cap hJ.nl hy (st++K')
   have v4:=v1.cons (Res.box nb 164 [.ptr S.g (k*9)])
   refine Hl ?_
   refine Bn (st':=.box nb 164 [.ptr S.g (k*9)]::.box S.c 109 [.ar S.g 0 S.ns.length S.cap]::.box S.g 115 ROWj::RJ) (by
    show List.Perm (_::((Si.st++st)++K')) _
    rw[Ai]
    exact v4) ?_
   have hget:=UV Si k y id (.box nb 164 [.ptr S.g (k*9)]) hJ.str hy (st++K')
   rw[hJ.g]at hget
   have hg2:TrF prog 64 [.ptr S.g (k*9+3),.i id] (.box nb 164 [.ptr S.g (k*9)]::.box S.c 109 [.ar S.g 0 S.ns.length S.cap]::.box S.g 115 ROWj::RJ) λd st'=>d=GL (Mat.find y.fs id)/\st'=.box nb 164 [.ptr S.g (k*9)]::.box S.c 109 [.ar S.g 0 S.ns.length S.cap]::.box S.g 115 ROWj::RJ:=TrF.permPost v4.symm (hget.mono λd st' ⟨e1,e2⟩=>⟨_,⟨e1,rfl⟩,e2.symm.trans v4⟩)
   clear hget
   have hg3:∀fb:Res,TrF prog 64 [.ptr S.g (k*9+3),.i id] (fb::.box nb 164 [.ptr S.g (k*9)]::.box S.c 109 [.ar S.g 0 S.ns.length S.cap]::.box S.g 115 ROWj::RJ) λd st'=>d=GL (Mat.find y.fs id)/\st'=fb::.box nb 164 [.ptr S.g (k*9)]::.box S.c 109 [.ar S.g 0 S.ns.length S.cap]::.box S.g 115 ROWj::RJ:=λfb=>by
    have h1:=UV Si k y id (.box nb 164 [.ptr S.g (k*9)]) hJ.str hy (fb::(st++K'))
    rw[hJ.g]at h1
    have h2:(fb::.box nb 164 [.ptr S.g (k*9)]::.box S.c 109 [.ar S.g 0 S.ns.length S.cap]::.box S.g 115 ROWj::RJ).Perm (.box nb 164 [.ptr S.g (k*9)]::(Si.st++(fb::(st++K')))):=(v4.symm.cons fb).trans (EV fb _ Si.st (st++K'))
    exact TrF.permPost h2 (h1.mono λd st' ⟨e1,e2⟩=>⟨_,⟨e1,rfl⟩,e2.symm.trans h2.symm⟩)
   cases ha:Mat.find y.fs id with
   | none =>
    have hJn:=Aa (hJ.no hin hkk2.out hx (by rw[<-hyf];exact ha))
    rw[ha]at hg2 hg3
    dsimp only[GL]at hg2 hg3
    replace hg2:=Aa hg2
    replace hg3:=Aa hg3
    replace v4:=Aa v4
    clear v1 hJ hx hxm hy hyp hyf ha hkk2 hin
    repeat' (first|refine QV ?_|((with_reducible apply(Ot (id:=3) [(nb,[.ptr S.g (k*9)])] 8 4));(iterate 3 (focus kernel_rfl));(focus(repeat(first|exact BI|refine BX q_m ?_)));(focus exact rfl);(focus(simp only[DY,Gh];rfl)))|((with_reducible refine And.intro ?_ ?_);(focus exact q_k))|((with_reducible apply(DL call64));(focus exact Ar _);(focus exact hg2.out);(focus exact LEL.refl _);(focus exact⟨_,_,rfl,rfl⟩);(rintro d2 st2 ⟨rfl,rfl⟩;refine⟨by first|exact BI|exact MM q_m,?_⟩))|((with_reducible apply(DL call64));(focus exact Ar _);(focus exact(hg3.out _));(focus exact LEL.refl _);(focus exact⟨_,_,rfl,rfl⟩);(rintro d2 st2 ⟨rfl,rfl⟩;refine⟨by first|exact BI|exact MM q_m,?_⟩))|(with_reducible refine Du ?_)|refine QY ?_|refine QB ?_;intro b|with_reducible refine QZ ?_<;>(try constructor)<;>intro hb<;>try intro hb1|fail)
    all_goals exact⟨_::((.box nb 164 [.ptr S.g (k*9)]::(Si.st++st))++K'),(by rw[show(Res.box nb 164 [.ptr S.g (k*9)]::(Si.st++st))++K'=Res.box nb 164 [.ptr S.g (k*9)]::(Si.st++(st++K'))from by rw[AI,Ai]];exact v4.out.symm.cons _),_,((AK ..).trans (AK ..)),Si,hJn.out,rfl⟩
   | some f =>
    have hfid:f.id=id:=by
     have:=FE ha
     simpa using this
    have hfm:f∈y.fs:=CI ha
    obtain⟨i0,hi0⟩:=BT hfm
    obtain⟨n,hn⟩:∃n,y.fs.length=n+1:=⟨y.fs.length - 1,by have:=nO hfm;omega⟩
    obtain⟨z,hz⟩:=gEx (l:=y.fs) (i:=n) q_o
    obtain⟨G,hG⟩:∃G,G=Cz y.fs i0 z:=⟨_,rfl⟩
    have hF:y.fs.Perm (f::G):=by rw[hG];exact OK hn hi0 hz
    have hym:=Ah hy
    obtain⟨-,hfk,hfl⟩:=hJ.str.pk y hym
    have hnd:=Lf (hJ.str.okx y hym).1
    have hnd2:(f.id::G.map Fc.id).Nodup:=(hF.map Fc.id).nodup_iff.1 hnd
    have hnew:=(Bb.1 hnd2).1
    have hFK:FKs G:=⟨λq hq=>hfk.f q (hF.mem_iff.2 (Ae _ hq)),by have:=hF.length_eq;rw[An]at this;omega⟩
    have hGl:G.length<=1000:=by have:=hF.length_eq;rw[An]at this;omega
    have hGw:G.Perm (EU id x.fs):=by
     have:=Mm hF hnew
     rw[hfid,hyf]at this
     exact this
    have hk1:k+1<Si.ns.length:=by
     have h1:=hkk2.out
     rw[hJ.nl]
     omega
    have hdrop:∀fb:Res,TrF prog 68 [.ptr S.g (k*9+3),.i id] (fb::.box nb 164 [.ptr S.g (k*9)]::.box S.c 109 [.ar S.g 0 S.ns.length S.cap]::.box S.g 115 ROWj::RJ) λd st'=>∃M':MemP,M'.okF G/\d=.tup []/\(Res.box nb 164 [.ptr S.g (k*9)]::fb::((Nt.setFs Si k y G M').st++(st++K'))).Perm st':=λfb=>by
     have h1:=Zy Si k y f z i0 n (.box nb 164 [.ptr S.g (k*9)]) hJ.str hy hn hi0 hz (fb::(st++K'))
     rw[hJ.g,hfid,<-hG]at h1
     have h2:(fb::.box nb 164 [.ptr S.g (k*9)]::.box S.c 109 [.ar S.g 0 S.ns.length S.cap]::.box S.g 115 ROWj::RJ).Perm (.box nb 164 [.ptr S.g (k*9)]::(Si.st++(fb::(st++K')))):=(v4.symm.cons fb).trans (EV fb _ Si.st (st++K'))
     exact(TrF.perm h2 h1).mono λd st' ⟨M',a1,a2,a3⟩=>⟨M',a1,a2,(AD.symm.cons _).trans a3⟩
    have hE:∀fb:Res,∃(d:D) (st':St) (M':MemP),M'.okF G/\d=.tup []/\(Res.box nb 164 [.ptr S.g (k*9)]::fb::((Nt.setFs Si k y G M').st++(st++K'))).Perm st':=λfb=>by
     obtain⟨M0,hM0⟩:=Wy G (Bb.1 hnd2).2
     exact⟨_,_,M0,hM0,rfl,.refl _⟩
    have hpas:Hid (∀(M':MemP) (fb:Res),M'.okF G->TrF prog 100 [.ptr S.g (k*9),.agg f.cells,.fn (.func 103) [] [.ptr nb 0,.ip [.ptr S.c 0],.ip [.i id]]] (.box nb 164 [.ptr S.g (k*9)]::fb::((Nt.setFs Si k y G M').st++(st++K'))) λd st'=>∃S',Nt.LeaI S id (i+1) S'/\d=.tup []/\(fb::Res.box nb 164 [.ptr S.g (k*9)]::(S'.st++(st++K'))).Perm st'):=λM' fb hM=>by
     have hy2:(Nt.setFs Si k y G M').ns[k]?=some {y with fs:=G,fm:=M'}:=BA (Af.1 hy).1
     have h1:=Wz (Nt.setFs Si k y G M') k nb {y with fs:=G,fm:=M'} y.fs f hy2 ((show(Si.ns.set k _).length=_ from AV ..).symm▸hk1) hF hnew (hfk.f f hfm) hfl (Nt.StepJ.zero hJ.loc hJ.str hy q_o hM hFK hGl) (fb::(st++K'))
     have e1:(Nt.setFs Si k y G M').g=S.g:=hJ.g
     have e2:(Nt.setFs Si k y G M').c=S.c:=hJ.c
     rw[e1,e2,hfid]at h1
     exact(TrF.perm (AD.symm.cons _) h1).mono λd st' ⟨S',a1,a2,a3,a4,a5⟩=>⟨S',hJ.yes hin hkk2.out hx hGw hy a1 a2 a3,a4,(EV fb _ _ _).trans a5⟩
    rw[ha]at hg2 hg3
    dsimp only[GL]at hg2 hg3
    rw[show f.cells=[.i f.id,.i f.time,.i f.tmpl,.i f.ver,.sl .shared (f.s.map V.cells)]from rfl]at hg2 hg3 hpas
    generalize f.s.map V.cells=VS at *
    replace hg2:=Aa hg2
    replace hg3:=Aa hg3
    replace hdrop:=Aa hdrop
    replace hE:=Aa hE
    clear v1 v4 hJ hx hxm hy hyp hyf ha hkk2 hin hfid hfm hi0 hn hz hG hF hym hfk hfl hnd hnd2 hnew hFK hGl hGw hk1
    repeat' (first|refine QV ?_|((with_reducible apply(Ot (id:=3) [(nb,[.ptr S.g (k*9)])] 8 4));(iterate 3 (focus kernel_rfl));(focus(repeat(first|exact BI|refine BX q_m ?_)));(focus exact rfl);(focus(simp only[DY,Gh];rfl)))|((with_reducible refine And.intro ?_ ?_);(focus exact q_k))|((with_reducible apply(DL call64));(focus exact Ar _);(focus exact hg2.out);(focus exact LEL.refl _);(focus exact⟨_,_,rfl,rfl⟩);(rintro d2 st2 ⟨rfl,rfl⟩;refine⟨by first|exact BI|exact MM q_m,?_⟩))|((with_reducible apply(DL call64));(focus exact Ar _);(focus exact(hg3.out _));(focus exact LEL.refl _);(focus exact⟨_,_,rfl,rfl⟩);(rintro d2 st2 ⟨rfl,rfl⟩;refine⟨by first|exact BI|exact MM q_m,?_⟩))|((with_reducible apply(Da (id:=5) [(nb,[.ptr S.g (k*9)])]));(iterate 3 (focus kernel_rfl));(focus exact q_k);intro hne;(try simp only[nes,ne1,and_assoc]at hne);repeat(have hq:=hne.1;replace hne:=hne.2))|((with_reducible refine And.intro ?_ ?_);(focus exact q_k))|((with_reducible apply(DL call68));(focus exact Ar _);(focus exact hdrop.out _);(focus exact LEL.refl _);(focus exact hE.out _);(rintro d2 st2 ⟨M2,hok2,rfl,hp2⟩;refine⟨BI,?_⟩))|((with_reducible refine Bn hp2.symm ?_))|((with_reducible apply(BG (f:=100) (henter:=call100) (hp:=Ar _) (h:=hpas.out M2 _ hok2)));(focus exact q_v);(focus exact q_l);(rintro d0 st0 ⟨S',h1,rfl,hp4⟩))|(with_reducible refine Du ?_)|refine QY ?_|refine QB ?_;intro b|with_reducible refine QZ ?_<;>(try constructor)<;>intro hb<;>try intro hb1|fail)
    all_goals exact⟨_::((.box nb 164 [.ptr S.g (k*9)]::(S'.st++st))++K'),(by rw[show(Res.box nb 164 [.ptr S.g (k*9)]::(S'.st++st))++K'=Res.box nb 164 [.ptr S.g (k*9)]::(S'.st++(st++K'))from by rw[AI,Ai]];exact hp4.symm),_,((AK ..).trans (AK ..)),S',h1,rfl⟩
 . rintro d K1 C' rfl ⟨Si,hJ,rfl⟩
   have hfin:Hid (∃S',Nt.LeaI S id (S.ns.length - 1) S'/\D.tup []=D.tup []/\(S'.st++st).Perm (Si.st++st)):=⟨Si,by rw[JI]at hJ;exact hJ,rfl,.refl _⟩
   repeat' (first|refine QX ?_|refine QB ?_;intro b|with_reducible refine QZ ?_<;>(try constructor)<;>intro hb<;>try intro hb1|fail)
   exact Em q_x q_y (.refl _) (Aj _) (LE.refl _) hfin.out
end
section
attribute [local push_cast] Br Bl BV V.cells_mk V.cells_len Nat.mul_one Int.sub_zero List.map_nil beq_self_eq_true bne_self_eq_false List.head?_cons Bool.not_true Bool.not_false Nat.zero_add
attribute [-instance] Ck Cu BO Ds
inductive IdsR (S:NC):Tok->List Int->Prop
|root {w:Tok} (h:w.anc.tail=[]):IdsR S w []
|zero {w p:Tok} {l:List Int} (hp:p∈S.H) (h:w.anc.tail=p.anc) (h0:w.id=0) (hl:IdsR S p l):IdsR S w l
|cons {w p:Tok} {l:List Int} (hp:p∈S.H) (h:w.anc.tail=p.anc) (h0:w.id≠0) (hl:IdsR S p l):IdsR S w (l++[w.id])
theorem IdsR.ex{S:NC}(hS:Nt.Str S []):∀(n:Nat) (w:Tok),w∈S.H->w.anc.length=n->∃l,IdsR S w l
|0,w,hw,hn=>absurd (Ay hn) (hS.ne w hw)
|n+1,w,hw,hn=>by
  by_cases ht:w.anc.tail=[]
  . exact⟨[],.root ht⟩
  . obtain⟨p,hp,e⟩:=hS.up w hw ht
    obtain⟨l,hl⟩:=IdsR.ex hS n p hp (by rw[<-e,CL];omega)
    by_cases h0:w.id=0
    . exact⟨l,.zero hp e h0 hl⟩
    . exact⟨_,.cons hp e h0 hl⟩
def IdO (out:List Int)(d:D)(X:St):Prop:=(out=[]/\d=.sl .tight []/\X=[])\/∃g cap zs,(out.map D.i++zs).length=cap/\d=.ar g 0 out.length cap/\X=[.box g 3 (out.map D.i++zs)]
theorem NC.layW{S:NC}{w:Tok}(hw:w∈S.H)(s:St):∃(UC:List D) (RJ:St),(S.st++s).Perm (.box w.b 119 (w.fromD::.i w.lv::.i w.id::.sl .shared (w.env.map V.cells)::UC)::RJ):=by
 obtain⟨H0,hp⟩:=Nt.tok_split hw
 exact⟨_,_,(NC.at_tok hp).append_right s⟩
theorem fe(st:St):TrF prog 143 [.sl .tight []] st λd st'=>d=.tup []/\st'=st:=by
 refine Qin [] func143 results143 ntmps143 ?_
 repeat' (first|refine QX ?_|refine QB ?_;intro b|with_reducible refine QZ ?_<;>(try constructor)<;>intro hb<;>try intro hb1|fail)
 refine Bs (ι:=Nat) (λi A st'=>A.df=[]/\A.e 2=.i 0/\A.e 3=.i (-1)/\st'=st) (λi=>i) 0 ⟨Qf,Qf,Qf,rfl⟩ ?_
 rintro i A st' ⟨hdf,e2,e3,rfl⟩
 exact WR
theorem f7(S:NC)(w:Tok)(l:List Int)(hS:Nt.Str S [])(hw:w∈S.H)(hl:IdsR S w l)(st:St):TrF prog 107 [.ptr w.b 0] (S.st++st) λd st'=>∃X,IdO l d X/\st'.Perm (X++(S.st++st)):=by
 have hS2:=Aa hS
 clear hS
 refine Qin [2] func107 results107 ntmps107 ?_
 repeat' (first|refine QX ?_|refine QB ?_;intro b|with_reducible refine QZ ?_<;>(try constructor)<;>intro hb<;>try intro hb1|fail)
 refine Bs (ι:=Nat) (λn A st'=>∃(w:Tok) (l2 out:List Int) (d:D) (X:St),w∈S.H/\w.anc.length=n/\IdsR S w l2/\Hid (l2++out.reverse=l)/\out.length+n<=10/\IdO out d X/\A.df=[]/\A.e 0=.ptr w.b 0/\A.e 3=d/\st'.Perm (X++(S.st++st))) (λn=>n) w.anc.length ⟨w,l,[],_,[],hw,rfl,hl,by simp[Hid],?_,.inl ⟨rfl,rfl,rfl⟩,Qf,Qf,Qf,.refl _⟩ ?_
 . have:=hS2.out.lv w hw
   have:=hS2.out.nl
   show 0+_<=10
   omega
 clear hl hw w
 rintro n A st' ⟨w,l2,out,d,X,hw,hn,hl,hout,hlen,hO,hdf,e0,e3,hp⟩
 obtain⟨UC,RJ,v1⟩:=NC.layW hw st
 have hp2:st'.Perm (.box w.b 119 (w.fromD::.i w.lv::.i w.id::.sl .shared (w.env.map V.cells)::UC)::(X++RJ)):=(hp.trans (v1.append_left X)).trans AD
 refine Bn hp2 ?_
 by_cases ht:w.anc.tail=[]
 . have hfd:w.fromD=.s (.pointer none):=by unfold Tok.fromD;rw[ht]
   have hl0:l2=[]:=by
    cases hl with
    | root=>rfl
    | zero hq h=>exact absurd (h.symm.trans ht) (hS2.out.ne _ hq)
    | cons hq h=>exact absurd (h.symm.trans ht) (hS2.out.ne _ hq)
   subst hl0
   have hr:Hid (out.reverse=l):=by
    have:=hout.out
    rwa[AM]at this
   have hb:out.length<=10:=by omega
   have hv:Hid ((Res.box w.b 119 (.s (.pointer none)::.i w.lv::.i w.id::.sl .shared (w.env.map V.cells)::UC)::RJ).Perm (S.st++st)):=by
    rw[hfd]at v1
    exact v1.symm
   rw[hfd]
   clear hp2 v1 hout hl ht hfd hp hw hn hlen
   generalize w.env.map V.cells=TE at *
   rcases hO with⟨ho,rfl,rfl⟩|⟨g,cap,zs,hz,rfl,rfl⟩
   . subst ho
     have hR:=Aa fe
     rw[AM]
     repeat' (first|refine QV ?_|((with_reducible apply OQ);(focus kernel_rfl);(focus exact q_v))|((with_reducible apply(BG (f:=143) (henter:=call143) (hp:=Ar _) (h:=(hR.out _))));(focus exact q_v);(focus exact q_l);(rintro d0 st0 ⟨rfl,rfl⟩))|refine QY ?_|refine QB ?_;intro b|with_reducible refine QZ ?_<;>(try constructor)<;>intro hb<;>try intro hb1|fail)
     all_goals exact Bf (by simp) q_y (Aj _) (LE.refl _) ⟨[],.inl ⟨hr.out.symm,by(try simp(disch:=omega) only[push_cast,simprocAttr, *]);(try exact rfl);done,rfl⟩,hv.out⟩
   . have hR:=Aa (ff g cap out zs hz q_o)
     have hrr:=hr.out
     have hzr:Hid ((l.map D.i++zs).length=cap/\l.length=out.length):=by
      rw[<-hrr]
      refine Aa ⟨?_,Lq⟩
      rw[Ad,Ab,Lq]
      rw[Ad,Ab]at hz
      exact hz
     rw[hrr]at hR
     clear hrr
     rw[show∀(a b:Res) (c:St),a::([b]++c)=a::b::c fromλ_ _ _=>rfl]
     generalize out.map D.i++zs=RO at *
     generalize hRL:l.map D.i++zs=RL at *
     repeat' (first|refine QV ?_|((with_reducible apply OQ);(focus kernel_rfl);(focus exact q_v))|((with_reducible apply(BG (f:=143) (henter:=call143) (hp:=List.Perm.swap _ _ _) (h:=(hR.out _))));(focus exact q_v);(focus exact q_l);(rintro d0 st0 ⟨rfl,rfl⟩))|refine QY ?_|refine QB ?_;intro b|with_reducible refine QZ ?_<;>(try constructor)<;>intro hb<;>try intro hb1|fail)
     all_goals exact Bf (by simp) q_y (Aj _) (LE.refl _) ⟨[.box g 3 RL],.inr ⟨g,cap,zs,by rw[hRL];exact hzr.out.1,by rw[hzr.out.2];(try simp(disch:=omega) only[push_cast,simprocAttr, *]);(try exact rfl);done,by rw[hRL]⟩,hv.out.cons _⟩
 . obtain⟨p,hpm,hpe⟩:=hS2.out.up w hw ht
   have hfd:w.fromD=.ptr p.b 0:=by
    have h1:=Nt.tok_b (hS2.out.ne p hpm)
    unfold Tok.fromD
    rw[hpe,h1]
   have hpn:p.anc.length+1=n:=by
    have h1:=Nt.tok_b (hS2.out.ne w hw)
    rw[h1,An,hpe]at hn
    exact hn
   have hback:Hid ((Res.box w.b 119 (.ptr p.b 0::.i w.lv::.i w.id::.sl .shared (w.env.map V.cells)::UC)::(X++RJ)).Perm (X++(S.st++st))):=by
    rw[<-hfd]
    exact hp2.symm.trans hp
   have hv:Hid ((Res.box w.b 119 (.ptr p.b 0::.i w.lv::.i w.id::.sl .shared (w.env.map V.cells)::UC)::RJ).Perm (S.st++st)):=by
    rw[hfd]at v1
    exact v1.symm
   rw[hfd]
   clear hp2 v1 hp hfd
   generalize w.env.map V.cells=TE at *
   cases hl with
   | root h=>exact absurd h ht
   | @zero _ p2 l3 hq h h0 hl3 =>
    have:=hS2.out.anc_b hq hpm (h.symm.trans hpe)
    subst this
    clear ht hw
    have HO:=Aa hO
    clear hO hn
    rw[h0]at *
    repeat' (first|refine QV ?_|((with_reducible apply(Kz (b:=p2.b) (off:=0)));(focus kernel_rfl);(focus exact q_v))|refine QY ?_|refine QB ?_;intro b|with_reducible refine QZ ?_<;>(try constructor)<;>intro hb<;>try intro hb1|fail)
    refine⟨p2.anc.length,_,Aj _,⟨p2,l2,out,d,X,hq,rfl,hl3,hout,by omega,HO.out,?_,?_,?_,hback.out⟩,by omega⟩
    all_goals exact Qf
   | @cons _ p2 l3 hq h h0 hl3 =>
    have:=hS2.out.anc_b hq hpm (h.symm.trans hpe)
    subst this
    have hout2:Hid (l3++(out++[w.id]).reverse=l):=by
     have h1:=hout.out
     rw[Ai]at h1
     rw[List.reverse_append]
     exact h1
    have hol:(out++[w.id]).length+p2.anc.length<=10:=by rw[Ad,BE];omega
    clear ht hw hn hout
    generalize w.id=wi at *
    rcases hO with⟨ho,rfl,rfl⟩|⟨g,cap,zs,hz,rfl,rfl⟩
    . subst ho
      rw[AM]
      repeat' (first|refine QV ?_|((with_reducible apply(Kz (b:=p2.b) (off:=0)));(focus kernel_rfl);(focus exact q_v))|with_reducible refine Hz ?_|with_reducible refine Kj ?_|((with_reducible apply HH);(focus exact q_n);(focus exact CP rfl);(focus exact q_n);(focus exact q_n);intro g' cap' zs' hc hl')|refine QY ?_|refine QB ?_;intro b|with_reducible refine QZ ?_<;>(try constructor)<;>intro hb<;>try intro hb1|fail)
      refine⟨p2.anc.length,_,Aj _,⟨p2,l3,[wi],.ar g' 0 1 cap',[.box g' 3 ([[D.i wi]].flatten++zs')],hq,rfl,hl3,hout2,hol,.inr ⟨g',cap',zs',?_,?_,rfl⟩,?_,?_,?_,hv.out.cons _⟩,by omega⟩
      . rw[CG]at hl';exact hl'
      . exact rfl
      all_goals exact Qf
    . have hrl:(out.map D.i).length=out.length*1:=by rw[Ab,CG]
      have hzl:(out.map D.i++zs).length=cap*1:=by rw[hz,CG]
      have hle:out.length<=10:=by rw[Ad]at hol;omega
      have hmap:(out++[wi]).map D.i=out.map D.i++[[D.i wi]].flatten:=by rw[Bi];rfl
      rw[show∀(a b:Res) (c:St),a::([b]++c)=a::b::c fromλ_ _ _=>rfl]
      clear hback
      repeat' (first|refine QV ?_|((with_reducible apply(Kz (b:=p2.b) (off:=0)));(focus kernel_rfl);(focus exact q_v))|with_reducible refine Hy ?_|with_reducible refine Kl ?_|((with_reducible apply(Ii hrl hzl));(focus(intro g' cs';repeat(first|exact Hn|apply Hm)));(focus exact CP rfl);(iterate 2 (focus exact q_n));intro g1 c1 z1 hc1 hl1)|refine QY ?_|refine QB ?_;intro b|with_reducible refine QZ ?_<;>(try constructor)<;>intro hb<;>try intro hb1|fail)
      refine⟨p2.anc.length,_,Aj _,⟨p2,l3,out++[wi],.ar g1 0 (out.length+1) c1,[.box g1 3 (out.map D.i++[[D.i wi]].flatten++z1)],hq,rfl,hl3,hout2,hol,.inr ⟨g1,c1,z1,?_,?_,?_⟩,?_,?_,?_,?_⟩,by omega⟩
      . rw[hmap];rw[CG]at hl1;exact hl1
      . rw[Ad,BE]
      . rw[hmap]
      . exact Qf
      . exact Qf
      . exact Qf
      . exact(List.Perm.swap _ _ _).trans (hv.out.cons _)
end
section
theorem IT{α:Type}:∀{l m:List α},l.Nodup->m.Nodup->(∀a,a∈l↔a∈m)->l.Perm m
|[],m,_,_,h=>by
  cases m with
  | nil=>exact .refl _
  | cons b m=>exact absurd ((h b).2 (Ag ..)) AP
|a::l,m,hl,hm,h=>by
  obtain⟨m1,m2,rfl⟩:=Mh ((h a).1 (Ag ..))
  have h1:=AD.nodup_iff.1 hm
  rw[Bb]at hl h1
  refine(List.Perm.cons a (IT hl.2 h1.2 λb=>?_)).trans AD.symm
  constructor
  . intro hb
    have:=(h b).1 (Ae _ hb)
    rw[AD.mem_iff,Ax]at this
    exact this.resolve_left (λe=>hl.1 (e▸hb))
  . intro hb
    have:b∈a::l:=(h b).2 (AD.mem_iff.2 (Ae _ hb))
    exact(Ax.1 this).resolve_left (λe=>h1.1 (e▸hb))
theorem Jq{α β:Type}:∀{l:List α} {f g:α->List β},(∀a∈l,(f a).Perm (g a))->(l.flatMap f).Perm (l.flatMap g)
|[],_,_,_=>.refl _
|a::l,f,g,h=>by
  rw[Ca,Ca]
  exact(h a (Ag ..)).append (Jq λb hb=>h b (Ae _ hb))
namespace Mat
theorem ba{t:Ts}{f:Fc}{env e env':List V}(h:test t f env=some e)(hk:t.kind<5)(hl:env'.length=env.length):test t f env'=some env':=by
 unfold test at h |-
 rw[hl]
 by_cases hc:0<=t.slot/\t.slot<f.s.length/\0<=t.var/\t.var<env.length/\1<=t.kind/\t.kind<=9
 . rw[if_pos hc]at h |-
   rw[if_neg q_o,if_pos hk]at h |-
   split at h
   . rename_i hh;rw[if_pos hh]
   . cases h
 . rw[if_neg hc]at h;cases h
theorem YN{t:Ts}{f:Fc}{env e:List V}(h:test t f env=some e):e.length=env.length:=by
 unfold test at h
 repeat' split at h
 all_goals first
  | (cases h;done)
  | (cases h;first|rfl|exact AV ..)
theorem Nm{f:Fc}:∀(l:List Ts) (env e:List V),tests f l env=some e->∀env':List V,env'.length=env.length->(tests f (l.filter λt=>decide (t.kind<5)) env').isSome=true
|[],_,_,_,env',_=>rfl
|t::l,env,e,h,env',hl=>by
  unfold tests at h
  cases ht:test t f env with
  | none=>rw[ht]at h;cases h
  | some e1 =>
   rw[ht]at h
   have h1:=YN ht
   by_cases hk:t.kind<5
   . rw[Cf (by simpa using hk)]
     unfold tests
     rw[ba ht hk hl]
     exact Nm l e1 e h env' (by rw[h1,hl])
   . rw[Cg (by simpa using hk)]
     exact Nm l e1 e h env' (by rw[h1,hl])
theorem Ws{p:Pt}{f:Fc}{env e:List V}(h:pass p f env=some e):solo p f=true:=by
 unfold pass at h
 by_cases hc:p.tmpl=f.tmpl/\env.length=8
 . rw[if_pos hc]at h
   unfold solo pass
   rw[if_pos ⟨hc.1,rfl⟩]
   exact Nm p.tests env e h empty (by rw[hc.2];rfl)
 . rw[if_neg hc]at h;cases h
theorem passL_alone(p:Pt)(F:List Fc)(env:List V):passL p (F.filter (solo p)) env=passL p F env:=by
 induction F with
|nil=>rfl
|cons f F ih =>
  by_cases ha:solo p f=true
  . rw[Cf ha]
    unfold passL at ih |-
    rw[DD,DD,ih]
  . rw[Cg ha,ih]
    have:pass p f env=none:=by
     cases h:pass p f env with
     | none=>rfl
     | some e=>exact absurd (Ws h) ha
    rw[Nt.passL_none this]
theorem nil_iff{α:Type}{l m:List α}(h:l.Perm m):l=[]↔m=[]:=⟨λe=>lH.1 (e▸h.symm),λe=>lH.1 (e▸h)⟩
theorem passL_nodup(p:Pt){F:List Fc}(env:List V)(h:(F.map Fc.id).Nodup):((passL p F env).map Prod.fst).Nodup:=by
 refine h.sublist ?_
 induction F with
|nil=>exact Aj _
|cons f F ih =>
  rw[Au,Bb]at h
  have h1:=ih h.2
  unfold passL at h1 |-
  cases hp:pass p f env with
  | none=>rw[De (by rw[hp];rfl)];exact h1.cons _
  | some e=>rw[CQ (by rw[hp];rfl)];exact h1.cons_cons _
theorem passL_mem{p:Pt}{F:List Fc}{env:List V}{y:Int×List V}(h:y∈passL p F env):∃f∈F,f.id=y.1/\pass p f env=some y.2:=by
 unfold passL at h
 obtain⟨f,hf,e⟩:=Mg.1 h
 cases hp:pass p f env with
|none=>rw[hp] at e;cases e
|some e1=>rw[hp] at e;cases e;exact⟨f,hf,rfl,hp⟩
end Mat
namespace Nt
theorem exps_perm{p:Pt}{F G:List Fc}{env:List V}(h:F.Perm G):(exps p F env).Perm (exps p G env):=by
 unfold exps
 have h1:=passL_perm (p:=p) h env
 have h2:=Mat.nil_iff h1
 split
 . by_cases e:Mat.passL p F env=[]
   . rw[if_pos e,if_pos (h2.1 e)]
   . rw[if_neg e,if_neg (λk=>e (h2.2 k))]
 . exact h1
theorem exps_alone(p:Pt)(F:List Fc)(env:List V):exps p (F.filter (Mat.solo p)) env=exps p F env:=by
 unfold exps
 rw[Mat.passL_alone]
theorem exps_nodup(p:Pt){F:List Fc}(env:List V)(h:(F.map Fc.id).Nodup):(exps p F env).Nodup:=by
 unfold exps
 split
 . split
   . exact Bb.2 ⟨AP,CA⟩
   . exact CA
 . have h1:=Mat.passL_nodup p env h
   exact(EE.1 h1).imp λhne e=>hne (congrArg Prod.fst e)
end Nt
def stp (p:Pt)(F:List Fc)(y:List Int×List V):List (List Int×List V):=(Nt.exps p F y.2).map λz=>(if p.neg=true then y.1 else y.1++[z.1],z.2)
theorem NG(F:List Fc)(p:Pt):∀(ps:List Pt) (ids:List Int) (env:List V),Mat.from_ F (ps++[p]) ids env=(Mat.from_ F ps ids env).flatMap (stp p F)
|[],ids,env=>by
  rw[AM]
  simp only[Mat.from_,Ca,List.flatMap_nil,AY]
  unfold stp Nt.exps
  dsimp only
  by_cases hn:p.neg=true
  . rw[if_pos hn,if_pos hn]
    by_cases h0:Mat.passL p F env=[]
    . rw[if_pos h0,if_pos h0];simp[hn]
    . rw[if_neg h0,if_neg h0];rfl
  . rw[if_neg hn,if_neg hn,List.map_eq_flatMap]
    refine Mat.flatMap_congr λz _=>?_
    rw[if_neg hn]
|q::ps,ids,env=>by
  rw[AI]
  simp only[Mat.from_]
  by_cases hn:q.neg=true
  . rw[if_pos hn,if_pos hn]
    by_cases h0:Mat.passL q F env=[]
    . rw[if_pos h0,if_pos h0];exact NG F p ps ids env
    . rw[if_neg h0,if_neg h0];rfl
  . rw[if_neg hn,if_neg hn,List.flatMap_assoc]
    exact Mat.flatMap_congr λx _=>NG F p ps _ _
theorem from_perm{F G:List Fc}(h:F.Perm G):∀(ps:List Pt) (ids:List Int) (env:List V),(Mat.from_ F ps ids env).Perm (Mat.from_ G ps ids env)
|[],_,_=>.refl _
|p::ps,ids,env=>by
  simp only[Mat.from_]
  have h1:=Nt.passL_perm (p:=p) h env
  have h2:=Mat.nil_iff h1
  by_cases hn:p.neg=true
  . rw[if_pos hn,if_pos hn]
    by_cases e:Mat.passL p F env=[]
    . rw[if_pos e,if_pos (h2.1 e)];exact from_perm h ps ids env
    . rw[if_neg e,if_neg (λk=>e (h2.2 k))]
  . rw[if_neg hn,if_neg hn]
    exact(h1.flatMap_right _).trans (Jq λx _=>from_perm h ps _ _)
theorem IdsR.fn{S:NC}(hS:Nt.Str S []){w:Tok}{l m:List Int}(h:IdsR S w l)(k:IdsR S w m):l=m:=by
 induction h generalizing m with
|root h=>cases k with
  | root=>rfl
  | zero hp e=>exact absurd (e.symm.trans h) (hS.ne _ hp)
  | cons hp e=>exact absurd (e.symm.trans h) (hS.ne _ hp)
|zero hp e h0 hl ih=>cases k with
  | root h=>exact absurd (e.symm.trans h) (hS.ne _ hp)
  | zero hq e' h0' hl' =>
   have:=hS.anc_b hp hq (e.symm.trans e')
   subst this
   exact ih hl'
  | cons hq e' h0'=>exact absurd h0 h0'
|cons hp e h0 hl ih=>cases k with
  | root h=>exact absurd (e.symm.trans h) (hS.ne _ hp)
  | zero hq e' h0'=>exact absurd h0' h0
  | cons hq e' h0' hl' =>
   have:=hS.anc_b hp hq (e.symm.trans e')
   subst this
   rw[ih hl']
open Classical in
noncomputable def Jj (S:NC)(w:Tok):List Int:=if h:∃l,IdsR S w l then Classical.choose h else[]
theorem Lj{S:NC}{w:Tok}(hS:Nt.Str S [])(hw:w∈S.H):IdsR S w (Jj S w):=by
 have h:=IdsR.ex hS _ w hw rfl
 unfold Jj
 rw[dif_pos h]
 exact QF h
theorem WN{S:NC}{w:Tok}(hS:Nt.Str S [])(hw:w∈S.H)(h:w.anc.tail=[]):Jj S w=[]:=(Lj hS hw).fn hS (.root h)
theorem ZX{S:NC}{w p:Tok}(hS:Nt.Str S [])(hw:w∈S.H)(hp:p∈S.H)(h:w.anc.tail=p.anc):Jj S w=if w.id=0 then Jj S p else Jj S p++[w.id]:=by
 by_cases h0:w.id=0
 . rw[if_pos h0];exact(Lj hS hw).fn hS (.zero hp h h0 (Lj hS hp))
 . rw[if_neg h0];exact(Lj hS hw).fn hS (.cons hp h h0 (Lj hS hp))
structure ChainOk (S:NC)(ps:List Pt)(F:List Fc):Prop where
 str:Nt.Str S []
 loc:Nt.Loc S []
 nl:S.ns.length=ps.length+1
 ns:∀(k:Nat) (p:Pt),ps[k]?=some p->∃y,S.ns[k]?=some y/\y.p=p/\y.fs.Perm (F.filter (Mat.solo p))
 last:∃y,S.ns[ps.length]?=some y/\y.fs=[]
def lvl (S:NC)(k:Nat):List Tok:=S.H.filter λu=>decide (u.anc.length=k+1)
def Mb (S:NC)(t:Tok):List Tok:=S.H.filter λu=>decide (u.anc.tail=t.anc)
noncomputable def tkR (S:NC)(u:Tok):List Int×List V:=(Jj S u,u.env)
variable {S:NC} {ps:List Pt} {F:List Fc}
theorem FW{k:Nat}{u:Tok}:u∈lvl S k↔u∈S.H/\u.anc.length=k+1:=by unfold lvl;rw[EP,decide_eq_true_iff]
theorem Ec{t u:Tok}:u∈Mb S t↔u∈S.H/\u.anc.tail=t.anc:=by unfold Mb;rw[EP,decide_eq_true_iff]
theorem Lv(hS:Nt.Str S []):S.H.Nodup:=(EE.1 hS.nd).imp λhne e=>hne (congrArg Tok.b e)
theorem i8(hS:Nt.Str S []){k:Nat}{x:Nd}(hx:S.ns[k]?=some x):x.ts.Perm ((lvl S k).map Tok.b):=by
 refine IT (hS.tn k x hx) (EE.2 (((Lv hS).sublist Ei).imp_of_mem λ{a b} ha hb hne e=>hne (hS.same (FW.1 ha).1 (FW.1 hb).1 e))) λb=>?_
 rw[hS.tm k x hx b,Av]
 constructor
 . rintro⟨u,h1,h2,h3, -⟩;exact⟨u,FW.2 ⟨h1,h3⟩,h2⟩
 . rintro⟨u,h1,h2⟩;exact⟨u,(FW.1 h1).1,h2,(FW.1 h1).2,AP⟩
theorem ZS(h:ChainOk S ps F)(hid:∀f∈F,f.id≠0)(hnd:(F.map Fc.id).Nodup){k:Nat}{p:Pt}(hp:ps[k]?=some p){t:Tok}(ht:t∈lvl S k):((Mb S t).map (tkR S)).Perm (stp p F (tkR S t)):=by
 obtain⟨x,hx,hxp,hxf⟩:=h.ns k p hp
 obtain⟨htm,htl⟩:=FW.1 ht
 have hkl:=(Af.1 hp).1
 have hP:=(h.loc t htm AP).part (by rw[htl,h.nl];omega) (x:=x) (by rw[htl];exact hx)
 have hfe:∀y,y∈Nt.exps x.p x.fs t.env↔y∈Nt.exps p F t.env:=λy=>by
  rw[hxp,<-Nt.exps_alone p F]
  exact(Nt.exps_perm hxf).mem_iff
 have h1:((Mb S t).map λu=>(u.id,u.env)).Perm (Nt.exps p F t.env):=by
  refine IT ?_ (Nt.exps_nodup p _ hnd) λy=>?_
  . refine EE.2 (((Lv h.str).sublist Ei).imp_of_mem λ{a b} ha hb hne e=>hne ?_)
    exact hP.one a (Ec.1 ha).1 b (Ec.1 hb).1 (Ec.1 ha).2 (Ec.1 hb).2 (congrArg Prod.fst e)
  . rw[Av,<-hfe]
    constructor
    . rintro⟨u,hu,rfl⟩
      exact hP.sub u (Ec.1 hu).1 (Ec.1 hu).2
    . intro hy
      obtain⟨u,u1,u2,u3⟩:=hP.all y hy
      exact⟨u,Ec.2 ⟨u1,u2⟩,u3⟩
 have h2:(Mb S t).map (tkR S)=((Mb S t).map λu=>(u.id,u.env)).map λz=>((if z.1=0 then Jj S t else Jj S t++[z.1],z.2):List Int×List V):=by
  rw[Ey]
  refine List.map_congr_left λu hu=>?_
  obtain⟨u1,u2⟩:=Ec.1 hu
  show(Jj S u,u.env)=_
  rw[ZX h.str u1 htm u2]
  rfl
 rw[h2]
 refine(h1.map _).trans ?_
 unfold stp
 refine IE (List.map_congr_left λz hz=>?_)
 show _=((if p.neg=true then Jj S t else Jj S t++[z.1],z.2):List Int×List V)
 unfold Nt.exps at hz
 by_cases hn:p.neg=true
 . rw[if_pos hn]at hz |-
   by_cases h0:Mat.passL p F t.env=[]
   . have hz:z∈(if Mat.passL p F t.env=[]then[((0:Int),t.env)]else[]):=hz
     rw[if_pos h0,AB]at hz
     rw[hz,if_pos rfl]
   . have hz:z∈(if Mat.passL p F t.env=[]then[((0:Int),t.env)]else[]):=hz
     rw[if_neg h0]at hz
     cases hz
 . rw[if_neg hn]at hz |-
   obtain⟨f,hf,e, -⟩:=Mat.passL_mem hz
   rw[if_neg (by rw[<-e];exact hid f hf)]
theorem Ve(h:ChainOk S ps F)(hid:∀f∈F,f.id≠0)(hnd:(F.map Fc.id).Nodup):∀k,k<=ps.length->((lvl S k).map (tkR S)).Perm (Mat.from_ F (ps.take k) [] Mat.empty)
|0,_=>by
  obtain⟨r,r1,r2,r3,r4⟩:=h.str.rx
  have h1:(lvl S 0).Perm [r]:=IT ((Lv h.str).sublist Ei) (Bb.2 ⟨AP,CA⟩) λu=>by
   rw[FW,AB]
   constructor
   . rintro⟨u1,u2⟩;exact h.str.same u1 r1 (h.str.rt u u1 r r1 u2 r2)
   . rintro rfl;exact⟨r1,r2⟩
  refine(h1.map _).trans ?_
  have h2:tkR S r=([],Mat.empty):=by
   unfold tkR
   rw[WN h.str r1 (Ay (by rw[CL,r2])),r4]
  rw[Au,BH,h2]
  exact .refl _
|k+1,hk=>by
  obtain⟨p,hp⟩:=gEx (l:=ps) (i:=k) q_o
  rw[Bk,hp,Bw,NG]
  have ih:=(Ve h hid hnd k q_o).flatMap_right (stp p F)
  refine List.Perm.trans ?_ ih
  rw[List.flatMap_map]
  have h1:(lvl S (k+1)).Perm ((lvl S k).flatMap (Mb S)):=by
   refine IT ((Lv h.str).sublist Ei) (List.pairwise_flatMap.2 ⟨λa _=>(Lv h.str).sublist Ei,((Lv h.str).sublist Ei).imp_of_mem λ{a b} ha hb hne=>?_⟩) λu=>?_
   . rintro x hx y hy rfl
     exact hne (h.str.anc_b (FW.1 ha).1 (FW.1 hb).1 ((Ec.1 hx).2.symm.trans (Ec.1 hy).2))
   . rw[FW,Dx]
     constructor
     . rintro⟨u1,u2⟩
       have hne:u.anc.tail≠[]:=λe=>by
        have:=congrArg List.length e
        rw[CL,u2]at this
        cases this
       obtain⟨t,t1,t2⟩:=h.str.up u u1 hne
       refine⟨t,FW.2 ⟨t1,?_⟩,Ec.2 ⟨u1,t2⟩⟩
       rw[<-t2,CL,u2];rfl
     . rintro⟨t,t1,t2⟩
       obtain⟨u1,u2⟩:=Ec.1 t2
       have h3:=(FW.1 t1).2
       have h4:=congrArg List.length u2
       rw[CL]at h4
       have:=Cm.2 (h.str.ne u u1)
       exact⟨u1,by omega⟩
  refine(h1.map _).trans ?_
  rw[List.map_flatMap]
  exact Jq λt ht=>ZS h hid hnd hp ht
end
section
theorem Se:∀l:List Int,(l.map Bl).flatten=l.map D.i
|[]=>rfl
|a::l=>by rw[Au,AL,Se l];rfl
section
variable {P:Program} {f:FuncId} {args:List D} {st s0:St} {l:List Int}
theorem TrF.frI(h:TrF P f args st λd st'=>∃X,IdO l d X/\st'.Perm (X++s0)):TrF P f args st λd st'=>d=.sl .shared (l.map Bl)/\st'=s0:=by
 intro vs w h1 h2
 refine(h vs w h1 h2).mono λ_ w' ⟨v,ev,d,s,k1,k2,k3,X,hX,hp⟩=>?_
 have k1':Rep (OwnS (X++s0)) w' v d:=by rw[<-OwnS.perm hp];exact k1
 have k2':Holds (X++s0) w':=k2.perm hp
 have k3':Ext (OwnS st) w (OwnS (X++s0)) w':=by rw[<-OwnS.perm hp];exact k3
 rcases hX with⟨rfl,rfl,rfl⟩|⟨g,cap,zs,hz,rfl,rfl⟩
 . exact⟨v,ev,_,s0,(LE.sl .tight []) _ _ _ k1',k2',k3',rfl,rfl⟩
 . have hfl:=Se l
   have hes:∀e∈l.map Bl,e.length=1:=λe he=>by
    obtain⟨a, -,rfl⟩:=Av.1 he
    rfl
   rw[<-hfl]at k1' k2' k3'
   have hr:=KB (sz:=1) k2' (by decide) hes (Ab ..) v k1'
   have he:=Ext.drop (st:=.box g 3 ((l.map Bl).flatten++zs)::s0) (st':=s0) (λ_ h=>Ae _ h) w'
   exact⟨v,ev,_,s0,hr,k2'.sub (AK _ _),k3'.trans he,rfl,rfl⟩
end
theorem nA(S:NC)(w:Tok)(hS:Nt.Str S [])(hw:w∈S.H)(st:St):TrF prog 107 [.ptr w.b 0] (S.st++st) λd st'=>d=.sl .shared ((Jj S w).map Bl)/\st'=S.st++st :=
 (f7 S w _ hS hw (Lj hS hw) st).frI
section
variable {P:Program} {N:Nat} {r:Option Nat} {c:Code} {A:AA} {st:St} {Q:Exit->AA->St->Prop}
theorem Ua{b:Nat}{ty:TypeId}{cs cs':List D}{s:St}(hp:st.Perm (.box b ty cs::s))(hle:LEL cs cs')(hl:∀d∈cs',d.leaf=true)(h:Tr P N r c A (.box b ty cs'::s) Q):Tr P N r c A st Q:=by
 refine Bn hp ?_
 intro a w h1 h2
 obtain⟨⟨us,hb,hr⟩,hlc⟩:=h2.2 (.box b ty cs) (Ag ..)
 have hO:OwnS (.box b ty cs::s)=OwnS (.box b ty cs'::s):=by
  funext b' off;apply propext
  rw[OwnS.cons_iff,OwnS.cons_iff];exact Nl
 have h4:Holds (.box b ty cs'::s) w:=by
  refine⟨AX.2 ⟨λx hx b' hb'=>(AX.1 h2.1).1 x hx b' hb',(AX.1 h2.1).2⟩,λx hx=>?_⟩
  rcases Ax.1 hx with rfl|hx
  . exact⟨⟨us,hb,by rw[<-hO];exact hle.repL hr⟩,hl⟩
  . rw[<-hO];exact h2.2 x (Ae _ hx)
 have he:Ext (OwnS (.box b ty cs::s)) w (OwnS (.box b ty cs'::s)) w:=by rw[<-hO];exact Ext.refl _ _
 exact wpIn_mono (h a w (h1.ext he) h4) λ_ _ _=>PostA.ext he
end
end
section
structure NT where
 b:Nat
 cs:List NC
 fm:MemP
 fs:List Fc
def NT.row (N:NT):List (List D):=N.cs.map λS=>[D.ptr S.c 0]
def NT.cells (N:NT):List D:=.sl .shared N.row::N.fm.cells N.fs.length
def NT.st (N:NT):St:=.box N.b 105 N.cells::(N.fm.resF N.fs++N.cs.flatMap NC.st)
structure NT.Ok (N:NT)(R:List Rl):Prop where
 fok:N.fm.okF N.fs
 fk:FKs N.fs
 fl:N.fs.length<=1000
 f0:∀f∈N.fs,f.id≠0
 cl:N.cs.length=R.length
 ch:∀(i:Nat) (x:Rl) (S:NC),R[i]?=some x->N.cs[i]?=some S->ChainOk S x.pats N.fs
variable {S S':NC} {ps:List Pt} {F G:List Fc} {f:Fc}
theorem ChainOk.node(h:ChainOk S ps F){x:Nd}(hx:x∈S.ns):(∃p,x.fs.Perm (F.filter (Mat.solo p)))\/x.fs=[]:=by
 obtain⟨k,hk⟩:=BT hx
 have hkl:=(Af.1 hk).1
 rw[h.nl]at hkl
 by_cases e:k=ps.length
 . obtain⟨y,y1,y2⟩:=h.last
   rw[e,y1]at hk
   cases hk
   exact .inr y2
 . obtain⟨p,hp⟩:=gEx (l:=ps) (i:=k) q_o
   obtain⟨y,y1, -,y2⟩:=h.ns k p hp
   rw[y1]at hk
   cases hk
   exact .inl ⟨p,y2⟩
theorem ChainOk.new(h:ChainOk S ps F)(hf:f.id∉F.map Fc.id):∀x∈S.ns,f.id∉x.fs.map Fc.id:=λx hx hm=>by
 rcases h.node hx with⟨p,hp⟩|e
 . obtain⟨g,hg,e⟩:=Av.1 hm
   exact hf (Av.2 ⟨g,(EP.1 (hp.mem_iff.1 hg)).1,e⟩)
 . rw[e]at hm;cases hm
theorem ChainOk.few(h:ChainOk S ps F){n:Nat}(hn:F.length<n):∀x∈S.ns,x.fs.length<n:=λx hx=>by
 rcases h.node hx with⟨p,hp⟩|e
 . rw[hp.length_eq]
   exact Xq (Fw ..) hn
 . rw[e];exact Xq (Ao _) hn
theorem ChainOk.come(h:ChainOk S ps F)(hC:Nt.ComeI S f (S.ns.length - 1) S'):ChainOk S' ps (F++[f]):=by
 refine⟨hC.str,hC.loc,hC.nl.trans h.nl,λk p hp=>?_,?_⟩
 . obtain⟨x,hx,hxp,hxf⟩:=h.ns k p hp
   obtain⟨y,y1,y2,y3⟩:=hC.ns k x hx
   have hkl:=(Af.1 hp).1
   refine⟨y,y1,y2.trans hxp,?_⟩
   rw[y3,Et]
   by_cases ha:Mat.solo p f=true
   . rw[if_pos ⟨by omega,by rw[h.nl];omega,by rw[hxp];exact ha⟩,Cf ha]
     exact hxf.append_right _
   . rw[if_neg (λh1=>ha (by rw[<-hxp];exact h1.2.2)),Cg ha]
     show x.fs.Perm (_++[])
     rw[AY]
     exact hxf
 . obtain⟨x,hx,hxf⟩:=h.last
   obtain⟨y,y1,y2,y3⟩:=hC.ns _ x hx
   refine⟨y,y1,?_⟩
   rw[y3,if_neg (by rw[h.nl];omega)]
   exact hxf
theorem ChainOk.leave{id:Int}(h:ChainOk S ps F)(hC:Nt.LeaI S id (S.ns.length - 1) S')(hG:G.Perm (EU id F)):ChainOk S' ps G:=by
 refine⟨hC.str,hC.loc,hC.nl.trans h.nl,λk p hp=>?_,?_⟩
 . obtain⟨x,hx,hxp,hxf⟩:=h.ns k p hp
   obtain⟨y,y1,y2,y3⟩:=hC.ns k x hx
   have hkl:=(Af.1 hp).1
   refine⟨y,y1,y2.trans hxp,?_⟩
   rw[if_pos ⟨by omega,by rw[h.nl];omega⟩]at y3
   refine y3.trans (((hxf.filter _).trans ?_).trans (hG.filter _).symm)
   unfold EU
   rw[List.filter_filter,List.filter_filter]
   refine IE (List.filter_congr λg _=>Bool.and_comm _ _)
 . obtain⟨x,hx,hxf⟩:=h.last
   obtain⟨y,y1,y2,y3⟩:=hC.ns _ x hx
   refine⟨y,y1,?_⟩
   rw[if_neg (by rw[h.nl];omega)]at y3
   rw[y3]
   exact hxf
theorem ChainOk.perm(h:ChainOk S ps F)(hG:F.Perm G):ChainOk S ps G:=⟨h.str,h.loc,h.nl,λk p hp=>by
 obtain⟨x,h1,h2,h3⟩:=h.ns k p hp
 exact⟨x,h1,h2,h3.trans (hG.filter _)⟩,h.last⟩
theorem NT.Ok.nodup{N:NT}{R:List Rl}(h:N.Ok R):(N.fs.map Fc.id).Nodup:=Lf h.fok
theorem ax{cs:List NC}{i:Nat}(h:cs[i]?=some S):(cs.flatMap NC.st).Perm (S.st++((cs.take i).flatMap NC.st++(cs.drop (i+1)).flatMap NC.st)):=by
 conv=>lhs;rw[show cs=cs.take i++S::cs.drop (i+1) by rw[<-V.drop_cons h,Bv]]
 rw[Lr,Ca,<-Ai,<-Ai]
 exact Fg _ Bm
structure StepC (cs:List NC)(R:List Rl)(F G:List Fc)(i:Nat)(cs':List NC):Prop where
 row:cs'.map NC.c=cs.map NC.c
 done:∀(j:Nat) (x:Rl) (S:NC),j<i->R[j]?=some x->cs'[j]?=some S->ChainOk S x.pats G
 todo:∀j,i<=j->cs'[j]?=cs[j]?
theorem StepC.zero(cs:List NC)(R:List Rl)(F G:List Fc):StepC cs R F G 0 cs:=⟨rfl,λ_ _ _ h=>absurd h (BL _),λ_ _=>rfl⟩
theorem StepC.len{cs cs':List NC}{R:List Rl}{i:Nat}(h:StepC cs R F G i cs'):cs'.length=cs.length:=by
 have:=congrArg List.length h.row
 rwa[Ab,Ab]at this
theorem StepC.next{cs cs':List NC}{R:List Rl}{i:Nat}{x:Rl}(h:StepC cs R F G i cs')(hx:R[i]?=some x)(hS:cs[i]?=some S)(hc:S'.c=S.c)(hok:ChainOk S' x.pats G):StepC cs R F G (i+1) (cs'.set i S'):=by
 have hS2:=(h.todo i (Ap _)).trans hS
 have hil:=(Af.1 hS2).1
 refine⟨?_,λj y T hj hy hT=>?_,λj hj=>?_⟩
 . rw[<-h.row,Ff,hc]
   apply Cx
   intro k
   rw[GN]
   by_cases e:i=k
   . subst e
     rw[if_pos rfl,Ab,if_pos hil,Aq,hS2]
     rfl
   . rw[if_neg e]
 . by_cases e:i=j
   . subst e
     rw[BA hil]at hT
     cases hT
     rw[hx]at hy
     cases hy
     exact hok
   . rw[DX e]at hT
     exact h.done j y T q_o hy hT
 . rw[DX q_o]
   exact h.todo j q_o
theorem StepC.row_eq{cs cs':List NC}{R:List Rl}{i:Nat}(h:StepC cs R F G i cs'):(cs'.map λS=>[D.ptr S.c 0])=cs.map λS=>[D.ptr S.c 0]:=by
 have:=congrArg (List.map λc=>[D.ptr c 0]) h.row
 rwa[Ey,Ey]at this
end
section
def GP (p:Pt):Nd:=⟨p,.no,[],.no,[]⟩
def WY:Pt:=⟨0,false,[]⟩
def DT (ps:List Pt):List Nd:=ps.map GP++[GP WY]
def XN (kb:Nat):Tok:=⟨[kb],0,Mat.empty,.no,[],0⟩
def Mc (c g cap:Nat)(zs:List D)(ps:List Pt)(kb:Nat):NC:=⟨c,g,cap,zs,DT ps,[XN kb]⟩
theorem Jl(ps:List Pt):(DT ps).length=ps.length+1:=by unfold DT;rw[Ad,Ab];rfl
theorem KS{ps:List Pt}{x:Nd}(h:x∈DT ps):∃p,(p∈ps\/p=WY)/\x=GP p:=by
 unfold DT at h
 rcases Bc.1 h with h|h
 . obtain⟨p,hp,rfl⟩:=Av.1 h
   exact⟨p,.inl hp,rfl⟩
 . exact⟨WY,.inr rfl,AB.1 h⟩
theorem WQ{ps:List Pt}{k:Nat}{p:Pt}(h:ps[k]?=some p):(DT ps)[k]?=some (GP p):=by
 unfold DT
 rw[Ba (by rw[Ab];exact(Af.1 h).1),Aq,h]
 rfl
theorem Tt(ps:List Pt):(DT ps)[ps.length]?=some (GP WY):=by
 unfold DT
 rw[BP (by rw[Ab];exact Ap _),Ab,Gu]
 rfl
theorem gi:PK WY:=⟨λt h=>(by cases h),Ao _⟩
theorem Ya:FKs []:=⟨λf h=>(by cases h),Ao _⟩
variable {c g cap kb:Nat} {zs:List D} {ps:List Pt}
theorem ZZ(hrow:(CJ (DT ps)++zs).length=cap*9)(hl:ps.length<=4)(hp:∀p∈ps,PK p):Nt.Str (Mc c g cap zs ps kb) [kb]:=by
 have hm:∀t,t∈(Mc c g cap zs ps kb).H->t=XN kb:=λt h=>AB.1 h
 have hn:∀x,x∈(Mc c g cap zs ps kb).ns->∃p,(p∈ps\/p=WY)/\x=GP p:=λx h=>KS h
 constructor
 . intro t h;rw[hm t h];exact Gi _ _
 . exact Bb.2 ⟨AP,CA⟩
 . intro t h hne;rw[hm t h]at hne;exact absurd rfl hne
 . intro u hu v hv _ _;rw[hm u hu,hm v hv]
 . intro t h;rw[hm t h];exact CA
 . intro t h b
   rw[hm t h]
   refine⟨λhb=>(by cases hb),?_⟩
   rintro⟨u,hu, -,e⟩
   rw[hm u hu]at e
   cases e
 . intro t h;rw[hm t h];exact Ao _
 . intro t h
   rw[hm t h]
   show 1<=(DT ps).length
   rw[Jl];omega
 . intro k x hx
   obtain⟨p, -,rfl⟩:=hn x (Ah hx)
   exact CA
 . intro k x hx b
   obtain⟨p, -,rfl⟩:=hn x (Ah hx)
   refine⟨λhb=>(by cases hb),?_⟩
   rintro⟨u,hu,e, -,hb⟩
   rw[hm u hu]at e
   exact absurd (AB.2 e.symm) hb
 . intro t h;rw[hm t h];exact⟨rfl,rfl⟩
 . intro x hx
   obtain⟨p, -,rfl⟩:=hn x hx
   exact⟨⟨rfl,rfl⟩,⟨rfl,rfl⟩⟩
 . exact hrow
 . show(DT ps).length<=5
   rw[Jl];omega
 . intro t h;rw[hm t h];exact empty_ek
 . intro x hx
   obtain⟨p,h1,rfl⟩:=hn x hx
   refine⟨?_,Ya,Ao _⟩
   rcases h1 with h1|rfl
   . exact hp p h1
   . exact gi
 . intro t h;rw[hm t h];exact⟨TP _,(by show(0:Int)<=1000;decide)⟩
 . exact⟨XN kb,Ag ..,rfl,rfl,rfl⟩
theorem aa:Nt.Loc (Mc c g cap zs ps kb) [kb]:=λt h hb=>by
 rw[AB.1 h]at hb
 exact absurd (Ag ..) hb
theorem cZ{S':NC}(hS:Nt.Str S' [])(hL:Nt.Loc S' [])(hK:Nt.Kept (Mc c g cap zs ps kb) S'):ChainOk S' ps []:=by
 refine⟨hS,hL,hK.nl.trans (Jl ps),λk p hp=>?_,?_⟩
 . obtain⟨y,y1,y2,y3⟩:=hK.ns k _ (WQ hp)
   exact⟨y,y1,y2,by rw[y3];exact .refl _⟩
 . obtain⟨y,y1,y2,y3⟩:=hK.ns _ _ (Tt ps)
   exact⟨y,y1,y3⟩
theorem cY:(Mc c g cap zs ps kb).st=[.box c 109 [.ar g 0 (ps.length+1) cap],.box g 115 (CJ (DT ps)++zs),.box kb 119 [.s (.pointer none),.i 0,.i 0,.sl .shared (Mat.empty.map V.cells),.s (.map none),.sl .tight [],.sl .tight [],.i 0]]:=by
 have h1:∀ns:List Nd,(∀x∈ns,∃p,(p∈ps\/p=WY)/\x=GP p)->ns.flatMap Nd.res=[]:=λns h=>by
  induction ns with
  | nil=>rfl
  | cons x ns ih =>
   rw[Ca,ih λy hy=>h y (Ae _ hy)]
   obtain⟨p, -,rfl⟩:=h x (Ag ..)
   rfl
 unfold NC.st NC.cbox NC.gbox
 show .box c _ [.ar g 0 (DT ps).length cap]::_::((DT ps).flatMap Nd.res++_)=_
 rw[h1 _ λx h=>KS h,Jl]
 rfl
end
section
attribute [local push_cast] Br Bl BV V.cells_mk V.cells_len Nat.mul_one Int.sub_zero List.map_nil beq_self_eq_true bne_self_eq_false List.head?_cons Bool.not_true Bool.not_false Nat.zero_add
theorem Holds.boxLE{b:Nat}{ty:TypeId}{cs cs':List D}{s:St}{w:World}(h:Holds (.box b ty cs::s) w)(hle:LEL cs cs')(hl:∀d∈cs',d.leaf=true):Holds (.box b ty cs'::s) w/\OwnS (.box b ty cs::s)=OwnS (.box b ty cs'::s):=by
 obtain⟨⟨us,hb,hr⟩,hlc⟩:=h.2 (.box b ty cs) (Ag ..)
 have hO:OwnS (.box b ty cs::s)=OwnS (.box b ty cs'::s):=by
  funext b' off;apply propext
  rw[OwnS.cons_iff,OwnS.cons_iff];exact Nl
 refine⟨⟨AX.2 ⟨λx hx b' hb'=>(AX.1 h.1).1 x hx b' hb',(AX.1 h.1).2⟩,λx hx=>?_⟩,hO⟩
 rcases Ax.1 hx with rfl|hx
 . exact⟨⟨us,hb,by rw[<-hO];exact hle.repL hr⟩,hl⟩
 . rw[<-hO];exact h.2 x (Ae _ hx)
theorem TrF.boxLE{P:Program}{f:FuncId}{args:List D}{st s:St}{D0:D}{b:Nat}{ty:TypeId}{cs':List D}(h:TrF P f args st λd st'=>d=D0/\∃cs,LEL cs cs'/\st'=.box b ty cs::s)(hl:∀d∈cs',d.leaf=true):TrF P f args st λd st'=>d=D0/\st'=.box b ty cs'::s:=by
 intro vs w h1 h2
 refine(h vs w h1 h2).mono λ_ w' ⟨v,ev,d,s',k1,k2,k3,e1,cs,hle,e2⟩=>?_
 subst e2 e1
 obtain⟨q1,q2⟩:=k2.boxLE hle hl
 rw[q2]at k1 k3
 exact⟨v,ev,_,_,k1,q1,k3,rfl,rfl⟩
def dU (l:List Fc):Prop:=l.Pairwise λa b=>a.id<=b.id
def Lz (f:Fc):List Fc->List Fc
|[]=>[f]
|g::l=>if f.id<g.id then f::g::l else g::Lz f l
theorem Li(f:Fc):∀l,(Lz f l).Perm (f::l)
|[]=>.refl _
|g::l=>by
  unfold Lz
  split
  . exact .refl _
  . exact((Li f l).cons g).trans (List.Perm.swap _ _ _)
theorem Vl(f:Fc):∀{l},dU l->dU (Lz f l)
|[],_=>AX.2 ⟨fun a h=>(by cases h),List.Pairwise.nil⟩
|g::l,h=>by
  have h1:=AX.1 h
  unfold Lz
  split
  . refine AX.2 ⟨λa ha=>?_,h⟩
    rcases Ax.1 ha with rfl|ha
    . omega
    . have:=h1.1 a ha;omega
  . refine AX.2 ⟨λa ha=>?_,Vl f h1.2⟩
    rcases Ax.1 ((Li f l).mem_iff.1 ha)with rfl|ha
    . omega
    . exact h1.1 a ha
def ND (f:Fc)(put:Bool)(out:List Fc)(l:List Fc):List Fc:=if put=true then out++l else out++Lz f l
theorem ZW{f g:Fc}{out l:List Fc}(h:f.id<g.id):ND f false out (g::l)=ND f true (out++[f]++[g]) l:=by
 unfold ND Lz
 rw[if_pos h]
 simp
theorem cM{f g:Fc}{out l:List Fc}(h:¬f.id<g.id):ND f false out (g::l)=ND f false (out++[g]) l:=by
 unfold ND
 rw[Lz,if_neg h]
 simp
theorem cL{f g:Fc}{out l:List Fc}:ND f true out (g::l)=ND f true (out++[g]) l:=by
 unfold ND
 simp
theorem cN{f:Fc}{put:Bool}{out:List Fc}:ND f put out []=if put=true then out else out++[f]:=by
 unfold ND Lz
 cases put<;>simp
theorem Rk(b:Nat)(RC:List (List D))(L:List Fc)(id:Int)(hl:L.length<=1000)(st:St):TrF prog 67 [.ptr b 0,.i id] (.box b 64 [.sl .shared RC,.sl .shared (L.map Fc.cells)]::st) λd st'=>d=.b (decide (id∈L.map Fc.id))/\st'=.box b 64 [.sl .shared RC,.sl .shared (L.map Fc.cells)]::st:=by
 have hLm:(L.map Fc.cells).length=L.length:=Ab ..
 have hLc:Hid (∀(i:Nat) (f:Fc),L[i]?=some f->(L.map Fc.cells)[i]?=some [.i f.id,.i f.time,.i f.tmpl,.i f.ver,.sl .shared (f.s.map V.cells)]):=λi t h=>by rw[Aq,h];rfl
 obtain⟨B,hB⟩:∃B,decide (id∈L.map Fc.id)=B:=⟨_,rfl⟩
 have ht:Hid (id∈L.map Fc.id->B=true):=λh=>by rw[<-hB];exact decide_eq_true h
 have hf:Hid (id∉L.map Fc.id->B=false):=λh=>by rw[<-hB];exact decide_eq_false h
 rw[hB]
 clear hB
 generalize L.map Fc.cells=LC at *
 refine Qin [4] func67 results67 ntmps67 ?_
 repeat' (first|refine QX ?_|refine QB ?_;intro b|with_reducible refine QZ ?_<;>(try constructor)<;>intro hb<;>try intro hb1|fail)
 refine Bs (ι:=Nat) (λi A st'=>i<=L.length/\A.df=[]/\A.e 0=.ptr b 0/\A.e 1=.i id/\A.e 5=.i i/\Hid (∀g∈L.take i,g.id≠id)/\st'=.box b 64 [.sl .shared RC,.sl .shared LC]::st) (λi=>L.length - i) 0 ⟨Ao _,Qf,Qf,Qf,Qf,Aa (λg hg=>by cases hg),rfl⟩ ?_
 rintro i A st' ⟨hi,hdf,e0,e1,e5,hno,rfl⟩
 by_cases hlt:i<L.length
 . obtain⟨g,hg⟩:=gEx hlt
   have hgc:=hLc.out i g hg
   by_cases he:g.id=id
   . have hB:=ht.out (Av.2 ⟨g,Ah hg,he⟩)
     clear hno hLc ht hf hg
     subst hB
     generalize g.s.map V.cells=GC at *
     exact WR
   . have hno2 : Hid (∀ x ∈ L.take (i + 1), x.id ≠ id) := λx hx => by
      rw[Bk,hg,Bc]at hx
      rcases hx with hx|hx
      . exact hno.out x hx
      . rw[Bw,AB]at hx
        rw[hx];exact he
     clear hno hLc ht hf hg
     generalize g.s.map V.cells=GC at *
     repeat' (first|refine QX ?_|refine QB ?_;intro b|with_reducible refine QZ ?_<;>(try constructor)<;>intro hb<;>try intro hb1|fail)
     refine⟨i+1,_,Aj _,⟨hlt,?_,?_,?_,?_,hno2,rfl⟩,by omega⟩
     all_goals exact Qf
 . have hB := hf.out (λh => by
    obtain⟨x,hx,e⟩:=Av.1 h
    exact hno.out x (by rw[Bj q_o];exact hx) e)
   clear hno hLc ht hf
   subst hB
   exact WR
theorem Ux(b:Nat)(RC:List (List D))(L:List Fc)(id:Int)(hl:L.length<=1000)(st:St):TrF prog 36 [.ptr b 0,.i id] (.box b 64 [.sl .shared RC,.sl .shared (L.map Fc.cells)]::st) λd st'=>d=.b (decide (id∈L.map Fc.id))/\st'=.box b 64 [.sl .shared RC,.sl .shared ((L.filter λg=>g.id != id).map Fc.cells)]::st:=by
 have hH:=Aa (Rk b RC L id hl)
 have hLm:(L.map Fc.cells).length=L.length:=Ab ..
 have hLc:Hid (∀(i:Nat) (f:Fc),L[i]?=some f->(L.map Fc.cells)[i]?=some [.i f.id,.i f.time,.i f.tmpl,.i f.ver,.sl .shared (f.s.map V.cells)]):=λi t h=>by rw[Aq,h];rfl
 by_cases hm:id∈L.map Fc.id
 . rw[decide_eq_true hm]at hH |-
   have hfin:Hid (L.filter (λg=>g.id != id)=(L.take L.length).filter λg=>g.id != id):=Aa (by rw[Cb])
   generalize L.map Fc.cells=LC at *
   refine TrF.boxLE (cs':=[.sl .shared RC,.sl .shared ((L.filter λg=>g.id != id).map Fc.cells)]) ?_ (λd hd=>by
    simp only[Ax,AP,or_false]at hd
    rcases hd with rfl|rfl<;>rfl)
   rw[hfin.out]
   obtain⟨og,hog⟩:∃og:Nat->List (List D),og=λi=>((L.take i).filter λg=>g.id != id).map Fc.cells:=⟨_,rfl⟩
   have h0:og 0=[]:=by rw[hog];rfl
   have hol:Hid (∀i,(og i).length<=1000):=λi=>by
    rw[hog]
    dsimp only
    rw[Ab]
    refine Cp (Fw ..) ?_
    rw[AQ]
    omega
   have hst:Hid (∀(i:Nat) (g:Fc),L[i]?=some g->og (i+1)=if g.id=id then og i else og i++[[.i g.id,.i g.time,.i g.tmpl,.i g.ver,.sl .shared (g.s.map V.cells)]]):=λi g h=>by
    rw[hog]
    dsimp only
    rw[Bk,h,Bw,Et]
    by_cases e:g.id=id
    . rw[if_pos e,Cg (by simpa using e),List.filter_nil,AY]
    . rw[if_neg e,Cf (by simpa using e),List.filter_nil,Bi]
      rfl
   have hend:Hid (((L.take L.length).filter λg=>g.id != id).map Fc.cells=og L.length):=by rw[hog];exact Aa rfl
   have ho1:Hid (∀i,∀a∈og i,a.length=5):=λi a ha=>by
    rw[hog]at ha
    obtain⟨x, -,rfl⟩:=Av.1 ha
    rfl
   rw[hend.out]
   clear hog hfin hend hm
   refine Qin [4] func36 results36 ntmps36 ?_
   refine GF 43 5 (og 0).length ?_
   rw[h0]
   repeat' (first|refine QX ?_|(refine QB ?_;intro b)|refine QP ?_;intro o' ho'|(with_reducible refine QZ ?_<;>(try constructor)<;>intro hb<;>try intro hb1)|refine Qc call67 ((hH.out _)) ?_|fail)
   refine Bs (ι:=Nat) (λi A st'=>i<=L.length/\A.df=[]/\A.e 0=.ptr b 0/\A.e 1=.i id/\A.e 6=.i i/\∃o,o≠.shared/\A.e 5=.sl o (og i)/\st'=.room o 43 5 (og i).length::.box b 64 [.sl .shared RC,.sl .shared LC]::st) (λi=>L.length - i) 0 ⟨Ao _,Qf,Qf,Qf,Qf,.tight,IJ,by rw[h0];exact Qf,by rw[h0]⟩ ?_
   clear h0 hH
   rintro i A st' ⟨hi,hdf,e0,e1,e6,o,ho,e5,rfl⟩
   by_cases hlt:i<L.length
   . obtain⟨g,hg⟩:=gEx hlt
     have hgc:=hLc.out i g hg
     have hs:=hst.out i g hg
     have hl1:=hol.out i
     have hl3:=ho1.out i
     clear hLc hst hol ho1 hg
     generalize g.s.map V.cells=GC at *
     obtain⟨OG,hOG⟩:∃OG,OG=og i:=⟨_,rfl⟩
     rw[<-hOG]at hl1 hl3 e5 hs |-
     clear hOG
     by_cases he:g.id=id
     . rw[if_pos he]at hs
       replace hs:=Aa hs
       repeat' (first|refine QX ?_|(refine QB ?_;intro b)|refine QP ?_;intro o' ho'|(with_reducible refine QZ ?_<;>(try constructor)<;>intro hb<;>try intro hb1)|fail)
       refine⟨i+1,_,Aj _,⟨hlt,?_,?_,?_,?_,o,ho,?_,by rw[hs.out]⟩,by omega⟩
       all_goals first|(rw[hs.out];exact Qf)|exact Qf
     . rw[if_neg he]at hs
       replace hs:=Aa hs
       repeat' (first|refine QX ?_|(refine QB ?_;intro b)|refine QP ?_;intro o' ho'|(with_reducible refine QZ ?_<;>(try constructor)<;>intro hb<;>try intro hb1)|fail)
       refine⟨i+1,.room o' 43 5 (OG++[[D.i g.id,D.i g.time,D.i g.tmpl,D.i g.ver,D.sl .shared GC]]).length::.box b 64 [.sl .shared RC,.sl .shared LC]::st,q_t,⟨hlt,?_,?_,?_,?_,o',ho',?_,by rw[hs.out]⟩,by omega⟩
       all_goals first|(rw[hs.out];exact Qf)|exact Qf
   . have hil:i=L.length:=by omega
     subst hil
     clear hLc hst hol ho1
     generalize og L.length=OG at *
     repeat' (first|refine QX ?_|(refine QB ?_;intro b)|refine QP ?_;intro o' ho'|(with_reducible refine QZ ?_<;>(try constructor)<;>intro hb<;>try intro hb1)|fail)
     exact Bf (by simp) q_y (AK ..) (LE.of_eq q_v) ⟨rfl,[.sl .shared RC,.sl o OG],⟨LE.refl _,LE.sl _ _,trivial⟩,rfl⟩
 . rw[decide_eq_false hm]at hH |-
   have hfin:Hid (L.filter (λg=>g.id != id)=L):=Aa (Ls.2 λg hg=>by
    have:g.id≠id:=λe=>hm (Av.2 ⟨g,hg,e⟩)
    simpa using this)
   rw[hfin.out]
   clear hLc
   generalize L.map Fc.cells=LC at *
   refine Qin [4] func36 results36 ntmps36 ?_
   repeat' (first|refine QX ?_|(refine QB ?_;intro b)|refine QP ?_;intro o' ho'|(with_reducible refine QZ ?_<;>(try constructor)<;>intro hb<;>try intro hb1)|refine Qc call67 ((hH.out _)) ?_|fail)
   all_goals exact BZ
theorem Wr(b:Nat)(RC:List (List D))(L:List Fc)(f:Fc)(hl:L.length<=1000)(st:St):TrF prog 34 [.ptr b 0,.agg f.cells] (.box b 64 [.sl .shared RC,.sl .shared (L.map Fc.cells)]::st) λd st'=>d=.b (!(decide (f.id∈L.map Fc.id)))/\st'=.box b 64 [.sl .shared RC,.sl .shared ((if f.id∈L.map Fc.id then L else Lz f L).map Fc.cells)]::st:=by
 have hH:=Rk b RC L f.id hl
 have hLm:(L.map Fc.cells).length=L.length:=Ab ..
 have hLc:Hid (∀(i:Nat) (f:Fc),L[i]?=some f->(L.map Fc.cells)[i]?=some [.i f.id,.i f.time,.i f.tmpl,.i f.ver,.sl .shared (f.s.map V.cells)]):=λi t h=>by rw[Aq,h];rfl
 have hfc:f.cells=[.i f.id,.i f.time,.i f.tmpl,.i f.ver,.sl .shared (f.s.map V.cells)]:=rfl
 rw[hfc]
 by_cases hm:f.id∈L.map Fc.id
 . rw[decide_eq_true hm]at hH |-
   rw[if_pos hm]
   generalize L.map Fc.cells=LC at *
   generalize f.s.map V.cells=VS at *
   clear hLc hm hfc
   replace hH:=Aa hH
   refine Qin [4] func34 results34 ntmps34 ?_
   repeat' (first|refine QX ?_|(refine QB ?_;intro b)|refine QP ?_;intro o' ho'|(with_reducible refine QZ ?_<;>(try constructor)<;>intro hb<;>try intro hb1)|refine Qc call67 ((hH.out _)) ?_|fail)
   all_goals exact BZ
 . rw[decide_eq_false hm]at hH |-
   rw[if_neg hm]
   refine TrF.boxLE (cs':=[.sl .shared RC,.sl .shared ((Lz f L).map Fc.cells)]) ?_ (λd hd=>by
    simp only[Ax,AP,or_false]at hd
    rcases hd with rfl|rfl<;>rfl)
   have h0:Hid (ND f false [] (L.drop 0)=Lz f L):=rfl
   have hc0:([]:List Fc).map Fc.cells=[]:=rfl
   have hFs:Hid (∀l:List Fc,(∀a∈l.map Fc.cells,a.length=5)/\(l.map Fc.cells).length=l.length):=λl=>⟨λa ha=>by
    obtain⟨x, -,rfl⟩:=Av.1 ha
    rfl,Ab ..⟩
   have hap:Hid (∀(l:List Fc) (g:Fc),(l++[g]).map Fc.cells=l.map Fc.cells++[[.i g.id,.i g.time,.i g.tmpl,.i g.ver,.sl .shared (g.s.map V.cells)]]):=λl g=>Bi
   obtain⟨FM,hFM⟩:∃FM:List Fc->List (List D),FM=λl=>l.map Fc.cells:=⟨_,rfl⟩
   have hFMe:∀l:List Fc,l.map Fc.cells=FM l:=λl=>by rw[hFM]
   simp only[hFMe]at hFs hap hc0 hH hLm hLc |-
   clear hFMe hFM hm hfc
   generalize hLC:FM L=LC at *
   generalize hVS:f.s.map V.cells=VS at *
   replace hH:=Aa hH
   refine Qin [4] func34 results34 ntmps34 ?_
   refine GF 43 5 (FM []).length ?_
   rw[hc0]
   repeat' (first|refine QX ?_|(refine QB ?_;intro b)|refine QP ?_;intro o' ho'|(with_reducible refine QZ ?_<;>(try constructor)<;>intro hb<;>try intro hb1)|refine Qc call67 ((hH.out _)) ?_|fail)
   refine Bs (ι:=Nat) (λi A st'=>i<=L.length/\A.df=[]/\A.e 0=.ptr b 0/\A.e 3=.ip [.i f.id,.i f.time,.i f.tmpl,.i f.ver,.sl .shared VS]/\A.e 7=.i i/\∃(put:Bool) (out:List Fc) (o:Own),Hid (ND f put out (L.drop i)=Lz f L)/\o≠.shared/\out.length<=2*i/\A.e 6=.b put/\A.e 5=.sl o (FM out)/\st'=.room o 43 5 (FM out).length::.box b 64 [.sl .shared RC,.sl .shared LC]::st) (λi=>L.length - i) 0 ⟨Ao _,Qf,Qf,Qf,Qf,false,[],.tight,h0,IJ,Ao _,Qf,by rw[hc0];exact Qf,by rw[hc0]⟩ ?_
   clear h0 hH hc0
   rintro i A st' ⟨hi,hdf,e0,e3,e7,put,out,o,HI,ho,hol,e6,e5,rfl⟩
   obtain⟨ho5,hoL⟩:=hFs.out out
   by_cases hlt:i<L.length
   . obtain⟨g,hg⟩:=gEx hlt
     have hgc:=hLc.out i g hg
     have HE:=HI.out
     rw[V.drop_cons hg]at HE
     cases put with
     | true =>
      rw[cL]at HE
      have hs:=hap.out out g
      have hl2:(out++[g]).length=out.length+1:=by rw[Ad];rfl
      replace HE:=Aa HE
      clear hLc HI hg hFs hap
      generalize g.s.map V.cells=GC at *
      generalize hO2:out++[g]=out2 at *
      generalize hOG:FM out=OG at *
      replace hs:=Aa hs
      repeat' (first|refine QV ?_|((with_reducible apply(Da (id:=8) [(b,[.sl .shared RC,.sl .shared LC])]));(iterate 3 (focus kernel_rfl));(focus exact q_k);intro hne;(try simp only[nes,ne1,and_assoc]at hne);repeat(have hq:=hne.1;replace hne:=hne.2))|((with_reducible refine And.intro ?_ ?_);(focus exact q_k))|refine QY ?_|(refine QB ?_;intro b)|refine QP ?_;intro o' ho'|(with_reducible refine QZ ?_<;>(try constructor)<;>intro hb<;>try intro hb1)|fail)
      refine⟨i+1,.room o' 43 5 (OG++[[D.i g.id,D.i g.time,D.i g.tmpl,D.i g.ver,D.sl .shared GC]]).length::.box b 64 [.sl .shared RC,.sl .shared LC]::st,q_t,⟨hlt,?_,?_,?_,?_,true,out2,o',HE,ho',by omega,?_,?_,by rw[hs.out]⟩,by omega⟩
      all_goals first|(rw[hs.out];exact Qf)|exact Qf
     | false =>
      by_cases hlt2:f.id<g.id
      . rw[ZW hlt2]at HE
        have hs1:=hap.out out f
        have hs:=hap.out (out++[f]) g
        rw[hs1,hVS]at hs
        have hl2:(out++[f]++[g]).length=out.length+2:=by rw[Ad,Ad];rfl
        replace HE:=Aa HE
        clear hLc HI hg hFs hap hs1
        generalize g.s.map V.cells=GC at *
        generalize hO2:out++[f]++[g]=out2 at *
        generalize hOG:FM out=OG at *
        replace hs:=Aa hs
        have hd2:decide (f.id<g.id)=true:=decide_eq_true hlt2
        repeat' (first|refine QV ?_|((with_reducible apply(Da (id:=8) [(b,[.sl .shared RC,.sl .shared LC])]));(iterate 3 (focus kernel_rfl));(focus exact q_k);intro hne;(try simp only[nes,ne1,and_assoc]at hne);repeat(have hq:=hne.1;replace hne:=hne.2))|((with_reducible refine And.intro ?_ ?_);(focus exact q_k))|refine QY ?_|(refine QB ?_;intro b)|refine QP ?_;intro o' ho'|(with_reducible refine QZ ?_<;>(try constructor)<;>intro hb<;>try intro hb1)|fail)
        refine⟨i+1,.room o' 43 5 (OG++[[D.i f.id,D.i f.time,D.i f.tmpl,D.i f.ver,D.sl .shared VS]]++[[D.i g.id,D.i g.time,D.i g.tmpl,D.i g.ver,D.sl .shared GC]]).length::.box b 64 [.sl .shared RC,.sl .shared LC]::st,q_t,⟨hlt,?_,?_,?_,?_,true,out2,o',HE,by assumption,by omega,?_,?_,by rw[hs.out]⟩,by omega⟩
        all_goals first|(rw[hs.out];exact Qf)|exact Qf
      . rw[cM hlt2]at HE
        have hs:=hap.out out g
        have hl2:(out++[g]).length=out.length+1:=by rw[Ad];rfl
        replace HE:=Aa HE
        clear hLc HI hg hFs hap
        generalize g.s.map V.cells=GC at *
        generalize hO2:out++[g]=out2 at *
        generalize hOG:FM out=OG at *
        replace hs:=Aa hs
        have hd2:decide (f.id<g.id)=false:=decide_eq_false hlt2
        repeat' (first|refine QV ?_|((with_reducible apply(Da (id:=8) [(b,[.sl .shared RC,.sl .shared LC])]));(iterate 3 (focus kernel_rfl));(focus exact q_k);intro hne;(try simp only[nes,ne1,and_assoc]at hne);repeat(have hq:=hne.1;replace hne:=hne.2))|((with_reducible refine And.intro ?_ ?_);(focus exact q_k))|refine QY ?_|(refine QB ?_;intro b)|refine QP ?_;intro o' ho'|(with_reducible refine QZ ?_<;>(try constructor)<;>intro hb<;>try intro hb1)|fail)
        refine⟨i+1,.room o' 43 5 (OG++[[D.i g.id,D.i g.time,D.i g.tmpl,D.i g.ver,D.sl .shared GC]]).length::.box b 64 [.sl .shared RC,.sl .shared LC]::st,q_t,⟨hlt,?_,?_,?_,?_,false,out2,o',HE,ho',by omega,?_,?_,by rw[hs.out]⟩,by omega⟩
        all_goals first|(rw[hs.out];exact Qf)|exact Qf
   . have HE:=HI.out
     rw[Az q_o,cN]at HE
     cases put with
     | true =>
      rw[if_pos rfl]at HE
      clear HI hLc hFs hap
      subst HE
      generalize FM (Lz f L)=OG at *
      repeat' (first|refine QX ?_|(refine QB ?_;intro b)|refine QP ?_;intro o' ho'|(with_reducible refine QZ ?_<;>(try constructor)<;>intro hb<;>try intro hb1)|fail)
      exact Bf (by simp) q_y (AK ..) (LE.of_eq q_v) ⟨rfl,[.sl .shared RC,.sl o OG],⟨LE.refl _,LE.sl _ _,trivial⟩,rfl⟩
     | false =>
      rw[if_neg (by decide)]at HE
      have hs:=hap.out out f
      rw[HE,hVS]at hs
      clear HI hLc hFs hap HE
      generalize FM (Lz f L)=OG2 at *
      generalize hOG:FM out=OG at *
      subst hs
      repeat' (first|refine QX ?_|(refine QB ?_;intro b)|refine QP ?_;intro o' ho'|(with_reducible refine QZ ?_<;>(try constructor)<;>intro hb<;>try intro hb1)|fail)
      exact Bf (by simp) q_y (AK ..) (LE.of_eq q_v) ⟨rfl,[.sl .shared RC,.sl o' _],⟨LE.refl _,LE.sl _ _,trivial⟩,rfl⟩
end
end Go.Proofs.YtoeidpmjifjplaaGreat
