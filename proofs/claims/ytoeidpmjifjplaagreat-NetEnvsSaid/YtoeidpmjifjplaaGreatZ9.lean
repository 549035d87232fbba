/- Texts put together. No statement is proved here. -/
import Derived.Shelf.SlSortCmp.NoneTotal
import Derived.Ground.SlsfProg
import Derived.Test.YtoeidpmjifjplaaGreatZ8
set_option linter.all false
set_option maxRecDepth 10000
set_option maxHeartbeats 8000000
namespace Go.Proofs.YtoeidpmjifjplaaGreat
open Go.RowKit Tryz
structure Tok where
 anc:List Nat
 id:Int
 env:List V
 km:MemP
 kids:List Nat
 count:Int
def Tok.b (t:Tok):Nat:=t.anc.headD 0
def Tok.lv (t:Tok):Nat:=t.anc.length - 1
def Tok.fromD (t:Tok):D:=match t.anc.tail with
|[]=>.s (.pointer none)
|p::_=>.ptr p 0
def Tok.pre (t:Tok):List D:=[t.fromD,.i t.lv,.i t.id,.sl .shared (t.env.map V.cells)]
def Tok.cells (t:Tok):List D:=t.pre++(t.km.cells t.kids.length++[.i t.count])
def Tok.res (t:Tok):St:=.box t.b 119 t.cells::t.km.resT t.kids
structure Nd where
 p:Pt
 fm:MemP
 fs:List Fc
 tm:MemP
 ts:List Nat
def Nd.cells (x:Nd):List D:=x.p.cells++(x.fm.cells x.fs.length++x.tm.cells x.ts.length)
def Nd.res (x:Nd):St:=x.fm.resF x.fs++x.tm.resT x.ts
theorem MemP.cells_len(M:MemP)(n:Nat):(M.cells n).length=3:=by cases M<;>rfl
theorem Nd.cells_len(x:Nd):x.cells.length=9:=by
 unfold Nd.cells
 rw[Ad,Ad,MemP.cells_len,MemP.cells_len]
 rfl
structure NC where
 c:Nat
 g:Nat
 cap:Nat
 zs:List D
 ns:List Nd
 H:List Tok
def CJ (ns:List Nd):List D:=(ns.map Nd.cells).flatten
theorem DP(ns:List Nd):(CJ ns).length=ns.length*9:=by
 unfold CJ
 induction ns with
|nil=>rfl
|cons x ns ih=>rw[Au,AL,Ad,ih,An,Nd.cells_len,Cr,Dw]
theorem GZ{ns:List Nd}{k:Nat}{x:Nd}(h:ns[k]?=some x):CJ ns=CJ (ns.take k)++(x.cells++CJ (ns.drop (k+1))):=by
 unfold CJ
 rw[<-AL,<-Au,<-CW,<-Bi]
 congr 2
 have:=V.drop_cons h
 rw[<-this,Bv]
theorem Iw{ns:List Nd}{k:Nat}{x:Nd}(h:ns[k]?=some x):(CJ (ns.take k)).length=k*9:=by
 rw[DP,AQ,KZ (aI (Af.1 h).1)]
def MD (ns:List Nd)(k:Nat)(x:Nd):List D:=CJ (ns.take k)++x.p.cells
def Km (ns:List Nd)(k:Nat)(x:Nd)(zs:List D):List D:=x.tm.cells x.ts.length++(CJ (ns.drop (k+1))++zs)
def JW (ns:List Nd)(k:Nat)(x:Nd):List D:=CJ (ns.take k)++(x.p.cells++x.fm.cells x.fs.length)
def GQ (ns:List Nd)(k:Nat)(zs:List D):List D:=CJ (ns.drop (k+1))++zs
theorem kA{ns:List Nd}{k:Nat}{x:Nd}(h:ns[k]?=some x)(zs:List D):CJ ns++zs=MD ns k x++(x.fm.cells x.fs.length++Km ns k x zs):=by
 unfold MD Km
 rw[GZ h]
 unfold Nd.cells
 simp only[Ai]
theorem bG{ns:List Nd}{k:Nat}{x:Nd}(h:ns[k]?=some x)(zs:List D):CJ ns++zs=JW ns k x++(x.tm.cells x.ts.length++GQ ns k zs):=by
 unfold JW GQ
 rw[GZ h]
 unfold Nd.cells
 simp only[Ai]
theorem MB{ns:List Nd}{k:Nat}{x:Nd}(h:ns[k]?=some x):(MD ns k x).length=k*9+3:=by
 unfold MD
 rw[Ad,Iw h]
 rfl
theorem KI{ns:List Nd}{k:Nat}{x:Nd}(h:ns[k]?=some x):(JW ns k x).length=k*9+6:=by
 unfold JW
 rw[Ad,Ad,Iw h,MemP.cells_len]
 rfl
theorem cn{ns:List Nd}{k:Nat}{x:Nd}(h:ns[k]?=some x):ns=ns.take k++x::ns.drop (k+1):=by
 rw[<-V.drop_cons h,Bv]
theorem EH{α:Type}{ns:List α}{k:Nat}{y:α}:(ns.set k y).take k=ns.take k:=by
 rw[List.take_set_of_le (Ap _)]
theorem EN{α:Type}{ns:List α}{k:Nat}{y:α}:(ns.set k y).drop (k+1)=ns.drop (k+1):=by
 rw[List.drop_set_of_lt (Ge _)]
def NC.cbox (S:NC):Res:=.box S.c 109 [.ar S.g 0 S.ns.length S.cap]
def NC.gbox (S:NC):Res:=.box S.g 115 (CJ S.ns++S.zs)
def NC.st (S:NC):St:=S.cbox::S.gbox::(S.ns.flatMap Nd.res++S.H.flatMap Tok.res)
def NC.off (S:NC)(k:Nat):St:=S.cbox::((S.ns.take k).flatMap Nd.res++((S.ns.drop (k+1)).flatMap Nd.res++S.H.flatMap Tok.res))
theorem EV(a b:Res)(l m:St):(a::b::(l++m)).Perm (b::(l++(a::m))) :=
 (List.Perm.swap _ _ _).trans (.cons b AD.symm)
theorem Zp(p q r s:St):(p++(q++r)++s).Perm (q++(p++(r++s))):=by
 rw[Ai,Ai,<-Ai,<-Ai q]
 exact Fg _ Bm
theorem NC.at_T{S:NC}{k:Nat}{x:Nd}(h:S.ns[k]?=some x):S.st.Perm (.box S.g 115 (JW S.ns k x++(x.tm.cells x.ts.length++GQ S.ns k S.zs))::(x.tm.resT x.ts++(x.fm.resF x.fs++S.off k))):=by
 unfold NC.st NC.gbox
 rw[bG h]
 have e:S.ns.flatMap Nd.res=(S.ns.take k).flatMap Nd.res++(x.res++(S.ns.drop (k+1)).flatMap Nd.res):=by
  conv=>lhs;rw[cn h]
  rw[Lr,Ca]
 rw[e]
 unfold NC.off Nd.res
 refine(List.Perm.swap _ _ _).trans (.cons _ ?_)
 generalize (S.ns.take k).flatMap (λx=>x.fm.resF x.fs++x.tm.resT x.ts)=P1
 generalize (S.ns.drop (k+1)).flatMap (λx=>x.fm.resF x.fs++x.tm.resT x.ts)=P2
 generalize S.H.flatMap Tok.res=P3
 generalize x.fm.resF x.fs=A
 generalize x.tm.resT x.ts=B
 have h1:((P1++(A++B++P2))++P3).Perm (B++(A++(P1++(P2++P3)))):=by
  refine(Zp P1 (A++B) P2 P3).trans ?_
  rw[<-Ai B]
  exact Fg _ Bm
 refine(h1.cons _).trans ?_
 rw[<-Ai B A,<-Ai B A (_::_)]
 exact AD.symm
theorem NC.at_F{S:NC}{k:Nat}{x:Nd}(h:S.ns[k]?=some x):S.st.Perm (.box S.g 115 (MD S.ns k x++(x.fm.cells x.fs.length++Km S.ns k x S.zs))::(x.fm.resF x.fs++(x.tm.resT x.ts++S.off k))):=by
 have h1:=NC.at_T h
 rw[<-bG h,kA h]at h1
 refine h1.trans (.cons _ ?_)
 rw[<-Ai,<-Ai]
 exact Fg _ Bm
theorem NC.at_tok{S:NC}{t:Tok}{H0:List Tok}(h:S.H.Perm (t::H0)):S.st.Perm (.box t.b 119 t.cells::(t.km.resT t.kids++({S with H:=H0}:NC).st)):=by
 have h1:(S.H.flatMap Tok.res).Perm (t.res++H0.flatMap Tok.res):=by
  have:=h.flatMap_right Tok.res
  rwa[Ca]at this
 unfold NC.st
 have h2:(S.cbox::S.gbox::(S.ns.flatMap Nd.res++S.H.flatMap Tok.res)).Perm (S.cbox::S.gbox::(S.ns.flatMap Nd.res++(t.res++H0.flatMap Tok.res))):=((CU _ h1).cons _).cons _
 refine h2.trans ?_
 rw[<-AI,<-AI,<-Ai]
 show List.Perm _ (t.res++((S.cbox::S.gbox::S.ns.flatMap Nd.res)++H0.flatMap Tok.res))
 rw[<-Ai]
 exact Fg _ Bm
section
namespace Nt
def exps (p:Pt)(F:List Fc)(env:List V):List (Int×List V):=if p.neg=true then(if Mat.passL p F env=[]then[(0,env)]else[])else Mat.passL p F env
def cnt (p:Pt)(F:List Fc)(env:List V):Int:=if p.neg=true then(Mat.passL p F env).length else 0
theorem tok_b{t:Tok}(h:t.anc≠[]):t.anc=t.b::t.anc.tail:=by
 cases ha:t.anc with
|nil=>exact absurd ha h
|cons a l=>unfold Tok.b;rw[ha];rfl
structure Str (S:NC)(E:List Nat):Prop where
 ne:∀t∈S.H,t.anc≠[]
 nd:(S.H.map Tok.b).Nodup
 up:∀u∈S.H,u.anc.tail≠[]->∃t∈S.H,u.anc.tail=t.anc
 rt:∀u∈S.H,∀v∈S.H,u.anc.length=1->v.anc.length=1->u.b=v.b
 kn:∀t∈S.H,t.kids.Nodup
 km:∀t∈S.H,∀b,b∈t.kids↔∃u∈S.H,u.b=b/\u.anc.tail=t.anc
 kl:∀t∈S.H,t.kids.length<=1000
 lv:∀t∈S.H,t.anc.length<=S.ns.length
 tn:∀(k:Nat) (x:Nd),S.ns[k]?=some x->x.ts.Nodup
 tm:∀(k:Nat) (x:Nd),S.ns[k]?=some x->∀b,b∈x.ts↔∃u∈S.H,u.b=b/\u.anc.length=k+1/\b∉E
 okt:∀t∈S.H,t.km.okT t.kids
 okx:∀x∈S.ns,x.fm.okF x.fs/\x.tm.okT x.ts
 row:(CJ S.ns++S.zs).length=S.cap*9
 nl:S.ns.length<=5
 ek:∀t∈S.H,EK t.env
 pk:∀x∈S.ns,PK x.p/\FKs x.fs/\x.fs.length<=1000
 ct:∀t∈S.H,0<=t.count/\t.count<=1000
 rx:∃t∈S.H,t.anc.length=1/\t.id=0/\t.env=Mat.empty
variable {S S':NC} {E X:List Nat} {t u v:Tok} {H0:List Tok}
theorem Str.same(h:Str S E)(hu:u∈S.H)(hv:v∈S.H)(e:u.b=v.b):u=v:=by
 have:=h.nd
 obtain⟨i,hi,rfl⟩:=Df hu
 obtain⟨j,hj,rfl⟩:=Df hv
 have h1:(S.H.map Tok.b)[i]?=(S.H.map Tok.b)[j]?:=by
  rw[Aq,Aq,Al hi,Al hj]
  exact congrArg some e
 have:=(Jv (by rw[Ab];exact hi) this).1 h1
 subst this
 rfl
theorem Str.anc_b(h:Str S E)(hu:u∈S.H)(hv:v∈S.H)(e:u.anc=v.anc):u=v:=h.same hu hv (by unfold Tok.b;rw[e])
def LocOk (S:NC)(t:Tok):Prop :=
 if t.anc.length=S.ns.length then t.count=0/\t.kids=[]else
 ∀x,S.ns[t.anc.length - 1]?=some x->t.count=cnt x.p x.fs t.env/\(∀u∈S.H,u.anc.tail=t.anc->(u.id,u.env)∈exps x.p x.fs t.env)/\(∀y∈exps x.p x.fs t.env,∃u∈S.H,u.anc.tail=t.anc/\(u.id,u.env)=y)/\∀u∈S.H,∀v∈S.H,u.anc.tail=t.anc->v.anc.tail=t.anc->u.id=v.id->u=v
def Loc (S:NC)(X:List Nat):Prop:=∀t∈S.H,t.b∉X->LocOk S t
structure Kept (S S':NC):Prop where
 c:S'.c=S.c
 g:S'.g=S.g
 cap:S'.cap=S.cap
 zs:S'.zs=S.zs
 nl:S'.ns.length=S.ns.length
 ns:∀(k:Nat) (x:Nd),S.ns[k]?=some x->∃y,S'.ns[k]?=some y/\y.p=x.p/\y.fs=x.fs
theorem Kept.refl(S:NC):Kept S S:=⟨rfl,rfl,rfl,rfl,rfl,λ_ x h=>⟨x,h,rfl,rfl⟩⟩
theorem Kept.trans{S'':NC}(h:Kept S S')(k:Kept S' S''):Kept S S'':=⟨k.c.trans h.c,k.g.trans h.g,k.cap.trans h.cap,k.zs.trans h.zs,k.nl.trans h.nl,λi x hx=>by
 obtain⟨y,h1,h2,h3⟩:=h.ns i x hx
 obtain⟨z,k1,k2,k3⟩:=k.ns i y h1
 exact⟨z,k1,k2.trans h2,k3.trans h3⟩⟩
structure Grew (S S':NC)(t:Tok):Prop extends Kept S S' where
 keep:∀u,¬t.anc <:+ u.anc->(u∈S.H↔u∈S'.H)
 self:∃t'∈S'.H,t'.anc=t.anc/\t'.id=t.id/\t'.env=t.env
structure ExtR (S S':NC)(t:Tok)(id:Int)(env:List V):Prop extends Kept S S' where
 ex:∃kb,(∀u∈S.H,u.b≠kb)/\(∀u,u.anc≠t.anc->¬(kb::t.anc) <:+ u.anc->(u∈S.H↔u∈S'.H))/\(∃t'∈S'.H,t'.anc=t.anc/\t'.id=t.id/\t'.env=t.env/\t'.count=t.count/\t'.kids=t.kids++[kb])/\∃u∈S'.H,u.anc=kb::t.anc/\u.id=id/\u.env=env
def kidOf (t:Tok)(kb:Nat)(id:Int)(env:List V):Tok:=⟨kb::t.anc,id,env,.no,[],0⟩
def withKid (t:Tok)(kb:Nat)(M:MemP):Tok:={t with kids:=t.kids++[kb],km:=M}
def addKid (S:NC)(H0:List Tok)(t:Tok)(kb:Nat)(id:Int)(env:List V)(M:MemP):NC:={S with H:=kidOf t kb id env::withKid t kb M::H0}
theorem memH(hp:S.H.Perm (t::H0)):u∈S.H↔u=t\/u∈H0:=by rw[hp.mem_iff,Ax]
theorem Str.addKid(h:Str S [])(hp:S.H.Perm (t::H0))(hlt:t.anc.length<S.ns.length){kb:Nat}{id:Int}{env:List V}{M:MemP}(hf:∀u∈S.H,u.b≠kb)(hM:M.okT (t.kids++[kb]))(he:EK env)(hkl:t.kids.length<1000):Str (Nt.addKid S H0 t kb id env M) [kb]:=by
 have htm:t∈S.H:=(memH hp).2 (.inl rfl)
 have hH0:∀u∈H0,u∈S.H:=λu hu=>(memH hp).2 (.inr hu)
 have hm:∀u,u∈(Nt.addKid S H0 t kb id env M).H↔u=kidOf t kb id env\/u=withKid t kb M\/u∈H0:=λu=>by
  show u∈kidOf t kb id env::withKid t kb M::H0↔_
  rw[Ax,Ax]
 have old:∀u∈S.H,∃u'∈(Nt.addKid S H0 t kb id env M).H,u'.anc=u.anc/\u'.b=u.b:=λu hu=>by
  rcases(memH hp).1 hu with rfl|hu
  . exact⟨_,(hm _).2 (.inr (.inl rfl)),rfl,rfl⟩
  . exact⟨u,(hm _).2 (.inr (.inr hu)),rfl,rfl⟩
 have new:∀u'∈(Nt.addKid S H0 t kb id env M).H,u'=kidOf t kb id env\/∃u∈S.H,u'.anc=u.anc/\u'.b=u.b/\u'.env=u.env/\u'.count=u.count:=λu' hu=>by
  rcases(hm u').1 hu with rfl|rfl|hu
  . exact .inl rfl
  . exact .inr ⟨t,htm,rfl,rfl,rfl,rfl⟩
  . exact .inr ⟨u',hH0 u' hu,rfl,rfl,rfl,rfl⟩
 have htne:=h.ne t htm
 have hkidlen:(kidOf t kb id env).anc.length=t.anc.length+1:=rfl
 have htl:0<t.anc.length:=Cm.2 htne
 have OI:∀u∈H0,u.anc≠t.anc:=λu hu e=>by
  have hnd:=(hp.map Tok.b).nodup_iff.1 h.nd
  rw[Au,Bb]at hnd
  exact hnd.1 (Av.2 ⟨u,hu,by unfold Tok.b;rw[e]⟩)
 constructor
 . intro u hu
   rcases new u hu with rfl|⟨u0,h0,e, -⟩
   . exact Gi _ _
   . rw[e];exact h.ne u0 h0
 . have hnd:=(hp.map Tok.b).nodup_iff.1 h.nd
   show(kb::t.b::H0.map Tok.b).Nodup
   rw[Bb]
   refine⟨λhk=>?_,hnd⟩
   rw[Ax]at hk
   rcases hk with e|hk
   . exact hf t htm e.symm
   . obtain⟨u,hu,e⟩:=Av.1 hk
     exact hf u (hH0 u hu) e
 . intro u hu hne
   rcases new u hu with rfl|⟨u0,h0,e, -⟩
   . exact⟨_,(hm _).2 (.inr (.inl rfl)),rfl⟩
   . rw[e]at hne |-
     obtain⟨p,h1,h2⟩:=h.up u0 h0 hne
     obtain⟨p',k1,k2, -⟩:=old p h1
     exact⟨p',k1,h2.trans k2.symm⟩
 . intro u hu v hv h1 h2
   rcases new u hu with rfl|⟨u0,hu0,e,e', -⟩
   . rw[hkidlen]at h1;omega
   . rcases new v hv with rfl|⟨v0,hv0,q,q', -⟩
     . rw[hkidlen]at h2;omega
     . rw[e',q']
       exact h.rt u0 hu0 v0 hv0 (by rw[<-e];exact h1) (by rw[<-q];exact h2)
 . intro u hu
   rcases(hm u).1 hu with rfl|rfl|hu
   . exact CA
   . show(t.kids++[kb]).Nodup
     rw[FG]
     refine⟨h.kn t htm,Bb.2 ⟨AP,CA⟩,?_⟩
     rintro a ha b hb rfl
     rw[AB.1 hb]at ha
     obtain⟨w,hw,e, -⟩:=(h.km t htm kb).1 ha
     exact hf w hw e
   . exact h.kn u (hH0 u hu)
 . intro u hu b
   have kidtail:(kidOf t kb id env).anc.tail=t.anc:=rfl
   rcases(hm u).1 hu with rfl|rfl|hu
   . refine⟨λhb=>(by cases hb),?_⟩
     rintro⟨w,hw, -,e⟩
     exfalso
     have e:w.anc.tail=kb::t.anc:=e
     rcases new w hw with rfl|⟨w0,h0,e1, -⟩
     . rw[kidtail]at e
       have:=congrArg List.length e
       rw[An]at this
       omega
     . rw[e1]at e
       obtain⟨p,h1,h2⟩:=h.up w0 h0 (by rw[e];exact Gi _ _)
       refine hf p h1 ?_
       rw[e]at h2
       unfold Tok.b
       rw[<-h2];rfl
   . show b∈t.kids++[kb]↔_
     rw[Bc,AB]
     constructor
     . rintro(hb|rfl)
       . obtain⟨w,hw,e1,e2⟩:=(h.km t htm b).1 hb
         obtain⟨w',k1,k2,k3⟩:=old w hw
         exact⟨w',k1,k3.trans e1,(congrArg List.tail k2).trans e2⟩
       . exact⟨_,(hm _).2 (.inl rfl),rfl,rfl⟩
     . rintro⟨w,hw,e1,e2⟩
       rcases new w hw with rfl|⟨w0,h0,k1,k2, -⟩
       . exact .inr e1.symm
       . exact .inl ((h.km t htm b).2 ⟨w0,h0,k2.symm.trans e1,(congrArg List.tail k1).symm.trans e2⟩)
   . rw[h.km u (hH0 u hu) b]
     constructor
     . rintro⟨w,hw,e1,e2⟩
       obtain⟨w',k1,k2,k3⟩:=old w hw
       exact⟨w',k1,k3.trans e1,(congrArg List.tail k2).trans e2⟩
     . rintro⟨w,hw,e1,e2⟩
       rcases new w hw with rfl|⟨w0,h0,k1,k2, -⟩
       . exact absurd e2.symm (OI u hu)
       . exact⟨w0,h0,k2.symm.trans e1,(congrArg List.tail k1).symm.trans e2⟩
 . intro u hu
   rcases(hm u).1 hu with rfl|rfl|hu
   . exact Ao _
   . show(t.kids++[kb]).length<=1000
     rw[Ad,BE];omega
   . exact h.kl u (hH0 u hu)
 . intro u hu
   rcases new u hu with rfl|⟨u0,h0,e, -⟩
   . rw[hkidlen];exact hlt
   . rw[e];exact h.lv u0 h0
 . exact h.tn
 . intro k x hx b
   rw[h.tm k x hx b]
   constructor
   . rintro⟨w,hw,e1,e2, -⟩
     obtain⟨w',k1,k2,k3⟩:=old w hw
     exact⟨w',k1,k3.trans e1,by rw[k2];exact e2,λhb=>hf w hw (e1.trans (AB.1 hb))⟩
   . rintro⟨w,hw,e1,e2,e3⟩
     rcases new w hw with rfl|⟨w0,h0,k1,k2, -⟩
     . exact absurd (AB.2 e1.symm) e3
     . exact⟨w0,h0,k2.symm.trans e1,by rw[<-k1];exact e2,AP⟩
 . intro u hu
   rcases(hm u).1 hu with rfl|rfl|hu
   . exact⟨rfl,rfl⟩
   . exact hM
   . exact h.okt u (hH0 u hu)
 . exact h.okx
 . exact h.row
 . exact h.nl
 . intro u hu
   rcases new u hu with rfl|⟨u0,h0, -, -,e, -⟩
   . exact he
   . rw[e];exact h.ek u0 h0
 . exact h.pk
 . intro u hu
   rcases new u hu with rfl|⟨u0,h0, -, -, -,e⟩
   . exact⟨TP _,(by show(0:Int)<=1000;decide)⟩
   . rw[e];exact h.ct u0 h0
 . obtain⟨r,h1,h2⟩:=h.rx
   rcases(memH hp).1 h1 with rfl|h1
   . exact⟨_,(hm _).2 (.inr (.inl rfl)),h2⟩
   . exact⟨r,(hm _).2 (.inr (.inr h1)),h2⟩
end Nt
end
section
attribute [local push_cast] Br Bl BV V.cells_mk V.cells_len Nat.mul_one Int.sub_zero List.map_nil beq_self_eq_true bne_self_eq_false List.head?_cons Bool.not_true Bool.not_false Nat.zero_add Kf Kg
attribute [-instance] Ck Cu BO Ds
namespace Nt
variable {S S':NC} {E X:List Nat} {t u v:Tok} {H0:List Tok}
theorem tok_split(h:t∈S.H):∃H0,S.H.Perm (t::H0):=by
 obtain⟨l1,l2,e⟩:=Mh h
 exact⟨l1++l2,by rw[e];exact AD⟩
theorem tok_box(h:u∈S.H):Res.box u.b 119 u.cells∈S.st :=
 Ae _ (Ae _ (Bh _ (Dx.2 ⟨u,h,Ag ..⟩)))
theorem OI(h:Str S E)(hp:S.H.Perm (t::H0)):∀u∈H0,u.anc≠t.anc:=λu hu e=>by
 have hnd:=(hp.map Tok.b).nodup_iff.1 h.nd
 rw[Au,Bb]at hnd
 exact hnd.1 (Av.2 ⟨u,hu,by unfold Tok.b;rw[e]⟩)
theorem Loc.addKid(h:Str S [])(hL:Loc S X)(hp:S.H.Perm (t::H0))(htX:t.b∈X){kb:Nat}{id:Int}{env:List V}{M:MemP}:Loc (Nt.addKid S H0 t kb id env M) (kb::X):=by
 intro u hu huX
 rw[Ax,not_or]at huX
 have hu0:u∈H0:=by
  have hu:u∈kidOf t kb id env::withKid t kb M::H0:=hu
  rw[Ax,Ax]at hu
  rcases hu with rfl|rfl|hu
  . exact absurd rfl huX.1
  . exact absurd htX huX.2
  . exact hu
 have huS:=(memH hp).2 (.inr hu0)
 have hne:=OI h hp u hu0
 have hk:=hL u huS huX.2
 unfold LocOk at hk |-
 show if u.anc.length=S.ns.length then _ else _
 split
 . rename_i e;rw[if_pos e]at hk;exact hk
 . rename_i e
   rw[if_neg e]at hk
   intro x hx
   obtain⟨h1,h2,h3,h4⟩:=hk x hx
   have hm:∀w,w∈(Nt.addKid S H0 t kb id env M).H->w.anc.tail=u.anc->∃w0∈S.H,w0.anc=w.anc/\w0.id=w.id/\w0.env=w.env/\(w=w0\/w=withKid t kb M/\w0=t):=λw hw e=>by
    have hw:w∈kidOf t kb id env::withKid t kb M::H0:=hw
    rw[Ax,Ax]at hw
    rcases hw with rfl|rfl|hw
    . exact absurd e.symm hne
    . exact⟨t,(memH hp).2 (.inl rfl),rfl,rfl,rfl,.inr ⟨rfl,rfl⟩⟩
    . exact⟨w,(memH hp).2 (.inr hw),rfl,rfl,rfl,.inl rfl⟩
   refine⟨h1,λw hw e=>?_,λy hy=>?_,λw hw w' hw' e e' e2=>?_⟩
   . obtain⟨w0,k1,k2,k3,k4, -⟩:=hm w hw e
     rw[<-k3,<-k4]
     exact h2 w0 k1 (by rw[k2];exact e)
   . obtain⟨w,k1,k2,k3⟩:=h3 y hy
     rcases(memH hp).1 k1 with rfl|k1
     . exact⟨withKid w kb M,Ae _ (Ag ..),k2,k3⟩
     . exact⟨w,Ae _ (Ae _ k1),k2,k3⟩
   . obtain⟨w0,k1,k2,k3, -,k5⟩:=hm w hw e
     obtain⟨v0,q1,q2,q3, -,q5⟩:=hm w' hw' e'
     have:=h4 w0 k1 v0 q1 (by rw[k2];exact e) (by rw[q2];exact e') (by rw[k3,q3];exact e2)
     subst this
     rcases k5 with rfl|⟨rfl,rfl⟩
     . rcases q5 with rfl|⟨rfl,e3⟩
       . rfl
       . rw[e3]at hw
         have hw:t∈kidOf t kb id env::withKid t kb M::H0:=hw
         rw[Ax,Ax]at hw
         rcases hw with e4|e4|e4
         . have:=congrArg (λt:Tok=>t.anc.length) e4
           exact absurd this (Nat.ne_of_lt (Ge _))
         . rw[e3];exact e4
         . exact absurd rfl (OI h hp t e4)
     . rcases q5 with e3|⟨rfl, -⟩
       . rw[<-e3]at hw'
         have hw':w0∈kidOf w0 kb id env::withKid w0 kb M::H0:=e3▸hw'
         rw[Ax,Ax]at hw'
         rcases hw' with e4|e4|e4
         . have:=congrArg (λt:Tok=>t.anc.length) e4
           exact absurd this (Nat.ne_of_lt (Ge _))
         . rw[e3,<-e4]
         . exact absurd rfl (OI h hp w0 e4)
       . rfl
theorem Grew.extR(h:Str S [])(hp:S.H.Perm (t::H0)){kb:Nat}{id:Int}{env:List V}{M:MemP}(hf:∀u∈S.H,u.b≠kb)(hG:Grew (Nt.addKid S H0 t kb id env M) S' (kidOf t kb id env)):ExtR S S' t id env:=by
 have hsuf:¬(kb::t.anc) <:+ t.anc:=λh=>by have:=h.length_le;rw[An]at this;omega
 refine⟨⟨hG.c,hG.g,hG.cap,hG.zs,hG.nl,hG.ns⟩,kb,hf,λu hu hs=>?_,⟨withKid t kb M,(hG.keep (withKid t kb M) hsuf).1 (Ae _ (Ag ..)),rfl,rfl,rfl,rfl,rfl⟩,?_⟩
 . rw[<-hG.keep u hs]
   show u∈S.H↔u∈kidOf t kb id env::withKid t kb M::H0
   rw[memH hp,Ax,Ax]
   constructor
   . rintro(rfl|h)
     . exact absurd rfl hu
     . exact .inr (.inr h)
   . rintro(rfl|rfl|h)
     . exact absurd (Es _) hs
     . exact absurd rfl hu
     . exact .inr h
 . obtain⟨t',k1,k2,k3,k4⟩:=hG.self
   exact⟨t',k1,k2,k3,k4⟩
end Nt
def Xu (k:Nat):Prop:=∀(S:NC) (t:Tok) (X:List Nat),Nt.Str S [t.b]->Nt.Loc S (t.b::X)->t∈S.H->t.anc.length=k+1->t.kids=[]->t.count=0->∀st,TrF prog 63 [.ptr S.c 0,.ptr t.b 0] (S.st++st) λd st'=>∃S',Nt.Str S' []/\Nt.Loc S' X/\Nt.Grew S S' t/\d=.tup []/\(S'.st++st).Perm st'
def Nc (k:Nat):Prop:=∀(S:NC) (t:Tok) (X:List Nat) (id:Int) (env:List V),Nt.Str S []->Nt.Loc S X->t.b∈X->t∈S.H->t.anc.length=k+1->k+1<S.ns.length->EK env->t.kids.length<1000->∀st,TrF prog 97 [.ptr S.c 0,.ptr t.b 0,.i id,.sl .shared (env.map V.cells)] (S.st++st) λd st'=>∃S',Nt.Str S' []/\Nt.Loc S' X/\Nt.ExtR S S' t id env/\d=.tup []/\(S'.st++st).Perm st'
theorem gg(k:Nat)(hE:Xu (k+1)):Nc k:=by
 intro S t X id env hS hL htX ht hk hlt he hkl st
 obtain⟨H0,hp⟩:=Nt.tok_split ht
 have hlv:t.lv=k:=by unfold Tok.lv;omega
 have hkc:∀kb,(Nt.kidOf t kb id env).cells=[.ptr t.b 0,.i ((k:Int)+1),.i id,.sl .shared (env.map V.cells),.s (.map none),.sl .tight [],.sl .tight [],.i 0]:=λkb=>by
  have h1:(Nt.kidOf t kb id env).fromD=.ptr t.b 0:=by
   unfold Tok.fromD
   show(match t.anc with|[]=>_|p::_=>_)=_
   rw[Nt.tok_b (hS.ne t ht)]
  have h2:(Nt.kidOf t kb id env).lv=k+1:=by
   show t.anc.length+1 - 1=k+1
   omega
  unfold Tok.cells Tok.pre
  rw[h1,h2]
  rfl
 have hput:Hid (∀kb,TrF prog 96 [.ptr t.b t.pre.length,.ptr kb 0,.ptr kb 0] (.box t.b 119 (t.pre++(t.km.cells t.kids.length++[.i t.count]))::(t.km.resT t.kids++(.box kb 119 (Nt.kidOf t kb id env).cells::(({S with H:=H0}:NC).st++st)))) λd st'=>∃M':MemP,(∀u∈S.H,u.b≠kb)/\M'.okT (t.kids++[kb])/\d=.tup []/\(Res.box t.b 119 (t.pre++(M'.cells (t.kids.length+1)++[.i t.count]))::(M'.resT (t.kids++[kb])++(.box kb 119 (Nt.kidOf t kb id env).cells::(({S with H:=H0}:NC).st++st)))).Perm st'):=λkb=>by
  refine TrF.pw λhap=>?_
  have hkm:Res.box kb 119 (Nt.kidOf t kb id env).cells∈t.km.resT t.kids++(.box kb 119 (Nt.kidOf t kb id env).cells::(({S with H:=H0}:NC).st++st)):=Bh _ (Ag ..)
  have hf:∀u∈S.H,u.b≠kb:=λu hu e=>by
   rcases(Nt.memH hp).1 hu with rfl|hu0
   . exact(AX.1 hap).1 _ hkm _ rfl (by rw[e];rfl)
   . have h1:=(EA.1 (AX.1 hap).2).2.1
     exact(AX.1 h1).1 _ (Bp _ (Nt.tok_box (S:={S with H:=H0}) hu0)) _ rfl (by rw[e];rfl)
  refine(XF t.b 119 t.pre [.i t.count] t.km t.kids kb (hS.okt t ht) (λhb=>?_) q_o _ (λb hb=>?_)).mono λd st' ⟨M',h1,h2,h3⟩=>⟨M',hf,h1,h2,h3⟩
  . obtain⟨w,hw,e, -⟩:=(hS.km t ht kb).1 hb
    exact hf w hw e
  . rcases Ax.1 hb with rfl|hb
    . exact .inr ⟨_,_,Ag ..⟩
    . obtain⟨w,hw,e, -⟩:=(hS.km t ht b).1 hb
      rcases(Nt.memH hp).1 hw with rfl|hw0
      . exact .inl e.symm
      . rw[<-e]
        exact .inr ⟨_,_,Ae _ (Bp _ (Nt.tok_box (S:={S with H:=H0}) hw0))⟩
 have hent:Hid (∀(kb:Nat) (M:MemP),(∀u∈S.H,u.b≠kb)->M.okT (t.kids++[kb])->TrF prog 63 [.ptr S.c 0,.ptr kb 0] ((Nt.addKid S H0 t kb id env M).st++st) λd st'=>∃S',Nt.Str S' []/\Nt.Loc S' X/\Nt.ExtR S S' t id env/\d=.tup []/\(S'.st++st).Perm st'):=λkb M hf hM =>
  (hE (Nt.addKid S H0 t kb id env M) (Nt.kidOf t kb id env) X (hS.addKid hp q_o hf hM he hkl) (hL.addKid hS hp htX) (Ag ..) (by show t.anc.length+1=_;omega) rfl rfl st).mono λd st' ⟨S',h1,h2,h3,h4,h5⟩=>⟨S',h1,h2,h3.extR hS hp hf,h4,h5⟩
 have hperm:Hid (∀(kb:Nat) (M:MemP) (st':St),(Res.box t.b 119 (t.pre++(M.cells (t.kids.length+1)++[.i t.count]))::(M.resT (t.kids++[kb])++(.box kb 119 (Nt.kidOf t kb id env).cells::(({S with H:=H0}:NC).st++st)))).Perm st'->st'.Perm ((Nt.addKid S H0 t kb id env M).st++st)):=λkb M st' h=>by
  refine h.symm.trans ?_
  have h1:=NC.at_tok (S:=Nt.addKid S H0 t kb id env M) (t:=Nt.kidOf t kb id env) (H0:=Nt.withKid t kb M::H0) (.refl _)
  have h2:=NC.at_tok (S:={S with H:=Nt.withKid t kb M::H0}) (t:=Nt.withKid t kb M) (H0:=H0) (.refl _)
  have h3:((Nt.addKid S H0 t kb id env M).st++st).Perm (.box kb 119 (Nt.kidOf t kb id env).cells::(.box t.b 119 (Nt.withKid t kb M).cells::(M.resT (t.kids++[kb])++({S with H:=H0}:NC).st)++st)):=(h1.append_right st).trans (List.Perm.cons _ (h2.append_right st))
  refine List.Perm.trans ?_ h3.symm
  have h4:(Nt.withKid t kb M).cells=t.pre++(M.cells (t.kids.length+1)++[.i t.count]):=by
   show(Nt.withKid t kb M).pre++(M.cells (t.kids++[kb]).length++[.i t.count])=_
   rw[Ad]
   rfl
  rw[h4,AI,Ai]
  exact(EV _ _ _ _).symm
 have hstart:=(NC.at_tok hp).append_right st
 unfold Tok.cells at hstart
 rw[AI,Ai]at hstart
 refine TrF.perm hstart ?_
 have hk5:k<=1000:=by have:=hS.nl;omega
 clear hstart hE hS hL htX ht hk hlt he hp
 have hpl:t.pre.length=4:=rfl
 rw[hpl]at hput
 simp only[hkc]at hput hperm
 have hpre:t.pre=[t.fromD,.i k,.i t.id,.sl .shared (t.env.map V.cells)]:=by unfold Tok.pre;rw[hlv]
 rw[hpre]at hput hperm |-
 clear hkc hpl hpre hlv
 generalize t.fromD=fd at *
 generalize t.env.map V.cells=TE at *
 generalize env.map V.cells=EC at *
 generalize ({S with H:=H0}:NC).st++st=ST at *
 generalize hKC:t.km.cells t.kids.length=KC at *
 generalize hKR:t.km.resT t.kids=KR at *
 refine Qin [] func97 results97 ntmps97 ?_
 repeat' (first|refine QV ?_|with_reducible refine DR ?_|((with_reducible apply(BG (f:=96) (henter:=call96) (hp:=EV _ _ _ _) (h:=hput.out _)));(focus exact q_v);(focus exact q_l);(rintro d0 st0 ⟨M2,hfr,hok2,rfl,hp2⟩))|((with_reducible apply(BG (f:=63) (henter:=call63) (hp:=hperm.out _ _ _ hp2) (h:=hent.out _ _ hfr hok2)));(focus exact q_v);(focus exact q_l);(rintro d0 st0 ⟨S',h1,h2,h3,rfl,hp3⟩))|refine QY ?_|refine QB ?_;intro b|with_reducible refine QZ ?_<;>(try constructor)<;>intro hb<;>try intro hb1|fail)
 exact Bf (by simp) q_y (Aj _) (LE.refl _) ⟨S',h1,h2,h3,rfl,hp3⟩
end
section
namespace Nt
variable {S S' S'':NC} {E X:List Nat} {t u v t':Tok} {H0:List Tok}
def putT (S:NC)(k:Nat)(x:Nd)(b:Nat)(M:MemP):NC:={S with ns:=S.ns.set k {x with ts:=x.ts++[b],tm:=M} }
theorem Jg{ns:List Nd}{k:Nat}{x y:Nd}(h:ns[k]?=some x){i:Nat}{z:Nd}(hz:(ns.set k y)[i]?=some z):(i=k/\z=y)\/(i≠k/\ns[i]?=some z):=by
 rw[GN]at hz
 split at hz
 . rename_i e
   subst e
   rw[if_pos (Af.1 h).1]at hz
   exact .inl ⟨rfl,(Cl hz).symm⟩
 . rename_i e
   exact .inr ⟨λe1=>e e1.symm,hz⟩
theorem kept_putT{k:Nat}{x:Nd}{b:Nat}{M:MemP}(hx:S.ns[k]?=some x):Kept S (putT S k x b M):=by
 refine⟨rfl,rfl,rfl,rfl,AV ..,λi y hy=>?_⟩
 by_cases e:i=k
 . subst e
   rw[hx]at hy
   cases hy
   exact⟨_,BA (Af.1 hx).1,rfl,rfl⟩
 . exact⟨y,by show(S.ns.set k _)[i]?=_;rw[DX (λe1=>e e1.symm)];exact hy,rfl,rfl⟩
theorem Str.putT(h:Str S [t.b])(ht:t∈S.H){k:Nat}{x:Nd}{M:MemP}(hk:t.anc.length=k+1)(hx:S.ns[k]?=some x)(hM:M.okT (x.ts++[t.b])):Str (Nt.putT S k x t.b M) []:=by
 have hxm:=Ah hx
 have hno:t.b∉x.ts:=λhb=>by
  obtain⟨w,hw,e1, -,e3⟩:=(h.tm k x hx t.b).1 hb
  exact e3 (AB.2 rfl)
 refine⟨h.ne,h.nd,h.up,h.rt,h.kn,h.km,h.kl,λw hw=>?_,λi y hy=>?_,λi y hy b=>?_,h.okt,λy hy=>?_,?_,?_,h.ek,λy hy=>?_,h.ct,h.rx⟩
 . show _<=(S.ns.set k _).length
   rw[AV];exact h.lv w hw
 . rcases Jg hx hy with⟨-,rfl⟩|⟨-,hy⟩
   . show(x.ts++[t.b]).Nodup
     rw[FG]
     refine⟨h.tn k x hx,Bb.2 ⟨AP,CA⟩,?_⟩
     rintro a ha c hc rfl
     rw[AB.1 hc]at ha
     exact hno ha
   . exact h.tn i y hy
 . show b∈y.ts↔∃u∈S.H,_
   rcases Jg hx hy with⟨rfl,rfl⟩|⟨hi,hy⟩
   . show b∈x.ts++[t.b]↔_
     rw[Bc,AB,h.tm _ x hx b]
     constructor
     . rintro(⟨w,hw,e1,e2, -⟩|rfl)
       . exact⟨w,hw,e1,e2,AP⟩
       . exact⟨t,ht,rfl,hk,AP⟩
     . rintro⟨w,hw,e1,e2, -⟩
       by_cases e:b=t.b
       . exact .inr e
       . exact .inl ⟨w,hw,e1,e2,λhb=>e (AB.1 hb)⟩
   . rw[h.tm i y hy b]
     constructor
     . rintro⟨w,hw,e1,e2, -⟩;exact⟨w,hw,e1,e2,AP⟩
     . rintro⟨w,hw,e1,e2, -⟩
       refine⟨w,hw,e1,e2,λhb=>?_⟩
       rw[AB]at hb
       have:=h.same hw ht (e1.trans hb)
       rw[this,hk]at e2
       omega
 . rcases BT hy with⟨i,hi⟩
   rcases Jg hx hi with⟨-,rfl⟩|⟨-,hi⟩
   . exact⟨(h.okx x hxm).1,hM⟩
   . exact h.okx y (Ah hi)
 . show(CJ (S.ns.set k _)++S.zs).length=_
   rw[Ad,DP,AV,<-DP,<-Ad]
   exact h.row
 . show(S.ns.set k _).length<=5
   rw[AV];exact h.nl
 . rcases BT hy with⟨i,hi⟩
   rcases Jg hx hi with⟨-,rfl⟩|⟨-,hi⟩
   . exact h.pk x hxm
   . exact h.pk y (Ah hi)
theorem Loc.putT(h:Loc S X){k:Nat}{x:Nd}{b:Nat}{M:MemP}(hx:S.ns[k]?=some x):Loc (Nt.putT S k x b M) X:=λu hu huX=>by
 have:=h u hu huX
 unfold LocOk at this |-
 show if u.anc.length=(S.ns.set k _).length then _ else _
 rw[AV]
 split
 . rename_i e;rw[if_pos e]at this;exact this
 . rename_i e
   rw[if_neg e]at this
   intro y hy
   rcases Jg hx hy with⟨e1,rfl⟩|⟨-,hy⟩
   . rw[e1]at this
     exact this x hx
   . exact this y hy
structure Part (S:NC)(t:Tok)(L:List (Int×List V))(c:Int):Prop where
 ct:t.count=c
 sub:∀u∈S.H,u.anc.tail=t.anc->(u.id,u.env)∈L
 all:∀y∈L,∃u∈S.H,u.anc.tail=t.anc/\(u.id,u.env)=y
 one:∀u∈S.H,∀v∈S.H,u.anc.tail=t.anc->v.anc.tail=t.anc->u.id=v.id->u=v
theorem Part.loc{x:Nd}(h:Part S t (exps x.p x.fs t.env) (cnt x.p x.fs t.env))(hk:t.anc.length≠S.ns.length)(hx:S.ns[t.anc.length - 1]?=some x):LocOk S t:=by
 unfold LocOk
 rw[if_neg hk]
 intro y hy
 rw[hx]at hy
 cases hy
 exact⟨h.ct,h.sub,h.all,h.one⟩
theorem Lc{l m:List Nat}(h:l <:+ m)(e:m.length<=l.length):l=m:=by
 obtain⟨p,hp⟩:=h
 have:=congrArg List.length hp
 rw[Ad]at this
 have:p=[]:=Ay q_o
 rw[this,AM]at hp
 exact hp
theorem ExtR.grew{id:Int}{env:List V}(h:ExtR S S' t id env):Grew S S' t:=by
 obtain⟨kb,h1,h2,⟨t',k1,k2,k3,k4, -⟩, -⟩:=h.ex
 refine⟨h.toKept,λu hu=>h2 u (λe=>hu (e▸Es _)) (λhs=>hu ((List.suffix_cons kb t.anc).trans hs)),t',k1,k2,k3,k4⟩
theorem Grew.trans(h:Grew S S' t)(ha:t'.anc=t.anc)(hi:t'.id=t.id)(he:t'.env=t.env)(k:Grew S' S'' t'):Grew S S'' t:=by
 refine⟨h.toKept.trans k.toKept,λu hu=>(h.keep u hu).trans (k.keep u (by rw[ha];exact hu)),?_⟩
 obtain⟨w,k1,k2,k3,k4⟩:=k.self
 exact⟨w,k1,k2.trans ha,k3.trans hi,k4.trans he⟩
theorem Part.ext{L:List (Int×List V)}{c:Int}(hS':Str S' [])(ht:t∈S.H)(h:Part S t L c){id:Int}{env:List V}(hid:id∉L.map Prod.fst)(hE:ExtR S S' t id env):∃t'∈S'.H,t'.anc=t.anc/\t'.id=t.id/\t'.env=t.env/\Part S' t' (L++[(id,env)]) c:=by
 obtain⟨kb,h1,h2,⟨t',k1,k2,k3,k4,k5,k6⟩,w,w1,w2,w3,w4⟩:=hE.ex
 have old:∀u∈S'.H,u.anc.tail=t.anc->u=w\/u∈S.H:=λu hu e=>by
  by_cases ew:u.anc=w.anc
  . exact .inl (hS'.anc_b hu w1 ew)
  . have hul : u.anc.length = t.anc.length + 1 := by
     have:=tok_b (hS'.ne u hu)
     rw[this,e,An]
    refine .inr ((h2 u (λe1=>by rw[e1]at hul;omega) λhs=>ew ?_).2 hu)
    rw[w2]
    exact(Lc hs (by rw[hul,An];exact Ap _)).symm
 have new:∀u∈S.H,u.anc.tail=t.anc->u∈S'.H:=λu hu e=>by
  have hne:u.anc≠[]:=λe0=>by
   rw[e0]at e
   have:=hS'.ne t' k1
   rw[k2,<-e]at this
   exact this rfl
  have hul:u.anc.length=t.anc.length+1:=by
   have:=tok_b hne
   rw[this,e,An]
  refine(h2 u (λe1=>by rw[e1]at hul;omega) λhs=>?_).1 hu
  have:=Lc hs (by rw[hul,An];exact Ap _)
  refine h1 u hu ?_
  unfold Tok.b
  rw[<-this]
  rfl
 have hwt:w.anc.tail=t.anc:=by rw[w2];rfl
 refine⟨t',k1,k2,k3,k4,⟨k5.trans h.ct,λu hu e=>?_,λy hy=>?_,λu hu v hv e e' e2=>?_⟩⟩
 . rw[k2]at e
   rcases old u hu e with rfl|hu
   . rw[w3,w4];exact Bh _ (AB.2 rfl)
   . exact Bp _ (h.sub u hu e)
 . rw[k2]
   rcases Bc.1 hy with hy|hy
   . obtain⟨u,q1,q2,q3⟩:=h.all y hy
     exact⟨u,new u q1 q2,q2,q3⟩
   . rw[AB.1 hy]
     exact⟨w,w1,hwt,by rw[w3,w4]⟩
 . rw[k2]at e e'
   rcases old u hu e with rfl|hu
   . rcases old v hv e' with rfl|hv
     . rfl
     . refine absurd (Av.2 ⟨_,h.sub v hv e',?_⟩) hid
       show v.id=id
       rw[<-e2,w3]
   . rcases old v hv e' with rfl|hv
     . refine absurd (Av.2 ⟨_,h.sub u hu e,?_⟩) hid
       show u.id=id
       rw[e2,w3]
     . exact h.one u hu v hv e e' e2
theorem ME{α:Type}:∀{l m:List α},l.Nodup->(∀i∈l,i∈m)->l.length<=m.length
|[],_,_,_=>Ao _
|a::l,m,h,hs=>by
  rw[Bb]at h
  obtain⟨m1,m2,rfl⟩:=Mh (hs a (Ag ..))
  have:=ME (l:=l) (m:=m1++m2) h.2 λi hi=>by
   have h1:=hs i (Ae _ hi)
   rw[Bc,Ax]at h1
   rcases h1 with h1|rfl|h1
   . exact Bp _ h1
   . exact absurd hi h.1
   . exact Bh _ h1
  rw[Ad,An,An]
  rw[Ad]at this
  omega
theorem Part.kids{L:List (Int×List V)}{c:Int}(hS:Str S E)(ht:t∈S.H)(h:Part S t L c):t.kids.length<=L.length:=by
 have hx:∀b∈t.kids,∃u∈S.H,u.b=b/\u.anc.tail=t.anc:=λb hb=>(hS.km t ht b).1 hb
 have hnd:=hS.kn t ht
 have key:∀l:List Nat,l.Nodup->(∀b∈l,b∈t.kids)->∃m:List Int,m.length=l.length/\m.Nodup/\(∀i∈m,i∈L.map Prod.fst)/\∀i∈m,∃u∈S.H,u.b∈l/\u.anc.tail=t.anc/\u.id=i:=by
  intro l
  induction l with
  | nil=>exactλ_ _=>⟨[],rfl,CA,λi h=>(by cases h),λi h=>(by cases h)⟩
  | cons b l ih =>
   intro hl hk
   rw[Bb]at hl
   obtain⟨m,m1,m2,m3,m4⟩:=ih hl.2 λb hb=>hk b (Ae _ hb)
   obtain⟨u,u1,u2,u3⟩:=hx b (hk b (Ag ..))
   refine⟨u.id::m,by rw[An,An,m1],Bb.2 ⟨λhm=>?_,m2⟩,λi hi=>?_,λi hi=>?_⟩
   . obtain⟨v,v1,v2,v3,v4⟩:=m4 _ hm
     have:=h.one u u1 v v1 u3 v3 v4.symm
     rw[this]at u2
     exact hl.1 (u2▸v2)
   . rcases Ax.1 hi with rfl|hi
     . exact Av.2 ⟨_,h.sub u u1 u3,rfl⟩
     . exact m3 i hi
   . rcases Ax.1 hi with rfl|hi
     . exact⟨u,u1,u2▸Ag ..,u3,rfl⟩
     . obtain⟨v,v1,v2,v3,v4⟩:=m4 i hi
       exact⟨v,v1,Ae _ v2,v3,v4⟩
 obtain⟨m,m1,m2,m3, -⟩:=key t.kids hnd λb hb=>hb
 have:=ME m2 m3
 rw[Ab,m1]at this
 exact this
def withCount (t:Tok)(c:Int):Tok:={t with count:=c}
def setCount (S:NC)(H0:List Tok)(t:Tok)(c:Int):NC:={S with H:=withCount t c::H0}
theorem JQ(hp:S.H.Perm (t::H0)){c:Int}:∀w∈(setCount S H0 t c).H,∃w0∈S.H,w.anc=w0.anc/\w.id=w0.id/\w.env=w0.env/\w.km=w0.km/\w.kids=w0.kids/\(w=w0\/w=withCount t c/\w0=t):=λw hw=>by
 rcases Ax.1 hw with rfl|hw
 . exact⟨t,(memH hp).2 (.inl rfl),rfl,rfl,rfl,rfl,rfl,.inr ⟨rfl,rfl⟩⟩
 . exact⟨w,(memH hp).2 (.inr hw),rfl,rfl,rfl,rfl,rfl,.inl rfl⟩
theorem JP(hp:S.H.Perm (t::H0)){c:Int}:∀w∈S.H,∃w'∈(setCount S H0 t c).H,w'.anc=w.anc/\w'.b=w.b/\w'.id=w.id/\w'.env=w.env/\(w'=w\/w=t):=λw hw=>by
 rcases(memH hp).1 hw with rfl|hw
 . exact⟨_,Ag ..,rfl,rfl,rfl,rfl,.inr rfl⟩
 . exact⟨w,Ae _ hw,rfl,rfl,rfl,rfl,.inl rfl⟩
theorem b_of{u v:Tok}(h:u.anc=v.anc):u.b=v.b:=by unfold Tok.b;rw[h]
theorem Str.setCount(h:Str S E)(hp:S.H.Perm (t::H0)){c:Int}(hc:0<=c/\c<=1000):Str (Nt.setCount S H0 t c) E:=by
 have hn:=JQ (c:=c) hp
 have ho:=JP (c:=c) hp
 constructor
 . intro u hu
   obtain⟨w,h1,h2, -⟩:=hn u hu
   rw[h2];exact h.ne w h1
 . exact(hp.map Tok.b).nodup_iff.1 h.nd
 . intro u hu hne
   obtain⟨w,h1,h2, -⟩:=hn u hu
   rw[h2]at hne |-
   obtain⟨p,k1,k2⟩:=h.up w h1 hne
   obtain⟨p',q1,q2, -⟩:=ho p k1
   exact⟨p',q1,k2.trans q2.symm⟩
 . intro u hu v hv e e'
   obtain⟨w,h1,h2, -⟩:=hn u hu
   obtain⟨z,k1,k2, -⟩:=hn v hv
   rw[b_of h2,b_of k2]
   exact h.rt w h1 z k1 (by rw[<-h2];exact e) (by rw[<-k2];exact e')
 . intro u hu
   obtain⟨w,h1, -, -, -, -,h2, -⟩:=hn u hu
   rw[h2];exact h.kn w h1
 . intro u hu b
   obtain⟨w,h1,ha, -, -, -,h2, -⟩:=hn u hu
   rw[h2,h.km w h1 b,ha]
   constructor
   . rintro⟨z,k1,k2,k3⟩
     obtain⟨z',q1,q2,q3, -⟩:=ho z k1
     exact⟨z',q1,q3.trans k2,by rw[q2];exact k3⟩
   . rintro⟨z,k1,k2,k3⟩
     obtain⟨z',q1,q2, -⟩:=hn z k1
     exact⟨z',q1,(b_of q2).symm.trans k2,by rw[<-q2];exact k3⟩
 . intro u hu
   obtain⟨w,h1, -, -, -, -,h2, -⟩:=hn u hu
   rw[h2];exact h.kl w h1
 . intro u hu
   obtain⟨w,h1,h2, -⟩:=hn u hu
   rw[h2];exact h.lv w h1
 . exact h.tn
 . intro k x hx b
   rw[h.tm k x hx b]
   constructor
   . rintro⟨z,k1,k2,k3,k4⟩
     obtain⟨z',q1,q2,q3, -⟩:=ho z k1
     exact⟨z',q1,q3.trans k2,by rw[q2];exact k3,k4⟩
   . rintro⟨z,k1,k2,k3,k4⟩
     obtain⟨z',q1,q2, -⟩:=hn z k1
     exact⟨z',q1,(b_of q2).symm.trans k2,by rw[<-q2];exact k3,k4⟩
 . intro u hu
   obtain⟨w,h1, -, -, -,h3,h2, -⟩:=hn u hu
   rw[h2,h3];exact h.okt w h1
 . exact h.okx
 . exact h.row
 . exact h.nl
 . intro u hu
   obtain⟨w,h1, -, -,h2, -⟩:=hn u hu
   rw[h2];exact h.ek w h1
 . exact h.pk
 . intro u hu
   rcases Ax.1 hu with rfl|hu
   . exact hc
   . exact h.ct u ((memH hp).2 (.inr hu))
 . obtain⟨r,h1,h2⟩:=h.rx
   rcases(memH hp).1 h1 with rfl|h1
   . exact⟨_,Ag ..,h2⟩
   . exact⟨r,Ae _ h1,h2⟩
end Nt
end
section
attribute [local push_cast] Br Bl BV V.cells_mk V.cells_len Nat.mul_one Int.sub_zero List.map_nil beq_self_eq_true bne_self_eq_false List.head?_cons Bool.not_true Bool.not_false Nat.zero_add Kf Kg
attribute [-instance] Ck Cu BO Ds
namespace Nt
variable {S S':NC} {E X:List Nat} {t u v:Tok} {H0:List Tok}
theorem Ye(h:Str S E):∀k,(S.H.filter λu=>decide (u.anc.length=k+1)).length<=1000 ^ k
|0=>by
  have hnd:((S.H.filter λu=>decide (u.anc.length=0+1)).map Tok.b).Nodup:=h.nd.sublist ((Ei ..).map _)
  cases hl:S.H.filter λu=>decide (u.anc.length=0+1)with
  | nil=>exact Ao _
  | cons a l =>
   cases l with
   | nil=>exact Ap _
   | cons c l =>
    rw[hl]at hnd
    have ha:a∈S.H.filter λu=>decide (u.anc.length=0+1):=by rw[hl];exact Ag ..
    have hc:c∈S.H.filter λu=>decide (u.anc.length=0+1):=by rw[hl];exact Ae _ (Ag ..)
    rw[EP]at ha hc
    have e:=h.rt a ha.1 c hc.1 (of_decide_eq_true ha.2) (of_decide_eq_true hc.2)
    rw[Au,Au,Bb]at hnd
    exact absurd (by rw[e];exact Ag ..) hnd.1
|k+1=>by
  have ih:=Ye h k
  have hnd:((S.H.filter λu=>decide (u.anc.length=k+1+1)).map Tok.b).Nodup:=h.nd.sublist ((Ei ..).map _)
  have hsub:∀b∈(S.H.filter λu=>decide (u.anc.length=k+1+1)).map Tok.b,b∈(S.H.filter λu=>decide (u.anc.length=k+1)).flatMap Tok.kids:=λb hb=>by
   obtain⟨u,hu,rfl⟩:=Av.1 hb
   obtain⟨hu,hl⟩:=EP.1 hu
   have hl:=of_decide_eq_true hl
   have htl:u.anc.tail.length=k+1:=by rw[CL];omega
   obtain⟨p,hp,e⟩:=h.up u hu (λe=>by rw[e]at htl;cases htl)
   refine Dx.2 ⟨p,EP.2 ⟨hp,decide_eq_true (by rw[<-e];exact htl)⟩,?_⟩
   exact(h.km p hp u.b).2 ⟨u,hu,rfl,e⟩
  have h1:=ME hnd hsub
  rw[Ab,List.length_flatMap]at h1
  have h2:∀l:List Tok,(∀u∈l,u.kids.length<=1000)->(l.map λu=>u.kids.length).sum<=l.length*1000:=λl=>by
   induction l with
   | nil=>exactλ_=>Ap _
   | cons a l ih =>
    intro hl
    rw[Au,List.sum_cons,An,Cr]
    have:=hl a (Ag ..)
    have:=ih λu hu=>hl u (Ae _ hu)
    omega
  have h3:=h2 (S.H.filter λu=>decide (u.anc.length=k+1)) λu hu=>h.kl u (EP.1 hu).1
  rw[Qe]
  have h4:=CM 1000 ih
  omega
theorem ts_len(h:Str S E){k:Nat}{x:Nd}(hx:S.ns[k]?=some x):x.ts.length<=10000000000000:=by
 have h1:∀b∈x.ts,b∈(S.H.filter λu=>decide (u.anc.length=k+1)).map Tok.b:=λb hb=>by
  obtain⟨u,hu,e,e2, -⟩:=(h.tm k x hx b).1 hb
  exact Av.2 ⟨u,EP.2 ⟨hu,decide_eq_true e2⟩,e⟩
 have h2:=ME (h.tn k x hx) h1
 rw[Ab]at h2
 have h3:=Ye h k
 have hk:k<=4:=by
  have:=(Af.1 hx).1
  have:=h.nl
  omega
 have h4:1000 ^ k<=1000 ^ 4:=DW (by decide) hk
 have h5:(1000:Nat) ^ 4=1000000000000:=by decide
 omega
end Nt
def NC.rest (S:NC)(H0:List Tok)(t:Tok)(st:St):St:=t.km.resT t.kids++((S.ns.flatMap Nd.res++H0.flatMap Tok.res)++st)
theorem NC.view{S:NC}{t:Tok}{H0:List Tok}(hp:S.H.Perm (t::H0))(st:St):(S.st++st).Perm (S.cbox::S.gbox::.box t.b 119 t.cells::S.rest H0 t st):=by
 have h1:(S.st++st).Perm ((.box t.b 119 t.cells::(t.km.resT t.kids++({S with H:=H0}:NC).st))++st):=(NC.at_tok hp).append_right st
 refine h1.trans ?_
 unfold NC.rest NC.st
 generalize t.km.resT t.kids=KR
 generalize Res.box t.b 119 t.cells=TB
 generalize S.ns.flatMap Nd.res=P1
 generalize H0.flatMap Tok.res=P2
 show((TB::(KR++(S.cbox::S.gbox::(P1++P2))))++st).Perm _
 generalize S.cbox=CB
 generalize S.gbox=GB
 have h2:(TB::(KR++(CB::GB::(P1++P2)))++st).Perm (TB::(CB::GB::(KR++(P1++P2)))++st):=by
  refine Fg st (List.Perm.cons TB ?_)
  exact AD.trans (.cons CB AD)
 refine h2.trans ?_
 simp only[AI,Ai]
 exact(List.Perm.swap _ _ _).trans (.cons _ (.swap _ _ _))
theorem UT{S:NC}{k:Nat}{u:Tok}(hu:u∈S.H)(A B st:St)(n:Res):dX (n::(A++(S.off k++st))) u.b :=
 ⟨_,_,Ae _ (Bh _ (Bp _ (Ae _ (Bh _ (Bh _ (Dx.2 ⟨u,hu,Ag ..⟩))))))⟩
theorem aj(S:NC)(t:Tok)(k:Nat)(x:Nd)(hS:Nt.Str S [t.b])(ht:t∈S.H)(hk:t.anc.length=k+1)(hx:S.ns[k]?=some x)(n:Res)(st:St):TrF prog 96 [.ptr S.g (k*9+6),.ptr t.b 0,.ptr t.b 0] (n::(S.st++st)) λd st'=>∃M':MemP,M'.okT (x.ts++[t.b])/\d=.tup []/\(n::((Nt.putT S k x t.b M').st++st)).Perm st':=by
 have h1:(n::(S.st++st)).Perm (.box S.g 115 (JW S.ns k x++(x.tm.cells x.ts.length++GQ S.ns k S.zs))::(x.tm.resT x.ts++(n::(x.fm.resF x.fs++(S.off k++st))))):=by
  refine(((NC.at_T hx).append_right st).cons n).trans ?_
  simp only[AI,Ai]
  exact EV _ _ _ _
 have hno:t.b∉x.ts:=λhb=>by
  obtain⟨w,hw,e1, -,e3⟩:=(hS.tm k x hx t.b).1 hb
  exact e3 (AB.2 rfl)
 have h2:=XF S.g 115 (JW S.ns k x) (GQ S.ns k S.zs) x.tm x.ts t.b (hS.okx x (Ah hx)).2 hno (Nt.ts_len hS hx) (n::(x.fm.resF x.fs++(S.off k++st))) (λb hb=>.inr (by
  rcases Ax.1 hb with rfl|hb
  . exact UT ht _ [] _ _
  . obtain⟨w,hw,e1, -⟩:=(hS.tm k x hx b).1 hb
    rw[<-e1]
    exact UT hw _ [] _ _))
 rw[KI hx]at h2
 refine(TrF.perm h1 h2).mono λd st' ⟨M',h3,h4,h5⟩=>⟨M',h3,h4,List.Perm.trans ?_ h5⟩
 have hx2:(Nt.putT S k x t.b M').ns[k]?=some {x with ts:=x.ts++[t.b],tm:=M'}:=BA (Af.1 hx).1
 have h6:=((NC.at_T hx2).append_right st).cons n
 refine h6.trans ?_
 simp only[AI,Ai]
 refine(EV _ _ _ _).trans ?_
 have e1:JW (Nt.putT S k x t.b M').ns k {x with ts:=x.ts++[t.b],tm:=M'}=JW S.ns k x:=by
  unfold JW
  show CJ ((S.ns.set k _).take k)++_=_
  rw[EH]
 have e2:GQ (Nt.putT S k x t.b M').ns k (Nt.putT S k x t.b M').zs=GQ S.ns k S.zs:=by
  unfold GQ
  show CJ ((S.ns.set k _).drop (k+1))++_=_
  rw[EN]
  rfl
 have e3:(Nt.putT S k x t.b M').off k=S.off k:=by
  unfold NC.off NC.cbox
  show Res.box S.c _ [.ar S.g 0 (S.ns.set k _).length S.cap]::(((S.ns.set k _).take k).flatMap Nd.res++(((S.ns.set k _).drop (k+1)).flatMap Nd.res++S.H.flatMap Tok.res))=_
  rw[EH,EN,AV]
 rw[e1,e2,e3]
 show List.Perm (Res.box S.g _ (JW S.ns k x++(M'.cells (x.ts++[t.b]).length++GQ S.ns k S.zs))::_) _
 rw[Ad,BE]
end
section
attribute [local push_cast] Br Bl BV V.cells_mk V.cells_len Nat.mul_one Int.sub_zero List.map_nil beq_self_eq_true bne_self_eq_false List.head?_cons Bool.not_true Bool.not_false Nat.zero_add
section
variable {P:Program} {r:Option Nat} {A:AA} {st:St} {m:Option Ro} {k:D->St->Prop} {dst:Option Tmp} {ty:TypeId} {pos:String} {aft:Array Edge} {gd:Option (Nat×Bool)} {w:World}
def iR (P:Program)(t:TypeId):Option (TypeId×Nat×Nat×List Value):=(Bt P t).bind λti=>match ti.k with
|.slice el sz bytes z=>if z.all zOk=true then some (el,sz,bytes,z)else none
|_=>none
theorem Zc{t el:TypeId}{sz bytes:Nat}{z:List Value}(h:iR P t=some (el,sz,bytes,z)):P.underlying t=some (.slice el)/\∃i zv,P.info? el=some i/\i.zero=some zv/\zv.cells.size=i.size/\0<i.size/\i.size=sz/\i.bytes=bytes/\zv.cells.toList=z/\∀v∈zv.cells.toList,zOk v=true:=by
 unfold iR at h
 cases ht:Bt P t with
|none=>rw[ht] at h;cases h
|some ti =>
  rw[ht,BS]at h
  split at h
  . rename_i el' sz' bytes' z hk
    split at h
    . rename_i hz
      cases h
      obtain⟨hu,ii,zv,q1,q2,q3,q4,q5,q6,q7⟩:=(Ce ht).2.2.2.2.1 _ _ _ _ hk
      subst q4
      exact⟨hu,ii,zv,q1,q2,q7,q6,rfl,q5,q3,by rw[q3];exact AU.1 hz⟩
    . cases h
  . cases h
def MkN (m:Option Ro)(q:TypeId×Nat×Nat×List Value)(p:D×D)(st:St)(k:D->St->Prop):Prop :=
 ∃(kl kc:IntKind) (n:Nat),p=(.s (.int kl n),.s (.int kc n))/\n*q.2.2.1<=140737488355328/\n<=140737488355328/\∀g,CZ m (.box g q.1 (((List.replicate n (q.2.2.2.map Dm)).flatten).map D.sh)::st)/\k (.ar g 0 n n) (.box g q.1 (((List.replicate n (q.2.2.2.map Dm)).flatten).map D.sh)::st)
theorem cG{el:TypeId}{sz bytes n:Nat}{z:List Value}{kl kc:IntKind}{cs:List D}(h1:n*bytes<=140737488355328)(h2:n<=140737488355328)(hc:((List.replicate n (z.map Dm)).flatten).map D.sh=cs)(h:∀g,CZ m (.box g el cs::st)/\k (.ar g 0 n n) (.box g el cs::st)):MkN m (el,sz,bytes,z) (.s (.int kl n),.s (.int kc n)) st k:=by
 subst hc
 exact⟨kl,kc,n,rfl,h1,h2,h⟩
theorem XJ{t:TypeId}{x y:Operand}(h:Ev (IQ (ev A.e x) (ev A.e y)) λp=>Ev (iR P t) λq=>MkN m q p st k):S P r m ⟨dst,.makeSlice t x y,ty,pos,aft,gd⟩ A st k:=by
 obtain⟨p,h1,⟨el,sz,bytes,z⟩,h2,kl,kc,n,rfl,h3,h4,h5⟩:=h
 unfold IQ at h1
 split at h1
 . rename_i d d' hx hy
   cases h1
   dsimp only at h3 h4 h5
   refine Ek (R:=λd st'=>∃g,d=.ar g 0 n n/\st'=.box g el (((List.replicate n (z.map Dm)).flatten).map D.sh)::st) rfl ?_ ⟨_,_,0,rfl,rfl⟩ λd st' ⟨g,e1,e2⟩=>by subst e1 e2;exact h5 g
   refine DB (by intro c hc;cases hc) λρ w hr hh=>.inl ?_
   have hv1:=DI (hr _ (by simp[Op.operands]) _ hx)
   have hv2:=DI (hr _ (by simp[Op.operands]) _ hy)
   obtain⟨q1,i,zv,q2,q3,q4,q5,q6,q7,q9,q8⟩:=Zc h2
   have hby:(i.bytes:Int)*(n:Int)<=281474976710656:=by
    rw[q7,<-Int.natCast_mul,Qg];omega
   have hrun:=run_make (P:=P) w t el i zv q1 q2 q3 kl kc n n q_o (TP _) hby q_o
   rw[BR]at hrun
   have hzs:0<zv.cells.size:=by omega
   have hcl:(madeCells zv.cells (n*i.size)).toList=(List.replicate n zv.cells.toList).flatten:=by
    rw[<-q4];exact Rn _ hzs n
   have hna:zv.cells.toList.all GI=true:=AU.2 λv hv=>by
    have:=q8 v hv
    unfold zOk at this
    rw[AF]at this
    exact this.1
   have hrep:RepL (OwnS st) w (madeCells zv.cells (n*i.size)).toList (((List.replicate n (z.map Dm)).flatten).map D.sh):=by
    rw[hcl,<-q9];exact(OZ hna n).sh
   obtain⟨k1,k2⟩:=MF hh el hrep (λd hd=>by
    obtain⟨d',hd',rfl⟩:=Av.1 hd
    rw[D.leaf_sh]
    obtain⟨l,hl,hdl⟩:=Ht.1 hd'
    rw[(List.mem_replicate.1 hl).2]at hdl
    obtain⟨v,hv,rfl⟩:=Av.1 hdl
    have:=q8 v (by rw[q9];exact hv)
    unfold zOk at this
    rw[AF]at this
    exact this.2)
   refine⟨_,_,?_,_,_,.ar w.heap.size 0 n n (Ap _) (by unfold maxLen;omega),k1,k2,⟨_,rfl,rfl⟩⟩
   unfold execOp
   simp only[hv1,hv2,AG,hrun,Am,AN]
 . cases h1
end
theorem Sf:DH Mat.empty=[.i 0,.i 0,.str ⟨#[]⟩,.sl .shared [],.i 0,.i 0,.str ⟨#[]⟩,.sl .shared [],.i 0,.i 0,.str ⟨#[]⟩,.sl .shared [],.i 0,.i 0,.str ⟨#[]⟩,.sl .shared [],.i 0,.i 0,.str ⟨#[]⟩,.sl .shared [],.i 0,.i 0,.str ⟨#[]⟩,.sl .shared [],.i 0,.i 0,.str ⟨#[]⟩,.sl .shared [],.i 0,.i 0,.str ⟨#[]⟩,.sl .shared []]:=by
 unfold DH Mat.empty V.zero
 simp only[List.replicate,Au,BH,V.cells_mk]
 rfl
theorem Sg{fn:FuncId}{st:St}(h:TrF prog fn [] st λd st'=>∃g cap zs,d=.ar g 0 8 cap/\st'=.box g 30 (DH Mat.empty++zs)::st):TrF prog fn [] st λd st'=>d=.sl .shared (Mat.empty.map V.cells)/\st'=st :=
 h.freeze (sz:=4) (by decide) (JB _) rfl
theorem Rz(st:St):TrF prog 20 [] st λd st'=>d=.sl .shared (Mat.empty.map V.cells)/\st'=st:=by
 refine Sg ?_
 refine Qin [0] func20 results20 ntmps20 ?_
 repeat' (first|refine QV ?_|with_reducible refine XJ ?_|((apply(cG (n:=8) (cs:=DH Mat.empty)));(focus exact BD rfl);(focus decide);(focus(rw[Sf];rfl));intro g)|refine QY ?_|refine QB ?_;intro b|with_reducible refine QZ ?_<;>(try constructor)<;>intro hb<;>try intro hb1|fail)
 all_goals exact Bf (by simp) q_y (Aj _) (LE.of_eq q_v) ⟨g,8,[],rfl,by rw[AY]⟩
theorem UF(st:St):TrF prog 21 [] st λd st'=>d=.sl .shared (Mat.empty.map V.cells)/\st'=st:=by
 refine Sg ?_
 refine Qin [0] func21 results21 ntmps21 ?_
 repeat' (first|refine QV ?_|with_reducible refine XJ ?_|((apply(cG (n:=8) (cs:=DH Mat.empty)));(focus exact BD rfl);(focus decide);(focus(rw[Sf];rfl));intro g)|refine QY ?_|refine QB ?_;intro b|with_reducible refine QZ ?_<;>(try constructor)<;>intro hb<;>try intro hb1|fail)
 all_goals exact Bf (by simp) q_y (Aj _) (LE.of_eq q_v) ⟨g,8,[],rfl,by rw[AY]⟩
theorem empty_ek:EK Mat.empty:=⟨λv hv=>by
 rw[(List.mem_replicate.1 hv).2]
 unfold V.zero
 exact .mk (Ao _) (Ao _) (λx hx=>by cases hx),by unfold Mat.empty;rw[QE];decide⟩
end
section
attribute [local push_cast] Br Bl BV V.cells_mk V.cells_len Nat.mul_one Int.sub_zero List.map_nil beq_self_eq_true bne_self_eq_false List.head?_cons Bool.not_true Bool.not_false Nat.zero_add
structure XK (x:Rl):Prop where
 p:∀p∈x.pats,PK p
 l:x.pats.length<=1000
section
set_option maxHeartbeats 16000000
def iq (r:List V×Bool):D:=.tup [.sl .shared (r.1.map V.cells),.b r.2]
namespace Mat
theorem passL_take{p:Pt}{F:List Fc}{e:List V}{k:Nat}{f:Fc}(h:F[k]?=some f):passL p (F.take (k+1)) e=passL p (F.take k) e++(match pass p f e with|some e'=>[(f.id,e')]|none=>[]):=by
 unfold passL
 rw[Bk,h,Bw,JK]
 congr 1
 cases hq:pass p f e with
|none=>rw[De (by rw[hq];rfl)];rfl
|some e'=>rw[CQ (by rw[hq];rfl)];rfl
theorem passL_some{p:Pt}{F:List Fc}{e e':List V}{k:Nat}{f:Fc}(h:F[k]?=some f)(hp:pass p f e=some e'):passL p F e≠[]:=λh0=>by
 unfold passL at h0
 have:=Na.1 h0 f (Ah h)
 rw[hp]at this
 cases this
theorem envF_neg{F:List Fc}{P:List Pt}{i:Nat}{p:Pt}{ids:List Int}{e:List V}(h:P[i]?=some p)(hn:p.neg=true):envF F (P.drop i) ids e=if passL p F e=[]then envF F (P.drop (i+1)) ids e else([],false):=by
 rw[V.drop_cons h,envF.eq_def]
 dsimp only
 rw[if_pos hn]
theorem envF_out{F:List Fc}{P:List Pt}{i a:Nat}{p:Pt}{ids:List Int}{e:List V}(h:P[i]?=some p)(hn:p.neg=false)(ha:ids.length<=a):envF F (P.drop i) (ids.drop a) e=([],false):=by
 rw[V.drop_cons h,envF.eq_def,Az ha]
 dsimp only
 rw[if_neg (by rw[hn];exact AJ)]
theorem envF_pos{F:List Fc}{P:List Pt}{i a:Nat}{p:Pt}{ids:List Int}{v:Int}{e:List V}(h:P[i]?=some p)(hn:p.neg=false)(ha:ids[a]?=some v):envF F (P.drop i) (ids.drop a) e=match find F v with|none=>([],false)|some f=>match pass p f e with|none=>([],false)|some e'=>envF F (P.drop (i+1)) (ids.drop (a+1)) e':=by
 rw[V.drop_cons h,envF.eq_def,V.drop_cons ha]
 dsimp only
 rw[if_neg (by rw[hn];exact AJ)]
 all_goals
  cases find F v with
  | none=>rfl
  | some f =>
   dsimp only
   cases pass p f e<;>rfl
theorem find_mem{F:List Fc}{v:Int}{f:Fc}(h:find F v=some f):f∈F:=CI h
end Mat
theorem ef:FK Fc.zero:=⟨λx hx=>(by cases hx),Ao _⟩
theorem Rm(x:Rl)(F:List Fc)(hx:XK x)(hF:FKs F)(ids:List Int)(hid:ids.length<=1000000)(st:St):TrF prog 28 [.agg x.cells,.sl .shared (F.map Fc.cells),.sl .shared (ids.map Bl)] st λd st'=>d=iq (Mat.envF F x.pats ids Mat.empty)/\st'=st:=by
 have hE:=Aa UF
 have hFm:(F.map Fc.cells).length=F.length:=Ab ..
 have hFc:=hMp Fc.cells F
 have hIm:(ids.map Bl).length=ids.length:=Ab ..
 have hIc:Hid (∀(i:Nat) (v:Int),ids[i]?=some v->(ids.map Bl)[i]?=some [.i v]):=λi v h=>by rw[Aq,h];rfl
 have hPm:(x.pats.map Pt.cells).length=x.pats.length:=Ab ..
 have hPc:=hMp Pt.cells x.pats
 have hPa:Hid (∀p∈x.pats,∀f,FK f->∀e:List V,e.length<=1000000->∀st,TrF prog 18 [.agg p.cells,.agg f.cells,.sl .shared (e.map V.cells)] st λd st'=>d=Gl (Mat.pass p f e)/\st'=st):=λp hp f hf e he st=>Wo p f e (hx.p p hp).l hf he .shared st
 have hFi:=Aa λv=>Wq F hF.l v
 have hff:=Aa hF.f
 have hfl:=hF.l
 have hxl:=hx.l
 obtain⟨R,hR⟩:∃R,Mat.envF F x.pats ids Mat.empty=R:=⟨_,rfl⟩
 have HR:Hid (Mat.envF F (x.pats.drop 0) (ids.drop 0) Mat.empty=R):=hR
 have h8:Mat.empty.length=8:=rfl
 rw[hR]
 clear hR hx hF
 rw[show x.cells=[.str x.name,.i x.sal,.sl .shared (x.pats.map Pt.cells),.sl .shared (x.acts.map Ac.cells)]from rfl]
 generalize x.pats.map Pt.cells=PS at *
 generalize x.acts.map Ac.cells=AS at *
 generalize x.name=nm at *
 generalize x.sal=sal at *
 generalize x.pats=P at *
 generalize F.map Fc.cells=FS at *
 generalize ids.map Bl=IS at *
 generalize Mat.empty=em at *
 refine Qin [6,7] func28 results28 ntmps28 ?_
 repeat' (first|refine QX ?_|refine QB ?_;intro b|with_reducible refine QZ ?_<;>(try constructor)<;>intro hb<;>try intro hb1|refine Qc call21 ((hE.out _)) ?_|fail)
 refine Bs (ι:=Nat) (λi A st'=>i<=P.length/\A.df=[]/\A.e 1=.sl .shared FS/\A.e 2=.sl .shared IS/\A.e 3=.ip [.str nm,.i sal,.sl .shared PS,.sl .shared AS]/\A.e 10=.i i/\∃(a:Nat) (e:List V),a<=ids.length/\Hid (e.length<=1000000)/\Hid (Mat.envF F (P.drop i) (ids.drop a) e=R)/\A.e 8=.sl .shared (e.map V.cells)/\A.e 9=.i a/\st'=st) (λi=>P.length - i) 0 ⟨Ao _,Qf,Qf,Qf,Qf,Qf,0,em,Ao _,Aa q_o,HR,Qf,Qf,rfl⟩ ?_
 clear HR h8
 rintro i A st' ⟨hi,hdf,e1,e2,e3,e10,a,e,ha,hel,HT,e8,e9,rfl⟩
 by_cases hlt:i<P.length
 . obtain⟨p,hp⟩:=gEx hlt
   have hpc:=hPc.out i p hp
   have hPp:=hPa.out p (Ah hp)
   have HE:=HT.out
   clear HT hPc hPa
   cases hn:p.neg with
   | true =>
    rw[Mat.envF_neg hp hn]at HE
    rw[show p.cells=[.i p.tmpl,.b p.neg,.sl .shared (p.tests.map Ts.cells)]from rfl]at *
    generalize p.neg=pn at *
    subst hn
    have hPf:Hid (∀f∈F,∀st,TrF prog 18 [.agg [.i p.tmpl,.b true,.sl .shared (p.tests.map Ts.cells)],.agg f.cells,.sl .shared (e.map V.cells)] st λd st'=>d=Gl (Mat.pass p f e)/\st'=st):=λf hf=>hPp f (hff.out f hf) e hel.out
    have htk:Hid (∀(k:Nat) (f:Fc),F[k]?=some f->Mat.passL p (F.take (k+1)) e=Mat.passL p (F.take k) e++(match Mat.pass p f e with|some e'=>[(f.id,e')]|none=>[])):=λk f h=>Mat.passL_take h
    have hso:Hid (∀(k:Nat) (f:Fc) (e':List V),F[k]?=some f->Mat.pass p f e=some e'->Mat.passL p F e≠[]):=λk f e' h1 h2=>Mat.passL_some h1 h2
    have htl:F.take F.length=F:=Cb
    have h00:Hid (Mat.passL p (F.take 0) e=[]):=rfl
    obtain⟨pf,hpf⟩:∃pf:Fc->Option (List V),pf=λf=>Mat.pass p f e:=⟨_,rfl⟩
    obtain⟨pl,hpl⟩:∃pl:List Fc->List (Int×List V),pl=λF=>Mat.passL p F e:=⟨_,rfl⟩
    have hPf2:Hid (∀f∈F,∀st,TrF prog 18 [.agg [.i p.tmpl,.b true,.sl .shared (p.tests.map Ts.cells)],.agg f.cells,.sl .shared (e.map V.cells)] st λd st'=>d=Gl (pf f)/\st'=st):=by rw[hpf];exact hPf.out
    have htk2:Hid (∀(k:Nat) (f:Fc),F[k]?=some f->pl (F.take (k+1))=pl (F.take k)++(match pf f with|some e'=>[(f.id,e')]|none=>[])):=by rw[hpl,hpf];exact htk.out
    have hso2:Hid (∀(k:Nat) (f:Fc) (e':List V),F[k]?=some f->pf f=some e'->pl F≠[]):=by rw[hpl,hpf];exact hso.out
    have h02:Hid (pl (F.take 0)=[]):=by rw[hpl];exact h00.out
    rw[show Mat.passL p F e=pl F by rw[hpl]]at HE
    replace HE:=Aa HE
    clear hPf htk hso h00 hpf hpl hPp hFi hIc hff hp hE
    generalize p.tests.map Ts.cells=TS at *
    generalize p.tmpl=p0 at *
    generalize hEC:e.map V.cells=EC at *
    repeat' (first|refine QX ?_|refine QB ?_;intro b|with_reducible refine QZ ?_<;>(try constructor)<;>intro hb<;>try intro hb1|fail)
    refine DN (ι:=Nat) (λk A2 st2=>k<=F.length/\Hid (pl (F.take k)=[])/\A2.df=[]/\A2.e 1=.sl .shared FS/\A2.e 2=.sl .shared IS/\A2.e 3=.ip [.str nm,.i sal,.sl .shared PS,.sl .shared AS]/\A2.e 8=.sl .shared EC/\A2.e 9=.i a/\A2.e 10=.i i/\A2.e 11=.i k/\st2=st') (λk=>F.length - k) 0 ⟨Ao _,h02,Qf,Qf,Qf,Qf,Qf,Qf,Qf,Qf,rfl⟩ ?_
    clear h02 hdf e1 e2 e3 e8 e9 e10
    rintro k A2 st2 ⟨hk,HK,hdf,e1,e2,e3,e8,e9,e10,e11,rfl⟩
    by_cases hkl:k<F.length
    . obtain⟨f,hf⟩:=gEx hkl
      have hfc:=hFc.out k f hf
      have hP0:=hPf2.out f (Ah hf)
      have hT:=htk2.out k f hf
      have hS:=hso2.out k f
      rw[show f.cells=[.i f.id,.i f.time,.i f.tmpl,.i f.ver,.sl .shared (f.s.map V.cells)]from rfl]at *
      clear hPf2 htk2 hFc hso2
      generalize f.s.map V.cells=VS at *
      cases hq:pf f with
      | none =>
       rw[hq]at hP0 hT
       dsimp only[Gl]at hP0 hT
       rw[HK.out,AY]at hT
       clear hS hq hf HK
       generalize f.id=f0 at *
       generalize f.time=f1 at *
       generalize f.tmpl=f2 at *
       generalize f.ver=f3 at *
       replace hP0:=Aa hP0
       replace hT:=Aa hT
       repeat' (first|refine QV ?_|((with_reducible refine QW ?_);intro hne;simp only[nes,ne1,and_assoc]at hne;repeat(have hq:=hne.1;replace hne:=hne.2))|refine QY ?_|refine QB ?_;intro b|with_reducible refine QZ ?_<;>(try constructor)<;>intro hb<;>try intro hb1|refine Qc call18 ((hP0.out _)) ?_|fail)
       refine⟨k+1,⟨hkl,hT,?_,?_,?_,?_,?_,?_,?_,?_,rfl⟩,by omega⟩
       all_goals exact Qf
      | some e' =>
       rw[hq]at hP0
       dsimp only[Gl]at hP0
       have HE2:=HE.out
       rw[if_neg (hS e' hf hq)]at HE2
       subst HE2
       clear hS hq hf HK hT HE
       generalize f.id=f0 at *
       generalize f.time=f1 at *
       generalize f.tmpl=f2 at *
       generalize f.ver=f3 at *
       replace hP0:=Aa hP0
       repeat' (first|refine QV ?_|((with_reducible refine QW ?_);intro hne;simp only[nes,ne1,and_assoc]at hne;repeat(have hq:=hne.1;replace hne:=hne.2))|refine QY ?_|refine QB ?_;intro b|with_reducible refine QZ ?_<;>(try constructor)<;>intro hb<;>try intro hb1|refine Qc call18 ((hP0.out _)) ?_|fail)
       all_goals exact BZ
    . have hkF:k=F.length:=by omega
      subst hkF
      have HE2:=HE.out
      have HK2:=HK.out
      rw[htl]at HK2
      rw[if_pos HK2]at HE2
      replace HE2:=Aa HE2
      clear HE HK HK2 hPf2 htk2 hFc hso2
      repeat' (first|refine QX ?_|refine QB ?_;intro b|with_reducible refine QZ ?_<;>(try constructor)<;>intro hb<;>try intro hb1|fail)
      refine⟨i+1,st2,q_t,⟨hlt,?_,?_,?_,?_,?_,a,e,ha,hel,HE2,?_,?_,rfl⟩,by omega⟩
      all_goals first|exact Qf|(rw[hEC];exact Qf)
   | false =>
    by_cases hal:a<ids.length
    . obtain⟨v,hv⟩:=gEx hal
      have hvc:=hIc.out a v hv
      have hFv:=hFi.out v
      rw[Mat.envF_pos hp hn hv]at HE
      rw[show p.cells=[.i p.tmpl,.b p.neg,.sl .shared (p.tests.map Ts.cells)]from rfl]at *
      generalize p.neg=pn at *
      subst hn
      cases hf:Mat.find F v with
      | none =>
       have hP0:=hPp Fc.zero ef e hel.out
       rw[hf]at HE hFv
       dsimp only at HE
       subst HE
       rw[show Fc.zero.cells=[.i 0,.i 0,.i 0,.i 0,.sl .shared []]from rfl]at hP0
       clear hPp hFi hIc hFc hff hp hv hf hE
       unfold GL at hFv
       dsimp only at hFv
       generalize p.tests.map Ts.cells=TS at *
       generalize p.tmpl=p0 at *
       generalize e.map V.cells=EC at *
       cases hq:Mat.pass p Fc.zero e with
       | none =>
        rw[hq]at hP0
        dsimp only[Gl]at hP0
        clear hq
        replace hP0:=Aa hP0
        replace hFv:=Aa hFv
        repeat' (first|refine QV ?_|with_reducible refine DR ?_|((with_reducible refine QW ?_);intro hne;simp only[nes,ne1,and_assoc]at hne;repeat(have hq:=hne.1;replace hne:=hne.2))|refine QY ?_|refine QB ?_;intro b|with_reducible refine QZ ?_<;>(try constructor)<;>intro hb<;>try intro hb1|refine Qc call61 ((hFv.out _)) ?_|refine QL call18 (hP0.out _) ?_|fail)
        all_goals exact BZ
       | some e' =>
        rw[hq]at hP0
        dsimp only[Gl]at hP0
        clear hq
        replace hP0:=Aa hP0
        replace hFv:=Aa hFv
        repeat' (first|refine QV ?_|with_reducible refine DR ?_|((with_reducible refine QW ?_);intro hne;simp only[nes,ne1,and_assoc]at hne;repeat(have hq:=hne.1;replace hne:=hne.2))|refine QY ?_|refine QB ?_;intro b|with_reducible refine QZ ?_<;>(try constructor)<;>intro hb<;>try intro hb1|refine Qc call61 ((hFv.out _)) ?_|refine QL call18 (hP0.out _) ?_|fail)
        all_goals exact BZ
      | some f =>
       have hP0:=hPp f (hff.out f (Mat.find_mem hf)) e hel.out
       rw[hf]at HE hFv
       dsimp only at HE
       unfold GL at hFv
       dsimp only at hFv
       rw[show f.cells=[.i f.id,.i f.time,.i f.tmpl,.i f.ver,.sl .shared (f.s.map V.cells)]from rfl]at *
       clear hPp hFi hIc hFc hff hp hv hf hE
       generalize p.tests.map Ts.cells=TS at *
       generalize p.tmpl=p0 at *
       generalize hEC:e.map V.cells=EC at *
       generalize f.s.map V.cells=VS at *
       cases hq:Mat.pass p f e with
       | none =>
        rw[hq]at hP0 HE
        dsimp only[Gl]at hP0 HE
        subst HE
        clear hq
        generalize f.id=f0 at *
        generalize f.time=f1 at *
        generalize f.tmpl=f2 at *
        generalize f.ver=f3 at *
        replace hP0:=Aa hP0
        replace hFv:=Aa hFv
        repeat' (first|refine QV ?_|with_reducible refine DR ?_|((with_reducible refine QW ?_);intro hne;simp only[nes,ne1,and_assoc]at hne;repeat(have hq:=hne.1;replace hne:=hne.2))|refine QY ?_|refine QB ?_;intro b|with_reducible refine QZ ?_<;>(try constructor)<;>intro hb<;>try intro hb1|refine Qc call61 ((hFv.out _)) ?_|refine Qc call18 ((hP0.out _)) ?_|fail)
        all_goals exact BZ
       | some e' =>
        rw[hq]at hP0 HE
        dsimp only[Gl]at hP0 HE
        have hl8:Hid (e'.length<=1000000):=Aa (by rw[Mat.pass_len hq];decide)
        clear hq
        generalize f.id=f0 at *
        generalize f.time=f1 at *
        generalize f.tmpl=f2 at *
        generalize f.ver=f3 at *
        replace hP0:=Aa hP0
        replace hFv:=Aa hFv
        replace HE:=Aa HE
        repeat' (first|refine QV ?_|with_reducible refine DR ?_|((with_reducible refine QW ?_);intro hne;simp only[nes,ne1,and_assoc]at hne;repeat(have hq:=hne.1;replace hne:=hne.2))|refine QY ?_|refine QB ?_;intro b|with_reducible refine QZ ?_<;>(try constructor)<;>intro hb<;>try intro hb1|refine Qc call61 ((hFv.out _)) ?_|refine Qc call18 ((hP0.out _)) ?_|fail)
        refine⟨i+1,st',q_t,⟨hlt,?_,?_,?_,?_,?_,a+1,e',hal,hl8,HE,?_,?_,rfl⟩,by omega⟩
        all_goals exact Qf
    . rw[Mat.envF_out hp hn q_o]at HE
      subst HE
      have hae:a=ids.length:=by omega
      subst hae
      rw[show p.cells=[.i p.tmpl,.b p.neg,.sl .shared (p.tests.map Ts.cells)]from rfl]at *
      generalize p.neg=pn at *
      subst hn
      clear hPp hFi hIc hFc hff hp hE
      generalize p.tests.map Ts.cells=TS at *
      generalize p.tmpl=p0 at *
      generalize e.map V.cells=EC at *
      exact WR
 . have HE:=HT.out
   rw[Az q_o,Mat.envF]at HE
   subst HE
   have hd:decide (ids.drop a=[])=decide ((a:Int)=ids.length):=decide_eq_decide.2 ⟨λh=>by
    have:=congrArg List.length h
    rw[AO]at this
    simp at this;omega,λh=>Az q_o⟩
   unfold iq
   dsimp only
   rw[hd]
   clear HT hPc hPa hFi hIc hFc hff hE hd
   generalize e.map V.cells=EC at *
   exact WR
end
end
section
attribute [local push_cast] Br Bl BV Nat.mul_one Int.sub_zero List.map_nil beq_self_eq_true bne_self_eq_false List.head?_cons Bool.not_true Bool.not_false Nat.zero_add
namespace Mat
theorem cmpI_drop{a b:List Int}{i:Nat}{x y:Int}(h1:a[i]?=some x)(h2:b[i]?=some y):cmpI (a.drop i) (b.drop i)=if V.sgn x y≠0 then V.sgn x y else cmpI (a.drop (i+1)) (b.drop (i+1)):=by
 rw[V.drop_cons h1,V.drop_cons h2,cmpI]
theorem cmpI_right{a b:List Int}{i:Nat}{x:Int}(h1:a[i]?=some x)(h2:b.length<=i):cmpI (a.drop i) (b.drop i)=1:=by
 rw[V.drop_cons h1,Az h2];rfl
theorem cmpI_left{a b:List Int}{i:Nat}{y:Int}(h1:a.length<=i)(h2:b[i]?=some y):cmpI (a.drop i) (b.drop i) = -1:=by
 rw[Az h1,V.drop_cons h2];rfl
theorem cmpI_both{a b:List Int}{i:Nat}(h1:a.length<=i)(h2:b.length<=i):cmpI (a.drop i) (b.drop i)=0:=by
 rw[Az h1,Az h2];rfl
theorem ord_ors(a b:Mt):ord a b=V.ors [V.sgn a.rule b.rule,cmpI a.ids b.ids]:=by
 unfold ord
 by_cases h:V.sgn a.rule b.rule=0
 . rw[if_neg (by simpa using h),h,V.ors_zero,V.ors_one]
 . rw[if_pos h,V.ors_cons h]
end Mat
theorem Wh(o o':Own)(a b:List Int)(ha:a.length<=1000000)(hb0:b.length<=1000000)(st:St):TrF prog 95 [.sl o (a.map Bl),.sl o' (b.map Bl)] st λd st'=>d=.i (Mat.cmpI a b)/\st'=st:=by
 have hma:(a.map Bl).length=a.length:=Ab ..
 have hmb:(b.map Bl).length=b.length:=Ab ..
 have hca:Hid (∀(i:Nat) (v:Int),a[i]?=some v->(a.map Bl)[i]?=some [.i v]):=λi v h=>by rw[Aq,h];rfl
 have hcb:Hid (∀(i:Nat) (v:Int),b[i]?=some v->(b.map Bl)[i]?=some [.i v]):=λi v h=>by rw[Aq,h];rfl
 obtain⟨R,hR⟩:∃R,Mat.cmpI a b=R:=⟨_,rfl⟩
 have HR:Hid (Mat.cmpI (a.drop 0) (b.drop 0)=R):=hR
 rw[hR]
 clear hR
 generalize a.map Bl=AC at *
 generalize b.map Bl=BC at *
 refine Qin [4] func95 results95 ntmps95 ?_
 repeat' (first|refine QX ?_|(refine QB ?_;intro b)|refine QP ?_;intro o' ho'|(with_reducible refine QZ ?_<;>(try constructor)<;>intro hb<;>try intro hb1)|fail)
 refine DN (ι:=Nat) (λi A st'=>i<=a.length/\i<=b.length/\Hid (Mat.cmpI (a.drop i) (b.drop i)=R)/\A.df=[]/\A.e 0=.sl o AC/\A.e 1=.sl o' BC/\A.e 9=.sl o AC/\A.e 10=.i a.length/\A.e 11=.i i/\st=st') (λi=>a.length - i) 0 ⟨Ao _,Ao _,HR,Qf,Qf,Qf,Qf,Qf,Qf,rfl⟩ ?_
 clear HR
 rintro i A st' ⟨hi,hi2,HT,hdf,e0,e1,e9,e10,e11,rfl⟩
 by_cases hlt:i<a.length
 . obtain⟨x,hx⟩:=gEx hlt
   have hcx:=hca.out i x hx
   by_cases hlt2:i<b.length
   . obtain⟨y,hy⟩:=gEx hlt2
     have hcy:=hcb.out i y hy
     have hC:=Sq x y
     have HE:=HT.out
     rw[Mat.cmpI_drop hx hy]at HE
     generalize V.sgn x y=c at *
     replace hC:=Aa hC
     clear HT hca hcb hx hy
     by_cases h0:c=0
     . rw[if_neg (by simpa using h0)]at HE
       replace HE:=Aa HE
       repeat' (first|refine QX ?_|(refine QB ?_;intro b)|refine QP ?_;intro o' ho'|(with_reducible refine QZ ?_<;>(try constructor)<;>intro hb<;>try intro hb1)|fail)
       refine⟨i+1,⟨hlt,hlt2,HE,?_,?_,?_,?_,?_,?_,rfl⟩,?_⟩
       all_goals exact Qf
     . rw[if_pos h0]at HE
       subst HE
       exact WRa
   . have HE:=HT.out
     rw[Mat.cmpI_right hx q_o]at HE
     subst HE
     clear HT hca hcb hx
     exact WRa
 . by_cases hlt2:i<b.length
   . obtain⟨y,hy⟩:=gEx hlt2
     have HE:=HT.out
     rw[Mat.cmpI_left q_o hy]at HE
     subst HE
     clear HT hca hcb hy
     exact WRa
   . have HE:=HT.out
     rw[Mat.cmpI_both q_o q_o]at HE
     subst HE
     clear HT hca hcb
     exact WRa
namespace Mat
theorem less_rule{a b:Mt}(h:a.rule≠b.rule):less a b=decide (a.rule<b.rule):=by
 unfold less ord
 rw[if_pos (λh2=>h (V.sgn_zero.1 h2))]
 exact decide_eq_decide.2 sgn_neg
theorem less_ids{a b:Mt}(h:a.rule=b.rule):less a b=decide (cmpI a.ids b.ids<0):=by
 unfold less ord
 rw[h,V.sgn_self,if_neg (by simp)]
theorem sgn_lt0{x y:Int}:decide (V.sgn x y<0)=decide (x<y):=decide_eq_decide.2 sgn_neg
end Mat
theorem LX(a b:Mt)(ha:a.ids.length<=1000000)(hb0:b.ids.length<=1000000)(st:St):TrF prog 26 [.agg a.cells,.agg b.cells] st λd st'=>d=.b (Mat.less a b)/\st'=st:=by
 cases a with
|mk r1 a =>
 cases b with
|mk r2 b =>
 dsimp only at *
 have hma:(a.map Bl).length=a.length:=Ab ..
 have hmb:(b.map Bl).length=b.length:=Ab ..
 have hca:Hid (∀(i:Nat) (v:Int),a[i]?=some v->(a.map Bl)[i]?=some [.i v]):=λi v h=>by rw[Aq,h];rfl
 have hcb:Hid (∀(i:Nat) (v:Int),b[i]?=some v->(b.map Bl)[i]?=some [.i v]):=λi v h=>by rw[Aq,h];rfl
 unfold Mt.cells
 dsimp only
 by_cases hr:r1=r2
 . rw[Mat.less_ids hr]
   dsimp only
   obtain⟨R,hR⟩:∃R,decide (Mat.cmpI a b<0)=R:=⟨_,rfl⟩
   have HR:Hid (decide (Mat.cmpI (a.drop 0) (b.drop 0)<0)=R):=hR
   rw[hR]
   clear hR
   generalize a.map Bl=AC at *
   generalize b.map Bl=BC at *
   refine Qin [4] func26 results26 ntmps26 ?_
   repeat' (first|refine QX ?_|refine QB ?_;intro b|with_reducible refine QZ ?_<;>(try constructor)<;>intro hb<;>try intro hb1|fail)
   refine DN (ι:=Nat) (λi A st'=>i<=a.length/\i<=b.length/\Hid (decide (Mat.cmpI (a.drop i) (b.drop i)<0)=R)/\A.df=[]/\A.e 2=.ip [.i r1,.sl .shared AC]/\A.e 3=.ip [.i r2,.sl .shared BC]/\A.e 5=.i i/\st=st') (λi=>a.length - i) 0 ⟨Ao _,Ao _,HR,Qf,Qf,Qf,Qf,rfl⟩ ?_
   clear HR
   rintro i A st' ⟨hi,hi2,HT,hdf,e2,e3,e5,rfl⟩
   by_cases hlt:i<a.length
   . obtain⟨x,hx⟩:=gEx hlt
     have hcx:=hca.out i x hx
     by_cases hlt2:i<b.length
     . obtain⟨y,hy⟩:=gEx hlt2
       have hcy:=hcb.out i y hy
       have HE:=HT.out
       rw[Mat.cmpI_drop hx hy]at HE
       clear HT hca hcb hx hy
       by_cases h0:x=y
       . rw[if_neg (by simpa using V.sgn_zero.2 h0)]at HE
         replace HE:=Aa HE
         repeat' (first|refine QV ?_|((with_reducible refine QW ?_);intro hne;simp only[nes,ne1,and_assoc]at hne;repeat(have hq:=hne.1;replace hne:=hne.2))|refine QY ?_|refine QB ?_;intro b|with_reducible refine QZ ?_<;>(try constructor)<;>intro hb<;>try intro hb1|fail)
         refine⟨i+1,⟨hlt,hlt2,HE,?_,?_,?_,?_,rfl⟩,?_⟩
         all_goals exact Qf
       . rw[if_pos (λh=>h0 (V.sgn_zero.1 h)),Mat.sgn_lt0]at HE
         subst HE
         repeat' (first|refine QV ?_|((with_reducible refine QW ?_);intro hne;simp only[nes,ne1,and_assoc]at hne;repeat(have hq:=hne.1;replace hne:=hne.2))|refine QY ?_|refine QB ?_;intro b|with_reducible refine QZ ?_<;>(try constructor)<;>intro hb<;>try intro hb1|fail)
         all_goals exact BZ
     . have HE:=HT.out
       rw[Mat.cmpI_right hx q_o,show decide ((1:Int)<0)=decide ((a.length:Int)<b.length)from decide_eq_decide.2 q_o]at HE
       subst HE
       clear HT hca hcb hx
       exact WR
   . have HE:=HT.out
     have hv:decide (Mat.cmpI (a.drop i) (b.drop i)<0)=decide ((a.length:Int)<b.length):=by
      by_cases hlt2:i<b.length
      . obtain⟨y,hy⟩:=gEx hlt2
        rw[Mat.cmpI_left q_o hy]
        exact decide_eq_decide.2 q_o
      . rw[Mat.cmpI_both q_o q_o]
        exact decide_eq_decide.2 q_o
     rw[hv]at HE
     subst HE
     clear HT hca hcb hv
     exact WR
 . rw[Mat.less_rule hr]
   dsimp only
   generalize a.map Bl=AC at *
   generalize b.map Bl=BC at *
   clear hca hcb
   refine Qin [4] func26 results26 ntmps26 ?_
   exact WR
end
section
attribute [local push_cast] Br Bl V.cells_mk V.cells_take V.cells_len Nat.mul_one Int.sub_zero
theorem Zl(v:V)(hok:v.Ok)(hn:v.nodes<=1000)(hd:v.deep<=1000)(st:St):TrF prog 125 [.agg v.cells] st λx st'=>x=.i v.nodes/\st'=st:=by
 have hC:=Nr v.nodes v (Ap _) hok 1001 1000 q_o q_o q_o q_o
 rw[V.cnt_all v 1001 1000 q_o q_o]at hC
 cases v with
|mk k n s l =>
 rw[V.cells_mk]at *
 replace hC:=Aa hC
 generalize (V.mk k n s l).nodes=q at *
 refine Qin [2] func125 results125 ntmps125 ?_
 repeat' (first|refine QX ?_|refine QB ?_;intro b|with_reducible refine QZ ?_<;>(try constructor)<;>intro hb<;>try intro hb1|fail)
 all_goals(refine BZ (hd:=?_);(try simp(disch:=omega) only[push_cast,simprocAttr, *]);try(first|exact q_e|refine LE.of_eq ?_))
 exact congrArg D.i q_o
theorem Zk(v:V)(hok:v.Ok)(hn:v.nodes<=1000)(hd:v.deep<=1000)(st:St):TrF prog 83 [.agg v.cells] st λx st'=>x=.b v.right/\st'=st:=by
 have hE:=UG v.nodes v (Ap _)
 have hD:=Pc v.nodes v (Ap _) q_o
 have hN:=Zl v hok hn hd
 unfold V.right
 cases v with
|mk k n s l =>
 rw[V.cells_mk]at *
 replace hE:=Aa hE
 replace hD:=Aa hD
 replace hN:=Aa hN
 generalize (V.mk k n s l).nodes=nn at *
 generalize (V.mk k n s l).deep=dd at *
 generalize (V.mk k n s l).parts=p at *
 refine Qin [2] func83 results83 ntmps83 ?_
 repeat' (first|refine QX ?_|refine QB ?_;intro b|with_reducible refine QZ ?_<;>(try constructor)<;>intro hb<;>try intro hb1|fail)
 all_goals(refine BZ (hd:=?_);(try simp(disch:=omega) only[push_cast,simprocAttr, *]);try(first|exact q_e|refine LE.of_eq ?_))
 all_goals(cases p<;>(first|rfl|(refine congrArg D.b ?_;rw[Ej];simp only[AH,Aw,GD,CD,Fh,Dk,BQ,Bu,true_and,and_true,Cs,Ew,decide_eq_true_eq,decide_eq_false_iff_not,beq_iff_eq,beq_eq_false_iff_ne,bne_iff_ne,ne_eq,reduceCtorEq,iff_true,true_iff,iff_false,false_iff,AF,Co,BN,Eu];first|done|omega)))
end
section
attribute [local push_cast] Br Bl BV V.cells_mk V.cells_len Nat.mul_one Int.sub_zero List.map_nil beq_self_eq_true bne_self_eq_false List.head?_cons Bool.not_true Bool.not_false Nat.zero_add
section
set_option maxHeartbeats 16000000
namespace Mat
end Mat
namespace Mat
def headB (S:List Int)(f:Fc):Bool:=decide (1<=f.id) && (decide (0<=f.tmpl) && (decide (f.tmpl<S.length) && decide ((f.s.length:Int)=S.getD f.tmpl.toNat 0)))
def rightL (S:List Int)(F:List Fc):List Fc->Nat->Bool
|[],_=>true
|f::l,i=>headB S f && (f.s.all V.right && (!((F.take i).any λg=>g.id == f.id) && rightL S F l (i+1)))
def right (S:List Int)(F:List Fc):Bool:=decide (F.length<=7) && rightL S F F 0
theorem rightL_drop{S:List Int}{F:List Fc}{i:Nat}{f:Fc}(h:F[i]?=some f):rightL S F (F.drop i) i=(headB S f && (f.s.all V.right && (!((F.take i).any λg=>g.id == f.id) && rightL S F (F.drop (i+1)) (i+1)))):=by
 rw[V.drop_cons h,rightL]
theorem headB_iff{S:List Int}{f:Fc}:headB S f=true↔1<=f.id/\0<=f.tmpl/\f.tmpl<S.length/\(f.s.length:Int)=S.getD f.tmpl.toNat 0:=by
 unfold headB
 simp only[AF,decide_eq_true_eq]
end Mat
structure FcR (f:Fc):Prop where
 v:∀x∈f.s,x.Ok/\x.nodes<=1000/\x.deep<=1000
 l:f.s.length<=maxLen
theorem Uw(F:List Fc)(S:List Int)(hF:F.length<=7->∀f∈F,FcR f)(hFl:F.length<=maxLen)(hSl:S.length<=1000000)(o:Own)(st:St):TrF prog 49 [.sl .shared (F.map Fc.cells),.sl o (S.map Bl)] st λd st'=>d=.b (Mat.right S F)/\st'=st:=by
 have hFm:(F.map Fc.cells).length=F.length:=Ab ..
 have hSm:(S.map Bl).length=S.length:=Ab ..
 unfold Mat.right
 by_cases h7:F.length<=7
 . rw[decide_eq_true h7,AH]
   have hFc:=hMp Fc.cells F
   have hSc:Hid (∀(i:Nat) (v:Int),S[i]?=some v->(S.map Bl)[i]?=some [.i v]):=λi v h=>by rw[Aq,h];rfl
   have hFR:=Aa (hF h7)
   obtain⟨R,hR⟩:∃R,Mat.rightL S F F 0=R:=⟨_,rfl⟩
   have HR:Hid (Mat.rightL S F (F.drop 0) 0=R):=hR
   rw[hR]
   clear hR hF
   generalize F.map Fc.cells=FS at *
   generalize S.map Bl=SS at *
   refine Qin [4] func49 results49 ntmps49 ?_
   repeat' (first|refine QX ?_|(refine QB ?_;intro b)|refine QP ?_;intro o' ho'|(with_reducible refine QZ ?_<;>(try constructor)<;>intro hb<;>try intro hb1)|fail)
   refine Bs (ι:=Nat) (λi A st'=>i<=F.length/\Hid (Mat.rightL S F (F.drop i) i=R)/\A.df=[]/\A.e 0=.sl .shared FS/\A.e 1=.sl o SS/\A.e 5=.i i/\st'=st) (λi=>F.length - i) 0 ⟨Ao _,HR,Qf,Qf,Qf,Qf,rfl⟩ ?_
   clear HR
   rintro i A st' ⟨hi,HT,hdf,e0,e1,e5,rfl⟩
   by_cases hlt:i<F.length
   . obtain⟨f,hf⟩:=gEx hlt
     have hfc:=hFc.out i f hf
     have hfr:=hFR.out f (Ah hf)
     have HE:=HT.out
     rw[Mat.rightL_drop hf]at HE
     have hVm:(f.s.map V.cells).length=f.s.length:=Ab ..
     have hVc:=hMp V.cells f.s
     have hVr:Hid (∀x∈f.s,∀st,TrF prog 83 [.agg x.cells] st λd st'=>d=.b x.right/\st'=st):=λx hx st=>Zk x (hfr.v x hx).1 (hfr.v x hx).2.1 (hfr.v x hx).2.2 st
     have hfl:=hfr.l
     unfold maxLen at hfl
     rw[show f.cells=[.i f.id,.i f.time,.i f.tmpl,.i f.ver,.sl .shared (f.s.map V.cells)]from rfl]at hfc
     clear HT hFR hfr
     by_cases hh:Mat.headB S f=true
     . rw[hh,AH]at HE
       obtain⟨g1,g2,g3,g4⟩:=Mat.headB_iff.1 hh
       obtain⟨t,ht⟩:∃t:Nat,f.tmpl=t:=⟨f.tmpl.toNat,by omega⟩
       rw[ht]at g2 g3 g4 hfc
       rw[BR,AW,Al q_o,Hs]at g4
       have hsc:=hSc.out t _ (Al (by omega:t<S.length))
       rw[<-g4]at hsc
       clear hh hSc ht g4
       clear hf
       generalize f.s=vs at *
       generalize f.id=f0 at *
       generalize f.time=f1 at *
       generalize f.ver=f3 at *
       have HV:Hid (((vs.drop 0).all V.right && (!((F.take i).any λg=>g.id == f0) && Mat.rightL S F (F.drop (i+1)) (i+1)))=R):=HE
       clear HE
       generalize hVS:vs.map V.cells=VS at *
       repeat' (first|refine QV ?_|with_reducible refine DR ?_|((with_reducible refine QW ?_);intro hne;simp only[nes,ne1,and_assoc]at hne;repeat(have hq:=hne.1;replace hne:=hne.2))|refine QY ?_|(refine QB ?_;intro b)|refine QP ?_;intro o' ho'|(with_reducible refine QZ ?_<;>(try constructor)<;>intro hb<;>try intro hb1)|fail)
       refine DN (ι:=Nat) (λk A2 st2=>k<=vs.length/\Hid (((vs.drop k).all V.right && (!((F.take i).any λg=>g.id == f0) && Mat.rightL S F (F.drop (i+1)) (i+1)))=R)/\A2.df=[]/\A2.e 0=.sl .shared FS/\A2.e 1=.sl o SS/\A2.e 5=.i i/\A2.e 6=.ptr b 0/\A2.e 7=.i k/\st2=.box b 43 [.i f0,.i f1,.i t,.i f3,.sl .shared VS]::st') (λk=>vs.length - k) 0 ⟨Ao _,HV,Qf,Qf,Qf,Qf,Qf,Qf,rfl⟩ ?_
       clear HV hdf e0 e1 e5
       rintro k A2 st2 ⟨hk,HK,hdf,e0,e1,e5,e6,e7,rfl⟩
       by_cases hkl:k<vs.length
       . obtain⟨x,hx⟩:=gEx hkl
         have hxc:=hVc.out k x hx
         have hxr:=hVr.out x (Ah hx)
         have HE:=HK.out
         rw[V.drop_cons hx,Kq]at HE
         clear HK hVc hVr hFc hx
         cases x with
         | mk k1 n1 s1 l1 =>
         rw[V.cells_mk]at hxc hxr
         generalize l1.map V.cells=L1 at *
         cases hq:V.right (V.mk k1 n1 s1 l1)with
         | false =>
          rw[hq]at HE hxr
          have HE2:false=R:=HE
          subst HE2
          clear HE hq
          replace hxr:=Aa hxr
          repeat' (first|refine QX ?_|(refine QB ?_;intro b)|refine QP ?_;intro o' ho'|(with_reducible refine QZ ?_<;>(try constructor)<;>intro hb<;>try intro hb1)|refine Qc call83 ((hxr.out _)) ?_|fail)
          all_goals exact BZ
         | true =>
          rw[hq,AH]at HE
          rw[hq]at hxr
          clear hq
          replace hxr:=Aa hxr
          replace HE:=Aa HE
          repeat' (first|refine QX ?_|(refine QB ?_;intro b)|refine QP ?_;intro o' ho'|(with_reducible refine QZ ?_<;>(try constructor)<;>intro hb<;>try intro hb1)|refine Qc call83 ((hxr.out _)) ?_|fail)
          refine⟨k+1,⟨hkl,HE,?_,?_,?_,?_,?_,?_,rfl⟩,by omega⟩
          all_goals exact Qf
       . have HE:=HK.out
         rw[Az q_o,List.all_nil,AH]at HE
         have HW:Hid ((!((F.take i).any λg=>g.id == f0) && Mat.rightL S F (F.drop (i+1)) (i+1))=R):=HE
         have HN:Hid ((F.take 0).any (λg=>g.id == f0)=false):=rfl
         clear HE HK hVc hVr
         repeat' (first|refine QX ?_|(refine QB ?_;intro b)|refine QP ?_;intro o' ho'|(with_reducible refine QZ ?_<;>(try constructor)<;>intro hb<;>try intro hb1)|fail)
         refine DN (ι:=Nat) (λk A2 st2=>k<=i/\Hid ((F.take k).any (λg=>g.id == f0)=false)/\A2.df=[]/\A2.e 0=.sl .shared FS/\A2.e 1=.sl o SS/\A2.e 5=.i i/\A2.e 6=.ptr b 0/\A2.e 8=.i k/\st2=.box b 43 [.i f0,.i f1,.i t,.i f3,.sl .shared VS]::st') (λk=>i - k) 0 ⟨Ao _,HN,Qf,Qf,Qf,Qf,Qf,Qf,rfl⟩ ?_
         clear HN hdf e0 e1 e5 e6 e7
         rintro j A3 st3 ⟨hj,HJ,hdf,e0,e1,e5,e6,e8,rfl⟩
         by_cases hjl:j<i
         . obtain⟨g,hg⟩:=gEx (l:=F) (i:=j) q_o
           have hgc:=hFc.out j g hg
           rw[show g.cells=[.i g.id,.i g.time,.i g.tmpl,.i g.ver,.sl .shared (g.s.map V.cells)]from rfl]at hgc
           have hta:(F.take (j+1)).any (λg=>g.id == f0)=(g.id == f0):=by
            rw[Bk,hg,Bw,List.any_append,HJ.out,Bu,VV,Gv,Fh]
           have hmi:g.id=f0->(F.take i).any (λg=>g.id == f0)=true:=λh=>List.any_eq_true.2 ⟨g,Ah (i:=j) (by rw[Dq,if_pos hjl];exact hg),beq_iff_eq.2 h⟩
           by_cases hid:g.id=f0
           . have HE:=HW.out
             rw[hmi hid]at HE
             have HE2:false=R:=HE
             subst HE2 hid
             clear HE HW HJ hFc hta hmi hg
             generalize g.id=g0 at *
             generalize g.time=g1 at *
             generalize g.tmpl=g2 at *
             generalize g.ver=g3 at *
             generalize g.s.map V.cells=GS at *
             repeat' (first|refine QV ?_|((with_reducible refine QW ?_);intro hne;simp only[nes,ne1,and_assoc]at hne;repeat(have hq:=hne.1;replace hne:=hne.2))|refine QY ?_|(refine QB ?_;intro b)|refine QP ?_;intro o' ho'|(with_reducible refine QZ ?_<;>(try constructor)<;>intro hb<;>try intro hb1)|fail)
             all_goals exact BZ
           . have HJ2:Hid ((F.take (j+1)).any (λg=>g.id == f0)=false):=Aa (by rw[hta];exact beq_eq_false_iff_ne.2 hid)
             clear HJ hFc hta hmi hg HW
             generalize g.id=g0 at *
             generalize g.time=g1 at *
             generalize g.tmpl=g2 at *
             generalize g.ver=g3 at *
             generalize g.s.map V.cells=GS at *
             repeat' (first|refine QV ?_|((with_reducible refine QW ?_);intro hne;simp only[nes,ne1,and_assoc]at hne;repeat(have hq:=hne.1;replace hne:=hne.2))|refine QY ?_|(refine QB ?_;intro b)|refine QP ?_;intro o' ho'|(with_reducible refine QZ ?_<;>(try constructor)<;>intro hb<;>try intro hb1)|fail)
             refine⟨j+1,⟨hjl,HJ2,?_,?_,?_,?_,?_,?_,rfl⟩,by omega⟩
             all_goals exact Qf
         . have hji:j=i:=by omega
           subst hji
           have HE:=HW.out
           rw[HJ.out]at HE
           have HE2:Hid (Mat.rightL S F (F.drop (j+1)) (j+1)=R):=HE
           clear HE HW HJ hFc
           repeat' (first|refine QX ?_|(refine QB ?_;intro b)|refine QP ?_;intro o' ho'|(with_reducible refine QZ ?_<;>(try constructor)<;>intro hb<;>try intro hb1)|fail)
           refine⟨j+1,st',q_t,⟨hlt,HE2,?_,?_,?_,?_,rfl⟩,by omega⟩
           all_goals exact Qf
     . rw[Bool.eq_false_iff.2 hh,Aw]at HE
       subst HE
       have hh2:¬(1<=f.id/\0<=f.tmpl/\f.tmpl<S.length/\(f.s.length:Int)=S.getD f.tmpl.toNat 0):=λh=>hh (Mat.headB_iff.2 h)
       clear hh hVc hVr hFc hf
       by_cases ht:0<=f.tmpl/\f.tmpl<S.length
       . obtain⟨t,htt⟩:∃t:Nat,f.tmpl=t:=⟨f.tmpl.toNat,by omega⟩
         rw[htt]at hfc ht hh2
         rw[BR,AW,Al q_o,Hs]at hh2
         have hsc:=hSc.out t _ (Al (by omega:t<S.length))
         generalize S[t]=sv at *
         clear hSc htt
         generalize f.id=f0 at *
         generalize f.time=f1 at *
         generalize f.ver=f3 at *
         generalize f.s.map V.cells=VS at *
         generalize f.s.length=n at *
         repeat' (first|refine QV ?_|with_reducible refine DR ?_|((with_reducible refine QW ?_);intro hne;simp only[nes,ne1,and_assoc]at hne;repeat(have hq:=hne.1;replace hne:=hne.2))|refine QY ?_|(refine QB ?_;intro b)|refine QP ?_;intro o' ho'|(with_reducible refine QZ ?_<;>(try constructor)<;>intro hb<;>try intro hb1)|fail)
         all_goals exact BZ
       . clear hSc
         generalize f.id=f0 at *
         generalize f.time=f1 at *
         generalize f.ver=f3 at *
         generalize f.tmpl=f2 at *
         generalize f.s.map V.cells=VS at *
         clear hh2
         repeat' (first|refine QV ?_|with_reducible refine DR ?_|((with_reducible refine QW ?_);intro hne;simp only[nes,ne1,and_assoc]at hne;repeat(have hq:=hne.1;replace hne:=hne.2))|refine QY ?_|(refine QB ?_;intro b)|refine QP ?_;intro o' ho'|(with_reducible refine QZ ?_<;>(try constructor)<;>intro hb<;>try intro hb1)|fail)
         all_goals exact BZ
   . have HE:=HT.out
     rw[Az q_o,Mat.rightL]at HE
     subst HE
     clear HT hFc hSc hFR
     exact WRa
 . rw[decide_eq_false h7,Aw]
   generalize F.map Fc.cells=FS at *
   generalize S.map Bl=SS at *
   clear hF
   refine Qin [4] func49 results49 ntmps49 ?_
   exact WRa
end
namespace Mat
theorem Py{F:List Fc}:∀(ps:List Pt) (ids:List Int) (env:List V),∀y∈from_ F ps ids env,y.1.length<=ids.length+ps.length
|[],ids,env,y,hy=>by
  rw[from_,AB]at hy
  subst hy
  exact Ap _
|p::ps,ids,env,y,hy=>by
  rw[from_]at hy
  split at hy
  . split at hy
    . have:=Py ps ids env y hy
      rw[An];omega
    . cases hy
  . obtain⟨q, -,h⟩:=Dx.1 hy
    have:=Py ps _ _ y h
    rw[Ad,BE]at this
    rw[An];omega
theorem mats_len{x:Rl}{F:List Fc}{y:List Int×List V}(hy:y∈mats x F):y.1.length<=x.pats.length:=by
 have:=Py x.pats [] empty y hy
 simpa using this
def envP (x:Rl)(F:List Fc)(ids:List Int):Option (List V):=((mats x F).find? λy=>decide (y.1=ids)).map Prod.snd
end Mat
def gh:Option (List V)->D
|some e=>.tup [.sl .shared (e.map V.cells),.b true]
|none=>.tup [.sl .tight [],.b false]
theorem af{α:Type}{p:α->Bool}{L:List α}{i:Nat}{y:α}(h:L[i]?=some y)(h1:∀x∈L.take i,p x=false)(h2:p y=true):L.find? p=some y:=by
 rw[<-Bv i L,V.drop_cons h,List.find?_append,Dr.2 λx hx=>by rw[h1 x hx];exact AJ,Option.none_or,GA,h2]
end
end Go.Proofs.YtoeidpmjifjplaaGreat
section
namespace Go.Proofs
open Go.Shelf
def Tryz.sortMatch_ren:Go.Shelf.Ren:=⟨fun|6=>57|15=>93|14=>92|28=>137|29=>138|20=>129|21=>130|22=>131|23=>132|24=>133|25=>134|26=>135|27=>136|46=>167|47=>168|48=>169|49=>170|50=>171|57=>194|n=>n,fun|22=>48|24=>52|25=>94|3=>3|39=>161|0=>0|53=>210|55=>212|4=>4|46=>204|45=>203|50=>168|5=>5|9=>9|66=>240|70=>244|76=>260|77=>261|n=>n,fun|n=>n⟩
theorem Tryz.sortMatch:Go.Proofs.SlLaysF0.n6 Tryz.prog Tryz.sortMatch_ren:={
 mixed:=by kernel_rfl
 f6:=⟨Tryz.f57.name,by decide,Tryz.func57.trans (congrArg some (by kernel_rfl))⟩
 f14:=⟨Tryz.f92.name,by decide,Tryz.func92.trans (congrArg some (by kernel_rfl))⟩
 f15:=Tryz.func93.trans (congrArg some (by kernel_rfl))
 f20:=⟨Tryz.f129.name,by decide,Tryz.func129.trans (congrArg some (by kernel_rfl))⟩
 f21:=⟨Tryz.f130.name,by decide,Tryz.func130.trans (congrArg some (by kernel_rfl))⟩
 f22:=⟨Tryz.f131.name,by decide,Tryz.func131.trans (congrArg some (by kernel_rfl))⟩
 f23:=⟨Tryz.f132.name,by decide,Tryz.func132.trans (congrArg some (by kernel_rfl))⟩
 f24:=⟨Tryz.f133.name,by decide,Tryz.func133.trans (congrArg some (by kernel_rfl))⟩
 f25:=⟨Tryz.f134.name,by decide,Tryz.func134.trans (congrArg some (by kernel_rfl))⟩
 f26:=⟨Tryz.f135.name,by decide,Tryz.func135.trans (congrArg some (by kernel_rfl))⟩
 f27:=⟨Tryz.f136.name,by decide,Tryz.func136.trans (congrArg some (by kernel_rfl))⟩
 f28:=Tryz.func137.trans (congrArg some (by kernel_rfl))
 f29:=Tryz.func138.trans (congrArg some (by kernel_rfl))
 f46:=⟨Tryz.f167.name,by decide,Tryz.func167.trans (congrArg some (by kernel_rfl))⟩
 f47:=Tryz.func168.trans (congrArg some (by kernel_rfl))
 f48:=Tryz.func169.trans (congrArg some (by kernel_rfl))
 f49:=⟨Tryz.f170.name,by decide,Tryz.func170.trans (congrArg some (by kernel_rfl))⟩
 f50:=⟨Tryz.f171.name,by decide,Tryz.func171.trans (congrArg some (by kernel_rfl))⟩
 f57:=⟨Tryz.f194.name,by decide,Tryz.func194.trans (congrArg some (by kernel_rfl))⟩
 t0:=Tryz.underlying0
 a0:=Tryz.isAgg0
 z0:=Tryz.sizeOf0
 v0:=Tryz.zeroValue0
 t3:=Tryz.underlying3
 a3:=Tryz.isAgg3
 z3:=Tryz.sizeOf3
 v3:=Tryz.zeroValue3
 t4:=Tryz.underlying4
 a4:=Tryz.isAgg4
 z4:=Tryz.sizeOf4
 v4:=Tryz.zeroValue4
 t5:=Tryz.underlying5
 a5:=Tryz.isAgg5
 z5:=Tryz.sizeOf5
 v5:=Tryz.zeroValue5
 t9:=Tryz.underlying9
 a9:=Tryz.isAgg9
 z9:=Tryz.sizeOf9
 v9:=Tryz.zeroValue9
 t22:=Tryz.underlying48
 a22:=Tryz.isAgg48
 z22:=Tryz.sizeOf48
 v22:=Tryz.zeroValue48
 t25:=Tryz.underlying94
 a25:=Tryz.isAgg94
 z25:=Tryz.sizeOf94
 v25:=Tryz.zeroValue94
 t39:=Tryz.underlying161
 a39:=Tryz.isAgg161
 z39:=Tryz.sizeOf161
 v39:=Tryz.zeroValue161
 t45:=Tryz.underlying203
 a45:=Tryz.isAgg203
 z45:=Tryz.sizeOf203
 v45:=Tryz.zeroValue203
 t46:=Tryz.underlying204
 a46:=Tryz.isAgg204
 z46:=Tryz.sizeOf204
 v46:=Tryz.zeroValue204
 t50:=Tryz.underlying168
 a50:=Tryz.isAgg168
 z50:=Tryz.sizeOf168
 v50:=Tryz.zeroValue168
 t53:=Tryz.underlying210
 a53:=Tryz.isAgg210
 z53:=Tryz.sizeOf210
 v53:=Tryz.zeroValue210
 t55:=Tryz.underlying212
 a55:=Tryz.isAgg212
 z55:=Tryz.sizeOf212
 v55:=Tryz.zeroValue212
 t66:=Tryz.underlying240
 a66:=Tryz.isAgg240
 z66:=Tryz.sizeOf240
 v66:=Tryz.zeroValue240
 t70:=Tryz.underlying244
 a70:=Tryz.isAgg244
 z70:=Tryz.sizeOf244
 v70:=Tryz.zeroValue244
 t76:=Tryz.underlying260
 a76:=Tryz.isAgg260
 z76:=Tryz.sizeOf260
 v76:=Tryz.zeroValue260
 t77:=Tryz.underlying261
 a77:=Tryz.isAgg261
 z77:=Tryz.sizeOf261
 v77:=Tryz.zeroValue261}
end Go.Proofs
end
namespace Go.Proofs.YtoeidpmjifjplaaGreat
open Go.RowKit Tryz
section
open Go.RowKit Go.Sort
def DS (l:List Mt):List D:=(l.map Mt.cells).flatten
theorem Np(l:List Mt):∀e∈l.map Mt.cells,e.length=2:=λe he=>by
 obtain⟨x, -,rfl⟩:=Av.1 he
 rfl
theorem GG(l:List Mt):(DS l).length=l.length*2:=by
 unfold DS
 rw[DQ (Np l),Ab]
theorem MN{W w':World}(h:Ext (OwnS []) W (OwnS []) w'):∃q os',w'=grow (W.drewN q) os':=by
 refine⟨w'.drawn - W.drawn,w'.heap.extract W.heap.size w'.heap.size,?_⟩
 have hd:=h.dr
 have ho:=h.os
 have ht:=h.tape
 have hu:=h.output
 have hs:=h.size
 have hb:=h.block
 obtain⟨heap',tape',drawn',os',output'⟩:=w'
 obtain⟨heap,tape,drawn,os,output⟩:=W
 unfold grow World.drewN
 dsimp only at *
 subst ho ht hu
 have hheap:heap'=heap++heap'.extract heap.size heap'.size:=by
  apply Array.ext_getElem?
  intro i
  rcases Dv i heap.size with hi|hi
  . rw[Cq hi]
    exact hb i hi λoff=>OwnS.nil i off
  . rw[GO hi,Array.getElem?_extract]
    split
    . congr 1;omega
    . rw[Ee q_o]
 rw[<-hheap]
 congr 1
 omega
structure Cell (O:Nat->Nat->Prop)(w:World) where
 v1:Value
 v2:Value
 m:Mt
 h1:v1=.int .i64 m.rule
 h2:Rep O w v2 (.sl .shared (m.ids.map Bl))
 hl:m.ids.length<=1000000
def Cell.enc {O:Nat->Nat->Prop}{w:World}(c:Cell O w):List Value:=[c.v1,c.v2]
theorem VH{O:Nat->Nat->Prop}{w:World}:∀{l:List Mt} {us:List Value},RepL O w us (DS l)->(∀m∈l,m.ids.length<=1000000)->∃cs:List (Cell O w),cs.map Cell.m=l/\(cs.map Cell.enc).flatten=us
|[],us,h,_=>by
  obtain rfl:=h.inv_nil
  exact⟨[],rfl,rfl⟩
|m::l,us,h,hl=>by
  have e:DS (m::l)=.i m.rule::.sl .shared (m.ids.map Bl)::DS l:=by
   unfold DS
   rw[Au,AL]
   rfl
  rw[e]at h
  obtain⟨u,t,rfl,q1,q2⟩:=h.inv_cons
  obtain⟨u2,t2,rfl,q3,q4⟩:=q2.inv_cons
  obtain⟨cs,k1,k2⟩:=VH q4 λx hx=>hl x (Ae _ hx)
  refine⟨⟨u,u2,m,DI q1,q3,hl m (Ag ..)⟩::cs,by rw[Au,k1],?_⟩
  rw[Au,AL,k2]
  rfl
theorem gj{O:Nat->Nat->Prop}{w:World}(c:Cell O w):c.enc.length=2:=rfl
theorem Sw{O:Nat->Nat->Prop}{w:World}:∀(cs:List (Cell O w)) (t:Nat),((cs.map Cell.enc).flatten)[t]?=(cs[t / 2]?).bind λc=>c.enc[t % 2]?
|[],t=>by simp
|c::cs,0=>rfl
|c::cs,1=>rfl
|c::cs,t+2=>by
  have h1:(t+2) / 2=t / 2+1:=by omega
  have h2:(t+2) % 2=t % 2:=by omega
  rw[h1,h2,Bq,Au,AL]
  have:=Sw cs t
  rw[<-this]
  rfl
theorem PF{O:Nat->Nat->Prop}{w:World}[Inhabited (Cell O w)](cs:List (Cell O w)):(flatK Cell.enc 2 cs.toArray).toList=(cs.map Cell.enc).flatten:=by
 apply Cx
 intro t
 rw[Sw]
 by_cases ht:t<cs.length*2
 . have hs:t<(flatK Cell.enc 2 cs.toArray).size:=by rw[size_flatK];simpa using ht
   have h1:=get_flatK Cell.enc 2 cs.toArray t (by simpa using ht)
   rw[getElem!_pos _ t hs]at h1
   rw[BF,Be hs,h1]
   have h2:t / 2<cs.length:=by omega
   rw[Al h2,BS,getElem!_pos _ (t / 2) (by simpa using h2)]
   have h3:t % 2<(cs[t / 2]).enc.length:=by rw[gj];omega
   simp only[oT]
   rw[getElem!_pos _ (t % 2) h3,Al h3]
 . rw[Bz (l:=cs) q_o,BF,Ee (by rw[size_flatK];simp;omega)]
   rfl
theorem Sv{O:Nat->Nat->Prop}{w:World}:∀cs:List (Cell O w),RepL O w (cs.map Cell.enc).flatten (DS (cs.map Cell.m))
|[]=>RepL.nil
|c::cs=>by
  have e:DS ((c::cs).map Cell.m)=.i c.m.rule::.sl .shared (c.m.ids.map Bl)::DS (cs.map Cell.m):=by
   unfold DS
   rw[Au,Au,AL]
   rfl
  rw[e,Au,AL]
  show RepL O w (c.v1::c.v2::(cs.map Cell.enc).flatten) _
  refine RepL.cons ?_ (RepL.cons c.h2 (Sv cs))
  rw[c.h1]
  exact .s _ rfl
theorem Zd(l:List Mt):∀d∈DS l,d.leaf=true:=by
 intro d hd
 obtain⟨e,he,hd⟩:=Ht.1 hd
 obtain⟨m, -,rfl⟩:=Av.1 he
 unfold Mt.cells at hd
 rcases Ax.1 hd with rfl|hd
 . rfl
 . rw[AB]at hd
   subst hd
   rfl
theorem ltM{O:Nat->Nat->Prop}{w:World}(x y:Cell O w):ltOf (λx y:Cell O w=>Mat.ord x.m y.m) x y=Mat.less x.m y.m:=rfl
theorem m7(O:Nat->Nat->Prop)(w:World):SWO (ltOf (λx y:Cell O w=>Mat.ord x.m y.m)) where
 irrefl x:=by rw[ltM];unfold Mat.less;rw[Mat.ord_self];rfl
 trans x y z h1 h2:=by
  rw[ltM]at *
  unfold Mat.less at *
  exact decide_eq_true (Mat.ord_trans (of_decide_eq_true h1) (of_decide_eq_true h2))
 ntrans x y z h1 h2:=by
  rw[ltM]at *
  exact Mat.not_less.2 (Mat.le_trans (Mat.not_less.1 h2) (Mat.not_less.1 h1))
theorem Pw(O:Nat->Nat->Prop)(w:World)(os:Array Obj):Ext O w O (grow w os) :=
 ⟨Ap _,rfl,rfl,rfl,by show w.heap.size<=(w.heap++os).size;rw[Array.size_append];exact Fj _ _,λ_ _ _ h=>h,λb hb _=>by show(w.heap++os)[b]?=_;rw[Cq hb],λb c E fr h=>⟨c,fr,by show(w.heap++os)[b]?=_;rw[Cq (AE.1 h).1];exact h,rfl,λ_ _=>rfl⟩⟩
theorem Pv{st:St}{w:World}(h:Holds st w)(os:Array Obj):Holds st (grow w os):=h.keep (Pw _ w os) λb hb=>by show(w.heap++os)[b]?=_;rw[Cq hb]
theorem Uc{g:Nat}{ty:TypeId}{cs:List D}{st:St}{w:World}{us:Array Value}(hb:w.heap[g]?=some (.cells us ty (0,0)))(m:Nat)(F:Array Value)(os:Array Obj):Ext (OwnS (.box g ty cs::st)) w (OwnS []) (grow (Sort.putRow id (Sort.ahead w m) g 0 F) os):=by
 have hown:∀off,OwnS (.box g ty cs::st) g off:=λoff=>OwnS.cons_iff.2 (.inl ⟨rfl,Ao _⟩)
 have hat:∀b,b<w.heap.size->b≠g->(grow (Sort.putRow id (Sort.ahead w m) g 0 F) os).heap[b]?=w.heap[b]?:=λb hl hn=>by
  unfold grow Sort.putRow Sort.mapBlock Sort.ahead
  dsimp only
  rw[Cq (by rw[aK];exact hl),Di,if_neg (LA hn)]
 have hg:(grow (Sort.putRow id (Sort.ahead w m) g 0 F) os).heap[g]?=some (.cells (Sort.putCells id 0 F us) ty (0,0)):=by
  have hl:=(AE.1 hb).1
  unfold grow Sort.putRow Sort.mapBlock Sort.ahead
  dsimp only
  rw[Cq (by rw[aK];exact hl),Di,if_pos rfl,hb]
  rfl
 refine⟨Fj _ _,rfl,rfl,rfl,?_,λb off _ h=>absurd h (OwnS.nil b off),λb hl hno=>?_,λb c E fr hc=>?_⟩
 . unfold grow Sort.putRow Sort.mapBlock Sort.ahead
   dsimp only
   rw[Array.size_append,aK]
   exact Fj _ _
 . exact hat b hl λe=>hno 0 (e▸hown 0)
 . by_cases e:b=g
   . subst e
     rw[hb]at hc
     cases hc
     exact⟨_,_,hg,by simp[Sort.putCells],λoff hno=>absurd (hown off) hno⟩
   . exact⟨c,fr,(hat b (AE.1 hc).1 e).trans hc,rfl,λ_ _=>rfl⟩
end
section
attribute [local push_cast] Br Bl BV V.cells_mk V.cells_len Nat.mul_one Int.sub_zero List.map_nil beq_self_eq_true bne_self_eq_false List.head?_cons Bool.not_true Bool.not_false Nat.zero_add
namespace Mat
theorem raws_drop{f:Rl->List (List Int)}{R:List Rl}{i:Nat}{x:Rl}(h:R[i]?=some x):flatR f (R.drop i) i=(f x).map (Mt.mk i)++flatR f (R.drop (i+1)) (i+1:Nat):=by
 rw[V.drop_cons h,flatR];rfl
def sortM (l:List Mt):List Mt:=l.foldl ins []
theorem sortM_srt(l:List Mt):Srt (sortM l)/\(sortM l).Perm l:=by
 have h:=Vq l [] List.Pairwise.nil
 rw[AY]at h
 exact h
theorem sortM_eq{l m:List Mt}(h1:m.Perm l)(h2:Srt m):m=sortM l:=We h2 (sortM_srt l).1 (h1.trans (sortM_srt l).2.symm)
end Mat
def OutS (b5:Nat)(acc:List Mt)(rest st':St):Prop:=(acc=[]/\st'=.box b5 48 [.sl .tight []]::rest)\/(acc≠[]/\∃g cap zs,(DS acc++zs).length=cap*2/\st'=.box b5 48 [.ar g 0 acc.length cap]::.box g 52 (DS acc++zs)::rest)
theorem Ur(l:List Mt)(m:Mt):DS (l++[m])=DS l++[m.cells].flatten:=by
 unfold DS
 rw[Bi,CW]
 rfl
def AllRaw (L:List Mt)(st:St)(d:D)(st':St):Prop:=(L=[]/\d=.sl .tight []/\st'=st)\/(L≠[]/\∃g cap zs,d=.ar g 0 L.length cap/\st'=.box g 52 (DS (Mat.sortM L)++zs)::st)
theorem perm_in2{a b:Res}{M s:St}:(a::b::(M++s)).Perm (M++(a::b::s)):=by
 have h:([a,b]++(M++s)).Perm (M++([a,b]++s)):=by
  rw[<-Ai,<-Ai]
  exact Bm.append_right s
 exact h
theorem Ha{ts:List Tmp}{R:D->St->Prop}{ex:Exit}{A:AA}{X:D}{st st0 s2:St}{rs:List Nat}(hex:ex=.normal\/ex=.ret)(hdf:A.df=rs.map Fx)(hp:st.Perm (rs.map BK++s2))(hs:st0.Sublist s2)(hd:LE (OY ts A.e) X)(hR:R X st0):Ut ts R ex A st:=by
 rcases hex with rfl|rfl<;>exact⟨rs,X,s2,st0,hdf,hp,hs,hd,hR⟩
end
section
attribute [local push_cast] Br Bl BV V.cells_mk V.cells_len Nat.mul_one Int.sub_zero List.map_nil beq_self_eq_true bne_self_eq_false List.head?_cons
namespace Rul
theorem slots_in{L:List Tm}{k:Nat}{t:Tm}(h:L[k]?=some t):slots L (k:Int)=(Sch.verX t (Sch.last t)).slots:=by
 have:=(Af.1 h).1
 unfold slots
 rw[if_pos ⟨by omega,by omega⟩,BR,h]
theorem slots_out{L:List Tm}{k:Int}(h:¬(0<=k/\k<L.length)):slots L k=[]:=if_neg h
end Rul
theorem JV(L:List Tm)(hL:∀t∈L,TOk t)(hl:L.length<=1000000)(k:Int)(st:St):TrF prog 48 [.sl .shared (L.map Tm.cells),.i k] st λd st'=>d=.sl .shared ((Rul.slots L k).map Sl.cells)/\st'=st:=by
 have hm:(L.map Tm.cells).length=L.length:=Ab ..
 by_cases hk:0<=k/\k<L.length
 . obtain⟨n,rfl⟩:∃n:Nat,(n:Int)=k:=⟨k.toNat,Ih hk.1⟩
   obtain⟨t,ht⟩:=gEx (l:=L) (i:=n) q_o
   have hc:(L.map Tm.cells)[n]?=some t.cells:=by rw[Aq,ht];rfl
   have hLa:=Ug t (hL t (Ah ht))
   have hAt:=iL t (hL t (Ah ht)) (Sch.last t)
   rw[Rul.slots_in ht]
   clear hL ht
   generalize L.map Tm.cells=LS at *
   generalize Sch.verX t (Sch.last t)=x at *
   generalize Sch.verB t (Sch.last t)=xb at *
   generalize Sch.last t=la at *
   unfold Vr.cells at hAt
   generalize x.slots.map Sl.cells=X1 at *
   generalize x.cols.map BV=X2 at *
   unfold Tm.cells at *
   generalize t.slots.map Sl.cells=SL at *
   generalize t.steps.map Stp.cells=TL at *
   generalize t.name=nm at *
   replace hLa:=Aa hLa
   replace hAt:=Aa hAt
   obtain⟨hk1,hk2⟩:=hk
   refine Qin [4] func48 results48 ntmps48 ?_
   repeat' (first|refine QV ?_|((with_reducible apply(ei (.node [0,1,2,3,4,5,6,7] 13 8 (.node [8] 13 9 (.leaf [9,10,11,12,13,14,15]) (.leaf [13,9,10,11,12,14,15])) (.leaf [13,8,9,10,11,12,14,15])) 16));rfl;(iterate 3 kernel_rfl);(focus(simp only[Plan.lists,Gy,BB,Bq];exact rfl));intro hne;(try simp only[nes,ne1,and_assoc]at hne);(repeat(have hq:=hne.1;replace hne:=hne.2));simp only[wPL])|with_reducible refine gx ?_ ?_|refine QY ?_|refine QB ?_;intro b|with_reducible refine QZ ?_<;>(try constructor)<;>intro hb<;>try intro hb1|fail)
   all_goals exact BZ
 . rw[Rul.slots_out hk]
   generalize L.map Tm.cells=LS at *
   by_cases h0:k<0
   . refine Qin [4] func48 results48 ntmps48 ?_
     exact WR
   . have h1:(L.length:Int)<=k:=by omega
     refine Qin [4] func48 results48 ntmps48 ?_
     exact WR
namespace Rul
end Rul
end
end Go.Proofs.YtoeidpmjifjplaaGreat
