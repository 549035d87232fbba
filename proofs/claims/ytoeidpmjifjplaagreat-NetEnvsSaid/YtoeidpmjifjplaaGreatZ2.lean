/- Texts put together. No statement is proved here. -/
import Derived.OrdersIn
import Derived.RangeFuncIn
import Derived.Laws.IdiomStrings
import Derived.Laws.Small
import Derived.Laws.Cover3
import Derived.Still
import Derived.Deep.Quiet
import Derived.Test.YtoeidpmjifjplaaGreatZ1
set_option linter.all false
set_option maxRecDepth 10000
set_option maxHeartbeats 8000000
namespace Go.Proofs.YtoeidpmjifjplaaGreat
open Go.RowKit
section
abbrev FR (r:Option Nat):Fence:={fn:=λ_=>True,depth:=none,alive:=false,round:=r}
structure AA where
 e:Nat->D
 df:List Deferred
def upd (e:Nat->D)(dst:Option Tmp)(d:D):Nat->D :=
 match dst with
|none=>e
|some t=>fun i=>if i=t then d else e i
def AA.put (A:AA)(dst:Option Tmp)(d:D):AA:={A with e:=upd A.e dst d}
def RelA (N:Nat)(O:Nat->Nat->Prop)(w:World)(a:Act)(A:AA):Prop:=a.tmps.size=N/\a.defers=A.df/\∀t,Rep O w (a.tmps.getD t undef) (A.e t)
def JH (N:Nat)(dst:Option Tmp):Bool:=match dst with|none=>true|some t=>decide (t<N)
section
variable {N:Nat} {O O':Nat->Nat->Prop} {w w':World} {a:Act} {A:AA}
theorem RelA.ext(h:RelA N O w a A)(he:Ext O w O' w'):RelA N O' w' a A:=⟨h.1,h.2.1,λt=>(h.2.2 t).ext he⟩
theorem RelA.put(h:RelA N O w a A){dst:Option Tmp}(hd:JH N dst=true){v:Value}{d:D}(hr:Rep O w v d):RelA N O w (a.put dst v) (A.put dst d):=by
 cases dst with
|none=>exact h
|some t =>
  have ht:t<N:=by simpa [JH]using hd
  refine⟨by simpa [Act.put]using h.1,h.2.1,λi=>?_⟩
  show Rep O w ((a.tmps.setIfInBounds t v).getD i undef) (if i=t then d else A.e i)
  by_cases hi:i=t
  . subst hi
    rw[if_pos rfl]
    simp[Array.getD,h.1,ht]
    exact hr
  . rw[if_neg hi]
    have:(a.tmps.setIfInBounds t v).getD i undef=a.tmps.getD i undef:=by
     simp only[Cv]
     rw[Array.getElem?_setIfInBounds_ne (LA hi)]
    rw[this]
    exact h.2.2 i
end
def Dm:Value->D
|.slice none 0 0=>.sl .tight []
|v=>.s v
def Tz:Value->Option D
|.agg cs=>if cs.all GI then some (.agg (cs.toList.map Dm))else none
|.tuple cs=>if cs=#[]then some D.un else none
|v=>some (Dm v)
def ev (e:Nat->D):Operand->Option D
|.tmp t=>some (e t)
|.const v=>Tz v
|.func f=>some (.fn (.func f) [] [])
|.global _=>none
theorem Lg{O:Nat->Nat->Prop}{w:World}{v:Value}(h:GI v=true):Rep O w v (Dm v):=by
 unfold Dm
 split
 . exact .sl .tight [] none 0 [] 1 (Ap _) (Ao _) (λ_=>rfl) (Ge _) (λe h=>by cases h) rfl (λd h=>by simp at h) (λi h=>absurd h (BL _)) (λi h=>absurd h (BL _)) rfl
 . exact .s v h
theorem Xa{O:Nat->Nat->Prop}{w:World}{v:Value}{d:D}(h:Tz v=some d):Rep O w v d:=by
 unfold Tz at h
 split at h
 . rename_i cs
   split at h
   . rename_i hall
     cases h
     have:=aL.1 hall
     have hr:=RepL.map (O:=O) (w:=w) (l:=cs.toList) (f:=id) (g:=Dm) (λx hx=>Lg (this x (by simpa using hx)))
     rw[ee]at hr
     have:=Rep.agg (O:=O) (w:=w) cs.toList (cs.toList.map Dm) hr.1 hr.2
     simpa using this
   . cases h
 . rename_i cs
   split at h
   . rename_i hc
     cases h
     subst hc
     exact .s undef rfl
   . cases h
 . cases h
   refine Lg ?_
   cases v<;>first|rfl|simp_all
theorem PJ{N:Nat}{O:Nat->Nat->Prop}{w:World}{a:Act}{A:AA}(h:RelA N O w a A){x:Operand}{d:D}(hx:ev A.e x=some d):Rep O w (a.eval x) d:=by
 cases x with
|tmp t=>cases hx;exact h.2.2 t
|const v=>exact Xa hx
|func f=>cases hx;exact .fn (.func f) [] [] [] [] rfl rfl (λi h=>absurd h (BL _)) (λi h=>absurd h (BL _))
|global g=>cases hx
structure RepE (e:Nat->D)(O:Nat->Nat->Prop)(w:World)(ρ:Operand->Value)(S:Array Operand):Prop where
 rep:∀x∈S,∀d,ev e x=some d->Rep O w (ρ x) d
 cst:∀v,ρ (.const v)=v
instance {e:Nat->D}{O:Nat->Nat->Prop}{w:World}{ρ:Operand->Value}{S:Array Operand}:CoeFun (RepE e O w ρ S) λ_=>∀x∈S,∀d,ev e x=some d->Rep O w (ρ x) d:=⟨RepE.rep⟩
theorem RelA.repE{N:Nat}{O:Nat->Nat->Prop}{w:World}{a:Act}{A:AA}(h:RelA N O w a A)(S:Array Operand):RepE A.e O w a.eval S:=⟨λ_ _ _ hx=>PJ h hx,λ_=>rfl⟩
def OpY (P:Program)(o:Oper)(e:Nat->D)(st:St)(d:D):Prop :=
 ∀ρ w,RepE e (OwnS st) w ρ o.op.operands->Holds st w->∃v w',(execOp ρ o).run P w=.ok (.value v) w'/\Rep (OwnS st) w' v d/\Holds st w'/\Ext (OwnS st) w (OwnS st) w'
def PostV (st:St)(w:World)(K:D->St->Prop)(v:Value)(w':World):Prop:=∃d st',Rep (OwnS st') w' v d/\Holds st' w'/\Ext (OwnS st) w (OwnS st') w'/\K d st'
def ResC (F:Fence)(P:Program)(K:Value->World->Prop):Result Next->Prop
|.ok (.value v) w'=>K v w'
|.ok .skip w'=>K undef w'
|.ok (.enter f args) w'=>CallsIn F 0 P f args w' λe w''=>∃v,e=.returned v/\K v w''
|.ok (.round l f tmps assign body) w'=>RoundIn F 0 P l f tmps assign body w' λe w''=>∃v,e=.returned v/\K v w''
|_=>False
theorem ResC.mono{F:Fence}{P:Program}{K K':Value->World->Prop}(h:∀v w,K v w->K' v w):∀{r:Result Next},ResC F P K r->ResC F P K' r
|.ok n w',hh=>by
  cases n<;>simp only[ResC]at hh |-
  case value v=>exact h _ _ hh
  case skip=>exact h _ _ hh
  case enter f args=>exact hh.mono λe w'' ⟨v,he,hk⟩=>⟨v,he,h _ _ hk⟩
  case round l f tmps assign body=>exact hh.mono λe w'' ⟨v,he,hk⟩=>⟨v,he,h _ _ hk⟩
|.halt x w',hh=>by simp only[ResC]at hh
def OpC (P:Program)(r:Option Nat)(o:Oper)(e:Nat->D)(st:St)(K:D->St->Prop):Prop :=
 ∀ρ w,RepE e (OwnS st) w ρ o.op.operands->Holds st w->ResC (FR r) P (PostV st w K) ((o.semAt r ρ).run P w)
theorem PostV.mono{st:St}{w:World}{K K':D->St->Prop}(h:∀d st',K d st'->K' d st'){v:Value}{w':World}:PostV st w K v w'->PostV st w K' v w'
|⟨d,st',h1,h2,h3,h4⟩=>⟨d,st',h1,h2,h3,h _ _ h4⟩
theorem OpC.mono{P:Program}{r:Option Nat}{o:Oper}{e:Nat->D}{st:St}{K K':D->St->Prop}(h:OpC P r o e st K)(hk:∀d st',K d st'->K' d st'):OpC P r o e st K' :=
 λρ w h1 h2=>(h ρ w h1 h2).mono λ_ _=>PostV.mono hk
theorem ON{P:Program}{r:Option Nat}{o:Oper}{ρ:Operand->Value}{w w':World}{v:Value}(h:(execOp ρ o).run P w=.ok (.value v) w'):(o.semAt r ρ).run P w=.ok (.value v) w':=by
 rw[VU]
 . exact h
 . intro c hc
   unfold execOp at h
   rw[hc]at h
   simp only[AG]at h
   generalize (resolve ρ c o.type).run P w=x at h
   cases x<;>simp at h
theorem OpY.opC{P:Program}{r:Option Nat}{o:Oper}{e:Nat->D}{st:St}{d:D}{K:D->St->Prop}(h:OpY P o e st d)(hk:K d st):OpC P r o e st K:=by
 intro ρ w h1 h2
 obtain⟨v,w',hr,h3,h4,h5⟩:=h ρ w h1 h2
 rw[ON hr]
 exact⟨d,st,h3,h4,h5,hk⟩
def Ct (ops:Array Oper)(o:Oper)(e:Nat->D):Bool :=
 match o.guard with
|none=>true
|some (j,want)=>match (ops[j]?).bind (·.dst)with
  | some t=>match e t with
   | .s (.bool b)=>b == want
   | _=>false
  | none=>false
theorem LR{N : Nat}{O:Nat->Nat->Prop}{w:World}{a:Act}{A:AA}(h:RelA N O w a A)(ops:Array Oper)(o:Oper)(hg:∀j b,o.guard=some (j,b)->∀t,(ops[j]?).bind (·.dst)=some t->t<N) :
 Region.wanted o (yielded ops a.tmps)=Ct ops o A.e:=by
 unfold Region.wanted Ct
 cases hgd:o.guard with
|none=>rfl
|some q =>
  obtain⟨j,want⟩:=q
  dsimp only
  unfold yielded
  cases ht:(ops[j]?).bind (·.dst)with
  | none=>simp
  | some t =>
   have htN:=hg j want hgd t ht
   have hr:=h.2.2 t
   simp only[BS]
   have hget:a.tmps[t]?=some (a.tmps.getD t undef):=by
    rw[Cv,Be (by rw[h.1];exact htN)];rfl
   rw[hget]
   generalize a.tmps.getD t undef=v at *
   generalize A.e t=d at *
   cases hr<;>first|rfl|skip
   all_goals(cases v<;>first|rfl|skip)
   all_goals(cases ‹Bool›<;>cases want<;>rfl)
def Gr (N:Nat)(ops:Array Oper)(o:Oper):Bool :=
 match o.guard with
|none=>true
|some (j,_)=>match (ops[j]?).bind (·.dst)with
  | some t=>decide (t<N)
  | none=>true
theorem Ka{N:Nat}{ops:Array Oper}{o:Oper}(h:Gr N ops o=true):∀j b,o.guard=some (j,b)->∀t,(ops[j]?).bind (·.dst)=some t->t<N:=by
 intro j b hg t ht
 unfold Gr at h
 rw[hg]at h
 dsimp only at h
 rw[ht]at h
 simpa using h
def TrOps (P:Program)(r:Option Nat)(ops:Array Oper):List Oper->AA->St->(AA->St->Prop)->Prop
|[],A,st,K=>K A st
|o::l,A,st,K=>if Ct ops o A.e then OpC P r o A.e st λd st'=>TrOps P r ops l (A.put o.dst d) st' K else TrOps P r ops l (A.put o.dst D.un) st K
def PostA (N:Nat)(st:St)(w:World)(Q:Exit->AA->St->Prop):Exit->Act->World->Prop:=λex a' w'=>∃A' st',RelA N (OwnS st') w' a' A'/\Holds st' w'/\Ext (OwnS st) w (OwnS st') w'/\Q ex A' st'
def Tr (P:Program)(N:Nat)(r:Option Nat)(c:Code)(A:AA)(st:St)(Q:Exit->AA->St->Prop):Prop :=
 ∀a w,RelA N (OwnS st) w a A->Holds st w->c.wpIn (FR r) 0 P (PostA N st w Q) a w
def GR (N:Nat)(l:List Oper):Bool:=l.all λo=>JH N o.dst && Gr N l.toArray o
section
variable {P:Program} {N:Nat} {r:Option Nat} {A:AA} {st:St} {Q:Exit->AA->St->Prop}
theorem PostA.ext{st st1:St}{w w1:World}(he:Ext (OwnS st) w (OwnS st1) w1){ex:Exit}{a:Act}{w':World}(h:PostA N st1 w1 Q ex a w'):PostA N st w Q ex a w':=by
 obtain⟨A',st',h1,h2,h3,h4⟩:=h
 exact⟨A',st',h1,h2,he.trans h3,h4⟩
theorem Tr.mono{c:Code}{Q':Exit->AA->St->Prop}(h:Tr P N r c A st Q)(hq:∀e A st,Q e A st->Q' e A st):Tr P N r c A st Q' :=
 λa w h1 h2=>wpIn_mono (h a w h1 h2) λ_ _ _ ⟨A',st',k1,k2,k3,k4⟩=>⟨A',st',k1,k2,k3,hq _ _ _ k4⟩
theorem Ij{o:Oper}{a:Act}{w:World}{K:Act->World->Prop}{Q:Exit->Act->World->Prop}(h:ResC (FR r) P (λv w'=>K (a.put o.dst v) w') ((o.semAt r a.eval).run P w)):o.wpIn (FR r) 0 P a w K Q:=by
 refine⟨λf _=>trivial,?_⟩
 show o.uponIn (FR r) 0 P a K Q ((o.semAt r a.eval).run P w)
 generalize (o.semAt r a.eval).run P w=x at *
 cases x with
|halt x w'=>exact h.elim
|ok n w' =>
  cases n<;>simp only[ResC]at h<;>simp only[Oper.uponIn]
  case value v=>exact h
  case skip=>exact h
  case enter f args=>exact⟨(λh=>by cases h),h.mono λe w'' ⟨v,he,hk⟩=>by subst he;exact hk⟩
  case round l f tmps assign body=>exact⟨(λh=>by cases h),h.mono λe w'' ⟨v,he,hk⟩=>by subst he;exact hk⟩
theorem TrOps.sound{ops:Array Oper}{K:AA->St->Prop}:∀(l:List Oper) (A:AA) (st:St) (a:Act) (w:World) (Q:Exit->Act->World->Prop),(∀o∈l,JH N o.dst=true/\Gr N ops o=true)->RelA N (OwnS st) w a A->Holds st w->TrOps P r ops l A st K ->
 (∀A' st' a' w',RelA N (OwnS st') w' a' A'->Holds st' w'->Ext (OwnS st) w (OwnS st') w'->K A' st'->Q .normal a' w')->wpListIn (FR r) 0 P ops Q l a w
|[],A,st,a,w,Q,_,hr,hh,h,hQ=>hQ A st a w hr hh (Ext.refl _ _) h
|o::l,A,st,a,w,Q,hok,hr,hh,h,hQ=>by
  obtain⟨hd,hg⟩:=hok o (Ag ..)
  unfold TrOps at h
  unfold wpListIn
  rw[LR hr ops o (Ka hg)]
  split
  . rename_i hw
    rw[if_pos hw]at h
    refine Ij ((h a.eval w (hr.repE _) hh).mono λv w' ⟨d,st',k1,k2,k3,k4⟩=>?_)
    exact TrOps.sound l _ st' _ w' Q (λo ho=>hok o (Ae _ ho)) ((hr.ext k3).put hd k1) k2 k4 λA' st'' a' w'' q1 q2 q3 q4=>hQ A' st'' a' w'' q1 q2 (k3.trans q3) q4
  . rename_i hw
    rw[if_neg hw]at h
    exact⟨λf _=>trivial,TrOps.sound l _ st _ w Q (λo ho=>hok o (Ae _ ho)) (hr.put hd (.s undef rfl)) hh h hQ⟩
def IK (K:AA->St->Prop)(Q:Exit->AA->St->Prop):Exit->AA->St->Prop
|.normal,A,st=>K A st
|e,A,st=>Q e A st
def Jt (id:Nat)(Q:Exit->AA->St->Prop):Exit->AA->St->Prop
|.exit id',A,st=>if id'=id then Q .normal A st else Q (.exit id') A st
|e,A,st=>Q e A st
theorem eu(h:Q .normal A st):Tr P N r .skip A st Q:=λ_ w h1 h2=>wpIn_skip ⟨A,st,h1,h2,Ext.refl _ w,h⟩
theorem aX{l:Nat}(h:Q .normal A st):Tr P N r (.label l) A st Q:=λ_ w h1 h2=>wpIn_label ⟨A,st,h1,h2,Ext.refl _ w,h⟩
theorem eC{id:Nat}(h:Q (.exit id) A st):Tr P N r (.exit id) A st Q:=λ_ w h1 h2=>wpIn_exit ⟨A,st,h1,h2,Ext.refl _ w,h⟩
theorem iJ(h:Q .ret A st):Tr P N r .ret A st Q:=λ_ w h1 h2=>wpIn_ret ⟨A,st,h1,h2,Ext.refl _ w,h⟩
theorem aW{x y:Code}(h:Tr P N r x A st (IK (λA' st'=>Tr P N r y A' st' Q) Q)):Tr P N r (.seq x y) A st Q:=by
 intro a w h1 h2
 refine wpIn_seq (wpIn_mono (h a w h1 h2) λe a' w' ⟨A',st',k1,k2,k3,k4⟩=>?_)
 cases e with
|normal=>exact wpIn_mono (k4 a' w' k1 k2) λ_ _ _=>PostA.ext k3
|exit id=>exact⟨A',st',k1,k2,k3,k4⟩
|goto l=>exact⟨A',st',k1,k2,k3,k4⟩
|ret=>exact⟨A',st',k1,k2,k3,k4⟩
|panic c=>exact⟨A',st',k1,k2,k3,k4⟩
|outgrown=>exact⟨A',st',k1,k2,k3,k4⟩
theorem XC{c:Operand}{x y:Code}{t:Bool}(hc:ev A.e c=some (.s (.bool t)))(h:Tr P N r (if t then x else y) A st Q):Tr P N r (.cond c x y) A st Q:=by
 intro a w h1 h2
 have:a.eval c=.bool t:=by
  have:=PJ h1 hc
  generalize a.eval c=v at this
  cases this;rfl
 exact wpIn_cond this (h a w h1 h2)
theorem Xz{c:Operand}{x y:Code}(hc:ev A.e c=some (.s (.bool true)))(h:Tr P N r x A st Q):Tr P N r (.cond c x y) A st Q:=XC hc h
theorem TZ{c:Operand}{x y:Code}(hc:ev A.e c=some (.s (.bool false)))(h:Tr P N r y A st Q):Tr P N r (.cond c x y) A st Q:=XC hc h
theorem a7{id:Nat}{c:Code}(h:Tr P N r c A st (Jt id Q)):Tr P N r (.block id c) A st Q:=by
 intro a w h1 h2
 refine wpIn_block (wpIn_mono (h a w h1 h2) λe a' w' ⟨A',st',k1,k2,k3,k4⟩=>?_)
 cases e with
|exit id' =>
  show if id'=id then _ else _
  replace k4:if id'=id then Q .normal A' st' else Q (.exit id') A' st':=k4
  by_cases e:id'=id
  . rw[if_pos e]at k4 |-;exact⟨A',st',k1,k2,k3,k4⟩
  . rw[if_neg e]at k4 |-;exact⟨A',st',k1,k2,k3,k4⟩
|normal=>exact⟨A',st',k1,k2,k3,k4⟩
|goto l=>exact⟨A',st',k1,k2,k3,k4⟩
|ret=>exact⟨A',st',k1,k2,k3,k4⟩
|panic c=>exact⟨A',st',k1,k2,k3,k4⟩
|outgrown=>exact⟨A',st',k1,k2,k3,k4⟩
theorem YJ{id:Nat}{l:List Oper}(hok:GR N l=true)(h:TrOps P r l.toArray l A st (Q .normal)):Tr P N r (.region id l.toArray false) A st Q:=by
 intro a w h1 h2
 have hok':∀o∈l,JH N o.dst=true/\Gr N l.toArray o=true:=λo ho=>by
  have:=AU.1 hok o ho
  simpa using this
 exact wpIn_region_lit (TrOps.sound l A st a w _ hok' h1 h2 h λA' st' a' w' q1 q2 q3 q4=>⟨A',st',q1,q2,q3,q4⟩)
theorem Bn{c:Code}{st':St}(hs:st.Perm st')(h:Tr P N r c A st' Q):Tr P N r c A st Q:=by
 intro a w h1 h2
 have he:Ext (OwnS st) w (OwnS st') w:=by rw[OwnS.perm hs];exact Ext.refl _ _
 exact wpIn_mono (h a w (h1.ext he) (h2.perm hs)) λ_ _ _=>PostA.ext he
theorem Holds.room{st:St}{w:World}(h:Holds st w){o:Own}(ho:∀g c,o≠.row g c)(ty:TypeId)(sz n:Nat):Holds (.room o ty sz n::st) w/\Ext (OwnS st) w (OwnS (.room o ty sz n::st)) w:=by
 have hb:(Res.room o ty sz n).blk=none:=by cases o<;>first|rfl|exact absurd rfl (ho _ _)
 have he:Ext (OwnS st) w (OwnS (.room o ty sz n::st)) w:=(Ext.refl _ w).less λb off ho=>(OwnS.cons_iff.1 ho).elim (λx=>by have:=x.1;rw[hb]at this;cases this) id
 refine⟨h.push he (λ_ _ _ _=>rfl) ?_ (λx _ b e=>by rw[hb]at e;cases e),he⟩
 cases o<;>first|exact trivial|exact absurd rfl (ho _ _)
theorem GF{c:Code}(ty:TypeId)(sz n:Nat)(h:Tr P N r c A (.room .tight ty sz n::st) Q):Tr P N r c A st Q:=by
 intro a w h1 h2
 obtain⟨k1,k2⟩:=h2.room (o:=.tight) (λ_ _=>by simp) ty sz n
 exact wpIn_mono (h a w (h1.ext k2) k1) λ_ _ _=>PostA.ext k2
theorem PI{p:Nat->Prop}(h:∃n,p n):∃n,p n/\∀m,p m->n<=m:=by
 obtain⟨n,hn⟩:=h
 induction n using Nat.strongRecOn with
|_ n ih =>
  by_cases hm:∃m,m<n/\p m
  . obtain⟨m,h1,h2⟩:=hm;exact ih m h1 h2
  . exact⟨n,hn,λm hp=>Nat.le_of_not_lt λhl=>hm ⟨m,hl,hp⟩⟩
theorem DN{c:Code}{ι:Type}(I:ι->AA->St->Prop)(μ:ι->Nat)(i0:ι)(h0:I i0 A st)(hr:∀i A st,I i A st->Tr P N r c A st (IK (λA' st'=>∃j,I j A' st'/\μ j<μ i) Q)):Tr P N r (.loop c) A st Q:=by
 intro a w h1 h2
 obtain⟨p,hp⟩:∃p:Act->World->Nat->Prop,p=λa' w' n=>∃j A' st',I j A' st'/\RelA N (OwnS st') w' a' A'/\Holds st' w'/\Ext (OwnS st) w (OwnS st') w'/\μ j=n:=⟨_,rfl⟩
 obtain⟨f,hf⟩:∃f:Act->World->Nat,∀a' w',(∃n,p a' w' n)->p a' w' (f a' w')/\∀m,p a' w' m->f a' w'<=m:=by
  refine⟨λa' w'=>open Classical in if h:∃n,p a' w' n then Classical.choose (PI h)else 0,λa' w' h=>?_⟩
  simp only[h,dif_pos]
  exact QF (PI h)
 refine wpIn_loop (λa' w'=>∃n,p a' w' n) f ⟨μ i0,by rw[hp];exact⟨i0,A,st,h0,h1,h2,Ext.refl _ _,rfl⟩⟩ λa1 w1 hI=>?_
 have hmin:=(hf a1 w1 hI).1
 rw[hp]at hmin
 obtain⟨j,A1,st1,k1,k2,k3,k4,k5⟩:=hmin
 refine wpIn_mono (hr j A1 st1 k1 a1 w1 k2 k3) λe a2 w2 ⟨A2,st2,q1,q2,q3,q4⟩=>?_
 cases e with
|normal =>
  obtain⟨i,hi,hlt⟩:=q4
  have hp2:p a2 w2 (μ i):=by rw[hp];exact⟨i,A2,st2,hi,q1,q2,k4.trans q3,rfl⟩
  exact⟨⟨_,hp2⟩,by have:=(hf a2 w2 ⟨_,hp2⟩).2 _ hp2;omega⟩
|exit id=>exact⟨A2,st2,q1,q2,k4.trans q3,q4⟩
|goto l=>exact⟨A2,st2,q1,q2,k4.trans q3,q4⟩
|ret=>exact⟨A2,st2,q1,q2,k4.trans q3,q4⟩
|panic c=>exact⟨A2,st2,q1,q2,k4.trans q3,q4⟩
|outgrown=>exact⟨A2,st2,q1,q2,k4.trans q3,q4⟩
end
end
section
def LE (d d':D):Prop:=∀O w v,Rep O w v d->Rep O w v d'
def LEL:List D->List D->Prop
|[],[]=>True
|d::l,d'::l'=>LE d d'/\LEL l l'
|_,_=>False
theorem LE.refl(d:D):LE d d:=λ_ _ _ h=>h
theorem LE.of_eq{d d':D}(h:d=d'):LE d d':=h▸LE.refl d
theorem LE.trans{a b c:D}(h:LE a b)(k:LE b c):LE a c:=λO w v x=>k O w v (h O w v x)
theorem LE.sl(o:Own)(es:List (List D)):LE (.sl o es) (.sl .shared es):=λ_ _ _ h=>h.share
theorem LEL.refl:∀l,LEL l l
|[]=>trivial
|d::l=>⟨LE.refl d,LEL.refl l⟩
theorem LEL.repL{O:Nat->Nat->Prop}{w:World}:∀{l l':List D},LEL l l'->∀{us:List Value},RepL O w us l->RepL O w us l'
|[],[],_,_,h=>h
|d::l,d'::l',⟨h1,h2⟩,us,h=>by
  obtain⟨u,t,rfl,k1,k2⟩:=h.inv_cons
  exact .cons (h1 O w u k1) (h2.repL k2)
|[],_::_,h,_,_=>h.elim
|_::_,[],h,_,_=>h.elim
theorem LE.agg{l l':List D}(h:LEL l l'):LE (.agg l) (.agg l'):=λO w v x=>by
 cases x with
|agg us cs h1 h2=>obtain⟨k1,k2⟩:=h.repL (us:=us) ⟨h1,h2⟩;exact .agg us l' k1 k2
theorem LE.tup{l l':List D}(h:LEL l l'):LE (.tup l) (.tup l'):=λO w v x=>by
 cases x with
|tup us cs h1 h2=>obtain⟨k1,k2⟩:=h.repL (us:=us) ⟨h1,h2⟩;exact .tup us l' k1 k2
theorem LEL.length:∀{l l':List D},LEL l l'->l.length=l'.length
|[],[],_=>rfl
|_::_,_::_,⟨_,h⟩=>by simp[h.length]
|[],_::_,h=>h.elim
|_::_,[],h=>h.elim
def TrF (P:Program)(f:FuncId)(args:List D)(st:St)(R:D->St->Prop):Prop :=
 ∀(vs:Array Value) w,RepL (OwnS st) w vs.toList args->Holds st w->Calls P f vs w λe w'=>∃v,e=.returned v/\PostV st w R v w'
section
variable {P:Program} {f:FuncId} {args:List D} {st:St} {R R':D->St->Prop}
theorem PostV.weak{w w':World}{v:Value}(h:PostV st w R v w')(hR:∀d st',R d st'->∃d1 st1,LE d d1/\st1.Sublist st'/\R' d1 st1):PostV st w R' v w':=by
 obtain⟨d,st',h1,h2,h3,h4⟩:=h
 obtain⟨d1,st1,k1,k2,k3⟩:=hR d st' h4
 have he:=Ext.drop (st:=st') (st':=st1) (λ_ h=>k2.subset h) w'
 exact⟨d1,st1,(k1 _ _ _ h1).ext he,h2.sub k2,h3.trans he,k3⟩
theorem TrF.weak(h:TrF P f args st R)(hR:∀d st',R d st'->∃d1 st1,LE d d1/\st1.Sublist st'/\R' d1 st1):TrF P f args st R' :=
 λvs w h1 h2=>(h vs w h1 h2).mono λ_ _ ⟨v,e,hp⟩=>⟨v,e,hp.weak hR⟩
theorem TrF.mono(h:TrF P f args st R)(hR:∀d st',R d st'->R' d st'):TrF P f args st R' :=
 h.weak λd st' hr=>⟨d,st',LE.refl d,.refl _,hR d st' hr⟩
theorem TrF.le{args':List D}(h:TrF P f args' st R)(hl:LEL args args'):TrF P f args st R :=
 λvs w h1 h2=>h vs w (hl.repL h1) h2
theorem TrF.perm{st':St}(hp:st.Perm st')(h:TrF P f args st' R):TrF P f args st R:=by
 intro vs w h1 h2
 have e:=OwnS.perm hp
 refine(h vs w (by rw[<-e];exact h1) (h2.perm hp)).mono λ_ _ ⟨v,ev,d,s,k1,k2,k3,k4⟩=>⟨v,ev,d,s,k1,k2,by rw[e];exact k3,k4⟩
theorem TrF.drop{st':St}(hs:st'.Sublist st)(h:TrF P f args st' R):TrF P f args st R:=by
 intro vs w h1 h2
 have he:=Ext.drop (st:=st) (st':=st') (λ_ h=>hs.subset h) w
 refine(h vs w (h1.ext he) (h2.sub hs)).mono λ_ _ ⟨v,ev,d,s,k1,k2,k3,k4⟩=>⟨v,ev,d,s,k1,k2,he.trans k3,k4⟩
def LJ (args:List D):Nat->D:=λi=>args.getD i D.un
def Jp (ts:List Tmp)(tmps:Array Value):Value:=match ts with|[t]=>tmps.getD t undef|ts=>.tuple (ts.map λt=>tmps.getD t undef).toArray
def OY (ts:List Tmp)(e:Nat->D):D:=match ts with|[t]=>e t|ts=>.tup (ts.map e)
theorem bL{N:Nat}{O:Nat->Nat->Prop}{w:World}{a:Act}{A:AA}(h:RelA N O w a A)(ts:List Tmp):Rep O w (Jp ts a.tmps) (OY ts A.e):=by
 have hm:RepL O w (ts.map λt=>a.tmps.getD t undef) (ts.map A.e):=RepL.map λt _=>h.2.2 t
 unfold Jp OY
 split
 . exact h.2.2 _
 . exact .tup _ _ hm.1 hm.2
def Fx (r:Nat):Deferred:={target:=.collected r,args:=#[]}
def BK (r:Nat):Res:=.raw r (.deferred (some []))
def Ut (ts:List Tmp)(R:D->St->Prop):Exit->AA->St->Prop
|.normal,A,st|.ret,A,st=>∃(rs:List Nat) (d:D) (s2 st':St),A.df=rs.map Fx/\st.Perm (rs.map BK++s2)/\st'.Sublist s2/\LE (OY ts A.e) d/\R d st'
|_,_,_=>False
theorem Bf{ts:List Tmp}{ex:Exit}{A:AA}{d:D}{st':St}(hex:ex=.normal\/ex=.ret)(hdf:A.df=[])(hs:st'.Sublist st)(hd:LE (OY ts A.e) d)(hR:R d st'):Ut ts R ex A st:=by
 rcases hex with rfl|rfl
 . exact⟨[],d,st,st',hdf,.refl _,hs,hd,hR⟩
 . exact⟨[],d,st,st',hdf,.refl _,hs,hd,hR⟩
theorem MJ{fn:Func}{tmps:Array Value}{u:FrameMode}{Rw:Ending->World->Prop}{v:Value}(hu:u=.returning)(hres:∀w,(results fn tmps).run P w=.ok v w):∀(rs:List Nat) (w:World),rs.Nodup->(∀r∈rs,w.heap[r]?=some (.deferred (some []))) ->
 (∀w',w'.os=w.os->w'.tape=w.tape->w'.output=w.output->w'.drawn=w.drawn->w'.heap.size=w.heap.size->(∀b,b∉rs->w'.heap[b]?=w.heap[b]?)->Rw (.returned v) w')->LeavesInM Fence.wide 0 P fn tmps Rw (rs.map Fx) u w
|[],w,_,_,hw=>by
  subst hu
  show LeavesIn Fence.wide 0 P fn tmps Rw [] .returning w
  exact⟨v,hres w,hw w rfl rfl rfl rfl rfl λ_ _=>rfl⟩
|r::rs,w,hn,hb,hw=>by
  have hr:=hb r (Ag ..)
  have hlt:=(AE.1 hr).1
  refine⟨(by rw[hu];intro h;cases h),.inl ⟨r,_,rfl,run_takeDeferred hr,MJ hu hres rs _ (Bb.1 hn).2 (λx hx=>?_) λw' h1 h2 h3 h0 h4 h5=>?_⟩⟩
  . rw[DV (by intro e;subst e;exact(Bb.1 hn).1 hx)]
    exact hb x (Ae _ hx)
  . refine hw w' h1 h2 h3 h0 (by rw[h4];simp) λb hb=>?_
    rw[h5 b λh=>hb (Ae _ h)]
    exact DV λe=>hb (e▸Ag ..)
theorem QN{fn:Func}{c:Code}{ts:List Tmp}(hf:P.funcs[f]?=some fn)(hb:fn.body=some c)(hn:args.length<=fn.ntmps)(hres:∀tmps w,(results fn tmps).run P w=.ok (Jp ts tmps) w)
 (h:Tr P fn.ntmps none c ⟨LJ args,[]⟩ st (Ut ts R)):TrF P f args st R:=by
 intro vs w hv hw
 refine(callsIn_wide (n:=0)).1 (callsIn_of_wp_marks hf hb trivial ?_ rfl)
 have hvl:vs.size=args.length:=by rw[<-AR];exact hv.1
 have hrel:RelA fn.ntmps (OwnS st) w {tmps:=vs++Array.replicate (fn.ntmps - vs.size) undef,defers:=[]} ⟨LJ args,[]⟩:=by
  refine⟨by simp[hvl];omega,rfl,λt=>?_⟩
  show Rep _ _ _ (args.getD t D.un)
  simp only[Cv,AW]
  rcases Dv t args.length with ht|ht
  . have h1:t<vs.toList.length:=by simp;omega
    have:=hv.2 t h1 ht
    rw[Cq q_o,Al ht,Be q_o]
    simpa using this
  . rw[GO q_o,Bz ht]
    simp only[dW]
    by_cases h2:t - vs.size<fn.ntmps - vs.size
    . rw[Ez,if_pos h2]
      exact .s undef rfl
    . rw[Ez,if_neg h2]
      exact .s undef rfl
 refine wpIn_mono (h _ w hrel hw) λex a' w' ⟨A',st',k1,k2,k3,k4⟩=>?_
 have main:(∃(rs:List Nat) (d:D) (s2 st'':St),A'.df=rs.map Fx/\st'.Perm (rs.map BK++s2)/\st''.Sublist s2/\LE (OY ts A'.e) d/\R d st'')->LeavesInM (FR none) 0 P fn a'.tmps (λe w'=>∃v,e=.returned v/\PostV st w R v w') a'.defers .returning w':=by
  rintro⟨rs,d,s2,st'',q1,q2,qs,q3,q4⟩
  rw[k1.2.1,q1]
  have hh:=k2.perm q2
  have hnd:rs.Nodup:=by
   have:=oe (Dd _ _) hh.1
   rw[EE]at this
   exact this.imp λ{a b} hab e=>hab a rfl (by rw[e];rfl)
  have hblk:∀r∈rs,w'.heap[r]?=some (.deferred (some [])):=λr hr=>hh.2 (BK r) (Bp _ (BJ hr))
  refine MJ rfl (hres a'.tmps) rs w' hnd hblk λw'' e1 e2 e3 e0 e4 e5=>⟨_,rfl,d,st'',?_,?_,?_,q4⟩
  all_goals
   have hown:∀b off,OwnS st'' b off->OwnS st' b off:=λb off ⟨x,hx,ho⟩=>⟨x,q2.mem_iff.2 (Bh _ (qs.subset hx)),ho⟩
   have hmk:∀r∈rs,∀off,OwnS st' r off:=λr hr off=>⟨BK r,q2.mem_iff.2 (Bp _ (BJ hr)),rfl,Ao _⟩
   have he:Ext (OwnS st') w' (OwnS st'') w'':=by
    refine⟨nN e0.symm,e1,e2,e3,by omega,λb off _ ho=>hown b off ho,λb hb hno=>e5 b λhr=>hno 0 (hmk b hr 0),λb c E fr hc=>⟨c,fr,?_,rfl,λ_ _=>rfl⟩⟩
    rw[e5 b λhr=>by rw[hblk b hr]at hc;cases hc]
    exact hc
  . exact q3 _ _ _ ((bL k1 ts).ext he)
  . refine⟨(EA.1 hh.1).2.1.sublist qs,λx hx=>(k2.2 x (q2.mem_iff.2 (Bh _ (qs.subset hx)))).ext he λb hb=>e5 b λhr=>?_⟩
    exact(EA.1 hh.1).2.2 (BK b) (BJ hr) x (qs.subset hx) b rfl hb
  . exact k3.trans he
 cases ex with
|normal=>exact main k4
|ret=>exact main k4
|exit id=>exact k4.elim
|goto l=>exact k4.elim
|panic c=>exact k4.elim
|outgrown=>exact k4.elim
def evL (e:Nat->D):List Operand->Option (List D)
|[]=>some []
|x::l=>match ev e x,evL e l with
  | some d,some ds=>some (d::ds)
  | _,_=>none
theorem Lm{O:Nat->Nat->Prop}{w:World}{e:Nat->D}{ρ:Operand->Value}{S:Array Operand}(h:RepE e O w ρ S):∀{l:List Operand} {ds:List D},(∀x∈l,x∈S)->evL e l=some ds->RepL O w (l.map ρ) ds
|[],ds,_,hl=>by cases hl;exact .nil
|x::l,ds,hS,hl=>by
  unfold evL at hl
  split at hl
  . rename_i d ds' h1 h2
    cases hl
    exact .cons (h x (hS x (Ag ..)) _ h1) (Lm h (λy hy=>hS y (Ae _ hy)) h2)
  . cases hl
theorem US{r:Option Nat}{o:Oper}{c:Call}{e:Nat->D}{g:Operand}{first caps ds:List D}{K:D->St->Prop}(ho:o.op=.call c)(hc:c.callee=.value g)(hg:ev e g=some (.fn (.func f) first caps))
 (hargs:evL e c.args.toList=some ds)(henter:∀args w,(callFunc f args).run P w=.ok (.enter f args) w)(h:TrF P f (first++ds++caps) st K):OpC P r o e st K:=by
 intro ρ w h1 h2
 rw[ho]at h1
 have hfn:=h1 g (by simp[Op.operands,Call.operands,hc]) _ hg
 have hds:=Lm h1 (λx hx=>by simp only[Op.operands,Call.operands,Oq];exact .inr (by simpa using hx)) hargs
 rw[VU r ρ o (by rw[ho];intro c hc;cases hc)]
 unfold execOp
 rw[ho]
 simp only[resolve,hc]
 generalize ρ g=gv at hfn
 cases hfn with
|fn _ us1 us2 _ _ l1 l2 r1 r2 =>
  simp only[Deferred.ofValue,AG,AN,Am,invoke,henter]
  have:=h (us1.toArray++c.args.map ρ++us2.toArray) w (by
   simp only[Array.toList_append,Array.toList_map]
   exact((RepL.append ⟨l1,r1⟩ hds).append ⟨l2,r2⟩)) h2
  exact(callsIn_wide.2 this).mono λev w' ⟨v,e,hp⟩=>⟨v,e,hp⟩
end
end
section
abbrev D.i (n:Int):D:=.s (.int .i64 n)
abbrev D.b (t:Bool):D:=.s (.bool t)
abbrev D.y (b:UInt8):D:=.s (.int .u8 (b.toNat:Int))
abbrev D.str (s:ByteArray):D:=.s (.string s)
def Br (b:UInt8):List D:=[.y b]
def Bl (n:Int):List D:=[.i n]
def kT (P:Program)(t:TypeId):TK :=
 match Bt P t with
|some ti=>ti.k
|none=>.other
def EY:Sem Value->Option Value
|.pure v=>some v
|_=>none
theorem Ns{s:Sem Value}{v:Value}(h:EY s=some v)(P:Program)(w:World):s.run P w=.ok v w:=by
 cases s<;>simp[EY]at h
 subst h;rfl
def oq:Value->Bool
|.int _ _|.string _=>true
|_=>false
def Er (P:Program)(op:BinOp)(t:TypeId):D->D->Option D
|.s (.int k a),.s (.int k' b)=>(EY (binOp op 0 (.int k a) (.int k' b))).map .s
|.s (.string a),.s (.string b)=>(EY (binOp op 0 (.string a) (.string b))).map .s
|.s (.bool a),.s (.bool b)=>match kT P t,op with
  | .bool,.eql=>some (.b (a == b))
  | .bool,.neq=>some (.b (!(a == b)))
  | _,_=>none
|.ptr _ _,.s (.pointer none)=>match kT P t,op with
  | .pointer,.eql=>some (.b false)
  | .pointer,.neq=>some (.b true)
  | _,_=>none
|.s (.pointer none),.s (.pointer none)=>match kT P t,op with
  | .pointer,.eql=>some (.b true)
  | .pointer,.neq=>some (.b false)
  | _,_=>none
|_,_=>none
def aUn (op:UnOp):D->Option D
|.s v=>match v with
  | .bool _|.int _ _=>(EY (Op.unary op v)).map .s
  | _=>none
|_=>none
def Kc:List (List D)->Option (List UInt8)
|[]=>some []
|[.s (.int .u8 n)]::l=>match Kc l with
  | some t=>if 0<=n/\n<=255 then some (UInt8.ofNat n.toNat::t)else none
  | none=>none
|_::_=>none
theorem VK(l:List UInt8):Kc (l.map Br)=some l:=by
 induction l with
|nil=>rfl
|cons b l ih =>
  have h1:=b.toNat_lt
  rw[Au]
  show(match Kc (l.map Br)with|some t=>if 0<=(b.toNat:Int)/\(b.toNat:Int)<=255 then some (UInt8.ofNat (b.toNat:Int).toNat::t)else none|none=>none)=_
  rw[ih]
  simp only
  rw[if_pos q_o]
  simp
theorem Oi{O:Nat->Nat->Prop}{w:World}:∀{es:List (List D)} {l:List UInt8} {us:List Value},Kc es=some l->RepL O w us es.flatten->us=l.map bv/\es.length=l.length
|[],l,us,h,hr=>by
  cases h
  exact⟨hr.inv_nil,rfl⟩
|e::es,l,us,h,hr=>by
  unfold Kc at h
  split at h
  . rename_i heq;cases heq
  . rename_i n l' heq
    cases heq
    split at h
    . rename_i t ht
      split at h
      . rename_i hn
        cases h
        rw[AL]at hr
        obtain⟨u,us',rfl,h1,h2⟩:=RepL.inv_cons hr
        obtain⟨k1,k2⟩:=Oi ht h2
        subst k1
        refine⟨?_,by simp[k2]⟩
        rw[Au]
        congr 1
        cases h1
        unfold bv
        rw[UInt8.toNat_ofNat',Om q_o]
        congr 1
        omega
      . cases h
    . cases h
  . cases h
def SE (P:Program)(src dst:TypeId)(d:D):Option D :=
 match Bt P src,Bt P dst with
|some ts,some td=>match ts.k,td.k,d with
  | _,.int k,.s (.int _ n)=>some (.s (.int k (k.wrap n)))
  | _,.string,.s (.string s)=>some (.str s)
  | .slice e _ _ _,.string,.sl _ es=>match kT P e with
   | .int .u8=>(Kc es).map λl=>.str ⟨l.toArray⟩
   | _=>none
  | .string,.slice e _ _ _,.s (.string s)=>match kT P e with
   | .int .u8=>if s.size<=9223372036854775807 then some (.sl .shared (s.data.toList.map Br))else none
   | _=>none
  | _,_,_=>none
|_,_=>none
def NO (P:Program)(t:TypeId)(f:Nat):D->Option D
|.agg cs=>match Bt P t with
  | some ti=>match ti.k with
   | .struct fs=>match fs[f]? with
    | some (off,sz,true)=>if off+sz<=cs.length then some (.agg ((cs.drop off).take sz))else none
    | some (off,_,false)=>cs[off]?
    | none=>none
   | _=>none
  | none=>none
|_=>none
def Hg (P:Program)(t:TypeId)(f:Nat)(d:D):Option D :=
 match Bt P t with
|some ti=>match ti.k with
  | .struct fs=>match fs[f]? with
   | some (off,sz,_)=>if 0<sz then match d with
    | .ptr b o=>some (.ptr b (o+off))
    | .ip cs=>if off<cs.length then some (.ip (cs.drop off))else none
    | _=>none
    else none
   | none=>none
  | _=>none
|none=>none
def Hf (P:Program)(t:TypeId)(d:D)(n:Int):Option D :=
 match Bt P t with
|some ti=>match ti.k,d with
  | .slice _ sz _ _,.sl _ es=>if 0<=n/\n<es.length then match es[n.toNat]? with
   | some c=>if c.length=sz then some (.ip c)else none
   | none=>none
   else none
  | .slice _ sz _ _,.ar g off len _=>if 0<=n/\n<len then some (.ptr g (off+n.toNat*sz))else none
  | .array len sz _,.ptr b off=>if 0<=n/\n<len then some (.ptr b (off+n.toNat*sz))else none
  | .array len sz _,.ip cs=>if 0<=n/\n<len/\n.toNat*sz<cs.length then some (.ip (cs.drop (n.toNat*sz)))else none
  | _,_=>none
|none=>none
def NN (P:Program)(t:TypeId)(d:D)(n:Int):Option D :=
 match Bt P t with
|some ti=>match ti.k,d with
  | .string,.s (.string s)=>if 0<=n then(s.data.toList[n.toNat]?).map D.y else none
  | .array len sz ag,.agg cs=>if 0<=n/\n<len then(if ag then(if n.toNat*sz+sz<=cs.length then some (.agg ((cs.drop (n.toNat*sz)).take sz))else none)else cs[n.toNat*sz]?)else none
  | _,_=>none
|none=>none
def JZ:Option D->Option Int
|some (.s (.int _ n))=>some n
|_=>none
def Jm (len:Nat)(lo hi:Option Int):Option (Nat×Nat) :=
 let h:=match hi with
  | some h=>if 0<=h/\h<=len then some h.toNat else none
  | none=>some len
 match h with
|some h=>match lo with
  | some l=>if 0<=l/\l<=h then some (l.toNat,h)else none
  | none=>some (0,h)
|none=>none
def Gt (e:Nat->D):Option Operand->Option (Option Int)
|none=>some none
|some x=>match ev e x with
  | some (.s (.int _ n))=>some (some n)
  | _=>none
def NM (P:Program)(t:TypeId)(d:D)(lo hi mx:Option Int):Option D :=
 match kT P t,d with
|.string,.s (.string s)=>match mx with
  | none=>match Jm s.size lo hi with
   | some (l,h)=>some (.str (s.extract l h))
   | none=>none
  | some _=>none
|.slice _ sz _ _,.sl _ es=>match Jm es.length lo hi with
  | some (l,h)=>if es.all (λe=>e.length == sz)then(match mx with
   | none=>some (.sl .shared ((es.drop l).take (h - l)))
   | some m=>if hi=some m then some (.sl .tight ((es.drop l).take (h - l)))else none)else none
  | none=>none
|.slice _ sz _ _,.ar g off n cap=>match Jm n lo hi,mx with
  | some (l,h),none=>if l=0\/l<cap then some (.ar g (off+l*sz) (h - l) (cap - l))else none
  | _,_=>none
|_,_=>none
def KY (g:D->D)(place:Nat->Option (Nat×Nat)):List D->List (Nat×D)->Option (List D)
|cs,[]=>some cs
|cs,(i,d)::rest=>match place i with
  | some (off,sz)=>if d.cells.length=sz/\off+sz<=cs.length then KY g place (DJ cs off (d.cells.map g)) rest else none
  | none=>none
def cx:Value->Bool
|.map m=>m.isNone
|_=>false
def shZ (z:List Value):D->D:=if z.any cx=true then id else D.sh
def evP (e:Nat->D):List (Nat×Operand)->Option (List (Nat×D))
|[]=>some []
|(i,x)::l=>match ev e x,evP e l with
  | some d,some ds=>some ((i,d)::ds)
  | _,_=>none
def NQ (P:Program)(t:TypeId)(ps:List (Nat×D)):Option D :=
 match Bt P t with
|some ti=>if ti.zero.all GI then match ti.k with
  | .struct fs=>(KY D.sh (λi=>(fs[i]?).map λf=>(f.1,f.2.1)) (ti.zero.map Dm) ps).map .agg
  | .array _ sz _=>(KY D.sh (λi=>some (i*sz,sz)) (ti.zero.map Dm) ps).map .agg
  | _=>none
  else none
|none=>none
def Iq (sz:Nat):Nat->List D->List (List D)
|0,_=>[]
|n+1,l=>l.take sz::Iq sz n (l.drop sz)
def Gz (P:Program)(t:TypeId)(n:Nat)(ps:List (Nat×D)):Option D :=
 match Bt P t with
|some ti=>match ti.k with
  | .slice _ sz _ z=>if z.all GI/\n<=1000/\sz<=100 then match KY (shZ z) (λi=>some (i*sz,sz)) ((List.replicate n (z.map Dm)).flatten.map (shZ z)) ps with
   | some cs=>if cs.all D.leaf then some (.sl .tight (Iq sz n cs))else none
   | none=>none
   else none
  | _=>none
|none=>none
def dS (P:Program)(t:TypeId):D->Option Int
|.sl _ es=>match kT P t with
  | .slice ..=>some es.length
  | _=>none
|.ar _ _ n _=>match kT P t with
  | .slice ..=>some n
  | _=>none
|.s (.string s)=>match kT P t with
  | .string=>some s.size
  | _=>none
|_=>none
def aBi (P:Program)(bi:Builtin)(ts:List TypeId)(ds:List D):Option D :=
 match bi,ts,ds with
|.len,[t],[d]=>(dS P t d).map .i
|.cap,[t],[.sl .tight es]=>match kT P t with
  | .slice ..=>some (.i es.length)
  | _=>none
|.min,_,[.s (.int k a),.s (.int _ b)]=>some (.s (.int k (if b<a then b else a)))
|.max,_,[.s (.int k a),.s (.int _ b)]=>some (.s (.int k (if b > a then b else a)))
|_,_,_=>none
def aOp (P:Program)(o:Oper)(e:Nat->D):Option D :=
 match o.op with
|.move x=>ev e x
|.assign x=>ev e x
|.pick c a b=>match ev e c with
  | some (.s (.bool t))=>if t then ev e a else ev e b
  | _=>none
|.nilCheck x=>match ev e x with
  | some (.ptr b o)=>some (.ptr b o)
  | some (.ip c)=>some (.ip c)
  | some (.fn (.func f) a b)=>some (.fn (.func f) a b)
  | some (.fn (.yield f) a b)=>some (.fn (.yield f) a b)
  | _=>none
|.binOp op t x y _=>match ev e x,ev e y with
  | some a,some b=>Er P op t a b
  | _,_=>none
|.unOp op _ x=>(ev e x).bind (aUn op)
|.convert src dst x=>(ev e x).bind (SE P src dst)
|.makeFunc fn first caps=>match evL e first.toList,evL e caps.toList with
  | some a,some b=>some (.fn fn a b)
  | _,_=>none
|.extract t i=>match ev e t with
  | some (.tup ds)=>ds[i]?
  | _=>none
|.field t x f=>(ev e x).bind (NO P t f)
|.fieldAddr t x f=>(ev e x).bind (Hg P t f)
|.indexAddr t x i=>match ev e x,JZ (ev e i)with
  | some d,some n=>Hf P t d n
  | _,_=>none
|.index t x i=>match ev e x,JZ (ev e i)with
  | some d,some n=>NN P t d n
  | _,_=>none
|.load t x=>match ev e x,Bt P t with
  | some (.ip cs),some ti=>Je ti cs
  | _,_=>none
|.slice t x lo hi mx=>match ev e x,Gt e lo,Gt e hi,Gt e mx with
  | some d,some l,some h,some m=>NM P t d l h m
  | _,_,_,_=>none
|.build t ps=>(evP e ps.toList).bind (NQ P t)
|.buildSlice t n ps=>(evP e ps.toList).bind (Gz P t n)
|.box _ x=>match ev e x with
  | some d=>if d.cells.all D.leaf then some (.ip d.cells)else none
  | none=>none
|.call c=>match c.callee with
  | .builtin bi=>(evL e c.args.toList).bind (aBi P bi c.argTypes.toList)
  | _=>none
|_=>none
section
variable {P:Program} {N:Nat} {st:St} {w:World} {a:Act} {A:AA}
def Out (st:St)(w:World)(d:D)(P:Program)(s:Sem Value):Prop:=∃v w',s.run P w=.ok v w'/\Rep (OwnS st) w' v d/\Holds st w'/\Ext (OwnS st) w (OwnS st) w'
theorem Out.same{d:D}{s:Sem Value}{v:Value}(hh:Holds st w)(h:s.run P w=.ok v w)(hr:Rep (OwnS st) w v d):Out st w d P s:=⟨v,w,h,hr,hh,Ext.refl _ _⟩
theorem DI{O:Nat->Nat->Prop}{v u:Value}(h:Rep O w v (.s u)):v=u:=by cases h;rfl
theorem Fs{t:TypeId}{k:TK}(h:kT P t=k)(hk:k≠.other):∃ti,Bt P t=some ti/\ti.k=k:=by
 unfold kT at h
 split at h
 . rename_i ti hti;exact⟨ti,hti,h⟩
 . exact absurd h.symm hk
theorem Ce{t : TypeId}{ti:TI}(h:Bt P t=some ti) :
 (ti.k=.bool->P.underlying t=some .bool)/\(∀k,ti.k=.int k->P.underlying t=some (.int k))/\(ti.k=.string->P.underlying t=some .string)/\(ti.k=.pointer->∃e,P.underlying t=some (.pointer e)) /\
 (∀e sz by_ z,ti.k=.slice e sz by_ z->P.underlying t=some (.slice e)/\∃i zv,P.info? e=some i/\i.zero=some zv/\zv.cells.toList=z/\i.size=sz/\i.bytes=by_/\0<sz/\zv.cells.size=sz) /\
 (∀fs,ti.k=.struct fs->∃fields,P.underlying t=some (.struct fields)/\(∀f∈fields.toList,(P.info? f.type).isSome/\(P.underlying f.type).isSome)/\fs=fields.toList.map λf=>(f.offset,szT P f.type,QC P f.type)) /\
 (∀n sz ag,ti.k=.array n sz ag->∃e,P.underlying t=some (.array n e)/\(P.info? e).isSome/\(P.underlying e).isSome/\sz=szT P e/\ag=QC P e):=by
 obtain⟨d,hd, -,hk⟩:=JS h
 rw[hk]
 unfold RH
 rw[hd]
 cases d<;>simp only[reduceCtorEq,false_implies,implies_true,and_true,true_and,forall_const,TK.int.injEq,Ci,TypeDesc.int.injEq,imp_self,TypeDesc.pointer.injEq,exists_eq',and_self]
 case slice e =>
  cases hi:P.info? e with
  | none=>simp
  | some i =>
   simp only
   cases hz:i.zero with
   | none=>simp
   | some zv =>
    simp only
    split
    . rename_i hq
      simp only[reduceCtorEq,false_implies,implies_true,and_true,true_and,TK.slice.injEq]
      rintro e' sz b z ⟨rfl,rfl,rfl,rfl⟩
      exact⟨rfl,i,zv,hi,hz,rfl,rfl,rfl,hq.2,hq.1⟩
    . simp
 case struct fields =>
  split
  . rename_i hq
    simp only[reduceCtorEq,false_implies,implies_true,and_true,true_and,TK.struct.injEq]
    rintro fs rfl
    refine⟨fields,rfl,λf hf=>?_,rfl⟩
    have:=aL.1 hq f (by simpa using hf)
    simpa using this
  . simp
 case array n e =>
  split
  . rename_i hq
    simp only[reduceCtorEq,false_implies,implies_true,and_true,true_and,TK.array.injEq]
    rintro n' sz ag ⟨rfl,rfl,rfl⟩
    exact⟨e,rfl,hq.1,hq.2,rfl,rfl⟩
  . simp
theorem Fl{t:TypeId}(h:(P.info? t).isSome)(w:World):(sizeOf t).run P w=.ok (szT P t) w:=by
 obtain⟨i,hi⟩:=NR.1 h
 simp[sizeOf,typeInfo,hi,szT]
theorem JT{t:TypeId}(h:(P.underlying t).isSome)(w:World):(isAgg t).run P w=.ok (QC P t) w:=by
 obtain⟨d,hd⟩:=NR.1 h
 simp only[isAgg,AG,run_underlying hd,Am,QC,hd]
 cases d<;>rfl
end
end
section
section
variable {P:Program} {st:St} {w:World}
theorem aA(op:BinOp)(t:TypeId)(k k':IntKind)(x y:Int):binOp op t (.int k x) (.int k' y)=binOp op 0 (.int k x) (.int k' y):=by cases op<;>rfl
theorem az(op:BinOp)(t:TypeId)(x y:ByteArray):binOp op t (.string x) (.string y)=binOp op 0 (.string x) (.string y):=by cases op<;>rfl
theorem ZB{op:BinOp}{k k':IntKind}{x y:Int}{v:Value}(h:EY (binOp op 0 (.int k x) (.int k' y))=some v):GI v=true:=by
 cases op<;>simp only[binOp,Op.shift,Op.intArith,Op.intDiv,Op.intBits,Op.intCmp]at h<;>(repeat' split at h)<;>(first|(cases h;rfl)|cases h|skip)
theorem ZA{op:BinOp}{x y:ByteArray}{v:Value}(h:EY (binOp op 0 (.string x) (.string y))=some v):GI v=true:=by
 cases op<;>simp only[binOp,Op.stringOp]at h<;>(repeat' split at h)<;>(first|(cases h;rfl)|cases h|skip)
theorem Dt(op:BinOp)(t:TypeId)(x y:Operand)(a b:Value)(h:∀u,(a,b)≠(.nilIface,u))(h2:∀u v,(a,b)≠(.agg u,v)):(eqGuard op t x y a b).run P w=.ok () w:=by
 unfold eqGuard
 cases op<;>first|rfl|skip
 all_goals
  simp only[Fi,BN,if_false]
  cases a<;>first|rfl|(exact absurd rfl (h _))|(exact absurd rfl (h2 _ _))|(cases b<;>rfl)
theorem Oz(t e:TypeId)(p:Option Addr)(h:P.underlying t=some (.pointer e)):(Op.equal t (.pointer p) (.pointer none)).run P w=.ok p.isNone w:=by
 have key:∀d,(Op.equalIn (d+1) t (.pointer p) (.pointer none)).run P w=.ok p.isNone w:=λd=>by cases p<;>simp[Op.equalIn,run_underlying h]
 exact key 9999
theorem fK{op : BinOp}{t:TypeId}{x y:Operand}{a b:Value}{da db d:D}(hh:Holds st w)(ha:Rep (OwnS st) w a da)(hb:Rep (OwnS st) w b db)(h:Er P op t da db=some d) :
 Out st w d P (do eqGuard op t x y a b;binOp op t a b):=by
 unfold Er at h
 split at h
 . cases DI ha;cases DI hb
   cases hp:EY (binOp op 0 (.int _ _) (.int _ _))with
   | none=>rw[hp]at h;cases h
   | some v =>
    rw[hp]at h;cases h
    refine Out.same hh (v:=v) ?_ (.s v (ZB hp))
    rw[AG,Dt _ _ _ _ _ _ (λu e=>by cases e) (λu v e=>by cases e),Am,aA]
    exact Ns hp P w
 . cases DI ha;cases DI hb
   cases hp:EY (binOp op 0 (.string _) (.string _))with
   | none=>rw[hp]at h;cases h
   | some v =>
    rw[hp]at h;cases h
    refine Out.same hh (v:=v) ?_ (.s v (ZA hp))
    rw[AG,Dt _ _ _ _ _ _ (λu e=>by cases e) (λu v e=>by cases e),Am,az]
    exact Ns hp P w
 . cases DI ha;cases DI hb
   split at h
   . rename_i hk
     obtain⟨ti,h1,h2⟩:=Fs hk (by simp)
     have hu:=(Ce h1).1 h2
     cases h
     refine Out.same hh ?_ (.s _ rfl)
     rw[AG,Dt _ _ _ _ _ _ (λu e=>by cases e) (λu v e=>by cases e),Am]
     simp only[binOp,AG,run_equal_bool w t _ _ hu,Am,AN]
   . rename_i hk
     obtain⟨ti,h1,h2⟩:=Fs hk (by simp)
     have hu:=(Ce h1).1 h2
     cases h
     refine Out.same hh ?_ (.s _ rfl)
     rw[AG,Dt _ _ _ _ _ _ (λu e=>by cases e) (λu v e=>by cases e),Am]
     simp only[binOp,AG,run_equal_bool w t _ _ hu,Am,AN]
   . cases h
 . cases ha;cases DI hb
   split at h
   . rename_i hk
     obtain⟨ti,h1,h2⟩:=Fs hk (by simp)
     obtain⟨e,hu⟩:=(Ce h1).2.2.2.1 h2
     cases h
     refine Out.same hh ?_ (.s _ rfl)
     rw[AG,Dt _ _ _ _ _ _ (λu e=>by cases e) (λu v e=>by cases e),Am]
     simp only[binOp,AG,Oz t e _ hu,Am,AN];rfl
   . rename_i hk
     obtain⟨ti,h1,h2⟩:=Fs hk (by simp)
     obtain⟨e,hu⟩:=(Ce h1).2.2.2.1 h2
     cases h
     refine Out.same hh ?_ (.s _ rfl)
     rw[AG,Dt _ _ _ _ _ _ (λu e=>by cases e) (λu v e=>by cases e),Am]
     simp only[binOp,AG,Oz t e _ hu,Am,AN];rfl
   . cases h
 . cases DI ha;cases DI hb
   split at h
   . rename_i hk
     obtain⟨ti,h1,h2⟩:=Fs hk (by simp)
     obtain⟨e,hu⟩:=(Ce h1).2.2.2.1 h2
     cases h
     refine Out.same hh ?_ (.s _ rfl)
     rw[AG,Dt _ _ _ _ _ _ (λu e=>by cases e) (λu v e=>by cases e),Am]
     simp only[binOp,AG,Oz t e _ hu,Am,AN];rfl
   . rename_i hk
     obtain⟨ti,h1,h2⟩:=Fs hk (by simp)
     obtain⟨e,hu⟩:=(Ce h1).2.2.2.1 h2
     cases h
     refine Out.same hh ?_ (.s _ rfl)
     rw[AG,Dt _ _ _ _ _ _ (λu e=>by cases e) (λu v e=>by cases e),Am]
     simp only[binOp,AG,Oz t e _ hu,Am,AN];rfl
   . cases h
 . cases h
theorem cu{op:UnOp}{x v:Value}(h:EY (Op.unary op x)=some v):GI v=true:=by
 unfold Op.unary at h
 split at h<;>first|(cases h;rfl)|cases h
theorem iX{op:UnOp}{a:Value}{da d:D}(hh:Holds st w)(ha:Rep (OwnS st) w a da)(h:aUn op da=some d):Out st w d P (Op.unary op a):=by
 unfold aUn at h
 split at h
 . cases DI ha
   have key:∀v,(EY (Op.unary op v)).map D.s=some d->Out st w d P (Op.unary op v):=λv h=>by
    cases hp:EY (Op.unary op v)with
    | none=>rw[hp]at h;cases h
    | some u=>rw[hp]at h;cases h;exact Out.same hh (Ns hp P w) (.s u (cu hp))
   split at h
   . exact key _ h
   . exact key _ h
   . cases h
 . cases h
theorem ci{src dst:TypeId}{a:Value}{da d:D}(hh:Holds st w)(ha:Rep (OwnS st) w a da)(h:SE P src dst da=some d):Out st w d P (convert src dst a):=by
 unfold SE at h
 split at h
 . rename_i ts td h1 h2
   obtain⟨-, -,us, -⟩:=Ce h1
   obtain⟨-,ui,ud, -⟩:=Ce h2
   obtain⟨ds,hds, -, -⟩:=JS h1
   split at h
   . have hu:=ui _ ‹td.k=.int _›
     cases DI ha
     cases h
     refine Out.same hh ?_ (.s _ rfl)
     simp only[convert,AG,run_underlying hds,run_underlying hu,Am,Conv.intToInt,AN]
   . have hu:=ud ‹td.k=.string›
     cases DI ha
     cases h
     refine Out.same hh ?_ (.s _ rfl)
     simp only[convert,AG,run_underlying hds,run_underlying hu,Am,AN]
   . rename_i e sz by_ z o es hk1 hk2
     split at h
     . rename_i hke
       obtain⟨te,h3,h4⟩:=Fs hke (by simp)
       have hue:=(Ce h3).2.1 _ h4
       obtain⟨hus, -⟩:=(Ce h1).2.2.2.2.1 _ _ _ _ hk1
       cases hb:Kc es with
       | none=>rw[hb]at h;cases h
       | some l =>
        rw[hb]at h;cases h
        obtain⟨ad,cap,uv,sz1,rfl,c1,c2,c3,c4,c5,c6,c7,c8,c9, -⟩:=Ep ha
        obtain⟨rfl,hlen⟩:=Oi hb c6
        refine Out.same hh (v:=.string ⟨l.toArray⟩) ?_ (.s _ rfl)
        cases ad with
        | none =>
         have h0:=c8 rfl
         have hl0:l=[]:=Ay q_o
         subst hl0
         rw[run_convert_bytes_string w _ _ e _ _ _ hus hue (ud hk2)]
         rfl
        | some ad =>
         rw[hlen]
         refine run_convert_bytes_back w _ _ e ad cap l hus hue (ud hk2) (λj hj=>?_)
         have:=Hr c9 rfl j (bv l[j]) (by simp[hj])
         exact this
     . cases h
   . rename_i e sz by_ z s hk1 hk2
     split at h
     . rename_i hke
       obtain⟨te,h3,h4⟩:=Fs hke (by simp)
       have hue:=(Ce h3).2.1 _ h4
       obtain⟨hud, -⟩:=(Ce h2).2.2.2.2.1 _ _ _ _ hk2
       split at h
       . rename_i hs
         cases h
         cases DI ha
         have hcap1:=grownCap_ge w s.size 0 e
         have hcap2:=grownCap_le_maxLen w s.size 0 e (by unfold maxLen;omega)
         have hrun:=run_bytes_of_string (P:=P) w src dst e s (us hk1) hud hue
         generalize grownCap w s.size 0 e=cap at *
         have he:Ext (OwnS st) w (OwnS st) (w.drew.alloc (.cells (bytesRow s cap) e ((bytesRow s cap).size,(bytesRow s cap).size+1))) :=
          (Ext.drewN (OwnS st) w 1).trans (Ext.alloc (OwnS st) w.drew _)
         have hh':Holds st (w.drew.alloc (.cells (bytesRow s cap) e ((bytesRow s cap).size,(bytesRow s cap).size+1))):=(hh.drewN 1).alloc _
         refine⟨_,_,hrun,?_,hh',he⟩
         have hn:w.drew.heap.size=w.heap.size:=rfl
         have hlen:(s.data.toList.map Br).length=s.size:=by simp
         have hsz:(s.data.toList.map Br).flatten.length=s.size:=by rw[DQ (sz:=1) (λe he=>by obtain⟨b, -,rfl⟩:=Av.1 he;rfl),hlen,CG]
         have hfl:(s.data.toList.map Br).flatten=s.data.toList.map D.y:=by
          generalize s.data.toList=l
          induction l with
          | nil=>rfl
          | cons b l ih=>rw[Au,AL,ih];rfl
         have:=Rep.sl (O:=OwnS st) (w:=w.drew.alloc (.cells (bytesRow s cap) e ((bytesRow s cap).size,(bytesRow s cap).size+1))) .shared (s.data.toList.map Br) (some ⟨w.heap.size,0,none⟩) cap (s.data.toList.map bv) 1 q_o hcap2 (λe=>by cases e) (Ge _)
          (λe he=>by obtain⟨b, -,rfl⟩:=Av.1 he;rfl) (by rw[hsz];simp) (λd hd=>by rw[hfl]at hd;obtain⟨b, -,rfl⟩:=Av.1 hd;rfl)
          (λi hi=>⟨w.heap.size,0,rfl,by
           refine⟨by rw[dT];exact Ge _,λho=>by have:=hh.lt ho;omega,?_⟩
           rw[Bo,cell_of_row _ w.heap.size i _ e _ (heap_alloc_new w.drew _)]
           rw[bytesRow,Cq (by simpa using hi)]
           simp at hi
           simp[hi,bv]⟩)
          (λi hi hi'=>by
           rw[Dy]
           have:(s.data.toList.map Br).flatten[i]=D.y (s.data.toList[i]'(by simpa using hi)):=by
            simp only[hfl,Dy]
           rw[this]
           exact .s _ rfl) trivial
         rwa[hlen]at this
       . cases h
     . cases h
   . cases h
 . cases h
theorem Zt{t:TypeId}{f:Nat}{a:Value}{da d:D}(hh:Holds st w)(ha:Rep (OwnS st) w a da)(h:NO P t f da=some d):Out st w d P (Instr.field t a f):=by
 unfold NO at h
 split at h
 . rename_i cs
   split at h
   . rename_i ti hti
     split at h
     . rename_i fs hfs
       obtain⟨fields,hu,hff,rfl⟩:=(Ce hti).2.2.2.2.2.1 _ hfs
       have hget:∀q,(fields.toList.map λf=>(f.offset,szT P f.type,QC P f.type))[f]?=some q->∃fl,fields[f]?=some fl/\q=(fl.offset,szT P fl.type,QC P fl.type)/\(P.info? fl.type).isSome/\(P.underlying fl.type).isSome:=λq hq=>by
        rw[Aq]at hq
        cases hfl:fields.toList[f]? with
        | none=>rw[hfl]at hq;cases hq
        | some fl =>
         rw[hfl]at hq
         cases hq
         exact⟨fl,by simpa using hfl,rfl,hff fl (Ah hfl)⟩
       cases ha with
       | agg uv _ l1 l2 =>
        split at h
        . rename_i off sz hq
          obtain⟨fl,k1,k2,k3,k4⟩:=hget _ hq
          simp only[DM]at k2
          obtain⟨rfl,rfl,hag⟩:=k2
          split at h
          . rename_i hle
            cases h
            have hr:RepL (OwnS st) w ((uv.drop fl.offset).take (szT P fl.type)) ((cs.drop fl.offset).take (szT P fl.type)):=(RepL.drop ⟨l1,l2⟩ _).take _
            refine Out.same hh (v:=.agg ((uv.drop fl.offset).take (szT P fl.type)).toArray) ?_ (.agg _ _ hr.1 hr.2)
            simp only[Instr.field,AG,run_underlying hu,Am,k1,asAgg,AN,part,JT k4,<-hag,if_true,Fl k3]
            congr 2
            apply Ke
            simp[Hx]
          . cases h
        . rename_i off sz hq
          obtain⟨fl,k1,k2,k3,k4⟩:=hget _ hq
          simp only[DM]at k2
          obtain⟨rfl,rfl,hag⟩:=k2
          obtain⟨u,hu1,hu2⟩:=RepL.get? ⟨l1,l2⟩ h
          refine Out.same hh (v:=u) ?_ hu2
          simp only[Instr.field,AG,run_underlying hu,Am,k1,asAgg,AN,part,JT k4,<-hag,BN,if_false]
          simp[hu1]
        . cases h
     . cases h
   . cases h
 . cases h
theorem Yh{O:Nat->Nat->Prop}{w:World}{cs:List D}{a:Value}(h:Rep O w a (.ip cs))(n:Nat):∃b off,a=.pointer (some ⟨b,off,none⟩)/\Rep O w (.pointer (some ⟨b,off+n,none⟩)) (.ip (cs.drop n)):=by
 cases h with
|ip b off us cs h1 h2 h3 h4 =>
  refine⟨b,off,rfl,?_⟩
  have hr:RepL O w (us.drop n) (cs.drop n):=RepL.drop ⟨h1,h4⟩ n
  refine .ip b (off+n) (us.drop n) (cs.drop n) hr.1 (λd hd=>h2 d (FH hd)) (λi hi=>?_) hr.2
  rw[EG,FU]
  exact h3 (n+i) (by simp at hi;omega)
theorem Qu{t:TypeId}{f:Nat}{a:Value}{da d:D}(hh:Holds st w)(ha:Rep (OwnS st) w a da)(h:Hg P t f da=some d):Out st w d P (Instr.fieldAt t a f):=by
 unfold Hg at h
 split at h
 . rename_i ti hti
   split at h
   . rename_i fs hfs
     obtain⟨fields,hu,hff,rfl⟩:=(Ce hti).2.2.2.2.2.1 _ hfs
     split at h
     . rename_i off sz ag hq
       rw[Aq]at hq
       cases hfl:fields.toList[f]? with
       | none=>rw[hfl]at hq;cases hq
       | some fl =>
        rw[hfl]at hq
        cases hq
        have k1:fields[f]?=some fl:=by simpa using hfl
        obtain⟨k3,k4⟩:=hff fl (Ah hfl)
        split at h
        . rename_i hpos
          have hne:¬(szT P fl.type=0):=by omega
          have run:∀b off,(Instr.fieldAt t (.pointer (some ⟨b,off,none⟩)) f).run P w=.ok (.pointer (some ⟨b,off+fl.offset,none⟩)) w:=λb off=>by
           simp only[Instr.fieldAt,AG,run_underlying hu,Am,k1,Instr.sureAddr,AN,fieldPlace,Fl k3,if_neg hne,ED]
          split at h
          . cases h
            cases ha
            exact Out.same hh (run _ _) (.ptr _ _)
          . split at h
            . cases h
              obtain⟨b,o,rfl,hr⟩:=Yh ha fl.offset
              exact Out.same hh (run _ _) hr
            . cases h
          . cases h
        . cases h
     . cases h
   . cases h
 . cases h
theorem RX{sz:Nat}:∀{es:List (List D)} {n:Nat} {c:List D},(∀e∈es,e.length=sz)->es[n]?=some c->(es.flatten.drop (n*sz)).take sz=c
|[],n,c,_,h=>by cases h
|e::es,0,c,he,h=>by
  cases h
  rw[Fe,Ch,AL,<-he e (Ag ..),Ju]
|e::es,n+1,c,he,h=>by
  rw[AL,Cr,Dw,<-CY]
  have hl:=he e (Ag ..)
  rw[show(e++es.flatten).drop sz=es.flatten by rw[<-hl,CN]]
  exact RX (λx hx=>he x (Ae _ hx)) h
theorem Qt{t:TypeId}{a i:Value}{da d:D}{k:IntKind}{n:Int}(hh:Holds st w)(ha:Rep (OwnS st) w a da)(hi:i=.int k n)(h:Hf P t da n=some d):Out st w d P (Instr.indexAt t a i):=by
 subst hi
 unfold Hf at h
 split at h
 . rename_i ti hti
   split at h
   . rename_i e sz by_ z o es hk
     obtain⟨hu,ii,zv,q1,q2,q3,q4,q5,q6,q7⟩:=(Ce hti).2.2.2.2.1 _ _ _ _ hk
     split at h
     . rename_i hn
       split at h
       . rename_i c hc
         split at h
         . rename_i hcl
           cases h
           obtain⟨ad,cap,uv,sz1,rfl,c1,c2,c3,c4,c5,c6,c7,c8,c9, -⟩:=Ep ha
           have hsz:sz1=sz:=by rw[<-c4 c (Ah hc),hcl]
           subst hsz
           have hnl:n.toNat<es.length:=(Af.1 hc).1
           have hlt:n.toNat*sz1<uv.length:=by rw[c5];exact Nat.mul_lt_mul_of_pos_right hnl c3
           obtain⟨b,off,rfl, -⟩:=c9 _ hlt
           have hr:RepL (OwnS st) w ((uv.drop (n.toNat*sz1)).take sz1) c:=by
            have:=(c6.drop (n.toNat*sz1)).take sz1
            rwa[RX c4 hc]at this
           refine Out.same hh (v:=.pointer (some ⟨b,off+n.toNat*sz1,none⟩)) ?_ (.ip b _ _ c hr.1 (λx hx=>c7 x ?_) (λj hj=>?_) hr.2)
           . simp only[Instr.indexAt,AG,asIntOf,AN,Am,run_underlying hu]
             simp only[hn,and_self,if_true,AG,sizeOf,typeInfo,run_program,Am,q1,AN,q4,ED]
           . rw[Ht];exact⟨c,Ah hc,hx⟩
           . simp only[AQ,AO]at hj
             rw[FI,EG,FU]
             obtain⟨b',off',e',hcalm⟩:=c9 (n.toNat*sz1+j) q_o
             cases e'
             exact hcalm
         . cases h
       . cases h
     . cases h
   . rename_i e sz by_ z g off len cap hk
     obtain⟨hu,ii,zv,q1,q2,q3,q4,q5,q6,q7⟩:=(Ce hti).2.2.2.2.1 _ _ _ _ hk
     split at h
     . rename_i hn
       cases h
       cases ha
       refine Out.same hh (v:=.pointer (some ⟨g,off+n.toNat*sz,none⟩)) ?_ (.ptr _ _)
       simp only[Instr.indexAt,AG,asIntOf,AN,Am,run_underlying hu]
       simp only[hn,and_self,if_true,AG,sizeOf,typeInfo,run_program,Am,q1,AN,q4,ED]
     . cases h
   . rename_i len sz ag b off hk
     obtain⟨e,hu,q1,q2,rfl, -⟩:=(Ce hti).2.2.2.2.2.2 _ _ _ hk
     split at h
     . rename_i hn
       cases h
       cases ha
       refine Out.same hh (v:=.pointer (some ⟨b,off+n.toNat*szT P e,none⟩)) ?_ (.ptr _ _)
       simp only[Instr.indexAt,AG,asIntOf,AN,Am,run_underlying hu,Instr.sureAddr]
       simp only[hn,and_self,if_true,AG,Fl q1,Am,AN,ED]
     . cases h
   . rename_i len sz ag cs hk
     obtain⟨e,hu,q1,q2,rfl, -⟩:=(Ce hti).2.2.2.2.2.2 _ _ _ hk
     split at h
     . rename_i hn
       cases h
       obtain⟨b,off,rfl,hr⟩:=Yh ha (n.toNat*szT P e)
       refine Out.same hh (v:=.pointer (some ⟨b,off+n.toNat*szT P e,none⟩)) ?_ hr
       simp only[Instr.indexAt,AG,asIntOf,AN,Am,run_underlying hu,Instr.sureAddr]
       simp only[hn,and_self,if_true,AG,Fl q1,Am,AN,ED]
     . cases h
   . cases h
 . cases h
theorem Zs{t:TypeId}{a i:Value}{da d:D}{k:IntKind}{n:Int}(hh:Holds st w)(ha:Rep (OwnS st) w a da)(hi:i=.int k n)(h:NN P t da n=some d):Out st w d P (Instr.index t a i):=by
 subst hi
 unfold NN at h
 split at h
 . rename_i ti hti
   split at h
   . rename_i s hk
     have hu:=(Ce hti).2.2.1 hk
     cases DI ha
     split at h
     . rename_i hn
       cases hb:s.data.toList[n.toNat]? with
       | none=>rw[hb]at h;cases h
       | some b =>
        rw[hb]at h;cases h
        refine Out.same hh (v:=.int .u8 (b.toNat:Int)) ?_ (.s _ rfl)
        have hs:s[n.toNat]?=some b:=by
         obtain⟨h1,h2⟩:=Af.1 hb
         have h3:n.toNat<s.size:=by simpa using h1
         rw[getElem?_pos s n.toNat h3]
         congr 1
        simp only[Instr.index,AG,asIntOf,AN,Am,run_underlying hu,hn,if_true,hs]
     . cases h
   . rename_i len sz ag cs hk
     obtain⟨e,hu,q1,q2,rfl,rfl⟩:=(Ce hti).2.2.2.2.2.2 _ _ _ hk
     cases ha with
     | agg uv _ l1 l2 =>
      split at h
      . rename_i hn
        split at h
        . rename_i hag
          split at h
          . cases h
            have hr:RepL (OwnS st) w ((uv.drop (n.toNat*szT P e)).take (szT P e)) ((cs.drop (n.toNat*szT P e)).take (szT P e)):=(RepL.drop ⟨l1,l2⟩ _).take _
            refine Out.same hh (v:=.agg ((uv.drop (n.toNat*szT P e)).take (szT P e)).toArray) ?_ (.agg _ _ hr.1 hr.2)
            simp only[Instr.index,AG,asIntOf,AN,Am,run_underlying hu]
            simp only[hn,and_self,if_true,AG,Fl q1,Am,part,JT q2,hag,AN]
            congr 2
            apply Ke
            simp[Hx]
          . cases h
        . rename_i hag
          obtain⟨u,hu1,hu2⟩:=RepL.get? ⟨l1,l2⟩ h
          refine Out.same hh (v:=u) ?_ hu2
          simp only[Instr.index,AG,asIntOf,AN,Am,run_underlying hu]
          simp only[hn,and_self,if_true,AG,Fl q1,Am,part,JT q2,hag,BN,if_false]
          simp[hu1]
      . cases h
   . cases h
 . cases h
end
end
section
section
variable {P:Program} {st:St} {w:World}
theorem FV{k:IntKind}{n:Int}{y:Nat}(code:BoundsCode)(h:0<=n/\n<=y):(Instr.sliceBound (.int k n) y code).run P w=.ok n.toNat w:=by
 simp only[Instr.sliceBound,AG,asIntOf,AN,Am]
 rw[if_pos h];rfl
def Xo (o:Option Value)(n:Option Int):Prop:=match n with|none=>o=none|some n=>∃k,o=some (.int k n)
theorem LW{isS : Bool}{len cap l h:Nat}{lo hi mx:Option Int}{vl vh vm:Option Value}(hl:Xo vl lo)(hh:Xo vh hi)(hm:Xo vm mx)(hb:Jm len lo hi=some (l,h))(hlc:len<=cap)(hmx:mx=none\/(mx=hi/\hi≠none)) :
 (Instr.sliceBounds isS len cap vl vh vm).run P w=.ok (l,h,if mx=none then cap else h) w:=by
 unfold Jm at hb
 unfold Instr.sliceBounds
 rcases hmx with rfl|⟨rfl,hne⟩
 . subst hm
   cases hi with
   | none =>
    subst hh
    cases lo with
    | none =>
     subst hl
     simp only[Ci,DM]at hb
     obtain⟨rfl,rfl⟩:=hb
     simp[AG]
    | some lo =>
     obtain⟨k,rfl⟩:=hl
     simp only at hb
     split at hb
     . rename_i hlo
       simp only[Ci,DM]at hb
       obtain⟨rfl,rfl⟩:=hb
       simp only[AG,AN,Am,FV _ hlo,if_true]
     . cases hb
   | some hi =>
    obtain⟨kh,rfl⟩:=hh
    simp only at hb
    split at hb
    . rename_i x hx
      split at hx
      . rename_i hhi
        cases hx
        have hhi':0<=hi/\hi<=(cap:Int):=by omega
        cases lo with
        | none =>
         subst hl
         simp only[Ci,DM]at hb
         obtain⟨rfl,rfl⟩:=hb
         simp only[AG,AN,Am,FV _ hhi',if_true]
        | some lo =>
         obtain⟨k,rfl⟩:=hl
         simp only at hb
         split at hb
         . rename_i hlo
           simp only[Ci,DM]at hb
           obtain⟨rfl,rfl⟩:=hb
           simp only[AG,AN,Am,FV _ hhi',FV _ hlo,if_true]
         . cases hb
      . cases hx
    . cases hb
 . cases mx with
   | none=>exact absurd rfl hne
   | some hi =>
    obtain⟨kh,rfl⟩:=hh
    obtain⟨km,rfl⟩:=hm
    simp only at hb
    split at hb
    . rename_i x hx
      split at hx
      . rename_i hhi
        cases hx
        have hhi':0<=hi/\hi<=(cap:Int):=by omega
        have hhi2:0<=hi/\hi<=(hi.toNat:Int):=by omega
        cases lo with
        | none =>
         subst hl
         simp only[Ci,DM]at hb
         obtain⟨rfl,rfl⟩:=hb
         simp only[AG,AN,Am,FV _ hhi',FV _ hhi2,reduceCtorEq,if_false]
        | some lo =>
         obtain⟨k,rfl⟩:=hl
         simp only at hb
         split at hb
         . rename_i hlo
           simp only[Ci,DM]at hb
           obtain⟨rfl,rfl⟩:=hb
           simp only[AG,AN,Am,FV _ hhi',FV _ hhi2,FV _ hlo,reduceCtorEq,if_false]
         . cases hb
      . cases hx
    . cases hb
theorem SB{len l h:Nat}{lo hi:Option Int}(hb:Jm len lo hi=some (l,h)):l<=h/\h<=len:=by
 unfold Jm at hb
 cases hi with
|none =>
  cases lo with
  | none=>simp only[Ci,DM]at hb;omega
  | some lo =>
   simp only at hb
   split at hb
   . simp only[Ci,DM]at hb;omega
   . cases hb
|some hi =>
  simp only at hb
  split at hb
  . rename_i x hx
    split at hx
    . cases hx
      cases lo with
      | none=>simp only[Ci,DM]at hb;omega
      | some lo =>
       simp only at hb
       split at hb
       . simp only[Ci,DM]at hb;omega
       . cases hb
    . cases hx
  . cases hb
theorem PD{sz:Nat}{es:List (List D)}(he:∀e∈es,e.length=sz)(l n:Nat):((es.drop l).take n).flatten=(es.flatten.drop (l*sz)).take (n*sz):=by
 induction es generalizing l n with
|nil=>simp
|cons e es ih =>
  have hl:=he e (Ag ..)
  have ih':=ih (λx hx=>he x (Ae _ hx))
  cases l with
  | zero =>
   rw[Fe,Ch,Ch]
   cases n with
   | zero=>simp
   | succ n =>
    rw[Eg,AL,AL]
    have:=ih' 0 n
    rw[Fe,Ch,Ch]at this
    rw[this,Cr,Dw,<-hl,dY]
    congr 1
    . rw[Bj q_o]
    . congr 1;omega
  | succ l =>
   rw[Lu,AL,ih' l n,Cr,Dw (l*sz) sz,<-CY,<-hl,CN]
theorem Zr{t:TypeId}{a:Value}{da d:D}{lo hi mx:Option Int}{vl vh vm:Option Value}(hl:Xo vl lo)(hhi:Xo vh hi)(hm:Xo vm mx)(hh:Holds st w)(ha:Rep (OwnS st) w a da)(h:NM P t da lo hi mx=some d):Out st w d P (Instr.sliceAt t a vl vh vm):=by
 unfold NM at h
 split at h
 . rename_i s hk
   obtain⟨ti,h1,h2⟩:=Fs hk (by simp)
   have hu:=(Ce h1).2.2.1 h2
   cases DI ha
   split at h
   . split at h
     . rename_i l hx hb
       cases h
       subst hm
       refine Out.same hh ?_ (.s _ rfl)
       simp only[Instr.sliceAt,AG,run_underlying hu,Am,Instr.slice,Option.isSome_none,BN,if_false,AN,LW (isS:=false) hl hhi (mx:=none) rfl hb (Ap _) (.inl rfl)]
     . cases h
   . cases h
 . rename_i e sz by_ z o es hk
   obtain⟨ti,h1,h2⟩:=Fs hk (by simp)
   obtain⟨hu,ii,zv,q1,q2,q3,q4,q5,q6,q7⟩:=(Ce h1).2.2.2.2.1 _ _ _ _ h2
   obtain⟨ad,cap,uv,sz1,rfl,c1,c2,c3,c4,c5,c6,c7,c8,c9, -⟩:=Ep ha
   split at h
   . rename_i l hx hb
     obtain⟨b1,b2⟩:=SB hb
     split at h
     . rename_i hall
       have hes:∀e∈es,e.length=sz:=λe he=>by simpa using AU.1 hall e he
       have hmx:mx=none\/(mx=hi/\hi≠none):=by
        cases mx with
        | none=>exact .inl rfl
        | some m =>
         simp only at h
         split at h
         . rename_i e;exact .inr ⟨e.symm,by rw[e];simp⟩
         . cases h
       have hd:∃o',d=.sl o' ((es.drop l).take (hx - l))/\(o'=.shared\/(o'=.tight/\mx≠none)):=by
        cases mx with
        | none=>cases h;exact⟨_,rfl,.inl rfl⟩
        | some m =>
         simp only at h
         split at h
         . cases h;exact⟨_,rfl,.inr ⟨rfl,by simp⟩⟩
         . cases h
       obtain⟨o',rfl,ho'⟩:=hd
       have hrun:(Instr.sliceAt t (.slice ad es.length cap) vl vh vm).run P w=.ok (.slice (if (if mx=none then cap else hx)=l then ad else ad.map (·.add (l*sz))) (hx - l) ((if mx=none then cap else hx) - l)) w:=by
        simp only[Instr.sliceAt,AG,run_underlying hu,Am,Instr.slice,LW (isS:=true) hl hhi hm hb c1 hmx,sizeOf,typeInfo,run_program,q1,AN,q4]
       have hlen:((es.drop l).take (hx - l)).length=hx - l:=by rw[AQ,AO];omega
       have hsz1:∀e∈(es.drop l).take (hx - l),e.length=sz1:=λe he=>c4 e (FH (Kt he))
       have hrl:RepL (OwnS st) w ((uv.drop (l*sz1)).take ((hx - l)*sz1)) ((es.drop l).take (hx - l)).flatten:=by
        rw[PD c4];exact(c6.drop _).take _
       have hcm:(if mx=none then cap else hx)<=cap:=by split<;>omega
       have hcm2:hx<=(if mx=none then cap else hx):=by split<;>omega
       generalize hM:(if mx=none then cap else hx)=M at *
       refine Out.same hh hrun ?_
       have hflr:=PD c4 l (hx - l)
       generalize (es.drop l).take (hx - l)=L at *
       rw[<-hlen]
       refine .sl o' L _ (M - l) ((uv.drop (l*sz1)).take ((hx - l)*sz1)) sz1 q_o q_o (λhn=>?_) c3 hsz1 hrl.1 (λx hx'=>?_) (λj hj=>?_) hrl.2 ?_
       . split at hn
         . omega
         . cases ad with
           | none=>have:=c8 rfl;omega
           | some ad=>cases hn
       . rw[hflr]at hx'
         exact c7 x (FH (Kt hx'))
       . simp only[AQ,AO]at hj
         have hlt:l<hx:=by
          rcases Dv l hx with h|h
          . exact h
          . have:hx - l=0:=by omega
            rw[this,Fe]at hj;omega
         have hmul:l*sz1+(hx - l)*sz1<=es.length*sz1:=by
          rw[<-FF];exact CM _ q_o
         obtain⟨b,off,rfl,hcalm⟩:=c9 (l*sz1+j) q_o
         have hszeq:sz1=sz:=by
          have hne:0<es.length:=by omega
          rw[<-c4 es[0] (Hu hne),hes es[0] (Hu hne)]
         rw[if_neg q_o]
         refine⟨b,off+l*sz1,by rw[CK,ED,hszeq],?_⟩
         rw[FI,EG,FU]
         exact hcalm
       . rcases ho' with rfl|⟨rfl,hne⟩
         . trivial
         . rw[if_neg hne]at hM
           show M - l=_
           omega
     . cases h
   . cases h
 . rename_i e sz by_ z g off n cap hk
   obtain⟨ti,h1,h2⟩:=Fs hk (by simp)
   obtain⟨hu,ii,zv,q1,q2,q3,q4,q5,q6,q7⟩:=(Ce h1).2.2.2.2.1 _ _ _ _ h2
   cases ha with
   | ar _ _ _ _ c1 c2 =>
   split at h
   . rename_i l hx hb
     obtain⟨b1,b2⟩:=SB hb
     split at h
     . rename_i hc
       cases h
       have hrun:(Instr.sliceAt t (.slice (some ⟨g,off,none⟩) n cap) vl vh vm).run P w=.ok (.slice (if cap=l then some ⟨g,off,none⟩else(some (⟨g,off,none⟩:Addr)).map (·.add (l*sz))) (hx - l) (cap - l)) w:=by
        simp only[Instr.sliceAt,AG,run_underlying hu,Am,Instr.slice,LW (isS:=true) hl hhi hm hb c1 (.inl rfl),sizeOf,typeInfo,run_program,q1,AN,q4,if_true]
       have hif:(if cap=l then some (⟨g,off,none⟩:Addr)else(some (⟨g,off,none⟩:Addr)).map (·.add (l*sz)))=some ⟨g,off+l*sz,none⟩:=by
        split
        . have:l=0:=by omega
          subst this;simp
        . rw[CK,ED]
       rw[hif]at hrun
       exact Out.same hh hrun (.ar _ _ _ _ q_o q_o)
     . cases h
   . cases h
 . cases h
theorem cg{t:TypeId}{ti:TI}{a:Value}{cs:List D}{d:D}(ht:Bt P t=some ti)(hh:Holds st w)(ha:Rep (OwnS st) w a (.ip cs))(h:Je ti cs=some d):Out st w d P (Instr.loadAt t a):=by
 cases ha with
|ip b off us _ h1 h2 h3 h4 =>
  obtain⟨v,k1,k2⟩:=KA ht (λi hi=>(h3 i hi).2.2) ⟨h1,h4⟩ h
  exact Out.same hh k1 k2
theorem fJ{t:TypeId}{a:Value}{da:D}(hh:Holds st w)(ha:Rep (OwnS st) w a da)(hl:da.cells.all D.leaf=true):Out st w (.ip da.cells) P (Instr.box t a):=by
 have hc:=ha.cells
 have he:=Ext.alloc (OwnS st) w (.cells a.cells t)
 refine⟨.pointer (some ⟨w.heap.size,0,none⟩),w.alloc (.cells a.cells t),?_,?_,hh.alloc _,he⟩
 . rfl
 . refine .ip w.heap.size 0 a.cells.toList _ hc.1 (AU.1 hl) (λi hi=>?_) (hc.ext he).2
   rw[Bo]
   exact UW hh a.cells.toList t (0,0) hi
theorem fI{t ty:TypeId}{a:Value}{da:D}{n:Int}(hh:Holds st w)(ha:Rep (OwnS st) w a da)(h:dS P t da=some n):Out st w (.i n) P (Builtin.len_ #[t] ty #[a]):=by
 unfold dS at h
 split at h
 . split at h
   . rename_i hk
     obtain⟨ti,h1,h2⟩:=Fs hk (by simp)
     obtain⟨hu, -⟩:=(Ce h1).2.2.2.2.1 _ _ _ _ h2
     cases h
     obtain⟨ad,cap,uv,sz1,rfl, -⟩:=Ep ha
     refine Out.same hh ?_ (.s _ rfl)
     simp[Builtin.len_,run_underlying hu,goInt]
   . cases h
 . split at h
   . rename_i hk
     obtain⟨ti,h1,h2⟩:=Fs hk (by simp)
     obtain⟨hu, -⟩:=(Ce h1).2.2.2.2.1 _ _ _ _ h2
     cases h
     cases ha
     refine Out.same hh ?_ (.s _ rfl)
     simp[Builtin.len_,run_underlying hu,goInt]
   . cases h
 . split at h
   . rename_i hk
     obtain⟨ti,h1,h2⟩:=Fs hk (by simp)
     have hu:=(Ce h1).2.2.1 h2
     cases h
     cases DI ha
     refine Out.same hh ?_ (.s _ rfl)
     simp[Builtin.len_,run_underlying hu,goInt]
   . cases h
 . cases h
theorem RepL.one{O:Nat->Nat->Prop}{us:List Value}{d:D}(h:RepL O w us [d]):∃u,us=[u]/\Rep O w u d:=by
 obtain⟨u,t,rfl,h1,h2⟩:=h.inv_cons
 rw[h2.inv_nil];exact⟨u,rfl,h1⟩
theorem RepL.two{O:Nat->Nat->Prop}{us:List Value}{d d':D}(h:RepL O w us [d,d']):∃u u',us=[u,u']/\Rep O w u d/\Rep O w u' d':=by
 obtain⟨u,t,rfl,h1,h2⟩:=h.inv_cons
 obtain⟨u',rfl,h3⟩:=h2.one
 exact⟨u,u',rfl,h1,h3⟩
theorem UO{bi : Builtin}{ts:Array TypeId}{ty:TypeId}{cc:Array Bool}{vs:Array Value}{ds:List D}{d:D}(hh:Holds st w)(ha:RepL (OwnS st) w vs.toList ds)(h:aBi P bi ts.toList ds=some d) :
 ∃v w',(builtin bi ts ty cc vs).run P w=.ok (.value v) w'/\Rep (OwnS st) w' v d/\Holds st w'/\Ext (OwnS st) w (OwnS st) w':=by
 obtain⟨tl⟩:=ts
 obtain⟨vl⟩:=vs
 dsimp only at h ha
 have lift:∀{s:Sem Value},Out st w d P s->(∀w',(builtin bi tl.toArray ty cc vl.toArray).run P w'=(s.run P w').andThen λv w''=>.ok (.value v) w'')->∃v w',(builtin bi tl.toArray ty cc vl.toArray).run P w=.ok (.value v) w'/\Rep (OwnS st) w' v d/\Holds st w'/\Ext (OwnS st) w (OwnS st) w':=by
  rintro s ⟨v,w',k1,k2,k3,k4⟩ hs
  exact⟨v,w',by rw[hs,k1];rfl,k2,k3,k4⟩
 unfold aBi at h
 split at h
 . rename_i t da
   obtain⟨u,rfl,hu⟩:=ha.one
   cases hl:dS P t da with
   | none=>rw[hl]at h;cases h
   | some n =>
    rw[hl]at h;cases h
    exact lift (fI (ty:=ty) hh hu hl) λw'=>by simp[builtin,AG]
 . rename_i t es
   obtain⟨u,rfl,hu⟩:=ha.one
   split at h
   . rename_i hk
     obtain⟨ti,h1,h2⟩:=Fs hk (by simp)
     obtain⟨hun, -⟩:=(Ce h1).2.2.2.2.1 _ _ _ _ h2
     cases h
     obtain⟨ad,cap,uv,sz1,rfl,_,_,_,_,_,_,_,_,_,hc⟩:=Ep hu
     have hc':cap=es.length:=hc
     subst hc'
     refine⟨.int .i64 es.length,w,?_,.s _ rfl,hh,Ext.refl _ _⟩
     simp[builtin,Builtin.cap_,run_underlying hun,goInt]
   . cases h
 . rename_i k x k' y
   obtain⟨u,u',rfl,hu,hu'⟩:=ha.two
   cases DI hu;cases DI hu'
   cases h
   refine⟨.int k (if y<x then y else x),w,?_,.s _ rfl,hh,Ext.refl _ _⟩
   simp[builtin,Builtin.min_,Builtin.min2]
 . rename_i k x k' y
   obtain⟨u,u',rfl,hu,hu'⟩:=ha.two
   cases DI hu;cases DI hu'
   cases h
   refine⟨.int k (if y > x then y else x),w,?_,.s _ rfl,hh,Ext.refl _ _⟩
   simp[builtin,Builtin.max_,Builtin.max2]
 . cases h
end
end
section
section
variable {P:Program} {st:St} {w:World}
theorem bB{α β:Type}(f:α->Sem β)(g:α->β)(xs:Array α)(h:∀x∈xs,(f x).run P w=.ok (g x) w):(xs.mapM f).run P w=.ok (xs.map g) w:=by
 obtain⟨l⟩:=xs
 rw[List.mapM_toArray]
 have key:∀l:List α,(∀x∈l,(f x).run P w=.ok (g x) w)->(l.mapM f).run P w=.ok (l.map g) w:=by
  intro l
  induction l with
  | nil=>intro _;simp
  | cons x l ih =>
   intro h
   rw[List.mapM_cons]
   simp only[AG,h x (Ag ..),Am,ih λy hy=>h y (Ae _ hy),AN,Au]
 have hk:=key l λx hx=>h x (by simpa using hx)
 rw[<-bind_pure_comp]
 simp only[AG,hk,Am,AN,Gg]
theorem Vp(off:Nat):∀(vs:List Value) (j:Nat) (cells:Array Value),off+j+vs.length<=cells.size ->
 ((vs.zipIdx j).foldl (λcs (x:Value×Nat)=>cs.setIfInBounds (off+x.2) x.1) cells).toList=cells.toList.take (off+j)++vs++cells.toList.drop (off+j+vs.length)
|[],j,cells,_=>by simp
|v::vs,j,cells,h=>by
  simp only[An]at h
  rw[List.zipIdx_cons,Qk,Vp off vs (j+1) _ (by simp;omega)]
  simp only[Array.toList_setIfInBounds]
  apply Cx
  intro k
  simp only[Ai,An]
  rw[Ku,Ku,Ku,Ku]
  simp only[AQ,AV,AR,An,Dq,Fv,GN]
  have e1:min (off+(j+1)) cells.size=off+j+1:=by omega
  have e2:min (off+j) cells.size=off+j:=by omega
  rw[e1,e2]
  by_cases h1:k<off+j
  . rw[if_pos q_o,if_pos q_o,if_pos h1,if_pos h1,if_neg q_o]
  . by_cases h2:k=off+j
    . subst h2
      rw[if_pos q_o,if_pos q_o,if_pos rfl,if_pos q_o,if_neg q_o,if_pos q_o,Gu]
      rfl
    . rw[if_neg q_o,if_neg h1]
      by_cases h3:k - (off+j+1)<vs.length
      . rw[if_pos h3,if_pos q_o,show k - (off+j)=(k - (off+j+1))+1 by omega,Bq]
      . rw[if_neg h3,if_neg q_o,if_neg q_o]
        congr 1
        omega
theorem RepL.shZ{O:Nat->Nat->Prop}{us:List Value}{cs:List D}(z:List Value)(h:RepL O w us cs):RepL O w us (cs.map (shZ z)):=by
 unfold Go.Proofs.YtoeidpmjifjplaaGreat.shZ
 split
 . rwa[ee]
 . exact h.sh
theorem MR{O:Nat->Nat->Prop}{place:Nat->Option (Nat×Nat)}{g:D->D}(hg:∀{us:List Value} {cs:List D},RepL O w us cs->RepL O w us (cs.map g)):∀{ps:List (Nat×D)} {vs:List (Nat×Value)} {cs cs':List D} {cells:Array Value},vs.map (·.1)=ps.map (·.1)->RepL O w (vs.map (·.2)) (ps.map (·.2))->RepL O w cells.toList cs->KY g place cs ps=some cs' ->
 ∃cells',Instr.fill place cells vs=some cells'/\RepL O w cells'.toList cs'
|[],[],cs,cs',cells,_,_,hc,h=>by cases h;exact⟨cells,rfl,hc⟩
|(i,d)::ps,(i',v)::vs,cs,cs',cells,h1,h2,hc,h=>by
  simp only[Au,gY]at h1
  obtain⟨rfl,h1⟩:=h1
  obtain⟨u,t,e,hd,h2'⟩:=RepL.inv_cons h2
  rw[Au]at e
  cases e
  unfold KY at h
  unfold Instr.fill
  cases hp:place i' with
  | none=>rw[hp]at h;cases h
  | some q =>
   obtain⟨off,sz⟩:=q
   rw[hp]at h
   simp only at h |-
   split at h
   . rename_i hq
     have hcl:=hd.cells
     have hvs:v.cells.size=sz:=by rw[<-AR,hcl.1];exact hq.1
     have hcs:cells.size=cs.length:=by rw[<-AR];exact hc.1
     have hcond:(decide (v.cells.size≠sz) || decide (off+v.cells.size > cells.size))=false:=by
      simp only[BU,decide_eq_false_iff_not]
      omega
     have hcond':¬((v.cells.size≠sz || off+v.cells.size > cells.size)=true):=by rw[hcond];exact AJ
     rw[if_neg hcond']
     have hfold:=Vp off v.cells.toList 0 cells (by rw[AR];omega)
     simp only[Ed]at hfold
     have harr:(v.cells.zipIdx.foldl (λcs (x:Value×Nat)=>cs.setIfInBounds (off+x.2) x.1) cells)=(v.cells.toList.zipIdx.foldl (λcs (x:Value×Nat)=>cs.setIfInBounds (off+x.2) x.1) cells):=by
      rw[<-Mj,Array.toList_zipIdx]
     refine MR hg h1 h2' ?_ h
     show RepL O w (v.cells.zipIdx.foldl (λcs (x:Value×Nat)=>cs.setIfInBounds (off+x.2) x.1) cells).toList _
     rw[harr,hfold]
     unfold DJ
     rw[Ab,hcl.1]
     exact((hc.take off).append (hg hcl)).append (hc.drop _)
   . cases h
|[],_::_,_,_,_,h1,_,_,_=>by simp at h1
|_::_,[],_,_,_,h1,_,_,_=>by simp at h1
theorem OA{O:Nat->Nat->Prop}{z:List Value}(h:z.all GI=true):RepL O w z (z.map Dm):=by
 have:=RepL.map (O:=O) (w:=w) (l:=z) (f:=id) (g:=Dm) (λx hx=>Lg (AU.1 h x hx))
 rwa[ee]at this
theorem Zu{t:TypeId}{ps:List (Nat×D)}{vs:List (Nat×Value)}{d:D}(hh:Holds st w)(h1:vs.map (·.1)=ps.map (·.1))(h2:RepL (OwnS st) w (vs.map (·.2)) (ps.map (·.2)))(h:NQ P t ps=some d):Out st w d P (Instr.build t vs.toArray):=by
 unfold NQ at h
 split at h
 . rename_i ti hti
   split at h
   . rename_i hz
     obtain⟨zv,hzl,hzr⟩:=LH hti w
     have hzrep:RepL (OwnS st) w zv.cells.toList (ti.zero.map Dm):=by rw[hzl];exact OA hz
     split at h
     . rename_i fs hfs
       obtain⟨fields,hu,hff,rfl⟩:=(Ce hti).2.2.2.2.2.1 _ hfs
       cases hf:KY D.sh (λi=>(((fields.toList.map λf=>(f.offset,szT P f.type,QC P f.type))[i]?).map λ(f:Nat×Nat×Bool)=>(f.1,f.2.1))) (ti.zero.map Dm) ps with
       | none=>rw[hf]at h;cases h
       | some cs =>
        rw[hf]at h;cases h
        obtain⟨cells',k1,k2⟩:=MR RepL.sh h1 h2 hzrep hf
        have hpl:(λ(i:Nat)=>(((fields.toList.map λf=>(f.offset,szT P f.type,QC P f.type))[i]?).map λ(f:Nat×Nat×Bool)=>(f.1,f.2.1)))=λ(i:Nat)=>(fields.map λf=>(f.offset,szT P f.type))[i]?:=by
         funext i
         simp only[Aq,Array.getElem?_map,BF,Option.map_map]
         rfl
        rw[hpl]at k1
        have hm:(fields.mapM λf=>(do pure (f.offset,<-sizeOf f.type):Sem (Nat×Nat))).run P w=.ok (fields.map λf=>(f.offset,szT P f.type)) w :=
         bB _ _ fields λf hf=>by
          simp only[AG,Fl (hff f (by simpa using hf)).1,Am,AN]
        refine Out.same hh (v:=.agg cells') ?_ ?_
        . simp only[Instr.build,AG,hzr,Am,run_underlying hu,hm,List.toList_toArray,k1,AN]
        . exact .agg cells'.toList cs k2.1 k2.2
     . rename_i n sz ag hk
       obtain⟨e,hu,q1,q2,rfl, -⟩:=(Ce hti).2.2.2.2.2.2 _ _ _ hk
       cases hf:KY D.sh (λi=>some (i*szT P e,szT P e)) (ti.zero.map Dm) ps with
       | none=>rw[hf]at h;cases h
       | some cs =>
        rw[hf]at h;cases h
        obtain⟨cells',k1,k2⟩:=MR RepL.sh h1 h2 hzrep hf
        refine Out.same hh (v:=.agg cells') ?_ ?_
        . simp only[Instr.build,AG,hzr,Am,run_underlying hu,Fl q1,List.toList_toArray,k1,AN]
        . exact .agg cells'.toList cs k2.1 k2.2
     . cases h
   . cases h
 . cases h
theorem Ss{sz:Nat}:∀(n:Nat) (l:List D),l.length=n*sz->(Iq sz n l).flatten=l/\(Iq sz n l).length=n/\∀e∈Iq sz n l,e.length=sz
|0,l,h=>by
  have:l=[]:=Ay (by simpa using h)
  subst this
  exact⟨rfl,rfl,λe he=>by cases he⟩
|n+1,l,h=>by
  rw[Cr]at h
  obtain⟨k1,k2,k3⟩:=Ss (sz:=sz) n (l.drop sz) (by rw[AO];omega)
  refine⟨by rw[Iq,AL,k1,Bv],by rw[Iq,An,k2],λe he=>?_⟩
  rw[Iq,Ax]at he
  rcases he with rfl|he
  . rw[AQ];omega
  . exact k3 e he
theorem XP{z:List Value}{g:D->D}:∀n,((List.replicate n (z.map Dm)).flatten.map g).length=n*z.length
|0=>by simp
|n+1=>by
  have:=XP (z:=z) (g:=g) n
  rw[Ab]at this
  rw[Ab,Ig,AL,Ad,this,Ab,Cr,Dw]
theorem OZ{O:Nat->Nat->Prop}{z:List Value}(h:z.all GI=true):∀n,RepL O w (List.replicate n z).flatten ((List.replicate n (z.map Dm)).flatten)
|0=>.nil
|n+1=>by
  rw[Ig,Ig,AL,AL]
  exact(OA h).append (OZ h n)
theorem Rn(z:Array Value)(hz:0<z.size):∀n,((Array.range (n*z.size)).map (z[· % z.size]!)).toList=(List.replicate n z.toList).flatten:=by
 intro n
 apply Cx
 intro i
 have hl:∀n,(List.replicate n z.toList).flatten.length=n*z.size:=λn=>by
  induction n with
  | zero=>simp
  | succ n ih=>rw[Ig,AL,Ad,ih,Cr,Dw];simp
 have hg:∀n i,i<n*z.size->(List.replicate n z.toList).flatten[i]?=z.toList[i % z.size]?:=λn=>by
  induction n with
  | zero=>intro i h;omega
  | succ n ih =>
   intro i h
   rw[Ig,AL]
   rcases Dv i z.size with h1|h1
   . rw[Ba (by simpa using h1),Om h1]
   . rw[BP (by simpa using h1)]
     simp only[AR]
     rw[ih (i - z.size) (by rw[Cr]at h;omega),<-Nat.mod_eq_sub_mod h1]
 rcases Dv i (n*z.size)with h|h
 . rw[hg n i h]
   have hm:=Nat.mod_lt i hz
   simp[h,hm]
 . rw[Bz (by simpa using h),Bz (by rw[hl];exact h)]
theorem Pj{t:TypeId}{n:Nat}{ps:List (Nat×D)}{vs:List (Nat×Value)}{d:D}(hh:Holds st w)(h1:vs.map (·.1)=ps.map (·.1))(h2:RepL (OwnS st) w (vs.map (·.2)) (ps.map (·.2)))(h:Gz P t n ps=some d):Out st w d P (Instr.buildSlice t n vs.toArray):=by
 unfold Gz at h
 split at h
 . rename_i ti hti
   split at h
   . rename_i e sz by_ z hk
     obtain⟨hu,ii,zv,q1,q2,q3,q4,q5,q6,q7⟩:=(Ce hti).2.2.2.2.1 _ _ _ _ hk
     split at h
     . rename_i hz
       obtain⟨hz,hn,hszb⟩:=hz
       split at h
       . rename_i cs hf
         split at h
         . rename_i hleaf
           cases h
           subst q3
           have hzn:zv.cells.toList.length=sz:=by simpa using q7
           have hz0:0<zv.cells.size:=by omega
           have hcz:RepL (OwnS st) w ((Array.range (n*zv.cells.size)).map (zv.cells[· % zv.cells.size]!)).toList ((List.replicate n (zv.cells.toList.map Dm)).flatten.map (shZ zv.cells.toList)):=by
            rw[Rn _ hz0];exact(OZ hz n).shZ _
           obtain⟨cells',k1,k2⟩:=MR (RepL.shZ _) h1 h2 hcz hf
           have hlen:∀{ps:List (Nat×D)} {cs cs':List D},KY (shZ zv.cells.toList) (λi=>some (i*sz,sz)) cs ps=some cs'->cs'.length=cs.length:=by
            intro ps
            induction ps with
            | nil=>intro cs cs' h;cases h;rfl
            | cons p ps ih =>
             obtain⟨i,dd⟩:=p
             intro cs cs' h
             unfold KY at h
             simp only at h
             split at h
             . rename_i hq
               rw[ih h]
               unfold DJ
               simp only[Ad,AQ,AO,Ab]
               omega
             . cases h
           have hcl:cs.length=n*sz:=by rw[hlen hf,XP,hzn]
           obtain⟨c1,c2,c3⟩:=Ss n cs hcl
           have hbig:¬(n*sz > 2 ^ 24):=by
            have:n*sz<=1000*100:=Nat.mul_le_mul hn hszb
            omega
           have he:=Ext.alloc (OwnS st) w (.cells cells' e)
           have hrun:(Instr.buildSlice t n vs.toArray).run P w=.ok (.slice (some ⟨w.heap.size,0,none⟩) n n) (w.alloc (.cells cells' e)):=by
            have hsize:(sizeOf e).run P w=.ok sz w:=by simp[sizeOf,typeInfo,q1,q4]
            have hzero:(zeroValue e).run P w=.ok zv w:=by simp[zeroValue,typeInfo,q1,q2]
            simp only[Instr.buildSlice,AG,run_underlying hu,Am,hsize]
            rw[if_neg hbig]
            by_cases hn0:n*sz=0
            . rw[if_pos hn0]
              simp only[AG,AN,Am]
              have:((Array.range (n*sz)).map ((#[]:Array Value)[· % (#[]:Array Value).size]!))=((Array.range (n*zv.cells.size)).map (zv.cells[· % zv.cells.size]!)):=by
               rw[q7,hn0];simp
              rw[this,k1]
              rfl
            . rw[if_neg hn0]
              simp only[AG,hzero,Am,AN]
              rw[show n*sz=n*zv.cells.size by rw[q7],k1]
              rfl
           refine⟨_,_,hrun,?_,hh.alloc _,he⟩
           have hcsz:cells'.toList.length=n*sz:=by rw[k2.1,hcl]
           have:=Rep.sl (O:=OwnS st) (w:=w.alloc (.cells cells' e)) .tight (Iq sz n cs) (some ⟨w.heap.size,0,none⟩) n cells'.toList sz q_o (by unfold maxLen;omega) (λe=>by cases e) q6 c3 (by rw[c1];exact k2.1) (by rw[c1];exact AU.1 hleaf)
            (λi hi=>⟨w.heap.size,0,rfl,by rw[Bo];exact UW hh cells'.toList e (0,0) hi⟩)
            (λi hi hi'=>by
             have:=(k2.ext he).2 i hi (by rw[<-k2.1];exact hi)
             simpa only[c1]using this) c2.symm
           rwa[c2]at this
         . cases h
       . cases h
     . cases h
   . cases h
 . cases h
end
end
section
section
variable {P:Program} {st:St} {w:World}
theorem Tw{O:Nat->Nat->Prop}{e:Nat->D}{ρ:Operand->Value}{S:Array Operand}(h:RepE e O w ρ S):∀{l:List (Nat×Operand)} {ds:List (Nat×D)},(∀x∈l,x.2∈S)->evP e l=some ds->(l.map λp=>(p.1,ρ p.2)).map (·.1)=ds.map (·.1)/\RepL O w ((l.map λp=>(p.1,ρ p.2)).map (·.2)) (ds.map (·.2))
|[],ds,_,hl=>by cases hl;exact⟨rfl,.nil⟩
|(i,x)::l,ds,hS,hl=>by
  unfold evP at hl
  split at hl
  . rename_i d ds' h1 h2
    cases hl
    obtain⟨k1,k2⟩:=Tw h (λy hy=>hS y (Ae _ hy)) h2
    exact⟨by simp only[Au,gY,true_and];exact k1,.cons (h x (hS _ (Ag ..)) _ h1) k2⟩
  . cases hl
theorem Ma{O:Nat->Nat->Prop}{e:Nat->D}{ρ:Operand->Value}{S:Array Operand}(h:RepE e O w ρ S){x:Option Operand}{n:Option Int}(hS:∀y,x=some y->y∈S)(hx:Gt e x=some n):Xo (x.map ρ) n:=by
 unfold Gt at hx
 split at hx
 . cases hx;rfl
 . rename_i x
   split at hx
   . rename_i k n hv
     cases hx
     exact⟨k,by rw[CK,DI (h x (hS x rfl) _ hv)]⟩
   . cases hx
theorem RQ{O:Nat->Nat->Prop}{e:Nat->D}{ρ:Operand->Value}{S:Array Operand}(h:RepE e O w ρ S){x:Operand}{n:Int}(hS:x∈S)(hx:JZ (ev e x)=some n):∃k,ρ x=.int k n:=by
 unfold JZ at hx
 split at hx
 . rename_i k n hv
   cases hx
   exact⟨k,DI (h x hS _ hv)⟩
 . cases hx
theorem Jf{s:Sem Value}{d:D}(h:Out st w d P s):∃v w',((do pure (.value (<-s)):Sem Next)).run P w=.ok (.value v) w'/\Rep (OwnS st) w' v d/\Holds st w'/\Ext (OwnS st) w (OwnS st) w':=by
 obtain⟨v,w',h1,h2,h3,h4⟩:=h
 exact⟨v,w',by simp only[AG,h1,Am,AN],h2,h3,h4⟩
theorem SD{o:Oper}{e:Nat->D}{d:D}(h:aOp P o e=some d):OpY P o e st d:=by
 intro ρ w hr hh
 have same:∀{v:Value},Rep (OwnS st) w v d->(∃u w',((pure (.value v):Sem Next)).run P w=.ok (.value u) w'/\Rep (OwnS st) w' u d/\Holds st w'/\Ext (OwnS st) w (OwnS st) w'):=λhv=>⟨_,w,rfl,hv,hh,Ext.refl _ _⟩
 unfold aOp at h
 unfold execOp
 cases hop:o.op<;>rw[hop]at h hr<;>simp only at h |-
 all_goals have ok:∀{x:Operand} {d:D},x∈(Op.operands _)->ev e x=some d->Rep (OwnS st) w (ρ x) d:=λhS hx=>hr _ hS _ hx
 case move x=>exact same (ok (by simp[Op.operands]) h)
 case assign x=>exact same (ok (by simp[Op.operands]) h)
 case pick c x y =>
  split at h
  . rename_i t hc
    have hcv:=DI (ok (by simp[Op.operands]) hc)
    rw[hcv]
    refine⟨if t then ρ x else ρ y,w,by simp[asBool],?_,hh,Ext.refl _ _⟩
    cases t
    . exact ok (by simp[Op.operands]) h
    . exact ok (by simp[Op.operands]) h
  . cases h
 case nilCheck x =>
  split at h
  . rename_i b off hx
    cases h
    have hv:=ok (by simp[Op.operands]) hx
    generalize ρ x=v at hv
    cases hv
    exact same (.ptr _ _)
  . rename_i c hx
    cases h
    have hv:=ok (by simp[Op.operands]) hx
    generalize ρ x=v at hv
    cases hv with
    | ip b off us _ h1 h2 h3 h4=>exact same (.ip b off us _ h1 h2 h3 h4)
  . rename_i f p q hx
    cases h
    have hv:=ok (by simp[Op.operands]) hx
    generalize ρ x=v at hv
    cases hv with
    | fn _ us1 us2 _ _ l1 l2 r1 r2=>exact same (.fn _ us1 us2 _ _ l1 l2 r1 r2)
  . rename_i f p q hx
    cases h
    have hv:=ok (by simp[Op.operands]) hx
    generalize ρ x=v at hv
    cases hv with
    | fn _ us1 us2 _ _ l1 l2 r1 r2=>exact same (.fn _ us1 us2 _ _ l1 l2 r1 r2)
  . cases h
 case binOp op t x y t' =>
  split at h
  . rename_i da db hx hy
    exact Jf (fK hh (ok (by simp[Op.operands]) hx) (ok (by simp[Op.operands]) hy) h)
  . cases h
 case unOp op t x =>
  cases hx:ev e x with
  | none=>rw[hx]at h;cases h
  | some da=>rw[hx]at h;exact Jf (iX hh (ok (by simp[Op.operands]) hx) h)
 case convert src dst x =>
  cases hx:ev e x with
  | none=>rw[hx]at h;cases h
  | some da=>rw[hx]at h;exact Jf (ci hh (ok (by simp[Op.operands]) hx) h)
 case makeFunc fn first caps =>
  split at h
  . rename_i p q h1 h2
    cases h
    have r1:=Lm hr (λx hx=>by simp[Op.operands];exact .inl (by simpa using hx)) h1
    have r2:=Lm hr (λx hx=>by simp[Op.operands];exact .inr (by simpa using hx)) h2
    refine Jf (Out.same hh (v:=.func fn (first.map ρ) (caps.map ρ)) rfl ?_)
    have:=Rep.fn fn (first.toList.map ρ) (caps.toList.map ρ) p q r1.1 r2.1 r1.2 r2.2
    have h1:∀xs:Array Operand,xs.map ρ=(xs.toList.map ρ).toArray:=λxs=>by apply Ke;simp
    rw[h1 first,h1 caps]
    exact this
  . cases h
 case extract t i =>
  split at h
  . rename_i ds ht
    have hv:=ok (by simp[Op.operands]) ht
    generalize ρ t=v at hv
    cases hv with
    | tup us _ l1 l2 =>
     obtain⟨u,hu1,hu2⟩:=RepL.get? ⟨l1,l2⟩ h
     refine Jf (Out.same hh (v:=u) ?_ hu2)
     simp[Instr.extract,hu1]
  . cases h
 case field t x f =>
  cases hx:ev e x with
  | none=>rw[hx]at h;cases h
  | some da=>rw[hx]at h;exact Jf (Zt hh (ok (by simp[Op.operands]) hx) h)
 case fieldAddr t x f =>
  cases hx:ev e x with
  | none=>rw[hx]at h;cases h
  | some da=>rw[hx]at h;exact Jf (Qu hh (ok (by simp[Op.operands]) hx) h)
 case indexAddr t x i =>
  split at h
  . rename_i da n hx hi
    obtain⟨k,hk⟩:=RQ hr (by simp[Op.operands]) hi
    exact Jf (Qt hh (ok (by simp[Op.operands]) hx) hk h)
  . cases h
 case index t x i =>
  split at h
  . rename_i da n hx hi
    obtain⟨k,hk⟩:=RQ hr (by simp[Op.operands]) hi
    exact Jf (Zs hh (ok (by simp[Op.operands]) hx) hk h)
  . cases h
 case load t x =>
  split at h
  . rename_i cs ti hx ht
    exact Jf (cg ht hh (ok (by simp[Op.operands]) hx) h)
  . cases h
 case slice t x lo hi mx =>
  split at h
  . rename_i da l hh' m hx hl hhi hm
    exact Jf (Zr (Ma hr (λy hy=>by subst hy;simp[Op.operands]) hl) (Ma hr (λy hy=>by subst hy;simp[Op.operands]) hhi) (Ma hr (λy hy=>by subst hy;simp[Op.operands]) hm) hh (ok (by simp[Op.operands]) hx) h)
  . cases h
 case build t ps =>
  cases hp:evP e ps.toList with
  | none=>rw[hp]at h;cases h
  | some ds =>
   rw[hp]at h
   obtain⟨k1,k2⟩:=Tw hr (λx hx=>by simp only[Op.operands,Oo,Av];exact⟨x,hx,rfl⟩) hp
   have:=Jf (Zu hh k1 k2 h)
   have he:ps.map (λp=>(p.1,ρ p.2))=(ps.toList.map λp=>(p.1,ρ p.2)).toArray:=by apply Ke;simp
   rw[he]
   exact this
 case buildSlice t n ps =>
  cases hp:evP e ps.toList with
  | none=>rw[hp]at h;cases h
  | some ds =>
   rw[hp]at h
   obtain⟨k1,k2⟩:=Tw hr (λx hx=>by simp only[Op.operands,Oo,Av];exact⟨x,hx,rfl⟩) hp
   have:=Jf (Pj hh k1 k2 h)
   have he:ps.map (λp=>(p.1,ρ p.2))=(ps.toList.map λp=>(p.1,ρ p.2)).toArray:=by apply Ke;simp
   rw[he]
   exact this
 case box t x =>
  split at h
  . rename_i da hx
    split at h
    . rename_i hl
      cases h
      exact Jf (fJ hh (ok (by simp[Op.operands]) hx) hl)
    . cases h
  . cases h
 case call c =>
  split at h
  . rename_i bi hb
    cases hds:evL e c.args.toList with
    | none=>rw[hds]at h;cases h
    | some ds =>
     rw[hds]at h
     have r1:=Lm hr (λx hx=>by simp only[Op.operands,Call.operands,Oq];exact .inr (by simpa using hx)) hds
     simp only[resolve,hb,AG,AN,Am,invoke]
     exact UO hh (by simpa using r1) h
  . cases h
 all_goals cases h
theorem DB{r:Option Nat}{o:Oper}{e:Nat->D}{K:D->St->Prop}(hnd:∀c,o.op≠.defer c)(h:∀ρ w,RepE e (OwnS st) w ρ o.op.operands->Holds st w->(∃v w',(execOp ρ o).run P w=.ok (.value v) w'/\PostV st w K v w')\/(∃w',(execOp ρ o).run P w=.ok .skip w'/\PostV st w K undef w')):OpC P r o e st K:=by
 intro ρ w h1 h2
 rw[VU r ρ o hnd]
 rcases h ρ w h1 h2 with⟨v,w',k1,k2⟩|⟨w',k1,k2⟩
 . rw[k1];exact k2
 . rw[k1];exact k2
theorem fL{r:Option Nat}{o:Oper}{e:Nat->D}{t:TypeId}{x:Operand}{d:D}{K:D->St->Prop}(ho:o.op=.box t x)(hx:ev e x=some d)(hl:d.cells.all D.leaf=true)(hk:∀b,K (.ptr b 0) (.box b t d.cells::st)):OpC P r o e st K:=by
 refine DB (by rw[ho];intro c hc;cases hc) λρ w hr hh=>.inl ?_
 have hv:=hr _ (by simp[ho,Op.operands,Call.operands]) _ hx
 obtain⟨k1,k2⟩:=MF hh t hv.cells (AU.1 hl)
 unfold execOp
 rw[ho]
 exact⟨.pointer (some ⟨w.heap.size,0,none⟩),_,rfl,.ptr w.heap.size 0,_,.ptr _ _,k1,k2,hk _⟩
theorem Zw{r:Option Nat}{o:Oper}{e:Nat->D}{t:TypeId}{ti:TI}{K:D->St->Prop}(ho:o.op=.alloc t)(ht:Bt P t=some ti)(hz:ti.zero.all (λv=>GI v && (Dm v).leaf)=true)(hk:∀b,K (.ptr b 0) (.box b t (ti.zero.map Dm)::st)):OpC P r o e st K:=by
 refine DB (by rw[ho];intro c hc;cases hc) λρ w hr hh=>.inl ?_
 obtain⟨zv,hzl,hzr⟩:=LH ht w
 have hz1:ti.zero.all GI=true:=AU.2 λv hv=>by
  have:=AU.1 hz v hv
  simp only[AF]at this
  exact this.1
 have hz2:∀d∈ti.zero.map Dm,d.leaf=true:=λd hd=>by
  obtain⟨v,hv,rfl⟩:=Av.1 hd
  have:=AU.1 hz v hv
  simp only[AF]at this
  exact this.2
 obtain⟨k1,k2⟩:=MF hh t (us:=zv.cells.toList) (by rw[hzl];exact OA hz1) hz2
 unfold execOp
 rw[ho]
 simp only[Instr.alloc,AG,hzr,Am]
 exact⟨.pointer (some ⟨w.heap.size,0,none⟩),_,rfl,.ptr w.heap.size 0,_,.ptr _ _,k1,k2,hk _⟩
theorem Zv{r:Option Nat}{o:Oper}{e:Nat->D}{t:TypeId}{ti:TI}{x y:Operand}{b off:Nat}{ty:TypeId}{cs:List D}{d:D}{st':St}{K:D->St->Prop}(ho:o.op=.store t x y)(hx:ev e x=some (.ptr b off))(hy:ev e y=some d)(ht:Bt P t=some ti)
 (hsz:d.cells.length=ti.sz)(hl:d.cells.all D.leaf=true)(hat:ResAt (.box b ty cs) (.box b ty (DJ cs off d.cells)) st st')(hoff:off+d.cells.length<=cs.length)(hk:K D.un st'):OpC P r o e st K:=by
 refine DB (by rw[ho];intro c hc;cases hc) λρ w hr hh=>.inr ?_
 have hp:=hr _ (by simp[ho,Op.operands,Call.operands]) _ hx
 have hv:=hr _ (by simp[ho,Op.operands,Call.operands]) _ hy
 unfold execOp
 rw[ho]
 simp only
 generalize ρ x=p at hp
 cases hp
 obtain⟨w',k1,k2,k3⟩:=YW hh hat ht hv hsz hl hoff
 refine⟨w',?_,_,st',.s undef rfl,k2,k3,hk⟩
 simp only[AG,k1,Am,AN]
theorem UR{r:Option Nat}{o:Oper}{e:Nat->D}{t:TypeId}{ti:TI}{x:Operand}{b off:Nat}{ty:TypeId}{cs:List D}{d:D}{K:D->St->Prop}(ho:o.op=.load t x)(hx:ev e x=some (.ptr b off))(ht:Bt P t=some ti)
 (hm:Res.box b ty cs∈st)(hd:Je ti (cs.drop off)=some d)(hk:K d st):OpC P r o e st K:=by
 refine DB (by rw[ho];intro c hc;cases hc) λρ w hr hh=>.inl ?_
 have hp:=hr _ (by simp[ho,Op.operands,Call.operands]) _ hx
 unfold execOp
 rw[ho]
 simp only
 generalize ρ x=p at hp
 cases hp
 obtain⟨v,k1,k2⟩:=Jc hh hm ht hd
 exact⟨v,w,by simp only[AG,k1,Am,AN],d,st,k2,hh,Ext.refl _ _,hk⟩
theorem Wx{r:Option Nat}{o:Oper}{e:Nat->D}{t:TypeId}{ti:TI}{x y:Operand}{el:TypeId}{sz bytes:Nat}{z:List Value}{ow oy:Own}{es ys:List (List D)}{s1:Own->St}{K:D->St->Prop}(ho:o.op=.call {callee:=.builtin .append,args:=#[x,y],argTypes:=#[t,t]})
 (hx:ev e x=some (.sl ow es))(hy:ev e y=some (.sl oy ys))(ht:Bt P t=some ti)(hk:ti.k=.slice el sz bytes z)(hne:ow≠.shared)(hat:∀o',ResAt (.room ow el sz es.length) (.room o' el sz (es++ys).length) st (s1 o'))
 (hes:∀a∈es,a.length=sz)(hys:∀a∈ys,a.length=sz)(hb:(es.length+ys.length)*bytes<=140737488355328)(hm:es.length+ys.length<=140737488355328)(hK:∀o',o'≠.shared->K (.sl o' (es++ys)) (s1 o')):OpC P r o e st K:=by
 refine DB (by rw[ho];intro c hc;cases hc) λρ w hr hh=>.inl ?_
 have h1:=hr _ (by simp[ho,Op.operands,Call.operands]) _ hx
 have h2:=hr _ (by simp[ho,Op.operands,Call.operands]) _ hy
 obtain⟨s0,p1, -⟩:=(hat .shared).perm
 have hown:=OwnS.perm p1
 rw[hown]at h1 h2
 obtain⟨v',w',o',q1,q2,q3,q4,q5⟩:=Wk t o.type ht hk (hh.perm p1) h1 h2 hne hes hys hb hm
 obtain⟨s0',p1',p2'⟩:=(hat o').perm
 have hs:s0.Perm s0':=(TM _).1 (p1.symm.trans p1')
 have p3:(Res.room o' el sz (es++ys).length::s0).Perm (s1 o'):=(hs.cons _).trans p2'.symm
 refine⟨v',w',?_,.sl o' (es++ys),s1 o',?_,q4.perm p3,?_,hK o' q1⟩
 . unfold execOp
   rw[ho]
   simp only[resolve,invoke,builtin,AG,AN,Am,Gg,Au,BH,q2]
 . rw[<-OwnS.perm p3];exact q3
 . rw[hown,<-OwnS.perm p3];exact q5
end
end
section
open Go
def PC (o:Oper):Bool :=
 match o.op with
|.move _|.assign _|.pick ..|.load ..|.binOp ..|.unOp ..|.convert ..|.makeInterface ..|.makeFunc ..|.slice ..|.fieldAddr ..|.field ..|.indexAddr ..|.index ..|.nilCheck _=>true
|.call {callee:=.builtin .len,..}=>true
|.call {callee:=.builtin .cap,..}=>true
|.call {callee:=.builtin .min,..}=>true
|.call {callee:=.builtin .max,..}=>true
|_=>false
section
variable {P:Program} {ops:Array Oper} {md:Region.Mode} {C:World->Prop}
def upV (P:Program)(K:Value->World->Prop):Result Next->Prop
|.ok (.value v) w'=>K v w'
|.ok .skip w'=>K undef w'
|.ok (.enter f args) w'=>Calls P f args w' λe w''=>∃v,e=.returned v/\K v w''
|_=>False
def mOp (P:Program)(ops:Array Oper)(C:World->Prop)(o:Oper)(K:Act->World->Prop)(a:Act)(w:World):Prop :=
 if Region.wanted o (yielded ops a.tmps)then
  if PC o then∃v,(∀w,C w->(execOp a.eval o).run P w=.ok (.value v) w)/\K (a.put o.dst v) w
  else upV P (λv w'=>C w'/\K (a.put o.dst v) w') ((execOp a.eval o).run P w)
 else K (a.put o.dst undef) w
def jL (P:Program)(ops:Array Oper)(C:World->Prop)(Q:Act->World->Prop):List Oper->Act->World->Prop
|[],a,w=>Q a w
|o::rest,a,w=>mOp P ops C o (jL P ops C Q rest) a w
def iA (P:Program)(md:Region.Mode)(ops:Array Oper)(C:World->Prop)(Q:Act->World->Prop):Nat->Array Bool->Act->World->Prop
|0,listed,a,w=>Region.ready md ops listed=[]/\Q a w
|fuel+1,listed,a,w=>(Region.ready md ops listed=[]->Q a w)/\∀i∈Region.ready md ops listed,∀o,ops[i]?=some o->mOp P ops C o (iA P md ops C Q fuel (listed.setIfInBounds i true)) a w
def KL (md:Region.Mode)(es:List Edge)(acc:List Nat):Nat:=es.foldl (λs e=>if Region.binds md e then(s ||| 2 ^ e.on) ||| acc.getD e.on 0 else s) 0
def ER (md:Region.Mode):List Oper->List Nat->List Nat
|[],acc=>acc
|o::l,acc=>ER md l (acc++[KL md o.after.toList acc])
theorem WF{es:List Edge}{acc:List Nat}{i:Nat}(h:(KL md es acc).testBit i=true):∃e∈es,Region.binds md e=true/\(e.on=i\/(acc.getD e.on 0).testBit i=true):=by
 unfold KL at h
 suffices H:∀(es:List Edge) (s:Nat),(es.foldl (λs e=>if Region.binds md e then(s ||| 2 ^ e.on) ||| acc.getD e.on 0 else s) s).testBit i=true->s.testBit i=true\/∃e∈es,Region.binds md e=true/\(e.on=i\/(acc.getD e.on 0).testBit i=true) by
  rcases H es 0 h with h|h
  . simp at h
  . exact h
 intro es
 induction es with
|nil=>intro s h;exact .inl h
|cons e es ih =>
  intro s h
  rw[Qk]at h
  rcases ih _ h with h1|⟨e',he',hb⟩
  . by_cases hbd:Region.binds md e=true
    . rw[if_pos hbd]at h1
      simp only[Nat.testBit_or,Co,Nat.testBit_two_pow,decide_eq_true_eq]at h1
      rcases h1 with(h1|h1)|h1
      . exact .inl h1
      . exact .inr ⟨e,Ag ..,hbd,.inl h1⟩
      . exact .inr ⟨e,Ag ..,hbd,.inr h1⟩
    . rw[if_neg hbd]at h1;exact .inl h1
  . exact .inr ⟨e',Ae _ he',hb⟩
def MOk (md:Region.Mode)(l:List Oper)(acc:List Nat):Prop :=
 ∀(k i:Nat),(acc.getD k 0).testBit i=true->∃o e,l[k]?=some o/\e∈o.after/\Region.binds md e=true/\(e.on=i\/(e.on<k/\(acc.getD e.on 0).testBit i=true))
theorem Ho(L:List Oper):∀(l:List Oper) (acc:List Nat),(∀j,l[j]?=L[acc.length+j]?)->MOk md L acc->MOk md L (ER md l acc)
|[],acc,_,h=>h
|o::l,acc,hl,h=>by
  refine Ho L l _ (λj=>by have:=hl (j+1);simpa [FU,Dw 1 j]using this) ?_
  intro k i hk
  rcases Ni k acc.length with hlt|heq|hgt
  . have e1:(acc++[KL md o.after.toList acc]).getD k 0=acc.getD k 0:=by simp[AW,Ba hlt]
    rw[e1]at hk
    obtain⟨o',e,h1,h2,h3,h4⟩:=h k i hk
    refine⟨o',e,h1,h2,h3,h4.imp id λ⟨h5,h6⟩=>⟨h5,?_⟩⟩
    rw[show(acc++[KL md o.after.toList acc]).getD e.on 0=acc.getD e.on 0 by simp[AW,Ba (Nat.lt_trans h5 hlt)]]
    exact h6
  . subst heq
    have e1:(acc++[KL md o.after.toList acc]).getD acc.length 0=KL md o.after.toList acc:=by simp[AW]
    rw[e1]at hk
    obtain⟨e,h1,h2,h3⟩:=WF hk
    refine⟨o,e,by simpa using (hl 0).symm,Array.mem_toList_iff.1 h1,h2,h3.imp id λh4=>?_⟩
    have hlt:e.on<acc.length:=by
     rcases Dv e.on acc.length with h5|h5
     . exact h5
     . rw[AW,Bz h5]at h4;simp at h4
    refine⟨hlt,?_⟩
    rw[show(acc++[KL md o.after.toList acc]).getD e.on 0=acc.getD e.on 0 by simp[AW,Ba hlt]]
    exact h4
  . rw[AW,Bz (by simp;omega)]at hk;simp at hk
def Dh (ms:List Nat)(j i:Nat):Bool:=(ms.getD j 0).testBit i
def DC (md:Region.Mode)(ops:Array Oper)(listed:Array Bool):Prop :=
 ∀(k:Nat) (o:Oper),ops[k]?=some o->listed.getD k false=true->∀e∈o.after,Region.binds md e=true->listed.getD e.on false=true
theorem DC.unlisted{ms:List Nat}(hms:MOk md ops.toList ms){listed:Array Bool}(h:DC md ops listed){i:Nat}(hi:listed.getD i false=false):∀(j:Nat),Dh ms j i=true->listed.getD j false=false:=by
 intro j
 induction j using Nat.strongRecOn with
|_ j ih =>
  intro hj
  cases hl:listed.getD j false with
  | false=>rfl
  | true =>
   exfalso
   obtain⟨o,e,ho,he,hb,hor⟩:=hms j i hj
   have hd:=h j o (by simpa using ho) hl e he hb
   rcases hor with hb2|⟨hlt,hb2⟩
   . rw[hb2,hi]at hd;cases hd
   . rw[ih _ hlt hb2]at hd;cases hd
theorem DC.ready{ms:List Nat}(hms:MOk md ops.toList ms){listed:Array Bool}(h:DC md ops listed){i j:Nat}(hi:listed.getD i false=false)(hj:j∈Region.ready md ops listed):Dh ms j i=false:=by
 cases hw:Dh ms j i with
|false=>rfl
|true =>
  exfalso
  obtain⟨_,o,ho,hall⟩:=mem_ready.1 hj
  obtain⟨o',e,ho',he,hb,hor⟩:=hms j i hw
  have e1:o'=o:=by
   have:ops[j]?=some o':=by simpa using ho'
   rw[ho]at this;cases this;rfl
  subst e1
  have hd:=hall e he hb
  rcases hor with hb2|⟨_,hb2⟩
  . rw[hb2,hi]at hd;cases hd
  . rw[h.unlisted hms hi _ hb2]at hd;cases hd
theorem DC.step{listed:Array Bool}(h:DC md ops listed){j:Nat}(hj:j∈Region.ready md ops listed):DC md ops (listed.setIfInBounds j true):=by
 intro k o ho hl e he hb
 refine getD_set_true ?_
 by_cases hkj:k=j
 . subst hkj
   obtain⟨_,o',ho',hall⟩:=mem_ready.1 hj
   rw[ho]at ho';cases ho'
   exact hall e he hb
 . rw[getD_set_ne false (LA hkj)]at hl
   exact h k o ho hl e he hb
theorem GH{listed:Array Bool}{i:Nat}(h:i∈Region.ready md ops listed):listed.getD i false=false:=by
 have h0:=(mem_ready.1 h).1
 rcases Dv i listed.size with h'|h'
 . simp[h']at h0 |-;exact h0
 . simp[Ee h']at h0
def fQ (ms:List Nat)(ops:Array Oper)(listed:Array Bool)(i:Nat):Bool :=
 match ops[i]? with
|none=>false
|some oi=>(List.range ops.size).all λj=>j == i || listed.getD j true || match ops[j]? with
  | some oj=>Dh ms j i || (oi.apart ops oj && (PC oi || PC oj))
  | none=>true
def Yd (md:Region.Mode)(ms:List Nat)(ops:Array Oper):Nat->Nat->Array Bool->Bool
|0,_,listed=>(Region.ready md ops listed).isEmpty
|fuel+1,k,listed=>(Region.ready md ops listed).contains k && fQ ms ops listed k && Yd md ms ops fuel (k+1) (listed.setIfInBounds k true)
def oz (md:Region.Mode)(ops:Array Oper):Bool:=Region.noSelect ops && Yd md (ER md ops.toList []) ops ops.size 0 (Array.replicate ops.size false)
theorem IW(m k:Nat):(Array.replicate m false).getD k false=false:=by
 unfold Array.getD
 split
 . simp
 . rfl
variable {Q:Act->World->Prop} {a:Act} {w:World} {o:Oper} {rest:List Oper}
end
end
end Go.Proofs.YtoeidpmjifjplaaGreat
