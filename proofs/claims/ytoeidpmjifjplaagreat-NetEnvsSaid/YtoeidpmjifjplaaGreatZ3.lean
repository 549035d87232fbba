/- Texts put together. No statement is proved here. -/
import Derived.IntWalk
import Derived.Lib.AppendStr
import Derived.Laws.OwnMore
import Derived.OpenShut
import Derived.ShutString
import Derived.ChangeOld
import Derived.Below
import Derived.ProofKit
import Derived.Test.YtoeidpmjifjplaaGreatZ2
set_option linter.all false
set_option maxRecDepth 10000
set_option maxHeartbeats 8000000
namespace Go.Proofs.YtoeidpmjifjplaaGreat
open Go.RowKit
section
def Dn (o:Oper):Bool :=
 match o.op with
|.move _|.assign _|.pick ..|.nilCheck _|.binOp ..|.unOp ..|.convert ..|.makeFunc ..|.extract ..|.field ..|.fieldAddr ..|.indexAddr ..|.index ..|.load ..|.slice ..|.build ..|.buildSlice ..|.box ..=>true
|.call {callee:=.builtin .len,..}=>true
|.call {callee:=.builtin .cap,..}=>true
|.call {callee:=.builtin .min,..}=>true
|.call {callee:=.builtin .max,..}=>true
|_=>false
abbrev Ro:=List (Nat×List D)
def frC (P:Program)(ro:Ro)(o:Oper)(e:Nat->D):Option D :=
 match o.op with
|.load t x=>match ev e x,Bt P t with
  | some (.ip cs),some ti=>Je ti cs
  | some (.ptr b off),some ti=>match ro.lookup b with
   | some cs=>Je ti (cs.drop off)
   | none=>none
  | _,_=>none
|_=>aOp P o e
def Dj (ro:Ro)(st:St):Prop:=∀b cs,ro.lookup b=some cs->∃ty,Res.box b ty cs∈st
section
variable {P:Program} {r:Option Nat} {ro:Ro} {ops:Array Oper} {md:Region.Mode} {st:St}
theorem Ll{o:Oper}{e:Nat->D}{d:D}(hc:Dj ro st)(h:frC P ro o e=some d):OpY P o e st d:=by
 unfold frC at h
 split at h
 . rename_i t x hop
   split at h
   . rename_i cs ti hx ht
     refine SD ?_
     unfold aOp
     rw[hop]
     simp only[hx,ht]
     exact h
   . rename_i b off ti hx ht
     split at h
     . rename_i cs hl
       obtain⟨ty,hm⟩:=hc b cs hl
       intro ρ w hr hh
       have hp:=hr x (by simp[hop,Op.operands]) _ hx
       unfold execOp
       rw[hop]
       simp only
       generalize ρ x=p at hp
       cases hp
       obtain⟨v,k1,k2⟩:=Jc hh hm ht h
       exact⟨v,w,by simp only[AG,k1,Am,AN],k2,hh,Ext.refl _ _⟩
     . cases h
   . cases h
 . exact SD h
theorem Ln{e e':Nat->D}:∀{l:List Operand},(∀x∈l,ev e x=ev e' x)->evL e l=evL e' l
|[],_=>rfl
|x::l,h=>by unfold evL;rw[h x (Ag ..),Ln λy hy=>h y (Ae _ hy)]
theorem NH{e e':Nat->D}:∀{l:List (Nat×Operand)},(∀x∈l,ev e x.2=ev e' x.2)->evP e l=evP e' l
|[],_=>rfl
|(i,x)::l,h=>by unfold evP;rw[h (i,x) (Ag ..),NH λy hy=>h y (Ae _ hy)]
theorem aD{o:Oper}{e e':Nat->D}(h:∀x∈o.op.operands,ev e x=ev e' x):aOp P o e=aOp P o e':=by
 unfold aOp
 cases hop:o.op<;>rw[hop]at h<;>simp only[Op.operands]at h |-
 case slice t x lo hi mx =>
  have ho:∀y:Option Operand,(∀z,y=some z->ev e z=ev e' z)->Gt e y=Gt e' y:=λy hy=>by
   cases y with
   | none=>rfl
   | some z=>simp only[Gt,hy z rfl]
  rw[h x (by simp),ho lo λz hz=>h z (by subst hz;simp),ho hi λz hz=>h z (by subst hz;simp),ho mx λz hz=>h z (by subst hz;simp)]
 case build t ps=>rw[NH λx hx=>h x.2 (by simp only[Oo,Av];exact⟨x,hx,rfl⟩)]
 case buildSlice t n ps=>rw[NH λx hx=>h x.2 (by simp only[Oo,Av];exact⟨x,hx,rfl⟩)]
 case makeFunc fn first caps=>rw[Ln λx hx=>h x (by simp;exact .inl (by simpa using hx)),Ln λx hx=>h x (by simp;exact .inr (by simpa using hx))]
 case call c=>rw[Ln λx hx=>h x (by simp only[Call.operands,Oq];exact .inr (by simpa using hx))]
 case pick c x y=>rw[h c (by simp),h x (by simp),h y (by simp)]
 case binOp op t x y t'=>rw[h x (by simp),h y (by simp)]
 case indexAddr t x i=>rw[h x (by simp),h i (by simp)]
 case index t x i=>rw[h x (by simp),h i (by simp)]
 all_goals first|rfl|rw[h _ (by simp)]
theorem IA{o:Oper}{e e':Nat->D}(h:∀x∈o.op.operands,ev e x=ev e' x):frC P ro o e=frC P ro o e':=by
 unfold frC
 split
 . rename_i t x hop
   rw[h x (by simp[hop,Op.operands])]
 . exact aD h
theorem Nx{o:Oper}{e e':Nat->D}{K:D->St->Prop}(h:∀x∈o.op.operands,ev e x=ev e' x)(hh:OpC P r o e st K):OpC P r o e' st K :=
 λρ w hr hw=>hh ρ w ⟨λx hx d hd=>hr x hx d ((h x hx)▸hd),hr.cst⟩ hw
theorem jk{e:Nat->D}{dst:Option Tmp}{u:D}{x:Operand}(h:∀d,dst=some d->x≠.tmp d):ev (upd e dst u) x=ev e x:=by
 cases dst with
|none=>rfl
|some d =>
  cases x with
  | tmp t =>
   have hne:t≠d:=λe=>h d rfl (e▸rfl)
   simp[ev,upd,hne]
  | _=>rfl
theorem Kb{o:Oper}{e:Nat->D}{dst:Option Tmp}{u:D}(h:∀d,dst=some d->d∉o.looksAt ops):∀x∈o.op.operands,ev (upd e dst u) x=ev e x:=λx hx=>jk λd hd hxd=>h d hd (by
 subst hxd
 exact Bp _ (Mg.2 ⟨.tmp d,by simpa using hx,rfl⟩))
theorem Gw{o:Oper}{e:Nat->D}{dst:Option Tmp}{u:D}(h:∀d,dst=some d->d∉o.looksAt ops):Ct ops o (upd e dst u)=Ct ops o e:=by
 cases dst with
|none=>rfl
|some d =>
  unfold Ct
  cases hg:o.guard with
  | none=>rfl
  | some q =>
   obtain⟨j,want⟩:=q
   dsimp only
   cases ht:(ops[j]?).bind (·.dst)with
   | none=>rfl
   | some t =>
    have hne:t≠d:=λe=>h d rfl (by
     subst e
     refine Bh _ ?_
     rw[hg]
     simp[ht])
    simp[upd,hne]
theorem aV(e:Nat->D){x y:Option Tmp}(v u:D)(h:∀d,x=some d->y≠some d):upd (upd e x v) y u=upd (upd e y u) x v:=by
 cases x with
|none=>rfl
|some d =>
  cases y with
  | none=>rfl
  | some t =>
   have hne:d≠t:=λhe=>h d rfl (he▸rfl)
   funext i
   simp only[upd]
   by_cases h1:i=t
   . rw[if_pos h1,if_neg (λe=>hne (e.symm.trans h1)),if_pos h1]
   . rw[if_neg h1]
     by_cases h2:i=d
     . rw[if_pos h2,if_pos h2]
     . rw[if_neg h2,if_neg h2,if_neg h1]
theorem Pf(A:AA){x y:Option Tmp}(v u:D)(h:∀d,x=some d->y≠some d):(A.put x v).put y u=(A.put y u).put x v:=by
 unfold AA.put;dsimp only;rw[aV A.e v u h]
def Bx (ops:Array Oper):Bool:=(List.range (ops.size - 1)).all λi=>Dh (ER .any ops.toList []) (ops.size - 1) i
def KP (ro:Ro)(f:Bool)(st:St):Prop:=f=true\/Dj ro st
def CS (P:Program)(r:Option Nat)(ro:Ro)(f:Bool)(ops:Array Oper)(o:Oper)(K:AA->St->Prop)(A:AA)(st:St):Prop :=
 if Ct ops o A.e then
  if Dn o then∃d,frC P ro o A.e=some d/\K (A.put o.dst d) st
  else OpC P r o A.e st (λd st'=>KP ro f st'/\K (A.put o.dst d) st')/\∃d st',KP ro f st'/\K (A.put o.dst d) st'
 else K (A.put o.dst D.un) st
def EW (P:Program)(r:Option Nat)(ro:Ro)(ops:Array Oper)(Q:AA->St->Prop):List Oper->AA->St->Prop
|[],A,st=>Q A st
|o::rest,A,st=>CS P r ro (rest.isEmpty && Bx ops) ops o (EW P r ro ops Q rest) A st
def Dg (P:Program)(r:Option Nat)(ro:Ro)(md:Region.Mode)(ops:Array Oper)(Q:AA->St->Prop):Nat->Array Bool->AA->St->Prop
|0,listed,A,st=>Region.ready md ops listed=[]/\Q A st
|fuel+1,listed,A,st=>(Region.ready md ops listed=[]->Q A st)/\∀i∈Region.ready md ops listed,∀o,ops[i]?=some o->CS P r ro (decide (i+1=ops.size) && Bx ops) ops o (Dg P r ro md ops Q fuel (listed.setIfInBounds i true)) A st
theorem EB{f:Bool}{o:Oper}{A:AA}{K K':AA->St->Prop}(hw:Dj ro st)(h:∀d st',KP ro f st'->K (A.put o.dst d) st'->K' (A.put o.dst d) st')(hh:CS P r ro f ops o K A st):CS P r ro f ops o K' A st:=by
 unfold CS at *
 split
 . rename_i hwt
   rw[if_pos hwt]at hh
   split
   . rename_i hf
     rw[if_pos hf]at hh
     obtain⟨d,h1,h2⟩:=hh
     exact⟨d,h1,h _ _ (.inr hw) h2⟩
   . rename_i hf
     rw[if_neg hf]at hh
     obtain⟨h1,d,st',h2,h3⟩:=hh
     exact⟨h1.mono λd st' hk=>⟨hk.1,h _ _ hk.1 hk.2⟩,d,st',h2,h _ _ h2 h3⟩
 . rename_i hwt
   rw[if_neg hwt]at hh
   exact h _ _ (.inr hw) hh
theorem Iz{f:Bool}{o:Oper}{A:AA}{K:AA->St->Prop}(hw:Dj ro st)(hh:CS P r ro f ops o K A st):∃d st',KP ro f st'/\K (A.put o.dst d) st':=by
 unfold CS at hh
 split at hh
 . split at hh
   . obtain⟨d,_,h2⟩:=hh;exact⟨d,st,.inr hw,h2⟩
   . exact hh.2
 . exact⟨D.un,st,.inr hw,hh⟩
theorem JF{f:Bool}{oi oj:Oper}(hap:oi.apart ops oj=true){A:AA}{u:D}{K:AA->St->Prop}(h:CS P r ro f ops oi (λA' st'=>K (A'.put oj.dst u) st') A st):CS P r ro f ops oi K (A.put oj.dst u) st:=by
 obtain⟨h1,h2,h3⟩:=Qi hap
 have hc:∀v,(A.put oj.dst u).put oi.dst v=(A.put oi.dst v).put oj.dst u:=λv=>(Pf A v u h2).symm
 unfold CS at *
 show if Ct ops oi (upd A.e oj.dst u)then _ else _
 rw[Gw h3]
 simp only[hc]
 split
 . rename_i hw
   rw[if_pos hw]at h
   split
   . rename_i hf
     rw[if_pos hf]at h
     obtain⟨d,k1,k2⟩:=h
     exact⟨d,(IA (Kb h3)).trans k1,k2⟩
   . rename_i hf
     rw[if_neg hf]at h
     exact⟨Nx (λx hx=>(Kb h3 x hx).symm) h.1,h.2⟩
 . rename_i hw
   rw[if_neg hw]at h
   exact h
def Kr (ms:List Nat)(ops:Array Oper):Prop:=Bx ops=true->∀j i,j+1=ops.size->i<ops.size->i≠j->Dh ms j i=true
theorem JM{ms : List Nat}(hms:MOk md ops.toList ms)(hL:Kr ms ops){Q:AA->St->Prop}{i:Nat}{oi:Oper}(hi:ops[i]?=some oi) :
 ∀(fuel:Nat) (listed:Array Bool) (A:AA) (st:St),Dj ro st->DC md ops listed ->
  (∀j oj,ops[j]?=some oj->j≠i->listed.getD j true=false->Dh ms j i=false->oi.apart ops oj=true/\(Dn oi=true\/Dn oj=true)) ->
  i∈Region.ready md ops listed ->
  CS P r ro (decide (i+1=ops.size) && Bx ops) ops oi (Dg P r ro md ops Q fuel (listed.setIfInBounds i true)) A st->Dg P r ro md ops Q (fuel+1) listed A st:=by
 intro fuel
 induction fuel with
|zero =>
  intro listed A st hw _ _ hr H
  refine⟨λh=>(by rw[h]at hr;cases hr),λj hj oj hoj=>?_⟩
  by_cases hji:j=i
  . subst hji
    rw[hi]at hoj;cases hoj
    exact H
  . obtain⟨v,w',_,h1⟩:=Iz hw H
    have:=ready_mono hj hji
    rw[h1.1]at this
    cases this
|succ fuel ih =>
  intro listed A st hw hdc hfree hr H
  refine⟨λh=>(by rw[h]at hr;cases hr),λj hj oj hoj=>?_⟩
  by_cases hji:j=i
  . subst hji
    rw[hi]at hoj;cases hoj
    exact H
  . obtain⟨hjun,oj',hoj',hall⟩:=mem_ready.1 hj
    rw[hoj]at hoj';cases hoj'
    have hnot:=hdc.ready hms (GH hr) hj
    have hfj0:(decide (j+1=ops.size) && Bx ops)=false:=by
     by_cases hc:(decide (j+1=ops.size) && Bx ops)=true
     . rw[AF,decide_eq_true_eq]at hc
       have:=hL hc.2 j i hc.1 (AE.1 hi).1 (LA hji)
       rw[hnot]at this;cases this
     . simpa using hc
    have hdc':=hdc.step hj
    obtain⟨hap,hfk⟩:=hfree j oj hoj hji hjun hnot
    obtain⟨d1,d2,d3⟩:=Qi hap
    have hfree':∀k ok,ops[k]?=some ok->k≠i->(listed.setIfInBounds j true).getD k true=false ->
     Dh ms k i=false->oi.apart ops ok=true/\(Dn oi=true\/Dn ok=true):=λk ok hk hki hun hno=>by
     refine hfree k ok hk hki ?_ hno
     by_cases hjk:j=k
     . subst hjk;exact hjun
     . rw[getD_set_ne true hjk]at hun;exact hun
    have hri:=ready_mono hr (LA hji)
    have hcomm:(listed.setIfInBounds j true).setIfInBounds i true=(listed.setIfInBounds i true).setIfInBounds j true:=NY _ _ hji
    have hij:∀v st',Dg P r ro md ops Q (fuel+1) (listed.setIfInBounds i true) (A.put oi.dst v) st' ->
     CS P r ro (decide (j+1=ops.size) && Bx ops) ops oj (Dg P r ro md ops Q fuel ((listed.setIfInBounds j true).setIfInBounds i true)) (A.put oi.dst v) st':=λv st' h=>by
     rw[hcomm];exact h.2 j (ready_mono hj hji) oj hoj
    have hjw:∀v,Ct ops oj (A.put oi.dst v).e=Ct ops oj A.e:=λv=>Gw d1
    have hje:∀v,frC P ro oj (A.put oi.dst v).e=frC P ro oj A.e:=λv=>IA (Kb d1)
    have hput:∀v u,(A.put oi.dst v).put oj.dst u=(A.put oj.dst u).put oi.dst v:=λv u=>Pf A v u d2
    by_cases hwj:Ct ops oj A.e=true
    . by_cases hfj:Dn oj=true
      . obtain⟨v1,w1,hc1,k1⟩:=Iz hw H
        have k2:=hij v1 w1 k1
        unfold CS at k2
        rw[hjw v1,if_pos hwj,if_pos hfj,hje v1]at k2
        obtain⟨u,hu,_⟩:=k2
        have hstep:CS P r ro (decide (i+1=ops.size) && Bx ops) ops oi (Dg P r ro md ops Q fuel ((listed.setIfInBounds j true).setIfInBounds i true)) (A.put oj.dst u) st:=by
         refine JF hap (EB hw (λv w' hc h=>?_) H)
         have k3:=hij v w' h
         unfold CS at k3
         rw[hjw v,if_pos hwj,if_pos hfj,hje v]at k3
         obtain⟨u',hu',k4⟩:=k3
         rw[hu]at hu'
         cases hu'
         exact k4
        unfold CS
        rw[if_pos hwj,if_pos hfj]
        exact⟨u,hu,ih _ _ _ hw hdc' hfree' hri hstep⟩
      . have hfi:Dn oi=true:=hfk.resolve_right hfj
        have key:∀v,Dg P r ro md ops Q (fuel+1) (listed.setIfInBounds i true) (A.put oi.dst v) st->(∀u st',Dj ro st'->Dg P r ro md ops Q fuel ((listed.setIfInBounds j true).setIfInBounds i true) ((A.put oj.dst u).put oi.dst v) st'->CS P r ro (decide (i+1=ops.size) && Bx ops) ops oi (Dg P r ro md ops Q fuel ((listed.setIfInBounds j true).setIfInBounds i true)) (A.put oj.dst u) st') ->
         CS P r ro (decide (j+1=ops.size) && Bx ops) ops oj (Dg P r ro md ops Q (fuel+1) (listed.setIfInBounds j true)) A st:=λv h hback=>by
         have k3:=hij v st h
         unfold CS at k3 |-
         rw[hjw v,if_pos hwj,if_neg hfj]at k3
         rw[if_pos hwj,if_neg hfj]
         obtain⟨k4,u,st',k5,k6⟩:=k3
         refine⟨(Nx (Kb d1) k4).mono λu st' hk=>⟨hk.1,?_⟩,u,st',k5,?_⟩
         . have hk2:=hk.2
           rw[hput v u]at hk2
           have hk1:=hk.1.resolve_left (by rw[hfj0];exact AJ)
           exact ih _ _ _ hk1 hdc' hfree' hri (hback u st' hk1 hk2)
         . rw[hput v u]at k6
           have hk1:=k5.resolve_left (by rw[hfj0];exact AJ)
           exact ih _ _ _ hk1 hdc' hfree' hri (hback u st' hk1 k6)
        have hiw:∀u,Ct ops oi (A.put oj.dst u).e=Ct ops oi A.e:=λu=>Gw d3
        have hie:∀u,frC P ro oi (A.put oj.dst u).e=frC P ro oi A.e:=λu=>IA (Kb d3)
        unfold CS at H
        by_cases hwi:Ct ops oi A.e=true
        . rw[if_pos hwi,if_pos hfi]at H
          obtain⟨v,hv,h⟩:=H
          refine key v h λu w' hc hk=>?_
          unfold CS
          rw[hiw u,if_pos hwi,if_pos hfi,hie u]
          exact⟨v,hv,hk⟩
        . rw[if_neg hwi]at H
          refine key D.un H λu w' hc hk=>?_
          unfold CS
          rw[hiw u,if_neg hwi]
          exact hk
    . have hstep : CS P r ro (decide (i + 1 = ops.size) && Bx ops) ops oi (Dg P r ro md ops Q fuel ((listed.setIfInBounds j true).setIfInBounds i true)) (A.put oj.dst D.un) st := by
       refine JF hap (EB hw (λv w' hc h=>?_) H)
       have k3:=hij v w' h
       unfold CS at k3
       rw[hjw v,if_neg hwj]at k3
       exact k3
      unfold CS
      rw[if_neg hwj]
      exact ih _ _ _ hw hdc' hfree' hri hstep
def KK (ms:List Nat)(ops:Array Oper)(listed:Array Bool)(i:Nat):Bool :=
 match ops[i]? with
|none=>false
|some oi=>(List.range ops.size).all λj=>j == i || listed.getD j true || match ops[j]? with
  | some oj=>Dh ms j i || (oi.apart ops oj && (Dn oi || Dn oj))
  | none=>true
theorem EI{ms:List Nat}{i:Nat}{oi:Oper}{listed:Array Bool}(hi:ops[i]?=some oi)(h:KK ms ops listed i=true)(j:Nat)(oj:Oper)
 (hj:ops[j]?=some oj)(hne:j≠i)(hun:listed.getD j true=false)(hno:Dh ms j i=false) :
 oi.apart ops oj=true/\(Dn oi=true\/Dn oj=true):=by
 simp only[KK,hi,AU,Fu]at h
 have h1:=h j (AE.1 hj).1
 simpa [hj,hne,hun,hno]using h1
def GJ (md:Region.Mode)(ms:List Nat)(ops:Array Oper):Nat->Nat->Array Bool->Bool
|0,_,listed=>(Region.ready md ops listed).isEmpty
|fuel+1,k,listed=>(Region.ready md ops listed).contains k && KK ms ops listed k && GJ md ms ops fuel (k+1) (listed.setIfInBounds k true)
def JE (md:Region.Mode)(ops:Array Oper):Bool:=GJ md (ER md ops.toList []) ops ops.size 0 (Array.replicate ops.size false)
theorem LO{ms:List Nat}(hms:MOk md ops.toList ms)(hL:Kr ms ops){Q:AA->St->Prop}:∀(l:List Oper) (k:Nat) (listed:Array Bool) (A:AA) (st:St),Dj ro st->DC md ops listed->(∀j,l[j]?=ops[k+j]?) ->
 GJ md ms ops l.length k listed=true->EW P r ro ops Q l A st->Dg P r ro md ops Q l.length listed A st
|[],_,_,_,_,_,_,_,hB,h=>⟨by simpa [GJ]using hB,h⟩
|o::l,k,listed,A,st,hw,hdc,hl,hB,h=>by
  have h0:ops[k]?=some o:=by simpa using (hl 0).symm
  simp only[An,GJ,AF]at hB
  obtain⟨⟨hr,hf⟩,hB'⟩:=hB
  have hlast:(decide (k+1=ops.size) && Bx ops)=(l.isEmpty && Bx ops):=by
   have hk:k<ops.size:=(AE.1 h0).1
   have h1:=hl 1
   cases l with
   | nil =>
    have:ops[k+1]?=none:=by simpa using h1.symm
    have:=Array.getElem?_eq_none_iff.1 this
    rw[decide_eq_true q_o];rfl
   | cons o' l =>
    have:ops[k+1]?=some o':=by simpa using h1.symm
    have:=(AE.1 this).1
    rw[decide_eq_false q_o];rfl
  refine JM hms hL h0 l.length listed A st hw hdc (EI h0 hf) (by simpa using hr) ?_
  rw[hlast]
  have h:CS P r ro (l.isEmpty && Bx ops) ops o (EW P r ro ops Q l) A st:=h
  cases l with
  | nil =>
   refine EB hw (λv w' hc hk=>?_) h
   exact⟨by simpa [GJ]using hB',hk⟩
  | cons o' l =>
   refine EB hw (λv w' hc hk=>?_) h
   exact LO hms hL (o'::l) (k+1) _ _ _ (hc.resolve_left (by simp)) (hdc.step (by simpa using hr)) (λj=>by have:=hl (j+1);simpa [FU,Dw 1 j]using this) hB' hk
theorem Fo{N:Nat}{ms:List Nat}(hms:MOk md ops.toList ms)(hL:Kr ms ops){K:AA->St->Prop}(hok:∀(i:Nat) (o:Oper),ops[i]?=some o->JH N o.dst=true/\Gr N ops o=true):∀(fuel:Nat) (listed:Array Bool) (A:AA) (st:St) (a:Act) (w:World) (Q:Exit->Act->World->Prop),(Dj ro st\/Region.ready md ops listed=[])->DC md ops listed->RelA N (OwnS st) w a A->Holds st w->Dg P r ro md ops K fuel listed A st ->
 (∀A' st' a' w',RelA N (OwnS st') w' a' A'->Holds st' w'->Ext (OwnS st) w (OwnS st') w'->K A' st'->Q .normal a' w')->wpAnyIn (FR r) 0 P md ops Q fuel listed a w
|0,listed,A,st,a,w,Q,hk,hdc,hr,hh,h,hQ=>⟨h.1,hQ A st a w hr hh (Ext.refl _ _) h.2⟩
|fuel+1,listed,A,st,a,w,Q,hk,hdc,hr,hh,h,hQ=>by
  refine⟨λh0=>hQ A st a w hr hh (Ext.refl _ _) (h.1 h0),λi hi=>?_⟩
  have hk:Dj ro st:=hk.resolve_right λh0=>by rw[h0]at hi;cases hi
  obtain⟨_,o,ho,_⟩:=mem_ready.1 hi
  obtain⟨hd,hg⟩:=hok i o ho
  have hm:=h.2 i hi o ho
  unfold wpOpIn
  simp only[ho]
  rw[LR hr ops o (Ka hg)]
  unfold CS at hm
  split
  . rename_i hw
    rw[if_pos hw]at hm
    refine Ij ?_
    have hC:OpC P r o A.e st λd st'=>(Dj ro st'\/Region.ready md ops (listed.setIfInBounds i true)=[])/\Dg P r ro md ops K fuel (listed.setIfInBounds i true) (A.put o.dst d) st':=by
     split at hm
     . obtain⟨d,k1,k2⟩:=hm
       exact(Ll hk k1).opC ⟨.inl hk,k2⟩
     . refine hm.1.mono λd st' hkp=>⟨?_,hkp.2⟩
       rcases hkp.1 with hf|hf
       . refine .inr ?_
         rw[AF,decide_eq_true_eq]at hf
         refine Cj.2 λj hj=>?_
         obtain⟨hjun,oj,hoj,hall⟩:=mem_ready.1 hj
         have hji:j≠i:=λe=>by
          subst e
          rw[Cv]at hjun
          rcases Dv j listed.size with h1|h1
          . rw[SF h1]at hjun
            simp at hjun
          . rw[Ee (by simpa using h1)]at hjun
            simp at hjun
         have hun:listed.getD j true=false:=by
          have:=hjun
          rwa[getD_set_ne true (LA hji)]at this
         have hun:listed.getD j false=false:=by
          rw[Cv]at hun |-
          cases hq:listed[j]? with
          | none=>rfl
          | some b=>rw[hq]at hun;exact hun
         have h1:=hdc.ready hms hun hi
         rw[hL hf.2 i j hf.1 (AE.1 hoj).1 hji]at h1
         cases h1
       . exact .inl hf
    exact(hC a.eval w (hr.repE _) hh).mono λv w' ⟨d,st',k1,k2,k3,k4,k5⟩ =>
     Fo hms hL hok fuel _ _ st' _ w' Q k4 (hdc.step hi) ((hr.ext k3).put hd k1) k2 k5 λA' st'' a' w'' q1 q2 q3 q4=>hQ A' st'' a' w'' q1 q2 (k3.trans q3) q4
  . rename_i hw
    rw[if_neg hw]at hm
    exact⟨λf _=>trivial,Fo hms hL hok fuel _ _ st _ w Q (.inl hk) (hdc.step hi) (hr.put hd (.s undef rfl)) hh hm hQ⟩
theorem Ext.drew(O:Nat->Nat->Prop)(w:World):Ext O w O w.drew:=Ext.drewN O w 1
theorem XB{N:Nat}{id:Nat}{l:List Oper}{A:AA}{Q:Exit->AA->St->Prop}(ro:Ro)(hm:P.follows .mixedOrders=true)(hB:JE .any l.toArray=true)(hok:GR N l=true)(hC:Dj ro st)
 (h:EW P r ro l.toArray (Q .normal) l A st):Tr P N r (.region id l.toArray true) A st Q:=by
 intro a w h1 h2
 have hok':∀(i:Nat) (o:Oper),l.toArray[i]?=some o->JH N o.dst=true/\Gr N l.toArray o=true:=λi o ho=>by
  have:=AU.1 hok o (by simp at ho;exact Ah ho)
  simpa using this
 have he:=Ext.drew (OwnS st) w
 have hms:=Ho (md:=.any) l l [] (by simp) (λk i h=>by simp at h)
 have hL:Kr (ER .any l []) l.toArray:=λh j i hj hi hne=>by
  unfold Bx at h
  have:=AU.1 h i (Fu.2 q_o)
  rw[show l.toArray.size - 1=j by omega]at this
  exact this
 have hdc:DC .any l.toArray (Array.replicate l.toArray.size false):=λk o _ hl=>absurd hl (by rw[IW];exact AJ)
 have hany:=LO (P:=P) (r:=r) (ro:=ro) (md:=.any) hms hL (Q:=Q .normal) l 0 (Array.replicate l.toArray.size false) A st hC hdc (by simp) (by simpa [JE]using hB) h
 refine wpIn_region_any hm ?_
 have hsz:l.toArray.size=l.length:=by simp
 rw[hsz]at hany hdc |-
 exact Fo hms hL hok' _ _ A st a w.drew _ (.inl hC) hdc (h1.ext he) (h2.drewN 1) hany λA' st' a' w' q1 q2 q3 q5=>⟨A',st',q1,q2,he.trans q3,q5⟩
variable {Q:AA->St->Prop} {A:AA} {o:Oper} {rest:List Oper}
theorem ZG{dst:Option Tmp}(hdst:o.dst=dst)(hw:Ct ops o A.e=false)(h:EW P r ro ops Q rest (A.put dst D.un) st):EW P r ro ops Q (o::rest) A st:=by
 subst hdst
 show CS P r ro _ ops o _ A st
 unfold CS
 rw[if_neg (by rw[hw];exact AJ)]
 exact h
theorem cj{K:AA->St->Prop}{dst:Option Tmp}(hdst:o.dst=dst)(hw:Ct ops o A.e=false)(h:TrOps P r ops rest (A.put dst D.un) st K):TrOps P r ops (o::rest) A st K:=by
 subst hdst
 unfold TrOps;rw[if_neg (by rw[hw];exact AJ)];exact h
theorem RM:Dj [] st:=λ_ _ h=>by cases h
end
end
section
section
variable {P:Program} {N:Nat} {r:Option Nat} {A:AA} {st:St} {Q:Exit->AA->St->Prop} {K:AA->St->Prop} {id id':Nat}
theorem Wc(h:K A st):IK K Q .normal A st:=h
theorem YO(h:Q .ret A st):IK K Q .ret A st:=h
theorem Wd(h:Q (.exit id) A st):IK K Q (.exit id) A st:=h
theorem dD(h:Q .normal A st):Jt id Q .normal A st:=h
theorem gy(h:Q .ret A st):Jt id Q .ret A st:=h
theorem dC(h:Q .normal A st):Jt id Q (.exit id) A st:=by
 show if id=id then _ else _
 rw[if_pos rfl];exact h
theorem js(hn:(id' == id)=false)(h:Q (.exit id') A st):Jt id Q (.exit id') A st:=by
 show if id'=id then _ else _
 rw[if_neg (by simpa using hn)];exact h
theorem kC{t t':Tmp}{d:D}:(A.put (some t) d).e t'=if t'=t then d else A.e t':=rfl
theorem ca{d:D}:A.put none d=A:=rfl
theorem jd{args:List D}{df:List Deferred}{t:Tmp}:(AA.mk (LJ args) df).e t=args.getD t D.un:=rfl
theorem Kw{ops:Array Oper}{o:Oper}{e:Nat->D}(h:o.guard=none):Ct ops o e=true:=by unfold Ct;rw[h]
variable {t:TypeId} {k:IntKind} {a b:Int}
theorem gN:Er P .add t (.s (.int k a)) (.s (.int k b))=some (.s (.int k (k.wrap (a+b)))):=by simp[Er,binOp,Op.intArith,EY];rfl
theorem gB:Er P .sub t (.s (.int k a)) (.s (.int k b))=some (.s (.int k (k.wrap (a - b)))):=by simp[Er,binOp,Op.intArith,EY];rfl
theorem gG:Er P .mul t (.s (.int k a)) (.s (.int k b))=some (.s (.int k (k.wrap (a*b)))):=by simp[Er,binOp,Op.intArith,EY];rfl
theorem gD(h:(b == 0)=false):Er P .quo t (.s (.int k a)) (.s (.int k b))=some (.s (.int k (k.wrap (a.tdiv b)))):=by
 have:b≠0:=by simpa using h
 simp[Er,binOp,Op.intDiv,EY,this];rfl
theorem gC(h:(b == 0)=false):Er P .rem t (.s (.int k a)) (.s (.int k b))=some (.s (.int k (a.tmod b))):=by
 have:b≠0:=by simpa using h
 simp[Er,binOp,Op.intDiv,EY,this];rfl
theorem gM:Er P .and t (.s (.int k a)) (.s (.int k b))=some (.s (.int k (bits .and k a b))):=by simp[Er,binOp,intBits_and,EY];rfl
theorem jt:Er P .or t (.s (.int k a)) (.s (.int k b))=some (.s (.int k (bits .or k a b))):=by simp[Er,binOp,intBits_or,EY];rfl
theorem gz:Er P .xor t (.s (.int k a)) (.s (.int k b))=some (.s (.int k (bits .xor k a b))):=by simp[Er,binOp,intBits_xor,EY];rfl
theorem Xd:Er P .andNot t (.s (.int k a)) (.s (.int k b))=some (.s (.int k (bits .andNot k a b))):=by simp[Er,binOp,intBits_andNot,EY];rfl
theorem gL:Er P .eql t (.s (.int k a)) (.s (.int k b))=some (.b (a == b)):=by simp[Er,binOp,Op.intCmp,EY];rfl
theorem gF:Er P .neq t (.s (.int k a)) (.s (.int k b))=some (.b (a != b)):=by simp[Er,binOp,Op.intCmp,EY];rfl
theorem gH:Er P .lss t (.s (.int k a)) (.s (.int k b))=some (.b (decide (a<b))):=by simp[Er,binOp,Op.intCmp,EY];rfl
theorem gI:Er P .leq t (.s (.int k a)) (.s (.int k b))=some (.b (decide (a<=b))):=by simp[Er,binOp,Op.intCmp,EY];rfl
theorem gJ:Er P .gtr t (.s (.int k a)) (.s (.int k b))=some (.b (decide (b<a))):=by simp[Er,binOp,Op.intCmp,EY];rfl
theorem gK:Er P .geq t (.s (.int k a)) (.s (.int k b))=some (.b (decide (b<=a))):=by simp[Er,binOp,Op.intCmp,EY];rfl
theorem TD{k':IntKind}(h0:0<=b)(h1:b<=k.bits):Er P .shr t (.s (.int k a)) (.s (.int k' b))=some (.s (.int k (a / 2 ^ b.toNat))):=by
 simp only[Er]
 rw[show binOp .shr 0 (.int k a) (.int k' b)=Op.shift .shr k a k' b from rfl,shift_shr k k' a b h0 h1];rfl
theorem TF{k':IntKind}(h0:0<=b)(h1:b<=k.bits):Er P .shl t (.s (.int k a)) (.s (.int k' b))=some (.s (.int k (k.wrap (a*2 ^ b.toNat)))):=by
 simp only[Er]
 rw[show binOp .shl 0 (.int k a) (.int k' b)=Op.shift .shl k a k' b from rfl,shift_shl k k' a b h0 h1];rfl
theorem iG{b:Bool}:aUn .not (.s (.bool b))=some (.b (!b)):=rfl
theorem iH:aUn .neg (.s (.int k a))=some (.s (.int k (k.wrap (0 - a)))):=rfl
theorem iE:aUn .xor (.s (.int k a))=some (.s (.int k (bits .xor k (if k.signed then -1 else k.max) a))):=rfl
theorem eG{x y:ByteArray}:Er P .eql t (.str x) (.str y)=some (.b (x.toList == y.toList)):=rfl
theorem eF{x y:ByteArray}:Er P .neq t (.str x) (.str y)=some (.b (!(x.toList == y.toList))):=rfl
theorem eH{x y:ByteArray}(h:x.size+y.size<=9223372036854775807):Er P .add t (.str x) (.str y)=some (.str (x++y)):=by
 have:¬(((x.size+y.size:Nat):Int) > IntKind.i64.max):=by
  show¬(_ > (9223372036854775807:Int));omega
 simp only[Er,binOp,Op.stringOp,if_neg this];rfl
theorem i64_in{n:Int}(h1 : -9223372036854775808<=n)(h2:n<=9223372036854775807):IntKind.i64.wrap n=n:=IntWalk.i64_in n ⟨h1,h2⟩
theorem u8_in{n:Int}(h1:0<=n)(h2:n<=255):IntKind.u8.wrap n=n:=IntWalk.u8_in n ⟨h1,h2⟩
theorem iT{ts:List Tmp}{X:D}{ex:Exit}{st0:St}(hex:ex=.normal\/ex=.ret)(hdf:A.df=[])(hs:st0.Sublist st)(hd:LE (OY ts A.e) X):Ut ts (λd st'=>d=X/\st'=st0) ex A st:=Bf hex hdf hs hd ⟨rfl,rfl⟩
theorem LEL.nil:LEL [] []:=trivial
theorem LEL.cons{d d':D}{l l':List D}(h:LE d d')(k:LEL l l'):LEL (d::l) (d'::l'):=⟨h,k⟩
theorem CP{a:List D}{n:Nat}(h:a.length=n):∀x∈[a],x.length=n:=λx hx=>by
 rw[AB]at hx;subst hx;exact h
theorem Oy{n:Nat}:∀x∈([]:List (List D)),x.length=n:=λx hx=>by cases hx
end
attribute [push_cast] VK if_pos if_neg ev evL LJ evP Tz Dm kC ca jd List.getD_cons_zero List.getD_cons_succ List.getD_nil if_true if_false ite_true ite_false gN gB gG gD gC gM jt gz Xd gL gF gH gI gJ gK TD TF iG iH iE eG eF eH SE NO Hg Hf NN JZ Gt NM Jm NQ Gz KY shZ cx List.any_cons List.any_nil Bool.or_false Bool.false_or Bool.or_true Bool.true_or Option.isNone_none id_eq List.map_id List.map_id_fun dS aBi kT Je D.cells D.sh D.leaf i64_in u8_in Option.map_some Option.bind_some Option.map_none Option.bind_none List.map_cons List.map_nil List.map_append Int.natCast_add List.length_cons List.length_nil List.length_map List.length_append List.drop_zero List.drop_succ_cons List.drop_nil List.take_succ_cons List.take_zero List.take_nil List.head?_cons List.getElem?_cons_zero List.getElem?_cons_succ List.getElem?_map List.all_cons List.all_nil Int.natCast_nonneg Int.toNat_natCast Int.ofNat_lt Int.ofNat_le Nat.add_zero Nat.zero_add Nat.zero_mul Nat.succ_pos Nat.lt_add_one Nat.lt_irrefl Int.lt_irrefl Value.oneCell' GI and_self and_true true_and Bool.and_true Bool.true_and Bool.and_self Bool.not_true Bool.not_false decide_true decide_false beq_self_eq_true DJ List.cons_append List.nil_append List.append_nil OY TI.k TI.sz TI.agg TI.zero decide_eq_true_eq List.replicate_succ List.replicate_zero List.flatten_cons List.flatten_nil Iq
end
section
section
variable {P:Program} {st:St} {w w':World} {O:Nat->Nat->Prop}
theorem MU(h:Holds st w)(hb:Below w.heap.size w w')(hd:w.drawn<=w'.drawn):Holds st w'/\Ext (OwnS st) w (OwnS st) w':=by
 have he:Ext (OwnS st) w (OwnS st) w':=⟨hd,hb.os,hb.tape,hb.output,hb.size,λ_ _ _ h=>h,λb hl _=>hb.block b hl,λb c E fr hc=>⟨c,fr,(hb.block b (AE.1 hc).1).trans hc,rfl,λ_ _=>rfl⟩⟩
 exact⟨h.keep he λb hl=>hb.block b hl,he⟩
theorem TG(h:Ext (OwnS []) w (OwnS []) w'):Below w.heap.size w w' :=
 ⟨h.os,h.tape,h.output,h.size,λb hb=>h.block b hb λoff=>OwnS.nil b off⟩
theorem NF(w:World):Holds [] w:=⟨.nil,λr hr=>by cases hr⟩
theorem PE{α:Type}{f:α->D}(l:List α):(l.map λx=>[f x]).flatten=l.map f:=by
 induction l with
|nil=>rfl
|cons x l ih=>rw[Au,AL,ih];rfl
theorem Ue{α:Type}{f:α->Value}{v:Value}{o:Own}{l:List α}(h:Rep O w v (.sl o (l.map λx=>[D.s (f x)]))):Sees f w v l:=by
 obtain⟨a,cap,us,sz,rfl,h1,h2,h3,h4,h5,h6,h7,h8,h9, -⟩:=Ep h
 rw[Ab]at *
 have hul:us.length=l.length:=by rw[h6.1,PE,Ab]
 refine⟨a,cap,rfl,h1,h2,h8,λb hb hl=>?_⟩
 subst hb
 obtain⟨bk,off,e,c1,c2,c3⟩:=h9 0 q_o
 cases e
 refine⟨rfl,c1,λi hi=>?_⟩
 obtain⟨bk',off',e',d1,d2,d3⟩:=h9 i q_o
 cases e'
 have hr:=h6.2 i q_o (by rw[<-h6.1];omega)
 simp only[PE,Dy]at hr
 rw[d3,DI hr]
theorem a8{f:FuncId}{args:List D}{X:D}(h:∀(vs:Array Value) w,RepL (OwnS st) w vs.toList args->∃v,(∀O w',Rep O w' v X)/\Calls P f vs w λe w'=>e=.returned v/\Below w.heap.size w w'/\w.drawn<=w'.drawn):TrF P f args st λd st'=>d=X/\st'=st:=by
 intro vs w hv hh
 obtain⟨v,hr,hc⟩:=h vs w hv
 refine hc.mono λe w' ⟨he,hb,hd⟩=>⟨v,he,X,st,hr _ _,(MU hh hb hd).1,(MU hh hb hd).2,rfl,rfl⟩
theorem jc{f:FuncId}{args:List D}{vs:Array Value}(h:TrF P f args [] λd st'=>d=.b true/\st'=[])(hv:RepL (OwnS []) w vs.toList args):Calls P f vs w λe w'=>e=.returned (.bool true)/\Below w.heap.size w w' :=
 (h vs w hv (NF w)).mono λe w' ⟨v,he,d,st',h1,_,h3,h4,h5⟩=>by
  subst h4 h5
  exact⟨by rw[he,DI h1],TG h3⟩
theorem lu{vs:Array Value}{d d':D}(h:RepL O w vs.toList [d,d']):∃v v',vs=#[v,v']/\Rep O w v d/\Rep O w v' d':=by
 obtain⟨l⟩:=vs
 obtain⟨u,u',e,h1,h2⟩:=RepL.two h
 dsimp only at e
 subst e
 exact⟨u,u',rfl,h1,h2⟩
end
end
section
section
variable {P:Program} {N:Nat} {r:Option Nat} {A:AA} {st:St} {w:World} {Q:Exit->AA->St->Prop} {K:AA->St->Prop} {l:List Oper} {ops:Array Oper} {o:Oper} {dst:Option Tmp} {ro:Ro} {f:FuncId} {args:List D} {R:D->St->Prop}
theorem eA{c:Code}(h:Tr P N r c A st λex A' st'=>∃s,s.Sublist st'/\Q ex A' s):Tr P N r c A st Q:=by
 intro a w h1 h2
 refine wpIn_mono (h a w h1 h2) λex a' w' ⟨A',st',k1,k2,k3,s,k4,k5⟩=>?_
 have he:=Ext.drop (st:=st') (st':=s) (λ_ h=>k4.subset h) w'
 exact⟨A',s,k1.ext he,k2.sub k4,k3.trans he,k5⟩
theorem XA{c:Code}{Q':Exit->AA->St->Prop}(h:Tr P N r c A st Q)(hq:∀ex A st,Q ex A st->Q' ex A st):Tr P N r c A st Q':=by
 intro a w h1 h2
 exact wpIn_mono (h a w h1 h2) λex a' w' ⟨A',st',k1,k2,k3,k4⟩=>⟨A',st',k1,k2,k3,hq _ _ _ k4⟩
theorem Bs{c:Code}{ι:Type}(I:ι->AA->St->Prop)(μ:ι->Nat)(i0:ι)(h0:I i0 A st)(hr:∀i A st,I i A st->Tr P N r c A st (IK (λA' st'=>∃j s,s.Sublist st'/\I j A' s/\μ j<μ i) Q)):Tr P N r (.loop c) A st Q:=by
 refine DN I μ i0 h0 λi A st hi=>eA (XA (hr i A st hi) λex A' st' hq=>?_)
 cases ex with
|normal=>obtain⟨j,s,k1,k2,k3⟩:=hq;exact⟨s,k1,j,k2,k3⟩
|exit id=>exact⟨st',.refl _,hq⟩
|goto l=>exact⟨st',.refl _,hq⟩
|ret=>exact⟨st',.refl _,hq⟩
|panic c=>exact⟨st',.refl _,hq⟩
|outgrown=>exact⟨st',.refl _,hq⟩
def St.blks (st:St):List (Option Nat):=st.map Res.blk
def Ly:St->Ro
|[]=>[]
|.box b _ cs::s=>(b,cs)::Ly s
|.room ..::s=>Ly s
|.raw ..::s=>Ly s
|.know ..::s=>Ly s
theorem EL:∀st,Dj (Ly st) st
|[]=>fun _ _ h=>by cases h
|.box b ty cs::s=>λb' cs' h=>by
  unfold Ly at h
  rw[dZ]at h
  split at h
  . rename_i he
    cases h
    have:b'=b:=eq_of_beq he
    subst this
    exact⟨ty,Ag ..⟩
  . obtain⟨ty',h'⟩:=EL s b' cs' h
    exact⟨ty',Ae _ h'⟩
|.room ..::s=>fun b' cs' h=>by
  obtain⟨ty',h'⟩:=EL s b' cs' h
  exact⟨ty',Ae _ h'⟩
|.raw ..::s=>fun b' cs' h=>by
  obtain⟨ty',h'⟩:=EL s b' cs' h
  exact⟨ty',Ae _ h'⟩
|.know ..::s=>fun b' cs' h=>by
  obtain⟨ty',h'⟩:=EL s b' cs' h
  exact⟨ty',Ae _ h'⟩
theorem ZJ{b:Nat}{cs:List D}{s:Ro}:List.lookup b ((b,cs)::s)=some cs:=by simp[List.lookup]
theorem fS{b b':Nat}{cs:List D}{s:Ro}(h:(b == b')=false):List.lookup b ((b',cs)::s)=List.lookup b s:=by simp[List.lookup,h]
def Oh (t:Tmp)(T:TypeId)(P:Program)(A:AA)(st:St)(d:D):Prop:=∃b off ty cs ti,A.e t=.ptr b off/\Res.box b ty cs∈st/\Bt P T=some ti/\Je ti (cs.drop off)=some d
def fg (G:AA->St->D->Prop)(R:D->St->Prop):Exit->AA->St->Prop
|.normal,A,st|.ret,A,st=>∃(d0 d:D) (st':St),A.df=[]/\G A st d0/\st'.Sublist st/\LE d0 d/\R d st'
|_,_,_=>False
theorem OH{fn:Func}{c:Code}{G:AA->St->D->Prop}(hf:P.funcs[f]?=some fn)(hb:fn.body=some c)(hn:args.length<=fn.ntmps)(hres:∀{a A w st d},RelA fn.ntmps (OwnS st) w a A->Holds st w->G A st d->∃v,(results fn a.tmps).run P w=.ok v w/\Rep (OwnS st) w v d)
 (h:Tr P fn.ntmps none c ⟨LJ args,[]⟩ st (fg G R)):TrF P f args st R:=by
 intro vs w hv hw
 refine(callsIn_wide (n:=0)).1 (callsIn_of_wp_marks hf hb trivial ?_ rfl)
 have hvl:vs.size=args.length:=by rw[<-AR];exact hv.1
 have hrel:RelA fn.ntmps (OwnS st) w {tmps:=vs++Array.replicate (fn.ntmps - vs.size) undef,defers:=[]} ⟨LJ args,[]⟩:=by
  refine⟨by simp[hvl];omega,rfl,λt=>?_⟩
  show Rep _ _ _ (args.getD t D.un)
  simp only[Cv,AW]
  rcases Dv t args.length with ht|ht
  . have h1:t<vs.toList.length:=by simp;omega
    have:=hv.2 t h1 ht
    rw[Cq q_o,Al ht,Be q_o]
    simpa using this
  . rw[GO q_o,Bz ht]
    simp only[dW]
    by_cases h2:t - vs.size<fn.ntmps - vs.size
    . rw[Ez,if_pos h2]
      exact .s undef rfl
    . rw[Ez,if_neg h2]
      exact .s undef rfl
 refine wpIn_mono (h _ w hrel hw) λex a' w' ⟨A',st',k1,k2,k3,k4⟩=>?_
 have main:(∃(d0 d:D) (s:St),A'.df=[]/\G A' st' d0/\s.Sublist st'/\LE d0 d/\R d s)->LeavesInM (FR none) 0 P fn a'.tmps (λe w'=>∃v,e=.returned v/\PostV st w R v w') a'.defers .returning w':=by
  rintro⟨d0,d,s,q1,q2,q3,q4,q5⟩
  rw[k1.2.1,q1]
  obtain⟨v,e1,e2⟩:=hres k1 k2 q2
  have he:=Ext.drop (st:=st') (st':=s) (λ_ h=>q3.subset h) w'
  exact⟨v,e1,v,rfl,d,s,q4 _ _ _ (e2.ext he),k2.sub q3,k3.trans he,q5⟩
 cases ex with
|normal=>exact main k4
|ret=>exact main k4
|exit id=>exact k4.elim
|goto l=>exact k4.elim
|panic c=>exact k4.elim
|outgrown=>exact k4.elim
theorem Uu{fn:Func}{t:Tmp}{T:TypeId}(hr:fn.results=#[.cell t T]){a:Act}{N:Nat}{d:D}(h1:RelA N (OwnS st) w a A)(h2:Holds st w)(h3:Oh t T P A st d):∃v,(results fn a.tmps).run P w=.ok v w/\Rep (OwnS st) w v d:=by
 obtain⟨b,off,ty,cs,ti,k1,k2,k3,k4⟩:=h3
 have hp:=h1.2.2 t
 rw[k1]at hp
 have hv:a.tmps.getD t undef=.pointer (some ⟨b,off,none⟩):=by
  generalize a.tmps.getD t undef=v at hp
  cases hp;rfl
 obtain⟨v,q1,q2⟩:=Jc h2 k2 k3 k4
 refine⟨v,?_,q2⟩
 have q3:(loadVar T ⟨b,off,none⟩).run P w=.ok v w:=by
  simpa [Instr.loadAt,Instr.sureAddr]using q1
 have hv':a.tmps[t]?.getD undef=.pointer (some ⟨b,off,none⟩):=by rw[<-hv];simp
 simp[results,hr,hv',asAddr,q3]
theorem Zf{t : Tmp}{T:TypeId}{ti:TI}{ex:Exit}{b off:Nat}{ty:TypeId}{cs:List D}{X d:D}{st0:St}{R:D->St->Prop}(hex:ex=.normal\/ex=.ret)(hdf:A.df=[])(hp:A.e t=.ptr b off)(hm:Res.box b ty cs∈st)(ht:Bt P T=some ti)(hd:Je ti (cs.drop off)=some d)(hs:st0.Sublist st)(hl:LE d X)(hR:R X st0) :
 fg (Oh t T P) R ex A st:=by
 have:∃(d0 d:D) (st':St),A.df=[]/\Oh t T P A st d0/\st'.Sublist st/\LE d0 d/\R d st':=⟨d,X,st0,hdf,⟨b,off,ty,cs,ti,hp,hm,ht,hd⟩,hs,hl,hR⟩
 rcases hex with rfl|rfl<;>exact this
theorem TrF.permPost{st':St}(hp:st.Perm st')(h:TrF P f args st' λd s=>∃s',R d s'/\s.Perm s'):TrF P f args st R:=by
 intro vs w h1 h2
 have e:=OwnS.perm hp
 refine(h vs w (by rw[<-e];exact h1) (h2.perm hp)).mono λ_ _ ⟨v,ev,d,s,k1,k2,k3,s',k4,k5⟩=>⟨v,ev,d,s',by rw[<-OwnS.perm k5];exact k1,k2.perm k5,by rw[e,<-OwnS.perm k5];exact k3,k4⟩
theorem YP(str:ByteArray):(str.data.map λb=>Value.int .u8 b.toNat)=(Lib.strCells str).toArray:=by
 apply Ke
 simp[Lib.strCells]
theorem Lx(T U ty e:TypeId)(i:TypeInfo)(ht:P.underlying T=some (.slice e))(hu:P.underlying U=some .string)(hi:P.info? e=some i)(a:Option Addr)(n cap:Nat)(hn:n<=cap)(str:ByteArray)(h0:str.size=0) :
 (Builtin.append_ #[T,U] ty #[.slice a n cap,.string str]).run P w=.ok (.slice a n cap) w:=by
 have hf:=Lib.run_firstCells_string (P:=P) w i.size str
 have hx:Lib.strCells str=[]:=Ay (by rw[Lib.strCells_length];exact h0)
 rw[h0,hx]at hf
 cases a<;>simp[Builtin.append_,run_underlying ht,run_underlying hu,sizeOf,typeInfo,hi,Builtin.lenOf,h0,hn,hf,storeCells]
theorem Qo(T U ty:TypeId){ti tu:TI}{e:TypeId}{sz bytes:Nat}{z:List Value}(ht:Bt P T=some ti)(hk:ti.k=.slice e sz bytes z)(htu:Bt P U=some tu)(hku:tu.k=.string)(hsz1:sz=1){o:Own}{es ys:List (List D)}{str:ByteArray}(hys':ys=str.data.toList.map Br){v:Value}{s0:St}
 (h:Holds (.room o e sz es.length::s0) w)(hv:Rep (OwnS (.room o e sz es.length::s0)) w v (.sl o es))(ho:o≠.shared)
 (hes:∀a∈es,a.length=sz)(hb:(es.length+ys.length)*bytes<=140737488355328)(hm:es.length+ys.length<=140737488355328) :
 ∃v' w' o',o'≠.shared/\(Builtin.append_ #[T,U] ty #[v,.string str]).run P w=.ok v' w'/\Rep (OwnS (.room o' e sz (es++ys).length::s0)) w' v' (.sl o' (es++ys))/\Holds (.room o' e sz (es++ys).length::s0) w'/\Ext (OwnS (.room o e sz es.length::s0)) w (OwnS (.room o' e sz (es++ys).length::s0)) w':=by
 have hu:P.underlying U=some .string:=(Ce htu).2.2.1 hku
 obtain⟨d,hd, -,hkk⟩:=JS ht
 rw[hk]at hkk
 obtain⟨i,hi,zv,hz,hzs,hsz0,hd',rfl,rfl,rfl⟩:∃i,P.info? e=some i/\∃zv,i.zero=some zv/\zv.cells.size=i.size/\0<i.size/\d=.slice e/\i.size=sz/\i.bytes=bytes/\zv.cells.toList=z:=by
  unfold RH at hkk
  rw[hd]at hkk
  cases d<;>simp only at hkk<;>try(cases hkk;done)
  . rename_i e'
    cases hi:P.info? e' with
    | none=>simp[hi]at hkk
    | some i =>
     simp only[hi]at hkk
     cases hz:i.zero with
     | none=>simp[hz]at hkk
     | some zv =>
      simp only[hz]at hkk
      split at hkk
      . rename_i hq
        cases hkk
        exact⟨i,hi,zv,hz,hq.1,hq.2,rfl,rfl,rfl,rfl⟩
      . cases hkk
  . split at hkk<;>cases hkk
  . split at hkk<;>cases hkk
 subst hd'
 obtain⟨a,cap,us,sz1,rfl,c1,c2,c3,c4,c5,c6,c7,c8,c9,c10⟩:=Ep hv
 have hyl:str.size=ys.length:=by rw[hys',Ab,AR];rfl
 obtain⟨xus,hxus⟩:∃xus,xus=Lib.strCells str:=⟨_,rfl⟩
 have hys:∀a∈ys,a.length=i.size:=λa ha=>by rw[hys']at ha;obtain⟨x, -,rfl⟩:=Av.1 ha;rw[hsz1];rfl
 have hyf:ys.flatten=str.data.toList.map D.y:=by rw[hys',show(str.data.toList.map Br)=str.data.toList.map λb=>[D.y b]from rfl,PE]
 have x6:RepL (OwnS (.room o e i.size es.length::s0)) w xus ys.flatten:=by
  rw[hxus,hyf]
  exact RepL.map λx _=>.s _ rfl
 have x7:∀d∈ys.flatten,d.leaf=true:=λd hd=>by
  rw[hyf]at hd
  obtain⟨x, -,rfl⟩:=Av.1 hd;rfl
 have hul:us.length=es.length*i.size:=by
  rw[c6.1];exact DQ hes
 have hxl:xus.length=ys.length*i.size:=by
  rw[x6.1];exact DQ hys
 by_cases hy:ys=[]
 . subst hy
   refine⟨_,w,o,ho,Lx T U ty e i hd hu hi a es.length cap c1 str hyl,?_,?_,?_⟩
   . simpa using hv
   . simpa using h
   . simpa using Ext.refl _ _
 . have hpos:0<ys.length:=Cm.2 hy
   have hfl:RepL (OwnS (.room o e i.size es.length::s0)) w (us++xus) (es++ys).flatten:=by rw[CW];exact c6.append x6
   have hfleaf:∀d∈(es++ys).flatten,d.leaf=true:=λd hd=>by
    rw[CW,Bc]at hd
    exact hd.elim (c7 d) (x7 d)
   have hfes:∀x∈es++ys,x.length=i.size:=λx hx=>(Bc.1 hx).elim (hes x) (hys x)
   have hful:(us++xus).length=(es.length+ys.length)*i.size:=by rw[Ad,hul,hxl,FF]
   have hmaxl:es.length+ys.length<=maxLen:=by unfold maxLen;omega
   have grow:∀old,(hlt:old<es.length+ys.length)->(hrun:(Builtin.append_ #[T,U] ty #[.slice a es.length cap,.string str]).run P w =
    .ok (.slice (some ⟨w.heap.size,0,none⟩) (es.length+ys.length) (grownCap w (es.length+ys.length) old e)) (w.drew.alloc (.cells (us.toArray++xus.toArray++Builtin.zeroCells zv.cells (grownCap w (es.length+ys.length) old e - (es.length+ys.length))) e))) ->
    ∃v' w' o',o'≠.shared/\(Builtin.append_ #[T,U] ty #[.slice a es.length cap,.string str]).run P w=.ok v' w'/\Rep (OwnS (.room o' e i.size (es++ys).length::s0)) w' v' (.sl o' (es++ys))/\Holds (.room o' e i.size (es++ys).length::s0) w' /\
     Ext (OwnS (.room o e i.size es.length::s0)) w (OwnS (.room o' e i.size (es++ys).length::s0)) w':=by
    intro old hlt hrun
    have hge:=grownCap_ge w (es.length+ys.length) old e
    have hcm:=grownCap_le_maxLen w (es.length+ys.length) old e hmaxl
    generalize grownCap w (es.length+ys.length) old e=nc at *
    have hl2:(es++ys).length=es.length+ys.length:=Ad
    have hg:=RT (cap:=nc) h hfl hfleaf hsz0 hfes (by rw[hl2];exact hful) (by rw[hl2];exact hge) hcm (Builtin.zeroCells zv.cells (nc - (es.length+ys.length))).toList (by rw[AR,size_zeroCells,hzs,hl2])
    have heq:(us.toArray++xus.toArray++Builtin.zeroCells zv.cells (nc - (es.length+ys.length)))=((us++xus)++(Builtin.zeroCells zv.cells (nc - (es.length+ys.length))).toList).toArray:=by simp
    rw[heq]at hrun
    rw[<-hl2]at hrun
    exact⟨_,_,.row w.heap.size nc,by simp,by rw[hrun,hl2],hg.1,hg.2.1,hg.2.2⟩
   cases o with
   | shared=>exact absurd rfl ho
   | tight =>
    have hcap:cap=es.length:=c10
    subst hcap
    cases a with
    | none =>
     have h0:=c8 rfl
     have hes0:es=[]:=Ay h0
     have hus0:us=[]:=Ay (by rw[hul,h0,Fe])
     refine grow 0 q_o ?_
     rw[h0,hus0]
     have:=run_append_nil_string (P:=P) w T U ty e i zv hd hu hi hz str q_o q_o (by rw[hyl];have:ys.length*i.bytes<=(es.length+ys.length)*i.bytes:=CM _ q_o;omega)
     rw[YP,<-hxus,hyl]at this
     simp only[Bo]
     rw[this]
     simp
    | some ad =>
     have hold:=Hr c9 rfl
     have hg:=jw (P:=P) w T U ty e i zv hd hu hi hz ad es.length es.length us hul hold str q_o q_o (by rw[hyl];exact growslice_fits q_o hb)
     rw[<-hxus,hyl]at hg
     exact grow es.length q_o hg
   | row g c =>
    obtain⟨ha,rfl⟩:a=some ⟨g,0,none⟩/\cap=c:=c10
    subst ha
    have hold:=Hr c9 rfl
    by_cases hroom:es.length+ys.length<=cap
    . obtain⟨cur,hg,hcs, -⟩:=h.2 _ (Ag ..)
      have hfit:es.length*i.size+xus.length<=cur.size:=by rw[hxl,hcs,<-FF];exact CM _ hroom
      have hrun:=Lib.run_append_room_string (P:=P) w T U ty e i hd hu hi hsz1 g es.length cap cur hg str q_o (by have h9:=hfit;rw[hxl]at h9;simp only[hsz1,CG]at h9;omega)
      rw[<-hxus,hyl]at hrun
      have hx1:es.length=es.length*i.size:=by rw[hsz1,CG]
      have hx2:es.length+ys.length=es.length*i.size+xus.length:=by rw[hxl,hsz1];omega
      rw[show cur.toList.take es.length=cur.toList.take (es.length*i.size) by rw[<-hx1],show cur.toList.drop (es.length+ys.length)=cur.toList.drop (es.length*i.size+xus.length) by rw[hx2]]at hrun
      have htake:cur.toList.take (es.length*i.size)=us:=by
       apply Cx
       intro j
       rw[Dq]
       split
       . rename_i hj
         have hj':j<us.length:=by omega
         have hcj:=hold j us[j] (Al hj')
         rw[ED,Bo,cell_of_row w g j cur e (0,0) hg]at hcj
         rw[Al hj',<-hcj]
         simp
       . rw[Bz q_o]
      rw[htake]at hrun
      generalize hnew:(us++xus++cur.toList.drop (es.length*i.size+xus.length))=L at *
      have hLs:L.length=cur.size:=by
       rw[<-hnew]
       simp only[Ad,AO,AR,hul]
       omega
      have hgn:(w.setRow g L.toArray).heap[g]?=some (.cells L.toArray e (0,0)):=setRow_heap w g cur L.toArray e (0,0) hg
      have hne:∀x∈s0,x.blk≠some g:=λx hx=>(AX.1 h.1).1 x hx g rfl
      have hown:∀b off,OwnS (.room (.row g cap) e i.size (es.length+ys.length)::s0) b off->OwnS (.room (.row g cap) e i.size es.length::s0) b off:=λb off ho=>by
       rcases OwnS.cons_iff.1 ho with⟨h1,h2⟩|h1
       . refine OwnS.cons_iff.2 (.inl ⟨h1,?_⟩)
         simp only[Res.from]at h2 |-
         exact Cp (CM _ q_o) h2
       . exact OwnS.cons_iff.2 (.inr h1)
      have he:Ext (OwnS (.room (.row g cap) e i.size es.length::s0)) w (OwnS (.room (.row g cap) e i.size (es.length+ys.length)::s0)) (w.setRow g L.toArray):=by
       refine⟨Ap _,rfl,rfl,rfl,by simp,λb off _ ho=>hown b off ho,λb hb hn=>setRow_other w g b _ λeb=>?_,λb cc E fr hb=>?_⟩
       . subst eb
         exact hn (es.length*i.size) (OwnS.cons_iff.2 (.inl ⟨rfl,Ap _⟩))
       . by_cases eb:b=g
         . subst eb
           rw[hg]at hb
           cases hb
           refine⟨_,_,hgn,by simpa using hLs,λoff hn=>?_⟩
           have hoff:off<us.length:=by
            rcases Dv off us.length with h1|h1
            . exact h1
            . exact absurd (OwnS.cons_iff.2 (.inl ⟨rfl,by simp only[Res.from];omega⟩)) hn
           have hcj:=hold off us[off] (Al hoff)
           rw[ED,Bo,cell_of_row w b off cur e (0,0) hg]at hcj
           rw[hcj,<-hnew]
           simp[Ba hoff,hoff]
         . exact⟨cc,fr,(setRow_other w g b _ eb).trans hb,rfl,λ_ _=>rfl⟩
      refine⟨_,_,.row g cap,by simp,hrun,?_,?_,?_⟩
      . rw[Ad]
        have hl2:(es++ys).length=es.length+ys.length:=Ad
        rw[<-hl2]
        refine .sl _ (es++ys) _ cap (us++xus) i.size q_o c2 (λe=>by cases e) hsz0 hfes hfl.1 hfleaf (λj hj=>⟨g,0,rfl,?_⟩) (by rw[hl2];exact(hfl.ext he).2) ⟨rfl,rfl⟩
        rw[Bo]
        refine⟨(AE.1 hgn).1,λho=>?_,?_⟩
        . rw[hl2]at ho
          rcases OwnS.cons_iff.1 ho with⟨_,h2⟩|⟨r,hr,hrb,_⟩
          . simp only[Res.from]at h2;omega
          . exact hne r hr hrb
        . rw[cell_of_row _ g j L.toArray e (0,0) hgn,<-hnew,Eo,Ba hj,Al hj]
      . rw[Ad]
        exact h.put he (λx hx b hb=>setRow_other w g b _ λeb=>hne x hx (eb▸hb)) ⟨_,hgn,by simpa [hLs]using hcs,hroom⟩ λx hx b hb=>by cases hb;exact hne x hx
      . rw[Ad];exact he
    . have hg:=jw (P:=P) w T U ty e i zv hd hu hi hz ⟨g,0,none⟩ es.length cap us hul hold str q_o q_o (by rw[hyl];exact growslice_fits q_o hb)
      rw[<-hxus,hyl]at hg
      exact grow cap q_o hg
theorem Qx{e:Nat->D}{t u:TypeId}{ti tu:TI}{x y:Operand}{el:TypeId}{bytes:Nat}{z:List Value}{ow:Own}{es:List (List D)}{str:ByteArray}{s1:Own->St}{K:D->St->Prop}(ho:o.op=.call {callee:=.builtin .append,args:=#[x,y],argTypes:=#[t,u]})
 (hx:ev e x=some (.sl ow es))(hy:ev e y=some (.str str))(ht:Bt P t=some ti)(hk:ti.k=.slice el 1 bytes z)(htu:Bt P u=some tu)(hku:tu.k=.string)(hne:ow≠.shared)(hat:∀o',ResAt (.room ow el 1 es.length) (.room o' el 1 (es++str.data.toList.map Br).length) st (s1 o'))
 (hes:∀a∈es,a.length=1)(hb:(es.length+str.size)*bytes<=140737488355328)(hm:es.length+str.size<=140737488355328)(hK:∀o',o'≠.shared->K (.sl o' (es++str.data.toList.map Br)) (s1 o')):OpC P r o e st K:=by
 refine DB (by rw[ho];intro c hc;cases hc) λρ w hr hh=>.inl ?_
 have h1:=hr _ (by simp[ho,Op.operands,Call.operands]) _ hx
 have h2:=hr _ (by simp[ho,Op.operands,Call.operands]) _ hy
 have hyv:=DI h2
 obtain⟨s0,p1, -⟩:=(hat .shared).perm
 have hown:=OwnS.perm p1
 rw[hown]at h1
 have hyl:(str.data.toList.map Br).length=str.size:=by rw[Ab,AR];rfl
 obtain⟨v',w',o',q1,q2,q3,q4,q5⟩:=Qo t u o.type ht hk htu hku rfl (str:=str) rfl (hh.perm p1) h1 hne hes (by rw[hyl];exact hb) (by rw[hyl];exact hm)
 obtain⟨s0',p1',p2'⟩:=(hat o').perm
 have hs:s0.Perm s0':=(TM _).1 (p1.symm.trans p1')
 have p3:(Res.room o' el 1 (es++str.data.toList.map Br).length::s0).Perm (s1 o'):=(hs.cons _).trans p2'.symm
 refine⟨v',w',?_,.sl o' (es++str.data.toList.map Br),s1 o',?_,q4.perm p3,?_,hK o' q1⟩
 . unfold execOp
   rw[ho]
   simp only[resolve,invoke,builtin,AG,AN,Am,Gg,Au,BH,hyv,q2]
 . rw[<-OwnS.perm p3];exact q3
 . rw[hown,<-OwnS.perm p3];exact q5
end
attribute [push_cast] Ly ZJ fS
end
section
section
variable {P:Program} {N:Nat} {r:Option Nat} {A:AA} {st:St} {Q:Exit->AA->St->Prop}
theorem Lb(id:Nat)(K:AA->St->Prop){ops:Array Oper}{b:Bool}{c:Code}(h1:Tr P N r (.region id ops b) A st (IK K λ_ _ _=>False))(h2:∀A' st',K A' st'->Tr P N r c A' st' Q):Tr P N r (.seq (.region id ops b) c) A st Q :=
 aW (XA h1 λex A' st' h=>by
  cases ex with
  | normal=>exact h2 A' st' h
  | exit id=>exact h.elim
  | goto l=>exact h.elim
  | ret=>exact h.elim
  | panic c=>exact h.elim
  | outgrown=>exact h.elim)
end
theorem nu{a:Bool}(h:(!a)=true):a=false:=by simpa using h
theorem nw{a:Bool}(h:(!a)=false):a=true:=by simpa using h
theorem lk{a b:Int}(h:(a != b)=true):a≠b:=by simpa using h
theorem ll{a b:Int}(h:(a != b)=false):a=b:=by simpa using h
theorem Jr(x:ByteArray):(x.toList == ByteArray.toList ⟨#[]⟩)=decide (x.size=0):=by
 rw[ByteArray.toList_eq,ByteArray.toList_eq]
 have hl:x.data.toList.length=x.size:=by simp
 by_cases h:x.size=0
 . have:x.data.toList=[]:=Ay q_o
   rw[this];simp[h]
 . have:x.data.toList≠[]:=λe=>by rw[e]at hl;simp at hl;omega
   rw[decide_eq_false h,beq_eq_false_iff_ne]
   exact this
end
section
def Ev {α:Type}(x:Option α)(k:α->Prop):Prop:=∃d,x=some d/\k d
def W (P:Program)(r:Option Nat)(m:Option Ro)(ops:Array Oper)(K:AA->St->Prop)(l:List Oper)(A:AA)(st:St):Prop :=
 match m with
|none=>TrOps P r ops l A st K
|some ro=>EW P r ro ops K l A st
def CZ (m:Option Ro)(st:St):Prop :=
 match m with
|none=>True
|some ro=>Dj ro st
def roM (m:Option Ro)(st:St):Ro :=
 match m with
|none=>Ly st
|some ro=>ro
def S (P:Program)(r:Option Nat)(m:Option Ro)(o:Oper)(A:AA)(st:St)(k:D->St->Prop):Prop :=
 match m with
|none=>OpC P r o A.e st k
|some ro=>if Dn o then∃d,frC P ro o A.e=some d/\k d st else OpC P r o A.e st (λd st'=>Dj ro st'/\k d st')/\∃d st',Dj ro st'/\k d st'
theorem WK{ro:Ro}{st:St}{x:Res}(h:Dj ro st):Dj ro (x::st):=λb cs hl=>by
 obtain⟨ty,hm⟩:=h b cs hl;exact⟨ty,Ae _ hm⟩
theorem ZU{m:Option Ro}{st:St}{x:Res}(h:CZ m st):CZ m (x::st):=by
 cases m with
|none=>trivial
|some ro=>exact WK h
theorem ZT{st:St}:CZ none st:=trivial
theorem BI{st:St}:CZ (some []) st:=RM
theorem fW{st:St}:CZ (some (Ly st)) st:=EL st
section
variable {P:Program} {N:Nat} {r:Option Nat} {A:AA} {st:St} {Q:Exit->AA->St->Prop} {K:AA->St->Prop} {l:List Oper} {ops:Array Oper} {m:Option Ro} {k:D->St->Prop} {dst:Option Tmp} {op:Op} {ty:TypeId} {pos:String} {aft:Array Edge} {gd:Option (Nat×Bool)} {o:Oper}
theorem aM{id:Nat}(hok:GR N l=true)(h:W P r none l.toArray (Q .normal) l A st):Tr P N r (.region id l.toArray false) A st Q:=YJ hok h
theorem FL{id:Nat}(ro:Ro)(hm:P.follows .mixedOrders=true)(hB:JE .any l.toArray=true)(hok:GR N l=true)(hC:Dj ro st)(h:W P r (some ro) l.toArray (Q .normal) l A st):Tr P N r (.region id l.toArray true) A st Q:=XB ro hm hB hok hC h
theorem jM(h:K A st):W P r m ops K [] A st:=by
 cases m<;>exact h
theorem g9(hw:Ct ops o A.e=true)(h:S P r m o A st λd st'=>W P r m ops K l (A.put o.dst d) st'):W P r m ops K (o::l) A st:=by
 cases m with
|none =>
  show TrOps P r ops (o::l) A st K
  unfold TrOps;rw[if_pos hw];exact h
|some ro =>
  show CS P r ro _ ops o _ A st
  unfold CS
  rw[if_pos hw]
  replace h:if Dn o then∃d,frC P ro o A.e=some d/\_ else _:=h
  split
  . rename_i hf;rw[if_pos hf]at h;exact h
  . rename_i hf
    rw[if_neg hf]at h
    obtain⟨h1,d,st',h2,h3⟩:=h
    exact⟨h1.mono λd st' hk=>⟨.inr hk.1,hk.2⟩,d,st',.inr h2,h3⟩
theorem mu(hw:Ct ops o A.e=false)(h:W P r m ops K l (A.put o.dst D.un) st):W P r m ops K (o::l) A st:=by
 cases m with
|none=>exact cj rfl hw h
|some ro=>exact ZG rfl hw h
def Gd (K1 K0 KF:AA->Prop)(A:AA)(t:Tmp)(b:Bool)(d:D):Prop :=
 A.e t=d->match d with
  | .s (.bool c)=>if c=b then K1 A else K0 A
  | _=>KF A
section
variable {K1 K0 KF:AA->Prop} {t:Tmp} {b c:Bool}
theorem kY(h:K1 A):Gd K1 K0 KF A t true (.s (.bool true)):=λ_=>h
theorem k8(h:K1 A):Gd K1 K0 KF A t false (.s (.bool false)):=λ_=>h
theorem kZ(h:K0 A):Gd K1 K0 KF A t false (.s (.bool true)):=λ_=>h
theorem k7(h:K0 A):Gd K1 K0 KF A t true (.s (.bool false)):=λ_=>h
theorem kX(h:KF A):Gd K1 K0 KF A t b D.un:=λ_=>h
theorem MA{d:D}(h:A.e t=d):A.put (some t) d=A:=by
 cases A with
|mk e df =>
  show AA.mk (upd e (some t) d) df=_
  have:upd e (some t) d=e:=by
   funext i
   show(if i=t then d else e i)=e i
   split
   . rename_i hi;subst hi;exact h.symm
   . rfl
  rw[this]
theorem k9(h1:c=true->K1 (A.put (some t) (.s (.bool true))))(h0:c=false->K0 (A.put (some t) (.s (.bool false)))):Gd K1 K0 KF A t true (.s (.bool c)):=λh=>by
 cases c
 . have:=h0 rfl;rw[MA h]at this;exact this
 . have:=h1 rfl;rw[MA h]at this;exact this
theorem ld(h1:c=false->K1 (A.put (some t) (.s (.bool false))))(h0:c=true->K0 (A.put (some t) (.s (.bool true)))):Gd K1 K0 KF A t false (.s (.bool c)):=λh=>by
 cases c
 . have:=h1 rfl;rw[MA h]at this;exact this
 . have:=h0 rfl;rw[MA h]at this;exact this
end
theorem Xx(h:S P r m ⟨dst,op,ty,pos,aft,none⟩ A st λd st'=>W P r m ops K l (A.put dst d) st'):W P r m ops K (⟨dst,op,ty,pos,aft,none⟩::l) A st:=g9 (Kw rfl) h
theorem iB{ro:Ro}(hl:Bx ops=true)(hf:Dn ⟨dst,op,ty,pos,aft,none⟩=false)(h:S P r (some []) ⟨dst,op,ty,pos,aft,none⟩ A st λd st'=>K (A.put dst d) st'):W P r (some ro) ops K [⟨dst,op,ty,pos,aft,none⟩] A st:=by
 show CS P r ro (true && Bx ops) ops ⟨dst,op,ty,pos,aft,none⟩ (EW P r ro ops K []) A st
 unfold CS
 rw[if_pos (Kw rfl),if_neg (by rw[hf];exact AJ),hl]
 replace h:if Dn ⟨dst,op,ty,pos,aft,none⟩then∃d,frC P [] ⟨dst,op,ty,pos,aft,none⟩ A.e=some d/\_ else _:=h
 rw[if_neg (by rw[hf];exact AJ)]at h
 obtain⟨h1,d,st',h2,h3⟩:=h
 exact⟨h1.mono λd st' hk=>⟨.inl rfl,hk.2⟩,d,st',.inl rfl,h3⟩
theorem eg{j:Nat}{b:Bool}{t:Tmp}(ht:(ops[j]?).bind (·.dst)=some t)(h:Ev (ev A.e (.tmp t)) (Gd (λA=>S P r m ⟨dst,op,ty,pos,aft,some (j,b)⟩ A st λd st'=>W P r m ops K l (A.put dst d) st') (λA=>W P r m ops K l (A.put dst D.un) st) (λA=>W P r m ops K l (A.put dst D.un) st) A t b)):W P r m ops K (⟨dst,op,ty,pos,aft,some (j,b)⟩::l) A st:=by
 obtain⟨d,h1,h2⟩:=h
 have h1:A.e t=d:=by cases h1;rfl
 have h3:=h2 h1
 clear h2
 by_cases hw:Ct ops ⟨dst,op,ty,pos,aft,some (j,b)⟩ A.e=true
 . refine g9 hw ?_
   unfold Ct at hw
   dsimp only at hw
   rw[ht]at hw
   dsimp only at hw
   rw[h1]at hw
   split at h3
   . rename_i c
     dsimp only at hw
     rw[if_pos (by simpa using hw)]at h3
     exact h3
   . rename_i hne
     exfalso
     split at hw
     . exact hne _ rfl
     . cases hw
 . have hw:Ct ops ⟨dst,op,ty,pos,aft,some (j,b)⟩ A.e=false:=by simpa using hw
   refine mu hw ?_
   unfold Ct at hw
   dsimp only at hw
   rw[ht]at hw
   dsimp only at hw
   rw[h1]at hw
   split at h3
   . rename_i c
     dsimp only at hw
     rw[if_neg (by simpa using hw)]at h3
     exact h3
   . exact h3
theorem a6{t:Tmp}{x y:Code}(h:Ev (ev A.e (.tmp t)) (Gd (λA=>Tr P N r x A st Q) (λA=>Tr P N r y A st Q) (λ_=>False) A t true)):Tr P N r (.cond (.tmp t) x y) A st Q:=by
 obtain⟨d,h1,h2⟩:=h
 have h3:A.e t=d:=by cases h1;rfl
 have h4:=h2 h3
 split at h4
 . rename_i c
   split at h4
   . rename_i hc;subst hc;exact Xz h1 h4
   . rename_i hc
     have:c=false:=by simpa using hc
     subst this;exact TZ h1 h4
 . exact h4.elim
theorem YK{x y:Code}(h:Tr P N r x A st Q):Tr P N r (.cond (.const (.bool true)) x y) A st Q:=Xz rfl h
theorem YL{x y:Code}(h:Tr P N r y A st Q):Tr P N r (.cond (.const (.bool false)) x y) A st Q:=TZ rfl h
theorem Wj(hf:Dn o=true)(h:Ev (frC P (roM m st) o A.e) λd=>k d st):S P r m o A st k:=by
 obtain⟨d,h1,h2⟩:=h
 cases m with
|none=>exact(Ll (EL st) h1).opC h2
|some ro =>
  show if Dn o then _ else _
  rw[if_pos hf];exact⟨d,h1,h2⟩
theorem JR(hf:Dn ⟨dst,op,ty,pos,aft,gd⟩=true)(hn:∀t x,op≠.load t x)(h:Ev (aOp P ⟨dst,op,ty,pos,aft,gd⟩ A.e) λd=>k d st):S P r m ⟨dst,op,ty,pos,aft,gd⟩ A st k:=by
 refine Wj hf ?_
 obtain⟨d,h1,h2⟩:=h
 refine⟨d,?_,h2⟩
 unfold frC
 split
 . rename_i t x he;exact absurd he (hn t x)
 . exact h1
theorem iO{x:Operand}(h:Ev (ev A.e x) λd=>k d st):S P r m ⟨dst,.move x,ty,pos,aft,gd⟩ A st k:=JR rfl (λ_ _ e=>by cases e) h
theorem bA{x:Operand}(h:Ev (ev A.e x) λd=>k d st):S P r m ⟨dst,.assign x,ty,pos,aft,gd⟩ A st k:=JR rfl (λ_ _ e=>by cases e) h
def YA (P:Program)(b:BinOp)(t:TypeId):Option D->Option D->Option D
|some x,some y=>Er P b t x y
|_,_=>none
theorem Xm{b:BinOp}{t:TypeId}{x y:D}:YA P b t (some x) (some y)=Er P b t x y:=rfl
theorem kx{b:BinOp}{t t':TypeId}{x y:Operand}(h:Ev (YA P b t (ev A.e x) (ev A.e y)) λd=>k d st):S P r m ⟨dst,.binOp b t x y t',ty,pos,aft,gd⟩ A st k:=JR rfl (λ_ _ e=>by cases e) (by
 unfold YA at h
 exact h)
theorem nf{b:UnOp}{t:TypeId}{x:Operand}(h:Ev ((ev A.e x).bind (aUn b)) λd=>k d st):S P r m ⟨dst,.unOp b t x,ty,pos,aft,gd⟩ A st k:=JR rfl (λ_ _ e=>by cases e) h
theorem iQ{a b:TypeId}{x:Operand}(h:Ev ((ev A.e x).bind (SE P a b)) λd=>k d st):S P r m ⟨dst,.convert a b x,ty,pos,aft,gd⟩ A st k:=JR rfl (λ_ _ e=>by cases e) h
theorem eW{t:TypeId}{f:Nat}{x:Operand}(h:Ev ((ev A.e x).bind (NO P t f)) λd=>k d st):S P r m ⟨dst,.field t x f,ty,pos,aft,gd⟩ A st k:=JR rfl (λ_ _ e=>by cases e) h
theorem Ul{t:TypeId}{f:Nat}{x:Operand}(h:Ev ((ev A.e x).bind (Hg P t f)) λd=>k d st):S P r m ⟨dst,.fieldAddr t x f,ty,pos,aft,gd⟩ A st k:=JR rfl (λ_ _ e=>by cases e) h
def gS (i:Nat):Option D->Option D
|some (.tup ds)=>ds[i]?
|_=>none
theorem aH{i:Nat}{ds:List D}:gS i (some (.tup ds))=ds[i]?:=rfl
theorem ku{i:Nat}{x:Operand}(h:Ev (gS i (ev A.e x)) λd=>k d st):S P r m ⟨dst,.extract x i,ty,pos,aft,gd⟩ A st k:=JR rfl (λ_ _ e=>by cases e) (by
 unfold gS at h
 exact h)
def Xl (f:D->Int->Option D):Option D->Option Int->Option D
|some d,some n=>f d n
|_,_=>none
theorem aG{f:D->Int->Option D}{d:D}{n:Int}:Xl f (some d) (some n)=f d n:=rfl
theorem eV{t:TypeId}{x y:Operand}(h:Ev (Xl (NN P t) (ev A.e x) (JZ (ev A.e y))) λd=>k d st):S P r m ⟨dst,.index t x y,ty,pos,aft,gd⟩ A st k:=JR rfl (λ_ _ e=>by cases e) (by
 unfold Xl at h
 exact h)
theorem Uk{t:TypeId}{x y:Operand}(h:Ev (Xl (Hf P t) (ev A.e x) (JZ (ev A.e y))) λd=>k d st):S P r m ⟨dst,.indexAddr t x y,ty,pos,aft,gd⟩ A st k:=JR rfl (λ_ _ e=>by cases e) (by
 unfold Xl at h
 exact h)
theorem nj{b:Builtin}{args:Array Operand}{tys:Array TypeId}(hf:Dn ⟨dst,.call ⟨.builtin b,args,tys⟩,ty,pos,aft,gd⟩=true)(h:Ev ((evL A.e args.toList).bind (aBi P b tys.toList)) λd=>k d st):S P r m ⟨dst,.call ⟨.builtin b,args,tys⟩,ty,pos,aft,gd⟩ A st k:=JR hf (λ_ _ e=>by cases e) h
theorem iM{t:Tmp}{x y:Operand}(h:Ev (ev A.e (.tmp t)) (Gd (λA=>Ev (ev A.e x) λd=>k d st) (λA=>Ev (ev A.e y) λd=>k d st) (λ_=>False) A t true)):S P r m ⟨dst,.pick (.tmp t) x y,ty,pos,aft,gd⟩ A st k:=by
 obtain⟨d,h1,h2⟩:=h
 have h3:A.e t=d:=by cases h1;rfl
 have h4:=h2 h3
 split at h4
 . rename_i c
   split at h4
   . rename_i hc
     subst hc
     obtain⟨d,h5,h6⟩:=h4
     exact JR rfl (λ_ _ e=>by cases e) ⟨d,by simp[aOp,h1,h5],h6⟩
   . rename_i hc
     have:c=false:=by simpa using hc
     subst this
     obtain⟨d,h5,h6⟩:=h4
     exact JR rfl (λ_ _ e=>by cases e) ⟨d,by simp[aOp,h1,h5],h6⟩
 . exact h4.elim
def Xk:Option D->Option D
|some (.ptr b o)=>some (.ptr b o)
|some (.ip c)=>some (.ip c)
|some (.fn (.func f) a b)=>some (.fn (.func f) a b)
|some (.fn (.yield f) a b)=>some (.fn (.yield f) a b)
|_=>none
theorem dQ{b o:Nat}:Xk (some (.ptr b o))=some (.ptr b o):=rfl
theorem gQ{c:List D}:Xk (some (.ip c))=some (.ip c):=rfl
theorem aE{f:FuncId}{a b:List D}:Xk (some (.fn (.func f) a b))=some (.fn (.func f) a b):=rfl
theorem Xj{f:Nat}{a b:List D}:Xk (some (.fn (.yield f) a b))=some (.fn (.yield f) a b):=rfl
theorem kq{x:Operand}(h:Ev (Xk (ev A.e x)) λd=>k d st):S P r m ⟨dst,.nilCheck x,ty,pos,aft,gd⟩ A st k:=JR rfl (λ_ _ e=>by cases e) (by
 unfold Xk at h
 exact h)
def aMk (fn:Fn):Option (List D)->Option (List D)->Option D
|some a,some b=>some (.fn fn a b)
|_,_=>none
theorem dR{fn:Fn}{a b:List D}:aMk fn (some a) (some b)=some (.fn fn a b):=rfl
theorem nh{fn:Fn}{a b:Array Operand}(h:Ev (aMk fn (evL A.e a.toList) (evL A.e b.toList)) λd=>k d st):S P r m ⟨dst,.makeFunc fn a b,ty,pos,aft,gd⟩ A st k:=JR rfl (λ_ _ e=>by cases e) (by
 unfold aMk at h
 exact h)
def aSl (f:D->Option Int->Option Int->Option Int->Option D):Option D->Option (Option Int)->Option (Option Int)->Option (Option Int)->Option D
|some d,some a,some b,some c=>f d a b c
|_,_,_,_=>none
theorem dP{f:D->Option Int->Option Int->Option Int->Option D}{d:D}{a b c:Option Int}:aSl f (some d) (some a) (some b) (some c)=f d a b c:=rfl
theorem eS{t:TypeId}{x:Operand}{lo hi mx:Option Operand}(h:Ev (aSl (NM P t) (ev A.e x) (Gt A.e lo) (Gt A.e hi) (Gt A.e mx)) λd=>k d st):S P r m ⟨dst,.slice t x lo hi mx,ty,pos,aft,gd⟩ A st k:=JR rfl (λ_ _ e=>by cases e) (by
 unfold aSl at h
 exact h)
theorem eX{t:TypeId}{ps:Array (Nat×Operand)}(h:Ev ((evP A.e ps.toList).bind (NQ P t)) λd=>k d st):S P r m ⟨dst,.build t ps,ty,pos,aft,gd⟩ A st k:=JR rfl (λ_ _ e=>by cases e) h
theorem SW{t:TypeId}{n:Nat}{ps:Array (Nat×Operand)}(h:Ev ((evP A.e ps.toList).bind (Gz P t n)) λd=>k d st):S P r m ⟨dst,.buildSlice t n ps,ty,pos,aft,gd⟩ A st k:=JR rfl (λ_ _ e=>by cases e) h
def gw (d:D):Option D :=
 match d.cells.all D.leaf with
|true=>some (.ip d.cells)
|false=>none
theorem ni{t:TypeId}{x:Operand}(h:Ev ((ev A.e x).bind gw) λd=>k d st):S P r m ⟨dst,.box t x,ty,pos,aft,gd⟩ A st k:=JR rfl (λ_ _ e=>by cases e) (by
 obtain⟨d,h1,h2⟩:=h
 refine⟨d,?_,h2⟩
 unfold aOp
 dsimp only
 cases hx:ev A.e x with
|none=>rw[hx] at h1;cases h1
|some d' =>
  rw[hx,BS]at h1
  unfold gw at h1
  split at h1
  . rename_i hl;cases h1;simp[hl]
  . cases h1)
def KH (P:Program)(t:TypeId)(cs:List D):Option D:=(Bt P t).bind λti=>Je ti cs
def MY (P:Program)(m:Option Ro)(t:TypeId)(d:D)(st:St)(k:D->St->Prop):Prop :=
 match d with
|.ip cs=>Ev (KH P t cs) λd=>k d st
|.ptr b off=>∃cs,((roM m st).lookup b=some cs\/(m=none/\∃ty,Res.box b ty cs∈st))/\Ev (KH P t (cs.drop off)) λd=>k d st
|_=>False
theorem kJ{t:TypeId}{cs:List D}(h:Ev (KH P t cs) λd=>k d st):MY P m t (.ip cs) st k:=h
theorem ja{t:TypeId}{b off:Nat}{bt:TypeId}{cs:List D}(hm:Res.box b bt cs∈st)(h:Ev (KH P t (cs.drop off)) λd=>k d st):MY P none t (.ptr b off) st k:=⟨cs,.inr ⟨rfl,bt,hm⟩,h⟩
theorem i9{t:TypeId}{b off:Nat}(h:Ev ((roM m st).lookup b) λcs=>Ev (KH P t (cs.drop off)) λd=>k d st):MY P m t (.ptr b off) st k:=by
 obtain⟨cs,h1,h2⟩:=h
 exact⟨cs,.inl h1,h2⟩
theorem iP{t:TypeId}{x:Operand}(h:Ev (ev A.e x) λd=>MY P m t d st k):S P r m ⟨dst,.load t x,ty,pos,aft,gd⟩ A st k:=by
 obtain⟨d,h1,h2⟩:=h
 unfold MY at h2
 split at h2
 . rename_i cs
   refine Wj rfl ?_
   obtain⟨d,h3,h4⟩:=h2
   refine⟨d,?_,h4⟩
   unfold KH at h3
   cases ht:Bt P t with
   | none=>rw[ht]at h3;cases h3
   | some ti =>
    rw[ht]at h3
    simp only[frC,h1,ht]
    exact h3
 . rename_i b off
   obtain⟨cs,h3,d,h4,h5⟩:=h2
   unfold KH at h4
   cases ht:Bt P t with
   | none=>rw[ht]at h4;cases h4
   | some ti =>
    rw[ht]at h4
    rcases h3 with h3|⟨rfl,bt,h3⟩
    . refine Wj rfl ⟨d,?_,h5⟩
      simp only[frC,h1,ht,h3]
      exact h4
    . exact UR rfl h1 ht h3 h4 h5
 . exact h2.elim
theorem Ek{R:D->St->Prop}(hf:Dn o=false)(hc:OpC P r o A.e st R)(hex:∃d st',R d st')(h:∀d st',R d st'->CZ m st'/\k d st'):S P r m o A st k:=by
 cases m with
|none=>exact hc.mono λd st' hk=>(h d st' hk).2
|some ro =>
  show if Dn o then _ else _
  rw[if_neg (by rw[hf];exact AJ)]
  obtain⟨d,st',hk⟩:=hex
  exact⟨hc.mono λd st' hk=>h d st' hk,d,st',h d st' hk⟩
def bc (P:Program)(t:TypeId)(cs:List D)(off:Nat)(dc:List D):Option (List D):=(Bt P t).bind λti=>if dc.length=ti.sz/\dc.all D.leaf=true/\off+dc.length<=cs.length then some (DJ cs off dc)else none
def gV (P:Program)(m:Option Ro)(t:TypeId)(d:D)(d':D)(st:St)(k:D->St->Prop):Prop :=
 ∃(b off:Nat) (ty:TypeId) (cs:List D) (s1:List D->St),d=.ptr b off/\(∀cs',ResAt (.box b ty cs) (.box b ty cs') st (s1 cs'))/\Ev (bc P t cs off d'.cells) λcs'=>CZ m (s1 cs')/\k D.un (s1 cs')
theorem iK{t:TypeId}{b off:Nat}{ty:TypeId}{cs:List D}{d':D}{s1:List D->St}(hat:∀cs',ResAt (.box b ty cs) (.box b ty cs') st (s1 cs'))(h:Ev (bc P t cs off d'.cells) λcs'=>CZ m (s1 cs')/\k D.un (s1 cs')):gV P m t (.ptr b off) d' st k:=⟨b,off,ty,cs,s1,rfl,hat,h⟩
theorem eR{t:TypeId}{x y:Operand}(h:Ev (ev A.e x) λd=>Ev (ev A.e y) λd'=>gV P m t d d' st k):S P r m ⟨dst,.store t x y,ty,pos,aft,gd⟩ A st k:=by
 obtain⟨d,h1,d',h2,b,off,ty,cs,s1,rfl,hat,cs',h3,h4⟩:=h
 unfold bc at h3
 cases ht:Bt P t with
|none=>rw[ht] at h3;cases h3
|some ti =>
  rw[ht,BS]at h3
  split at h3
  . rename_i hc
    cases h3
    exact Ek (R:=λd s=>d=D.un/\s=s1 (DJ cs off d'.cells)) rfl (Zv rfl h1 h2 ht hc.1 hc.2.1 (hat _) hc.2.2 ⟨rfl,rfl⟩) ⟨_,_,rfl,rfl⟩ λd s ⟨e1,e2⟩=>by subst e1 e2;exact h4
  . cases h3
def Yy (P:Program)(t:TypeId):Option (List D):=(Bt P t).bind λti=>if ti.zero.all (λv=>GI v && (Dm v).leaf)then some (ti.zero.map Dm)else none
def AlK (m:Option Ro)(t:TypeId)(cs:List D)(st:St)(k:D->St->Prop):Prop:=∀b,CZ m (.box b t cs::st)/\k (.ptr b 0) (.box b t cs::st)
theorem lz{t:TypeId}{cs:List D}(h:∀b,CZ m (.box b t cs::st)/\k (.ptr b 0) (.box b t cs::st)):AlK m t cs st k:=h
theorem eY{t:TypeId}(h:Ev (Yy P t) λcs=>AlK m t cs st k):S P r m ⟨dst,.alloc t,ty,pos,aft,gd⟩ A st k:=by
 obtain⟨cs,h1,h2⟩:=h
 unfold Yy at h1
 cases ht:Bt P t with
|none=>rw[ht] at h1;cases h1
|some ti =>
  rw[ht,BS]at h1
  split at h1
  . rename_i hz
    cases h1
    exact Ek (R:=λd s=>∃b,d=.ptr b 0/\s=.box b t (ti.zero.map Dm)::st) rfl (Zw rfl ht hz λb=>⟨b,rfl,rfl⟩) ⟨_,_,0,rfl,rfl⟩ λd s ⟨b,e1,e2⟩=>by subst e1 e2;exact h2 b
  . cases h1
def oa (e:Nat->D)(g:Operand)(args:Array Operand):Option (FuncId×List D) :=
 match ev e g with
|some (.fn (.func f) first caps)=>(evL e args.toList).map λds=>(f,first++ds++caps)
|_=>none
def SA (d:Option D)(l:Option (List D)):Option (FuncId×List D) :=
 match d with
|some (.fn (.func f) first caps)=>l.map λds=>(f,first++ds++caps)
|_=>none
theorem Xc{f:FuncId}{first caps ds:List D}:SA (some (.fn (.func f) first caps)) (some ds)=some (f,first++ds++caps):=rfl
def LM (P:Program)(m:Option Ro)(p:FuncId×List D)(st:St)(k:D->St->Prop):Prop :=
 ∃R,(∀args w,(callFunc p.1 args).run P w=.ok (.enter p.1 args) w)/\TrF P p.1 p.2 st R/\(∃d st',R d st')/\∀d st',R d st'->CZ m st'/\k d st'
theorem Du{g:Operand}{args:Array Operand}{tys:Array TypeId}(h:Ev (SA (ev A.e g) (evL A.e args.toList)) λp=>LM P m p st k):S P r m ⟨dst,.call ⟨.value g,args,tys⟩,ty,pos,aft,gd⟩ A st k:=by
 obtain⟨⟨f,ds⟩,h1,R,h2,h3,h4,h5⟩:=h
 unfold SA at h1
 split at h1
 . rename_i f' first caps hg
   cases ha:evL A.e args.toList with
   | none=>rw[ha]at h1;cases h1
   | some ds' =>
    rw[ha]at h1
    cases h1
    exact Ek rfl (US rfl rfl hg ha h2 h3) h4 h5
 . cases h1
section
variable {f:FuncId} {ds ds':List D} {X:D} {s1:St}
theorem Yu(henter:∀args w,(callFunc f args).run P w=.ok (.enter f args) w)(h:TrF P f ds st λd st'=>d=X/\st'=s1)(hk:CZ m s1/\k X s1):LM P m (f,ds) st k:=⟨_,henter,h,⟨_,_,rfl,rfl⟩,λd st' ⟨e1,e2⟩=>by subst e1 e2;exact hk⟩
theorem it(henter:∀args w,(callFunc f args).run P w=.ok (.enter f args) w)(hle:LEL ds ds')(h:TrF P f ds' st λd st'=>d=X/\st'=s1)(hk:CZ m s1/\k X s1):LM P m (f,ds) st k:=Yu henter (h.le hle) hk
theorem Yt{ι:Type}{p:ι->Prop}{F:ι->D}{Sx:ι->St}(henter:∀args w,(callFunc f args).run P w=.ok (.enter f args) w)(hle:LEL ds ds')(h:TrF P f ds' st λd st'=>∃i,p i/\d=F i/\st'=Sx i)(hex:∃i,p i)(hk:∀i,p i->CZ m (Sx i)/\k (F i) (Sx i)):LM P m (f,ds) st k:=by
 obtain⟨i0,hi0⟩:=hex
 exact⟨_,henter,h.le hle,⟨_,_,i0,hi0,rfl,rfl⟩,λd st' ⟨i,hi,e1,e2⟩=>by subst e1 e2;exact hk i hi⟩
end
def g8 (P:Program)(m:Option Ro)(t:TypeId)(p:D×D)(st:St)(k:D->St->Prop):Prop :=
 ∃(ti:TI) (el:TypeId) (sz bytes:Nat) (z:List Value) (ow oy:Own) (es ys:List (List D)) (s1:Own->St),p=(.sl ow es,.sl oy ys)/\Bt P t=some ti/\ti.k=.slice el sz bytes z/\ow≠.shared/\(∀o',ResAt (.room ow el sz es.length) (.room o' el sz (es++ys).length) st (s1 o'))/\(∀a∈es,a.length=sz)/\(∀a∈ys,a.length=sz)/\(es.length+ys.length)*bytes<=140737488355328/\es.length+ys.length<=140737488355328/\∀o',o'≠.shared->CZ m (s1 o')/\k (.sl o' (es++ys)) (s1 o')
def IQ (a b:Option D):Option (D×D) :=
 match a,b with
|some x,some y=>some (x,y)
|_,_=>none
theorem Wu{x y:D}:IQ (some x) (some y)=some (x,y):=rfl
theorem kz{t:TypeId}{x y:Operand}(h:Ev (IQ (ev A.e x) (ev A.e y)) λp=>g8 P m t p st k):S P r m ⟨dst,.call ⟨.builtin .append,#[x,y],#[t,t]⟩,ty,pos,aft,gd⟩ A st k:=by
 obtain⟨p,h1,ti,el,sz,bytes,z,ow,oy,es,ys,s1,rfl,h2,h3,h4,h5,h6,h7,h8,h9,h10⟩:=h
 unfold IQ at h1
 split at h1
 . rename_i d d' hx hy
   cases h1
   exact Ek (R:=λd st'=>∃o',o'≠.shared/\d=.sl o' (es++ys)/\st'=s1 o') rfl (Wx rfl hx hy h2 h3 h4 h5 h6 h7 h8 h9 λo' h=>⟨o',h,rfl,rfl⟩) ⟨_,_,.tight,by simp,rfl,rfl⟩ λd st' ⟨o',h,e1,e2⟩=>by subst e1 e2;exact h10 o' h
 . cases h1
def JO (P:Program)(t:TypeId):Option (TypeId×Nat×Nat):=(Bt P t).bind λti=>match ti.k with
|.slice el sz bytes _=>some (el,sz,bytes)
|_=>none
theorem Jb{t:TypeId}{el:TypeId}{sz bytes:Nat}(h:JO P t=some (el,sz,bytes)):∃ti z,Bt P t=some ti/\ti.k=.slice el sz bytes z:=by
 unfold JO at h
 cases ht:Bt P t with
|none=>rw[ht] at h;cases h
|some ti =>
  rw[ht,BS]at h
  split at h
  . rename_i z hk;cases h;exact⟨ti,z,rfl,hk⟩
  . cases h
def Mq (P:Program)(t:TypeId):Option Bool:=(Bt P t).bind λti=>match ti.k with
|.string=>some true
|_=>none
theorem SO{t:TypeId}(h:Mq P t=some true):∃ti,Bt P t=some ti/\ti.k=.string:=by
 unfold Mq at h
 cases ht:Bt P t with
|none=>rw[ht] at h;cases h
|some ti =>
  rw[ht,BS]at h
  split at h
  . rename_i hk;exact⟨ti,rfl,hk⟩
  . cases h
def d7 (m:Option Ro)(q:TypeId×Nat×Nat)(p:D×D)(st:St)(k:D->St->Prop):Prop :=
 ∃(ow oy:Own) (es ys:List (List D)) (s1:Own->St),p=(.sl ow es,.sl oy ys)/\ow≠.shared/\(∀o',ResAt (.room ow q.1 q.2.1 es.length) (.room o' q.1 q.2.1 (es++ys).length) st (s1 o'))/\(∀a∈es,a.length=q.2.1)/\(∀a∈ys,a.length=q.2.1)/\(es.length+ys.length)*q.2.2<=140737488355328/\es.length+ys.length<=140737488355328/\∀o',o'≠.shared->CZ m (s1 o')/\k (.sl o' (es++ys)) (s1 o')
theorem lA{t:TypeId}{p:D×D}(h:Ev (JO P t) λq=>d7 m q p st k):g8 P m t p st k:=by
 obtain⟨⟨el,sz,bytes⟩,h1,ow,oy,es,ys,s1,h2,h3,h4,h5,h6,h7,h8,h9⟩:=h
 obtain⟨ti,z,h10,h11⟩:=Jb h1
 exact⟨ti,el,sz,bytes,z,ow,oy,es,ys,s1,h2,h10,h11,h3,h4,h5,h6,h7,h8,h9⟩
theorem iu{el:TypeId}{sz bytes:Nat}{ow oy:Own}{es ys:List (List D)}{s1:Own->St}(h4:ow≠.shared)(h5:∀o',ResAt (.room ow el sz es.length) (.room o' el sz (es++ys).length) st (s1 o'))(h6:∀a∈es,a.length=sz)(h7:∀a∈ys,a.length=sz)(h8:(es.length+ys.length)*bytes<=140737488355328)(h9:es.length+ys.length<=140737488355328)
 (h10:∀o',o'≠.shared->CZ m (s1 o')/\k (.sl o' (es++ys)) (s1 o')):d7 m (el,sz,bytes) (.sl ow es,.sl oy ys) st k:=⟨ow,oy,es,ys,s1,rfl,h4,h5,h6,h7,h8,h9,h10⟩
def g6 (P:Program)(m:Option Ro)(t u:TypeId)(p:D×D)(st:St)(k:D->St->Prop):Prop :=
 ∃(ti tu:TI) (el:TypeId) (bytes:Nat) (z:List Value) (ow:Own) (es:List (List D)) (str:ByteArray) (s1:Own->St),p=(.sl ow es,.str str)/\Bt P t=some ti/\ti.k=.slice el 1 bytes z/\Bt P u=some tu/\tu.k=.string/\ow≠.shared/\(∀o',ResAt (.room ow el 1 es.length) (.room o' el 1 (es++str.data.toList.map Br).length) st (s1 o'))/\(∀a∈es,a.length=1)/\(es.length+str.size)*bytes<=140737488355328/\es.length+str.size<=140737488355328/\∀o',o'≠.shared->CZ m (s1 o')/\k (.sl o' (es++str.data.toList.map Br)) (s1 o')
theorem ky{t u:TypeId}{x y:Operand}(h:Ev (IQ (ev A.e x) (ev A.e y)) λp=>g6 P m t u p st k):S P r m ⟨dst,.call ⟨.builtin .append,#[x,y],#[t,u]⟩,ty,pos,aft,gd⟩ A st k:=by
 obtain⟨p,h1,ti,tu,el,bytes,z,ow,es,str,s1,rfl,h2,h3,h4,h5,h6,h7,h8,h9,h10,h11⟩:=h
 unfold IQ at h1
 split at h1
 . rename_i d d' hx hy
   cases h1
   exact Ek (R:=λd st'=>∃o',o'≠.shared/\d=.sl o' (es++str.data.toList.map Br)/\st'=s1 o') rfl (Qx rfl hx hy h2 h3 h4 h5 h6 h7 h8 h9 h10 λo' h=>⟨o',h,rfl,rfl⟩) ⟨_,_,.tight,by simp,rfl,rfl⟩ λd st' ⟨o',h,e1,e2⟩=>by subst e1 e2;exact h11 o' h
 . cases h1
def g7 (m:Option Ro)(q:TypeId×Nat×Nat)(p:D×D)(st:St)(k:D->St->Prop):Prop :=
 ∃(ow:Own) (es:List (List D)) (str:ByteArray) (s1:Own->St),p=(.sl ow es,.str str)/\q.2.1=1/\ow≠.shared/\(∀o',ResAt (.room ow q.1 1 es.length) (.room o' q.1 1 (es++str.data.toList.map Br).length) st (s1 o'))/\(∀a∈es,a.length=1)/\(es.length+str.size)*q.2.2<=140737488355328/\es.length+str.size<=140737488355328/\∀o',o'≠.shared->CZ m (s1 o')/\k (.sl o' (es++str.data.toList.map Br)) (s1 o')
theorem ly{t u:TypeId}{p:D×D}(h:Ev (Mq P u) λb=>b=true/\Ev (JO P t) λq=>g7 m q p st k):g6 P m t u p st k:=by
 obtain⟨b,h0,rfl,⟨el,sz,bytes⟩,h1,ow,es,str,s1,h2,e,h3,h4,h5,h6,h7,h8⟩:=h
 dsimp only at e
 subst e
 obtain⟨ti,z,h10,h11⟩:=Jb h1
 obtain⟨tu,h12,h13⟩:=SO h0
 exact⟨ti,tu,el,bytes,z,ow,es,str,s1,h2,h10,h11,h12,h13,h3,h4,h5,h6,h7,h8⟩
theorem fH{p:Prop}(h:p):true=true/\p:=⟨rfl,h⟩
end
attribute [push_cast] JO Mq Xm aH aG KH Xc Wu bc Yy roM dQ gQ aE Xj dR dP gw
class Go1 (p:Prop)(q:outParam Prop):Prop where
 go:q->p
class Go2 (p:Prop)(q:outParam Prop):Prop where
 go:q->p
section
variable {P:Program} {N:Nat} {r:Option Nat} {A:AA} {st:St} {Q:Exit->AA->St->Prop} {K:AA->St->Prop} {l:List Oper} {ops:Array Oper} {m:Option Ro} {k:D->St->Prop} {dst:Option Tmp} {op:Op} {ty:TypeId} {pos:String} {aft:Array Edge} {gd:Option (Nat×Bool)} {id:Nat} {K1 K0 KF:AA->Prop} {tt:Tmp} {b:Bool}
instance jy {o2:Oper}:Go1 (W P r m ops K (⟨dst,op,ty,pos,aft,none⟩::o2::l) A st) (S P r m ⟨dst,op,ty,pos,aft,none⟩ A st λd st'=>W P r m ops K (o2::l) (A.put dst d) st'):=⟨Xx⟩
instance jx:Go2 (W P r m ops K (⟨dst,op,ty,pos,aft,none⟩::[]) A st) (S P r m ⟨dst,op,ty,pos,aft,none⟩ A st λd st'=>W P r m ops K [] (A.put dst d) st'):=⟨Xx⟩
instance lY:Go1 (W P r m ops K [] A st) (K A st):=⟨jM⟩
instance mf:Go1 (Gd K1 K0 KF A tt true (.s (.bool true))) (K1 A):=⟨kY⟩
instance mi:Go1 (Gd K1 K0 KF A tt false (.s (.bool false))) (K1 A):=⟨k8⟩
instance mg:Go1 (Gd K1 K0 KF A tt false (.s (.bool true))) (K0 A):=⟨kZ⟩
instance mh:Go1 (Gd K1 K0 KF A tt true (.s (.bool false))) (K0 A):=⟨k7⟩
instance mc:Go1 (Gd K1 K0 KF A tt b D.un) (KF A):=⟨kX⟩
instance kR {x:Operand}:Go1 (S P r m ⟨dst,.move x,ty,pos,aft,gd⟩ A st k) (Ev (ev A.e x) λd=>k d st):=⟨iO⟩
instance jh {x:Operand}:Go1 (S P r m ⟨dst,.assign x,ty,pos,aft,gd⟩ A st k) (Ev (ev A.e x) λd=>k d st):=⟨bA⟩
instance l6 {b:BinOp}{t t':TypeId}{x y:Operand}:Go2 (S P r m ⟨dst,.binOp b t x y t',ty,pos,aft,gd⟩ A st k) (Ev (YA P b t (ev A.e x) (ev A.e y)) λd=>k d st):=⟨kx⟩
instance nB {b:UnOp}{t:TypeId}{x:Operand}:Go1 (S P r m ⟨dst,.unOp b t x,ty,pos,aft,gd⟩ A st k) (Ev ((ev A.e x).bind (aUn b)) λd=>k d st):=⟨nf⟩
instance kU {a b:TypeId}{x:Operand}:Go2 (S P r m ⟨dst,.convert a b x,ty,pos,aft,gd⟩ A st k) (Ev ((ev A.e x).bind (SE P a b)) λd=>k d st):=⟨iQ⟩
instance jF {t:TypeId}{f:Nat}{x:Operand}:Go1 (S P r m ⟨dst,.field t x f,ty,pos,aft,gd⟩ A st k) (Ev ((ev A.e x).bind (NO P t f)) λd=>k d st):=⟨eW⟩
instance d9 {t:TypeId}{f:Nat}{x:Operand}:Go1 (S P r m ⟨dst,.fieldAddr t x f,ty,pos,aft,gd⟩ A st k) (Ev ((ev A.e x).bind (Hg P t f)) λd=>k d st):=⟨Ul⟩
instance l5 {i:Nat}{x:Operand}:Go1 (S P r m ⟨dst,.extract x i,ty,pos,aft,gd⟩ A st k) (Ev (gS i (ev A.e x)) λd=>k d st):=⟨ku⟩
instance kQ {t:Tmp}{x y:Operand}:Go1 (S P r m ⟨dst,.pick (.tmp t) x y,ty,pos,aft,gd⟩ A st k) (Ev (ev A.e (.tmp t)) (Gd (λA=>Ev (ev A.e x) λd=>k d st) (λA=>Ev (ev A.e y) λd=>k d st) (λ_=>False) A t true)):=⟨iM⟩
instance l4 {x:Operand}:Go1 (S P r m ⟨dst,.nilCheck x,ty,pos,aft,gd⟩ A st k) (Ev (Xk (ev A.e x)) λd=>k d st):=⟨kq⟩
instance kS {t:TypeId}{x:Operand}:Go1 (S P r m ⟨dst,.load t x,ty,pos,aft,gd⟩ A st k) (Ev (ev A.e x) λd=>MY P m t d st k):=⟨iP⟩
instance l8 {t:TypeId}{cs:List D}:Go1 (MY P m t (.ip cs) st k) (Ev (KH P t cs) λd=>k d st):=⟨kJ⟩
instance kV {t:TypeId}{b off:Nat}:Go2 (MY P m t (.ptr b off) st k) (Ev ((roM m st).lookup b) λcs=>Ev (KH P t (cs.drop off)) λd=>k d st):=⟨i9⟩
instance jE {t:TypeId}{x y:Operand}:Go1 (S P r m ⟨dst,.index t x y,ty,pos,aft,gd⟩ A st k) (Ev (Xl (NN P t) (ev A.e x) (JZ (ev A.e y))) λd=>k d st):=⟨eV⟩
instance d8 {t:TypeId}{x y:Operand}:Go1 (S P r m ⟨dst,.indexAddr t x y,ty,pos,aft,gd⟩ A st k) (Ev (Xl (Hf P t) (ev A.e x) (JZ (ev A.e y))) λd=>k d st):=⟨Uk⟩
instance jD {t:TypeId}{x:Operand}{lo hi mx:Option Operand}:Go2 (S P r m ⟨dst,.slice t x lo hi mx,ty,pos,aft,gd⟩ A st k) (Ev (aSl (NM P t) (ev A.e x) (Gt A.e lo) (Gt A.e hi) (Gt A.e mx)) λd=>k d st):=⟨eS⟩
instance jG {t:TypeId}{ps:Array (Nat×Operand)}:Go1 (S P r m ⟨dst,.build t ps,ty,pos,aft,gd⟩ A st k) (Ev ((evP A.e ps.toList).bind (NQ P t)) λd=>k d st):=⟨eX⟩
instance cT {t:TypeId}{n:Nat}{ps:Array (Nat×Operand)}:Go2 (S P r m ⟨dst,.buildSlice t n ps,ty,pos,aft,gd⟩ A st k) (Ev ((evP A.e ps.toList).bind (Gz P t n)) λd=>k d st):=⟨SW⟩
instance nC {fn:Fn}{a b:Array Operand}:Go1 (S P r m ⟨dst,.makeFunc fn a b,ty,pos,aft,gd⟩ A st k) (Ev (aMk fn (evL A.e a.toList) (evL A.e b.toList)) λd=>k d st):=⟨nh⟩
instance jC {t:TypeId}{x y:Operand}:Go1 (S P r m ⟨dst,.store t x y,ty,pos,aft,gd⟩ A st k) (Ev (ev A.e x) λd=>Ev (ev A.e y) λd'=>gV P m t d d' st k):=⟨eR⟩
instance jH {t:TypeId}:Go1 (S P r m ⟨dst,.alloc t,ty,pos,aft,gd⟩ A st k) (Ev (Yy P t) λcs=>AlK m t cs st k):=⟨eY⟩
instance Ds {g:Operand}{args:Array Operand}{tys:Array TypeId}:Go2 (S P r m ⟨dst,.call ⟨.value g,args,tys⟩,ty,pos,aft,gd⟩ A st k) (Ev (SA (ev A.e g) (evL A.e args.toList)) λp=>LM P m p st k):=⟨Du⟩
instance nD {t:TypeId}{x:Operand}:Go2 (S P r m ⟨dst,.box t x,ty,pos,aft,gd⟩ A st k) (Ev ((ev A.e x).bind gw) λd=>k d st):=⟨ni⟩
instance (priority:=high) i_s_app {t:TypeId}{x y:Operand}:Go2 (S P r m ⟨dst,.call ⟨.builtin .append,#[x,y],#[t,t]⟩,ty,pos,aft,gd⟩ A st k) (Ev (IQ (ev A.e x) (ev A.e y)) λp=>g8 P m t p st k):=⟨kz⟩
instance mm {t:TypeId}{p:D×D}:Go2 (g8 P m t p st k) (Ev (JO P t) λq=>d7 m q p st k):=⟨lA⟩
instance l7 {t u:TypeId}{x y:Operand}:Go2 (S P r m ⟨dst,.call ⟨.builtin .append,#[x,y],#[t,u]⟩,ty,pos,aft,gd⟩ A st k) (Ev (IQ (ev A.e x) (ev A.e y)) λp=>g6 P m t u p st k):=⟨ky⟩
instance mj {t u:TypeId}{p:D×D}:Go2 (g6 P m t u p st k) (Ev (Mq P u) λb=>b=true/\Ev (JO P t) λq=>g7 m q p st k):=⟨ly⟩
instance jI {p:Prop}:Go1 (true=true/\p) (p):=⟨fH⟩
instance kN {x y:Code}:Go2 (Tr P N r (.seq x y) A st Q) (Tr P N r x A st (IK (λA' st'=>Tr P N r y A' st' Q) Q)):=⟨aW⟩
instance jg {id:Nat}{c:Code}:Go1 (Tr P N r (.block id c) A st Q) (Tr P N r c A st (Jt id Q)):=⟨a7⟩
instance jA:Go1 (Tr P N r .skip A st Q) (Q .normal A st):=⟨eu⟩
instance kO:Go1 (Tr P N r .ret A st Q) (Q .ret A st):=⟨iJ⟩
instance jB {id:Nat}:Go1 (Tr P N r (.exit id) A st Q) (Q (.exit id) A st):=⟨eC⟩
instance je {l:Nat}:Go1 (Tr P N r (.label l) A st Q) (Q .normal A st):=⟨aX⟩
instance f8:Go1 (IK K Q .normal A st) (K A st):=⟨Wc⟩
instance ik:Go1 (IK K Q .ret A st) (Q .ret A st):=⟨YO⟩
instance f9:Go1 (IK K Q (.exit id) A st) (Q (.exit id) A st):=⟨Wd⟩
instance jj:Go1 (Jt id Q .normal A st) (Q .normal A st):=⟨dD⟩
instance jJ:Go1 (Jt id Q .ret A st) (Q .ret A st):=⟨gy⟩
instance ji:Go1 (Jt id Q (.exit id) A st) (Q .normal A st):=⟨dC⟩
instance jf {t:Tmp}{x y:Code}:Go1 (Tr P N r (.cond (.tmp t) x y) A st Q) (Ev (ev A.e (.tmp t)) (Gd (λA=>Tr P N r x A st Q) (λA=>Tr P N r y A st Q) (λ_=>False) A t true)):=⟨a6⟩
instance ig {x y:Code}:Go1 (Tr P N r (.cond (.const (.bool true)) x y) A st Q) (Tr P N r x A st Q):=⟨YK⟩
instance ij {x y:Code}:Go1 (Tr P N r (.cond (.const (.bool false)) x y) A st Q) (Tr P N r y A st Q):=⟨YL⟩
end
class LkI (b:Nat)(st:St)(bt:outParam TypeId)(cs:outParam (List D)):Prop where
 go:Res.box b bt cs∈st
instance lU {b:Nat}{bt:TypeId}{cs:List D}{st:St}:LkI b (.box b bt cs::st) bt cs:=⟨List.Mem.head _⟩
instance (priority:=low) lk_there {b:Nat}{bt:TypeId}{cs:List D}{x:Res}{st:St}[h:LkI b st bt cs]:LkI b (x::st) bt cs:=⟨List.Mem.tail _ h.go⟩
class StI (b:Nat)(st:St)(bt:outParam TypeId)(cs:outParam (List D))(s1:outParam (List D->St)):Prop where
 go:∀cs',ResAt (.box b bt cs) (.box b bt cs') st (s1 cs')
instance lO {b:Nat}{bt:TypeId}{cs:List D}{st:St}:StI b (.box b bt cs::st) bt cs (λcs'=>.box b bt cs'::st):=⟨λ_=>ResAt.here⟩
instance (priority:=low) st_there {b:Nat}{bt:TypeId}{cs:List D}{x:Res}{st:St}{s1:List D->St}[h:StI b st bt cs s1]:StI b (x::st) bt cs (λcs'=>x::s1 cs'):=⟨λcs'=>ResAt.there (h.go cs')⟩
instance nx {b:Nat}{bt:TypeId}{cs:List D}{x:Res}{l st:St}[h:LkI b (x::(l++st)) bt cs]:LkI b ((x::l)++st) bt cs:=⟨h.go⟩
instance lV {b:Nat}{bt:TypeId}{cs:List D}{st:St}[h:LkI b st bt cs]:LkI b ([]++st) bt cs:=⟨h.go⟩
instance m9 {b:Nat}{bt:TypeId}{cs:List D}{x:Res}{l st:St}{s1:List D->St}[h:StI b (x::(l++st)) bt cs s1]:StI b ((x::l)++st) bt cs s1:=⟨h.go⟩
instance lP {b:Nat}{bt:TypeId}{cs:List D}{st:St}{s1:List D->St}[h:StI b st bt cs s1]:StI b ([]++st) bt cs s1:=⟨h.go⟩
class KpI (m:Option Ro)(st:St):Prop where
 go:CZ m st
instance lW {st:St}:KpI none st:=⟨ZT⟩
instance ny {st:St}:KpI (some []) st:=⟨BI⟩
instance nT {st:St}:KpI (some (Ly st)) st:=⟨fW⟩
instance (priority:=low) kp_cons {m:Option Ro}{x:Res}{st:St}[h:KpI m st]:KpI m (x::st):=⟨ZU h.go⟩
instance nz {m:Option Ro}{x:Res}{l st:St}[h:KpI m (x::(l++st))]:KpI m ((x::l)++st):=⟨h.go⟩
instance lX {m:Option Ro}{st:St}[h:KpI m st]:KpI m ([]++st):=⟨h.go⟩
section
variable {P:Program} {st:St} {m:Option Ro} {k:D->St->Prop} {t:TypeId} {b off:Nat} {bt:TypeId} {cs:List D}
instance (priority:=high) i_lk_mem [h:LkI b st bt cs]:Go2 (MY P none t (.ptr b off) st k) (Ev (KH P t (cs.drop off)) λd=>k d st):=⟨ja h.go⟩
instance kP {d':D}{s1:List D->St}[h:StI b st bt cs s1]:Go2 (gV P m t (.ptr b off) d' st k) (Ev (bc P t cs off d'.cells) λcs'=>CZ m (s1 cs')/\k D.un (s1 cs')):=⟨iK h.go⟩
instance nG {p:Prop}[h:KpI m st]:Go2 (CZ m st/\p) p:=⟨λk=>⟨h.go,k⟩⟩
end
class Tst (p A:Prop)(B:outParam Prop):Prop where
 go:B->p->A
instance (priority:=low) tst_def {p A:Prop}:Tst p A (p->A):=⟨id⟩
instance mz {a:Bool}{A B:Prop}[h:Tst (a=false) A B]:Tst ((!a)=true) A B:=⟨λb k=>h.go b (nu k)⟩
instance mA {a:Bool}{A B:Prop}[h:Tst (a=true) A B]:Tst ((!a)=false) A B:=⟨λb k=>h.go b (nw k)⟩
instance mD {q A:Prop}[Decidable q]:Tst (decide q=true) A (q->A):=⟨λb k=>b (of_decide_eq_true k)⟩
instance mE {q A:Prop}[Decidable q]:Tst (decide q=false) A (¬q->A):=⟨λb k=>b (of_decide_eq_false k)⟩
instance mB {α:Type}[DecidableEq α]{a b:α}{A:Prop}:Tst ((a == b)=true) A (a=b->A):=⟨λh k=>h (of_decide_eq_true k)⟩
instance mC {α:Type}[DecidableEq α]{a b:α}{A:Prop}:Tst ((a == b)=false) A (¬a=b->A):=⟨λh k=>h (of_decide_eq_false k)⟩
instance (priority:=500) tst_lt {α:Type}[BEq α][LawfulBEq α]{a b:α}{A:Prop}:Tst ((a == b)=true) A ((a == b)=true->a=b->A):=⟨λh k=>h k (eq_of_beq k)⟩
instance (priority:=500) tst_lf {α:Type}[BEq α][LawfulBEq α]{a b:α}{A:Prop}:Tst ((a == b)=false) A ((a == b)=false->a≠b->A):=⟨λh k=>h k (ne_of_beq_false k)⟩
instance lM {a b:Int}{A:Prop}:Tst ((a != b)=true) A ((a != b)=true->a≠b->A):=⟨λh k=>h k (lk k)⟩
instance lN {a b:Int}{A:Prop}:Tst ((a != b)=false) A ((a != b)=false->a=b->A):=⟨λh k=>h k (ll k)⟩
class Go3 (p:Prop)(q q':outParam Prop):Prop where
 go:q->q'->p
section
variable {P:Program} {N:Nat} {r:Option Nat} {A:AA} {st:St} {Q:Exit->AA->St->Prop} {K:AA->St->Prop} {l:List Oper} {ops:Array Oper} {K1 K0 KF:AA->Prop} {t:Tmp} {c:Bool} {B1 B0:Prop} {dst:Option Tmp} {op:Op} {ty:TypeId} {pos:String} {aft:Array Edge}
instance nZ [h1:Tst (c=true) (K1 (A.put (some t) (.s (.bool true)))) B1][h0:Tst (c=false) (K0 (A.put (some t) (.s (.bool false)))) B0]:Go3 (Gd K1 K0 KF A t true (.s (.bool c))) B1 B0:=⟨λx y=>k9 (h1.go x) (h0.go y)⟩
instance n7 [h1:Tst (c=false) (K1 (A.put (some t) (.s (.bool false)))) B1][h0:Tst (c=true) (K0 (A.put (some t) (.s (.bool true)))) B0]:Go3 (Gd K1 K0 KF A t false (.s (.bool c))) B1 B0:=⟨λx y=>ld (h1.go x) (h0.go y)⟩
theorem jN{id:Nat}(hl:(P.follows .mixedOrders && (JE .any l.toArray && GR N l))=true)(h:W P r (some []) l.toArray (Q .normal) l A st):Tr P N r (.region id l.toArray true) A st Q:=by
 rw[AF,AF]at hl
 exact FL [] hl.1 hl.2.1 hl.2.2 RM h
end
end
section
theorem Yf{es ys:List (List D)}{n:Nat}(h:∀a∈es,a.length=n)(k:∀a∈ys,a.length=n):∀a∈es++ys,a.length=n:=λa ha=>(Bc.1 ha).elim (h a) (k a)
theorem IJ:Own.tight≠Own.shared:=fun h=>by cases h
theorem Q1{p q:Prop}[h:Go1 p q](x:q):p:=h.go x
theorem Q2{p q:Prop}[h:Go2 p q](x:q):p:=h.go x
theorem Q3a{p q q':Prop}[h:Go3 p q q'](x:q)(y:q':=by(intro hb;(try with_reducible intro hb1);exfalso;first|contradiction|omega)):p:=h.go x y
theorem Q3b{p q q':Prop}[h:Go3 p q q'](y:q')(x:q:=by(intro hb;(try with_reducible intro hb1);exfalso;first|contradiction|omega)):p:=h.go x y
class IsEv (p:Prop)(α:outParam Type)(x:outParam (Option α))(k:outParam (α->Prop)):Prop where
 go:Ev x k->p
instance nH {α:Type}{x:Option α}{k:α->Prop}:IsEv (Ev x k) α x k:=⟨λh=>h⟩
theorem Qe'{p:Prop}{α:Type}{x:Option α}{k:α->Prop}[i:IsEv p α x k]{d:α}(h:x=some d:=by((try simp(disch:=omega) only[push_cast,simprocAttr, *]);first|done|exact rfl|with_unfolding_all exact rfl)):k d->p:=λhk=>i.go ⟨d,h,hk⟩
theorem Qf{p:Prop}(h:p:=by first|rfl|assumption|omega|(simp(disch:=omega) only[push_cast,simprocAttr, *];try omega;first|done|fail)):p:=h
section
variable {P:Program} {N:Nat} {r:Option Nat} {A:AA} {st:St} {Q:Exit->AA->St->Prop} {K:AA->St->Prop} {l:List Oper} {ops:Array Oper} {m:Option Ro} {k:D->St->Prop} {dst:Option Tmp} {op:Op} {ty:TypeId} {pos:String} {aft:Array Edge} {gd:Option (Nat×Bool)} {o:Oper} {id id':Nat}
class IsL (p:Prop)(ops:outParam (Array Oper))(o:outParam Oper)(q:outParam Prop):Prop where
 go:Bx ops=true->Dn o=false->q->p
instance nX {ro:Ro}:IsL (W P r (some ro) ops K [⟨dst,op,ty,pos,aft,none⟩] A st) ops ⟨dst,op,ty,pos,aft,none⟩ (S P r (some []) ⟨dst,op,ty,pos,aft,none⟩ A st λd st'=>K (A.put dst d) st'):=⟨iB⟩
theorem Ql{p q:Prop}[i:IsL p ops o q](h:q)(hf:Dn o=false:=by with_unfolding_all rfl)(hl:Bx ops=true:=by kernel_rfl):p:=i.go hl hf h
class IsS (p:Prop)(d:outParam (Option Tmp))(q:outParam (Tmp->Prop)):Prop where
 go:∀t,d=some t->q t->p
instance nW {j:Nat}{b:Bool}:IsS (W P r m ops K (⟨dst,op,ty,pos,aft,some (j,b)⟩::l) A st) ((ops[j]?).bind (·.dst)) (λt=>Ev (ev A.e (.tmp t)) (Gd (λA=>S P r m ⟨dst,op,ty,pos,aft,some (j,b)⟩ A st λd st'=>W P r m ops K l (A.put dst d) st') (λA=>W P r m ops K l (A.put dst D.un) st) (λA=>W P r m ops K l (A.put dst D.un) st) A t b)):=⟨λ_ h1 h2=>eg h1 h2⟩
theorem Qs{p:Prop}{d:Option Tmp}{q:Tmp->Prop}[i:IsS p d q]{t:Tmp}(h:q t)(ht:d=some t:=by with_unfolding_all rfl):p:=i.go t ht h
class Go4 (p:Prop)(s q:outParam Prop):Prop where
 go:s->q->p
class Go5 (p:Prop)(s q:outParam Prop):Prop where
 go:s->q->p
instance oD {b:Builtin}{args:Array Operand}{tys:Array TypeId}:Go4 (S P r m ⟨dst,.call ⟨.builtin b,args,tys⟩,ty,pos,aft,gd⟩ A st k) (Dn ⟨dst,.call ⟨.builtin b,args,tys⟩,ty,pos,aft,gd⟩=true) (Ev ((evL A.e args.toList).bind (aBi P b tys.toList)) λd=>k d st):=⟨nj⟩
instance oB:Go4 (Jt id Q (.exit id') A st) ((id' == id)=false) (Q (.exit id') A st):=⟨js⟩
instance oA {id:Nat}{a:Array Oper}:Go5 (Tr P N r (.region id a false) A st Q) (GR N a.toList=true) (W P r none a (Q .normal) a.toList A st):=⟨λh1 h2=>aM (l:=a.toList) h1 h2⟩
instance oC {id:Nat}{a:Array Oper}:Go5 (Tr P N r (.region id a true) A st Q) ((P.follows .mixedOrders && (JE .any a && GR N a.toList))=true) (W P r (some []) a (Q .normal) a.toList A st):=⟨λh1 h2=>jN (l:=a.toList) h1 h2⟩
theorem Q4{p s q:Prop}[i:Go4 p s q](h:q)(hs:s:=by with_unfolding_all rfl):p:=i.go hs h
theorem Q5{p s q:Prop}[i:Go5 p s q](h:q)(hs:s:=by kernel_rfl):p:=i.go hs h
class IsApp (p:Prop)(m:outParam (Option Ro))(el:outParam TypeId)(sz bytes:outParam Nat)(ow oy:outParam Own)(es ys:outParam (List (List D)))(st:outParam St)(k:outParam (D->St->Prop)):Prop where
 go:d7 m (el,sz,bytes) (.sl ow es,.sl oy ys) st k->p
instance ma {el:TypeId}{sz bytes:Nat}{ow oy:Own}{es ys:List (List D)}:IsApp (d7 m (el,sz,bytes) (.sl ow es,.sl oy ys) st k) m el sz bytes ow oy es ys st k:=⟨λh=>h⟩
class RmI (o:Own)(el:TypeId)(sz:Nat)(st:St)(n:outParam Nat)(s1:outParam (Nat->Own->St)):Prop where
 go:∀n' o',ResAt (.room o el sz n) (.room o' el sz n') st (s1 n' o')
instance lQ {o:Own}{el:TypeId}{sz n:Nat}{st:St}:RmI o el sz (.room o el sz n::st) n (λn' o'=>.room o' el sz n'::st):=⟨λ_ _=>ResAt.here⟩
instance (priority:=low) rm_there {o:Own}{el:TypeId}{sz n:Nat}{x:Res}{st:St}{s1:Nat->Own->St}[h:RmI o el sz st n s1]:RmI o el sz (x::st) n (λn' o'=>x::s1 n' o'):=⟨λn' o'=>ResAt.there (h.go n' o')⟩
instance nq {o:Own}{el:TypeId}{sz n:Nat}{x:Res}{l st:St}{s1:Nat->Own->St}[h:RmI o el sz (x::(l++st)) n s1]:RmI o el sz ((x::l)++st) n s1:=⟨h.go⟩
instance lR {o:Own}{el:TypeId}{sz n:Nat}{st:St}{s1:Nat->Own->St}[h:RmI o el sz st n s1]:RmI o el sz ([]++st) n s1:=⟨h.go⟩
theorem Qa{p:Prop}{el:TypeId}{sz bytes:Nat}{ow oy:Own}{es ys:List (List D)}[i:IsApp p m el sz bytes ow oy es ys st k]{n:Nat}{s1:Nat->Own->St}[j:RmI ow el sz st n s1](h:∀o',o'≠.shared->CZ m (s1 (es++ys).length o')/\k (.sl o' (es++ys)) (s1 (es++ys).length o'))
 (h4:ow≠.shared:=by first|assumption|exact IJ|exact row_ne)(h5:n=es.length:=by first|rfl|with_unfolding_all rfl|simp)
 (h6:∀a∈es,a.length=sz:=by first|assumption|with_unfolding_all assumption|exact Oy|exact CP (by with_unfolding_all rfl)|((repeat' (first|assumption|with_unfolding_all assumption|exact Oy|exact CP (by with_unfolding_all rfl)|refine Yf ?_ ?_|(intro a ha;obtain⟨x, -,rfl⟩:=Av.1 ha;first|with_unfolding_all rfl|simp)));first|done|fail)|(intro a ha;obtain⟨x, -,rfl⟩:=Av.1 ha;first|with_unfolding_all rfl|simp)|(intro a ha;simp at ha;simp[ha]))(h7:∀a∈ys,a.length=sz:=by first|assumption|with_unfolding_all assumption|exact Oy|exact CP (by with_unfolding_all rfl)|((repeat' (first|assumption|with_unfolding_all assumption|exact Oy|exact CP (by with_unfolding_all rfl)|refine Yf ?_ ?_|(intro a ha;obtain⟨x, -,rfl⟩:=Av.1 ha;first|with_unfolding_all rfl|simp)));first|done|fail)|(intro a ha;obtain⟨x, -,rfl⟩:=Av.1 ha;first|with_unfolding_all rfl|simp)|(intro a ha;simp at ha;simp[ha]))
 (h8:(es.length+ys.length)*bytes<=140737488355328:=by first|omega|(simp only[Ab,An,Cd,Ad];omega))(h9:es.length+ys.length<=140737488355328:=by first|omega|(simp only[Ab,An,Cd,Ad];omega)):p:=i.go (iu h4 (λo'=>h5▸j.go _ o') h6 h7 h8 h9 h)
class IsAps (p:Prop)(m:outParam (Option Ro))(el:outParam TypeId)(bytes:outParam Nat)(ow:outParam Own)(es:outParam (List (List D)))(str:outParam ByteArray)(st:outParam St)(k:outParam (D->St->Prop)):Prop where
 go:g7 m (el,1,bytes) (.sl ow es,.str str) st k->p
instance l9 {el:TypeId}{bytes:Nat}{ow:Own}{es:List (List D)}{str:ByteArray}:IsAps (g7 m (el,1,bytes) (.sl ow es,.str str) st k) m el bytes ow es str st k:=⟨λh=>h⟩
class IsC (p:Prop)(P:outParam Program)(m:outParam (Option Ro))(f:outParam FuncId)(ds:outParam (List D))(st:outParam St)(k:outParam (D->St->Prop)):Prop where
 go:LM P m (f,ds) st k->p
instance nY {f:FuncId}{ds:List D}:IsC (LM P m (f,ds) st k) P m f ds st k:=⟨λh=>h⟩
theorem TrF.at{f:FuncId}{args:List D}{B B':Res}{X:D}{st1:St}(h:∀s,TrF P f args (B::s) λd st'=>d=X/\st'=B'::s)(hat:ResAt B B' st st1):TrF P f args st λd st'=>d=X/\st'=st1:=by
 obtain⟨s0,p1,p2⟩:=hat.perm
 exact TrF.permPost p1 ((h s0).mono λd st' ⟨e1,e2⟩=>⟨_,⟨e1,rfl⟩,by subst e2;exact p2.symm⟩)
section
variable {f:FuncId} {ds ds':List D} {X:D} {s1:St}
theorem Qc{p:Prop}[i:IsC p P m f ds st k](henter:∀args w,(callFunc f args).run P w=.ok (.enter f args) w)(h:TrF P f ds st λd st'=>d=X/\st'=s1)(hk:CZ m s1/\k X s1):p:=i.go <| Yu henter h hk
theorem QA{p:Prop}[i:IsC p P m f ds st k][e:CE P f]{X:D}(hk:CZ m st/\k X st)(h:Hid (∀s,TrF P f ds s λd st'=>d=X/\st'=s):=by assumption):p:=i.go <| Yu e.go (h.out st) hk
theorem lj{B B':Res}{st1:St}(henter:∀args w,(callFunc f args).run P w=.ok (.enter f args) w)(hle:LEL ds ds')(h:∀s,TrF P f ds' (B::s) λd st'=>d=X/\st'=B'::s)(hat:ResAt B B' st st1)(hk:CZ m st1/\k X st1):LM P m (f,ds) st k:=it henter hle (TrF.at h hat) hk
theorem QRA{p:Prop}[i:IsC p P m f ds st k][e:CE P f]{B B':Res}{st1:St}{X:D}(hk:CZ m st1/\k X st1)(h:Hid (∀s,TrF P f ds (B::s) λd st'=>d=X/\st'=B'::s):=by assumption)(hat:ResAt B B' st st1:=by(repeat(first|exact Hn|apply Hm));first|done|fail):p:=i.go <| lj e.go (LEL.refl _) h.out hat hk
theorem QL{p:Prop}[i:IsC p P m f ds st k](henter:∀args w,(callFunc f args).run P w=.ok (.enter f args) w)(h:TrF P f ds' st λd st'=>d=X/\st'=s1)(hk:CZ m s1/\k X s1)(hle:LEL ds ds':=by(repeat' (first|exact LEL.nil|refine LEL.cons ?_ ?_|exact LE.refl _|exact LE.sl _ _|refine LE.agg ?_));first|done|fail):p:=i.go <| it henter hle h hk
end
theorem bK{fn:Func}{ts:List Tmp}(hr:fn.results=(ts.map ResultVar.tmp).toArray)(hl:ts.length<=4)(tmps:Array Value)(w:World):(results fn tmps).run P w=.ok (Jp ts tmps) w:=by
 unfold results
 rw[hr]
 match ts,hl with
|[],_=>simp[go_sem,Jp]
|[a],_=>simp[go_sem,Jp]
|[a,b],_=>simp[go_sem,Jp]
|[a,b,c],_=>simp[go_sem,Jp]
|[a,b,c,d],_=>simp[go_sem,Jp]
|_::_::_::_::_::_,h=>simp at h
theorem Qin(ts:List Tmp){f:FuncId}{fn:Func}{c:Code}{n:Nat}{args:List D}{R:D->St->Prop}(hf:P.funcs[f]?=some fn)(hr:fn.results=(ts.map ResultVar.tmp).toArray)(hn:fn.ntmps=n)(h:Tr P n none c ⟨LJ args,[]⟩ st (Ut ts R))(hb:fn.body=some c:=by exact rfl)(ha:Nat.ble args.length n=true:=by exact rfl)(hl:ts.length<=4:=by decide):TrF P f args st R:=by
 subst hn
 exact QN hf hb (BD ha) (bK hr hl) h
theorem gW(t:Tmp)(T:TypeId){f:FuncId}{fn:Func}{c:Code}{n:Nat}{args:List D}{R:D->St->Prop}(hf:P.funcs[f]?=some fn)(hn:fn.ntmps=n)(h:Tr P n none c ⟨LJ args,[]⟩ st (fg (Oh t T P) R))(hb:fn.body=some c:=by exact rfl)(ha:Nat.ble args.length n=true:=by exact rfl)(hr:fn.results=#[.cell t T]:=by exact rfl):TrF P f args st R:=by
 subst hn
 exact OH hf hb (BD ha) (λh1 h2 h3=>Uu hr h1 h2 h3) h
theorem BZ{ts:List Tmp}{X:D}{ex:Exit}{st0:St}(hex:ex=.normal\/ex=.ret:=by simp)(hdf:A.df=[]:=by first|rfl|assumption)(hs:st0.Sublist st:=by(repeat(first|exact Aj _|apply List.Sublist.cons));first|done|fail)
 (hd:LE (OY ts A.e) X:=by(try simp(disch:=omega) only[push_cast,simprocAttr, *])<;>(first|exact LE.refl _|exact LE.sl _ _|((first|refine LE.tup ?_|refine LE.agg ?_);(repeat' (first|exact LEL.nil|refine LEL.cons ?_ ?_|exact LE.refl _|exact LE.sl _ _|refine LE.agg ?_));first|done|fail))):Ut ts (λd st'=>d=X/\st'=st0) ex A st:=iT hex hdf hs hd
theorem Q3c{p q q':Prop}[h:Go3 p q q'](x:q/\q'):p:=h.go x.1 x.2
theorem q_u{p:Prop}(h:p:=by(repeat(first|exact Aj _|apply List.Sublist.cons));first|done|fail):p:=h
theorem q_t{p:Prop}(h:p:=by(repeat(first|exact Aj _|with_reducible apply List.Sublist.cons_cons|apply List.Sublist.cons));first|done|fail):p:=h
theorem q_m{p:Prop}(h:p:=by(repeat(first|exact Vb|apply Va));first|done|fail):p:=h
theorem q_s{p:Prop}(h:p:=by simp(disch:=omega) only[push_cast,simprocAttr, *];exact rfl):p:=h
theorem q_v{p:Prop}(h:p:=by(try simp(disch:=omega) only[push_cast,simprocAttr, *]);(try exact rfl);first|done|fail):p:=h
theorem q_w{p:Prop}(h:p:=by show _=_;(try simp(disch:=omega) only[push_cast,simprocAttr, *]);(try exact rfl);first|done|fail):p:=h
theorem q_x{p:Prop}(h:p:=by first|exact .inl rfl|exact .inr rfl):p:=h
theorem q_y{p:Prop}(h:p:=by first|rfl|assumption):p:=h
theorem q_l{p:Prop}(h:p:=by first|exact LEL.refl _|((repeat' (first|exact LEL.nil|refine LEL.cons ?_ ?_|exact LE.refl _|exact LE.sl _ _|refine LE.agg ?_));first|done|fail)):p:=h
theorem q_e{p:Prop}(h:p:=by first|exact LE.refl _|exact LE.sl _ _|((first|refine LE.tup ?_|refine LE.agg ?_);(repeat' (first|exact LEL.nil|refine LEL.cons ?_ ?_|exact LE.refl _|exact LE.sl _ _|refine LE.agg ?_));first|done|fail)):p:=h
theorem QX{p q:Prop}(h:q)(s:q->p:=by with_reducible first|exact Q1|exact Qe'|exact Ql|exact Q2|exact Qs|exact Q4|exact QA|exact QRA|exact Q5|fail):p:=s h
theorem QV{p q:Prop}(h:q)(s:q->p:=by with_reducible first|exact Q1|exact Qe'|fail):p:=s h
theorem QY{p q:Prop}(h:q)(s:q->p:=by with_reducible first|exact Ql|exact Q2|exact Qs|exact Q4|exact QA|exact QRA|exact Q5|fail):p:=s h
theorem QB{p q:Prop}(h:q)(s:q->p:=by with_reducible exact lz):p:=s h
theorem QP{p q:Prop}(h:q)(s:q->p:=by with_reducible first|exactλh=>Qa h|exactλh=>Qp h|fail):p:=s h
theorem QZ{p q:Prop}(h:q)(s:q->p:=by with_reducible first|exact Q3a|exact Q3b|exact Q3c|fail):p:=s h
theorem WR{p:Prop}(h:p:=by(repeat' (first|refine QX ?_|refine QB ?_;intro b|with_reducible refine QZ ?_<;>(try constructor)<;>intro hb<;>try intro hb1|fail));all_goals exact BZ):p:=h
theorem WRa{p:Prop}(h:p:=by(repeat' (first|refine QX ?_|(refine QB ?_;intro b)|refine QP ?_;intro o' ho'|(with_reducible refine QZ ?_<;>(try constructor)<;>intro hb<;>try intro hb1)|fail));all_goals exact BZ):p:=h
theorem VP{t:Tmp}{T:TypeId}{ti:TI}{ex:Exit}{b off:Nat}{ty:TypeId}{cs:List D}{X d:D}{st0:St}{R:D->St->Prop}(hex:ex=.normal\/ex=.ret:=by simp)(hdf:A.df=[]:=by first|rfl|assumption)(hp:A.e t=.ptr b off:=by((try simp(disch:=omega) only[push_cast,simprocAttr, *]);(try exact rfl);first|done|fail))(hm:Res.box b ty cs∈st:=by(repeat(first|exact Vb|apply Va));first|done|fail)(ht:Bt P T=some ti:=by(simp(disch:=omega) only[push_cast,simprocAttr, *];exact rfl))(hd:Je ti (cs.drop off)=some d:=by((try simp(disch:=omega) only[push_cast,simprocAttr, *]);(try exact rfl);first|done|fail))
 (hR:R X st0:=by exact⟨rfl,rfl⟩)(hs:st0.Sublist st:=by(repeat(first|exact Aj _|apply List.Sublist.cons));first|done|fail)
 (hl:LE d X:=by(try simp(disch:=omega) only[push_cast,simprocAttr, *])<;>(first|exact LE.refl _|exact LE.sl _ _|((first|refine LE.tup ?_|refine LE.agg ?_);(repeat' (first|exact LEL.nil|refine LEL.cons ?_ ?_|exact LE.refl _|exact LE.sl _ _|refine LE.agg ?_));first|done|fail))):fg (Oh t T P) R ex A st:=Zf hex hdf hp hm ht hd hs hl hR
end
end
section
section
variable {P:Program} {N:Nat} {r:Option Nat} {A:AA} {st:St} {Q:Exit->AA->St->Prop} {m:Option Ro} {k:D->St->Prop} {dst:Option Tmp} {ty:TypeId} {pos:String} {aft:Array Edge} {gd:Option (Nat×Bool)} {o:Oper} {w:World}
def iY (P:Program)(t:TypeId):Option (TypeId×Nat×Value):=(Bt P t).bind λti=>match ti.k with
|.slice el 1 bytes [z]=>if GI z && (Dm z).leaf then some (el,bytes,z)else none
|_=>none
def oP (P:Program)(m:Option Ro)(t:TypeId)(p:D×D)(st:St)(k:D->St->Prop):Prop :=
 ∃(kd:IntKind) (n:Nat) (el:TypeId) (bytes:Nat) (z:Value),p=(.s (.int kd n),.s (.int kd n))/\iY P t=some (el,bytes,z)/\n*bytes<=140737488355328/\n<=140737488355328/\∀g,CZ m (.box g el (List.replicate n (Dm z))::st)/\k (.ar g 0 n n) (.box g el (List.replicate n (Dm z))::st)
def oQ (m:Option Ro)(q:TypeId×Nat×Value)(n:Nat)(st:St)(k:D->St->Prop):Prop:=(n*q.2.1<=140737488355328/\n<=140737488355328)/\∀g,CZ m (.box g q.1 (List.replicate n (Dm q.2.2))::st)/\k (.ar g 0 n n) (.box g q.1 (List.replicate n (Dm q.2.2))::st)
theorem Su{sz:Nat}:∀(n:Nat) (cs:List D),(Iq sz n cs).length=n
|0,_=>rfl
|n+1,cs=>by rw[Iq,An,Su n]
theorem PX{sz:Nat}:∀(n:Nat) (cs:List D),n*sz<=cs.length->∀e∈Iq sz n cs,e.length=sz
|0,_,_,e,he=>by cases he
|n+1,cs,h,e,he=>by
  rw[Cr]at h
  rw[Iq]at he
  rcases Ax.1 he with rfl|he
  . rw[AQ];omega
  . exact PX n _ (by rw[AO];omega) e he
theorem PW{sz:Nat}:∀(n:Nat) (cs:List D),n*sz<=cs.length->(Iq sz n cs).flatten=cs.take (n*sz)
|0,cs,_=>by simp[Iq]
|n+1,cs,h=>by
  rw[Cr]at h
  rw[Iq,AL,PW n _ (by rw[AO];omega),Cr,Dw (n*sz) sz,List.take_add]
theorem cW(ow:Own)(how:ow=.shared\/ow=.tight){g:Nat}{el:TypeId}{cs:List D}{s0:St}{v:Value}{sz off n cap:Nat}(hh:Holds (.box g el cs::s0) w)(hv:Rep (OwnS (.box g el cs::s0)) w v (.ar g off n cap))(hsz:0<sz)(hn:off+n*sz<=cs.length)(hcap:ow=.tight->cap=n):Rep (OwnS s0) w v (.sl ow (Iq sz n (cs.drop off))):=by
 cases hv with
|ar _ _ _ _ c1 c2 =>
  obtain⟨⟨us,hb,hr⟩,hlc⟩:=hh.2 _ (Ag ..)
  have he:Ext (OwnS (.box g el cs::s0)) w (OwnS s0) w:=Ext.drop (λ_ h=>Ae _ h) w
  have hr:=hr.ext he
  have hd:n*sz<=(cs.drop off).length:=by rw[AO];omega
  have hfl:=PW (sz:=sz) n (cs.drop off) hd
  have hlen:=Su (sz:=sz) n (cs.drop off)
  have hsl:us.toList.length=cs.length:=hr.1
  have hrl:RepL (OwnS s0) w ((us.toList.drop off).take (n*sz)) (Iq sz n (cs.drop off)).flatten:=by rw[hfl];exact(hr.drop _).take _
  have hne:∀o,¬OwnS s0 g o:=λo ho=>by
   obtain⟨x,hx,hxb,_⟩:=ho
   exact(AX.1 hh.1).1 x hx g rfl hxb
  have:=Rep.sl (O:=OwnS s0) (w:=w) ow (Iq sz n (cs.drop off)) (some ⟨g,off,none⟩) cap ((us.toList.drop off).take (n*sz)) sz q_o c2 (λe=>by cases e) hsz (PX n _ hd) hrl.1 (λd hd'=>by
   rw[hfl]at hd'
   exact hlc d (FH (Kt hd'))) (λi hi=>⟨g,off,rfl,(AE.1 hb).1,hne _,by
    rw[cell_of_row _ g (off+i) us el (0,0) hb]
    rw[FI,EG]
    simp at hi
    rw[Be q_o]
    simp⟩) hrl.2 (by
    rcases how with rfl|rfl
    . trivial
    . show cap=_;rw[hlen];exact hcap rfl)
  rwa[hlen]at this
theorem SV{t t':TypeId}{x:Operand}{ow:Own}{es:List (List D)}{q:TypeId×Nat×Nat}(ht:JO P t=some q)(hx:ev A.e x=some (.sl ow es))(hk:∀b:Bool,(b=true->es=[])->k (.b b) st):S P r none ⟨dst,.binOp .eql t x (.const (.slice none 0 0)) t',ty,pos,aft,gd⟩ A st k:=by
 refine DB (by intro c hc;cases hc) λρ w hr hh=>.inl ?_
 have hv1:=hr _ (by simp[Op.operands]) _ hx
 have hv2:=hr.cst (.slice none 0 0)
 obtain⟨el,sz,bytes⟩:=q
 obtain⟨ti,z,h10,h11⟩:=Jb ht
 obtain⟨hu, -⟩:=(Ce h10).2.2.2.2.1 _ _ _ _ h11
 obtain⟨a,cap0,us,sz1,e1,c1,c2,c3,c4,c5,c6,c7,c8,c9,c10⟩:=Ep hv1
 refine⟨.bool a.isNone,w,?_,_,_,.s (.bool a.isNone) rfl,hh,Ext.refl _ _,hk a.isNone λhb=>?_⟩
 . unfold execOp
   have hrun:(binOp .eql t (.slice a es.length cap0) (.slice none 0 0)).run P w=.ok (.bool a.isNone) w:=by
    simp only[binOp]
    simp[run_equal_slice_nil w t el a es.length cap0 hu]
   simp only[e1,hv2,AG,Dt .eql t x (.const (.slice none 0 0)) (.slice a es.length cap0) (.slice none 0 0) (λu=>by simp) (λu v=>by simp),hrun,Am,AN]
 . have:a=none:=by simpa using hb
   have:=c8 this
   exact Ay q_o
def jr (d:D):Option (List D) :=
 match d.cells.all D.leaf with
|true=>some d.cells
|false=>none
theorem DR{t:TypeId}{x:Operand}(h:Ev ((ev A.e x).bind jr) λcs=>AlK none t cs st k):S P r none ⟨dst,.box t x,ty,pos,aft,gd⟩ A st k:=by
 obtain⟨cs,h1,h2⟩:=h
 cases hx:ev A.e x with
|none=>rw[hx] at h1;cases h1
|some d =>
  rw[hx,BS]at h1
  unfold jr at h1
  split at h1
  . rename_i hl;cases h1;exact fL rfl hx hl λb=>(h2 b).2
  . cases h1
section
variable {f:FuncId} {ds ds':List D} {X:D}
end
def kL (P:Program)(t:TypeId):Option Bool:=(Bt P t).bind λti=>match ti.k with
|.int _=>some true
|_=>none
def oJ (P:Program)(m:Option Ro)(t u:TypeId)(p:D×D)(st:St)(k:D->St->Prop):Prop :=
 ∃(kd:IntKind) (n:Nat) (el:TypeId) (bytes:Nat) (z:Value) (b:Bool),p=(.sl .tight [],.s (.int kd n))/\0<n/\iY P t=some (el,bytes,z)/\kL P u=some b/\n*bytes<=140737488355328/\n<=140737488355328/\∀g cap,n<=cap->CZ m (.box g el (List.replicate cap (Dm z))::st)/\k (.ar g 0 n cap) (.box g el (List.replicate cap (Dm z))::st)
def oK (m:Option Ro)(q:TypeId×Nat×Value)(n:Nat)(st:St)(k:D->St->Prop):Prop:=(0<n/\n*q.2.1<=140737488355328/\n<=140737488355328)/\∀g cap,n<=cap->CZ m (.box g q.1 (List.replicate cap (Dm q.2.2))::st)/\k (.ar g 0 n cap) (.box g q.1 (List.replicate cap (Dm q.2.2))::st)
end
section
variable {P:Program} {t:TypeId} {a b:Int} {k':IntKind}
theorem eK(h0:0<=b)(h1:b<=64):Er P .shr t (.s (.int .u64 a)) (.s (.int k' b))=some (.s (.int .u64 (a / 2 ^ b.toNat))):=TD h0 h1
theorem eM(h0:0<=b)(h1:b<=64):Er P .shl t (.s (.int .u64 a)) (.s (.int k' b))=some (.s (.int .u64 (IntKind.u64.wrap (a*2 ^ b.toNat)))):=TF h0 h1
theorem eL(h0:0<=b)(h1:b<=64):Er P .shr t (.s (.int .i64 a)) (.s (.int k' b))=some (.s (.int .i64 (a / 2 ^ b.toNat))):=TD h0 h1
theorem eO(h0:0<=b)(h1:b<=64):Er P .shl t (.s (.int .i64 a)) (.s (.int k' b))=some (.s (.int .i64 (IntKind.i64.wrap (a*2 ^ b.toNat)))):=TF h0 h1
end
theorem dG(l:List UInt8):(l.map Br).all (λe=>e.length == 1)=true:=by
 rw[List.all_map];exact AU.2 λ_ _=>rfl
theorem dF(l:List Int):(l.map Bl).all (λe=>e.length == 1)=true:=by
 rw[List.all_map];exact AU.2 λ_ _=>rfl
attribute [push_cast] Option.isSome_some jr Nat.add_sub_cancel Nat.add_sub_cancel_left Nat.sub_zero dG dF eK eM eL eO kL iY
end
section
open Go.RowKit Go.ChangeShapes Go.WideShapes
def Qb {α:Type}(n:Nat)(P:Program)(t:TypeId)(e:α->List D)(ok:α->Prop):Prop :=
 ∀(H:Type) (enc:TypeId×Value->H) (W:World) (fuel:Nat) (cs:List Value) (x:DataW H×List MemPlace),fuel<=n ->
  DataW.trod enc P W 0 (λ_=>true) true fuel t cs=some x->∃a,RepL (OwnS []) W cs (e a)/\ok a
def Fm {α:Type}(P:Program)(t:TypeId)(e:α->List D)(ok:α->Prop):Prop:=∀n,Qb n P t e ok
section
variable {P:Program} {t:TypeId} {n:Nat} {W:World}
theorem Cw{k:IntKind}(ht:P.underlying t=some (.int k)):Fm P t (λa:Int=>[.s (.int k a)]) λa=>(Lit.int k a).wf=true:=by
 intro n H enc W fuel cs x _ h
 obtain⟨a,rfl, -,hw⟩:=DataW.trod_int ht h
 exact⟨a,.cons (.s _ rfl) .nil,hw⟩
theorem LY(ht:P.underlying t=some .bool):Fm P t (λa:Bool=>[.b a]) λ_=>True:=by
 intro n H enc W fuel cs x _ h
 obtain⟨a,rfl, -⟩:=DataW.trod_bool ht h
 exact⟨a,.cons (.s _ rfl) .nil,trivial⟩
theorem Im(ht:P.underlying t=some .string):Fm P t (λa:ByteArray=>[.str a]) λa=>a.size<=maxLen:=by
 intro n H enc W fuel cs x _ h
 obtain⟨a,rfl, -,hs⟩:=DataW.trod_string ht h
 exact⟨a,.cons (.s _ rfl) .nil,hs⟩
theorem jo{α:Type}{k:Nat}{p:Nat->α->Prop}(h:∀i,i<k->∃a,p i a):∃l:List α,l.length=k/\∀i (hi:i<l.length),p i l[i]:=by
 induction k with
|zero=>exact⟨[],rfl,fun i hi=>absurd hi (BL _)⟩
|succ k ih =>
  obtain⟨l,h1,h2⟩:=ih λi hi=>h i q_o
  obtain⟨a,ha⟩:=h k q_o
  refine⟨l++[a],by simp[h1],λi hi=>?_⟩
  rw[List.getElem_append]
  split
  . exact h2 i _
  . have:i=k:=by simp at hi;omega
    subst this;simpa using ha
theorem dg{β : Type}{ls:List (List β)}{sz:Nat}(h:∀l∈ls,l.length=sz){i j:Nat}(hi:i<ls.length)(hj:j<sz) :
 ls.flatten[i*sz+j]?=(ls[i])[j]?:=by
 induction ls generalizing i with
|nil=>simp at hi
|cons l ls ih =>
  have hl:l.length=sz:=h l (by simp)
  cases i with
  | zero=>rw[AL,Ba q_o];simp
  | succ i =>
   rw[AL,BP (by rw[hl,Cr];omega),hl,show(i+1)*sz+j - sz=i*sz+j by rw[Cr];omega,ih (λl hl=>h l (by simp[hl])) (by simpa using hi)]
   simp
theorem ab{β:Type}{ls:List (List β)}{sz:Nat}(h:∀l∈ls,l.length=sz):ls.flatten.length=ls.length*sz:=by
 induction ls with
|nil=>simp
|cons l ls ih=>rw[AL,Ad,ih (λl hl=>h l (by simp[hl])),h l (by simp),An,Cr];omega
theorem VO{bk off k:Nat}:(Addr.mk bk off none).add k=⟨bk,off+k,none⟩:=by
 unfold Addr.add
 by_cases hk:k=0
 . subst hk;simp
 . simp[hk]
theorem Rh{O:Nat->Nat->Prop}:∀{us:List (List Value)} {ds:List (List D)},us.length=ds.length->(∀i (h:i<us.length) (h':i<ds.length),RepL O W us[i] ds[i])->RepL O W us.flatten ds.flatten
|[],[],_,_=>.nil
|[],_::_,h,_=>by simp at h
|_::_,[],h,_=>by simp at h
|u::us,d::ds,hl,h=>by
  rw[AL,AL]
  exact(h 0 (by simp) (by simp)).append (Rh (by simpa using hl) λi h1 h2=>h (i+1) (by simpa using h1) (by simpa using h2))
theorem NZ{α : Type}{e:TypeId}{sz:Nat}{f:α->List D}{ok:α->Prop}(ht:P.underlying t=some (.slice e))(hsz:P.cellsOf e=sz)(hp:0<sz)(h:Qb n P e f ok)(hlen:∀a,(f a).length=sz)(hleaf:∀a,∀d∈f a,d.leaf=true) :
 Qb (n+1) P t (λl:List α=>[.sl .shared (l.map f)]) λl=>(∀a∈l,ok a)/\l.length<=maxLen:=by
 intro H enc W fuel cs x hn hx
 rcases DataW.trod_slice ht hx with⟨rfl, -⟩|⟨a,len,cap,elems,rest,m,rfl,rfl, -, -,hlc,hcm,hel,hget, -, -⟩
 . refine⟨[],.cons ?_ .nil,⟨by simp,by simp⟩⟩
   exact .sl .shared [] none 0 [] 1 (Ap _) (by simp) (λ_=>rfl) (Ge _) (by simp) rfl (by simp) (λi hi=>absurd hi (by simp)) (λi hi=>absurd hi (by simp)) trivial
 . have hone : ∀ i, i < len -> ∃ p : α × List Value, W.cells? 0 (a.add (i * sz)) sz = some p.2 /\ RepL (OwnS []) W p.2 (f p.1) /\ ok p.1 := by
    intro i hi
    have h1:=hget i hi
    rw[hsz,Al q_o]at h1
    obtain⟨cs',h2,h3⟩:=Option.bind_eq_some_iff.1 h1
    obtain⟨b,h4,h5⟩:=h H enc W m cs' _ q_o h3
    exact⟨(b,cs'),h2,h4,h5⟩
   obtain⟨l,hl,hl2⟩:=jo hone
   refine⟨l.map (·.1),.cons ?_ .nil,λb hb=>?_,by simp;omega⟩
   . have hus : ∀ u ∈ l.map (·.2), u.length = sz := by
      intro u hu
      obtain⟨p,hp',rfl⟩:=Av.1 hu
      obtain⟨i,hi,rfl⟩:=Df hp'
      exact(Ng (hl2 i hi).1).2.1
     have hrl:RepL (OwnS []) W (l.map (·.2)).flatten ((l.map (·.1)).map f).flatten:=Rh (by simp) λi h1 h2=>by
      simp only[Dy]
      exact(hl2 i (by simpa using h1)).2.1
     have key:=Rep.sl (O:=OwnS []) (w:=W) .shared ((l.map (·.1)).map f) (some a) cap (l.map (·.2)).flatten sz (by simp;omega) hcm (λh=>by cases h) hp
      (λe he=>by obtain⟨b, -,rfl⟩:=Av.1 he;exact hlen b) hrl.1
      (λd hd=>by obtain⟨q,hq,hd⟩:=Ht.1 hd;obtain⟨b, -,rfl⟩:=Av.1 hq;exact hleaf b d hd)
      (λi hi=>by
       have hfl:(l.map (·.2)).flatten.length=l.length*sz:=by rw[ab hus];simp
       have hi':i / sz<l.length:=by rw[hfl]at hi;exact Nat.div_lt_of_lt_mul (by rw[Qg];exact hi)
       obtain⟨-,c2,c3⟩:=Ng (hl2 _ hi').1
       have hj:i % sz<sz:=Nat.mod_lt _ hp
       have c4:=c3 _ hj
       have hidx:(l.map (·.2)).flatten[i / sz*sz+i % sz]?=(l[i / sz].2)[i % sz]?:=by
        rw[dg hus (by simpa using hi') hj];simp
       have hi2:i / sz*sz+i % sz=i:=Nat.div_add_mod' i sz
       rw[hi2]at hidx
       rw[Al hi]at hidx
       rw[<-hidx]at c4
       obtain⟨bk,off,sp⟩:=a
       have hsp:sp=none:=by
        cases sp with
        | none=>rfl
        | some q =>
         have h0:0<l.length:=Xq (Ao _) hi'
         have hz:=(Ng (hl2 0 h0).1).2.2 0 hp
         rw[Al (by rw[(Ng (hl2 0 h0).1).2.1];exact hp)]at hz
         simp only[Addr.add,World.cell?,Fe,if_true,Option.isSome_some]at hz
         split at hz<;>cases hz
       subst hsp
       have c5:W.cell? ⟨bk,off+i,none⟩=some (l.map (·.2)).flatten[i]:=by
        rw[<-c4,VO,VO,show off+i / sz*sz+i % sz=off+i by omega]
       refine⟨bk,off,rfl,?_,OwnS.nil bk _,c5⟩
       unfold World.cell? at c5
       dsimp only at c5
       by_cases hb:bk<W.heap.size
       . exact hb
       . rw[Ee q_o]at c5;cases c5)
      (λi h1 h2=>hrl.2 i h1 h2) trivial
     rw[Ab,Ab,hl]at key
     exact key
   . obtain⟨p,hp',rfl⟩:=Av.1 hb
     obtain⟨i,hi,rfl⟩:=Df hp'
     exact(hl2 i hi).2.2
theorem Dp{α : Type}{e:TypeId}{sz:Nat}{f:α->List D}{ok:α->Prop}(ht:P.underlying t=some (.slice e))(hsz:P.cellsOf e=sz)(hp:0<sz)(h:Fm P e f ok)(hlen:∀a,(f a).length=sz)(hleaf:∀a,∀d∈f a,d.leaf=true) :
 Fm P t (λl:List α=>[.sl .shared (l.map f)]) λl=>(∀a∈l,ok a)/\l.length<=maxLen :=
 λm H enc W fuel cs x hn hx=>NZ ht hsz hp (h m) hlen hleaf H enc W fuel cs x q_o hx
theorem RepL.glue{O:Nat->Nat->Prop}{cs:List Value}{o k:Nat}{L R:List D}(h1:RepL O W ((cs.drop o).take k) L)(h2:RepL O W (cs.drop (o+k)) R):RepL O W (cs.drop o) (L++R):=by
 have:=h1.append h2
 rwa[show cs.drop (o+k)=(cs.drop o).drop k by rw[CY],Bv]at this
theorem RepL.glue_end{O:Nat->Nat->Prop}{cs:List Value}{o:Nat}(h:cs.length=o):RepL O W (cs.drop o) []:=by
 rw[CO q_o];exact .nil
theorem AZ{fs:Array Field}{H:Type}{enc:TypeId×Value->H}{m:Nat}{cs:List Value}{xs:List (DataW H×List MemPlace)}{α:Type}{f:α->List D}{ok:α->Prop}{i:Nat}{g:Field}{k:Nat}
 (hx:∀(i:Nat) (f:Field),fs[i]?=some f->DataW.trod enc P W 0 (λ_=>true) true m f.type ((cs.drop f.offset).take (P.cellsOf f.type))=xs[i]?)(hl:xs.length=fs.size)(hg:fs[i]?=some g)(hk:P.cellsOf g.type=k)(h:Qb n P g.type f ok)(hm:m<=n) :
 ∃a,RepL (OwnS []) W ((cs.drop g.offset).take k) (f a)/\ok a:=by
 have h1:=hx i g hg
 have hi:i<xs.length:=by rw[hl];exact(AE.1 hg).1
 rw[Al hi]at h1
 obtain⟨a,h2,h3⟩:=h _ _ _ _ _ _ hm h1
 rw[hk]at h2
 exact⟨a,h2,h3⟩
section
variable {H:Type} {enc:TypeId×Value->H} {r:Reach} {b0:Nat} {v:Value} {d:DataW H} {ps:List MemPlace} {α:Type} {f:α->List D} {ok:α->Prop}
theorem bM{O:Nat->Nat->Prop}{u:Value}{c:D}(h:RepL O W [u] [c]):Rep O W u c:=h.2 0 (by simp) (by simp)
theorem NJ{e:TypeId}{g:α->D}(ht:P.underlying t=some (.slice e))(hv:Value.okWide P W r b0 t v)(h:DataW.Trod enc P W 0 (λ_=>true) true t v d ps)(hr:Fm P t (λa=>[g a]) ok):∃a,Rep (OwnS []) W v (g a)/\ok a:=by
 obtain⟨a,len,cap,rfl⟩:=okWide_slice ht hv
 obtain⟨fuel,hf⟩:=h
 obtain⟨b,h1,h2⟩:=hr fuel _ _ _ _ _ _ (Ap _) hf
 exact⟨b,bM h1,h2⟩
theorem Xe{fs:Array Field}(ht:P.underlying t=some (.struct fs))(hv:Value.okWide P W r b0 t v)(h:DataW.Trod enc P W 0 (λ_=>true) true t v d ps)(hr:Fm P t f ok):∃a,Rep (OwnS []) W v (.agg (f a))/\ok a:=by
 obtain⟨cs,rfl, -⟩:=okWide_struct ht hv
 obtain⟨fuel,hf⟩:=h
 obtain⟨b,h1,h2⟩:=hr fuel _ _ _ _ _ _ (Ap _) hf
 have h3:RepL (OwnS []) W cs.toList (f b):=h1
 exact⟨b,by have:=Rep.agg (O:=OwnS []) (w:=W) cs.toList (f b) h3.1 h3.2;simpa using this,h2⟩
theorem LG(hl:laidOutB P=true){W':World}(hb:Below W.heap.size W W'):∀{ts:List TypeId} {vs:List Value} {ds:List (DataW H)} {p:List MemPlace},(∀t∈ts,P.readableRec t=true/\t<P.types.size)->DataW.TrodAll enc P W 0 (λ_=>true) true ts vs ds p ->
 ∃q,DataW.TrodAll enc P W' 0 (λb=>decide (b<W.heap.size)) true ts vs ds q
|[],[],[],_,_,_=>⟨[],rfl⟩
|t::ts,v::vs,d::ds,p,ht,h=>by
  obtain⟨p1,p2,h1,h2,rfl⟩:=h
  obtain⟨q,hq⟩:=LG hl hb (λt h=>ht t (by simp[h])) h2
  have hlt:∀x∈p1,x.block<W.heap.size:=by obtain⟨m,hm⟩:=h1;exact DataW.trod_lt m _ _ _ hm
  exact⟨_,_,q,Below.trod hl (ht t (by simp)).1 (ht t (by simp)).2 h1 hb hlt,hq,rfl⟩
|[],[],_::_,_,_,h=>by cases h
|[],_::_,_,_,_,h=>by cases h
|_::_,[],_,_,_,h=>by cases h
|_::_,_::_,[],_,_,h=>by cases h
end
end
end
end Go.Proofs.YtoeidpmjifjplaaGreat
